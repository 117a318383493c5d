/- box.Take: the oldest frame that came is taken out. No condition. -/
import Derived.Test.YtlmdkmflbhnlgaaBox3
namespace Go.Proofs.Ytlmdkmflbhnlgaa
open Go.RowKit
/-- A box behind its oldest frame was taken. -/
def takeT (T : BX) : BX := match T.l with | [] => T | _ :: r => { T with l := r, taken := T.taken + 1 }
/-- What Take answers and leaves. -/
def TakeOf (w : World) (base N : Nat) (ft : List Nat) (b : Nat) (T : BX) (e : Ending) (w' : World) : Prop :=
  Acted w base (N + 1) ft b (takeT T) w' ∧ ((T.l = [] ∧ e = .returned (.tuple #[.agg zfL.toArray, .int .i64 9])) ∨
    ∃ f r A c, T.l = f :: r ∧ e = .returned (.tuple #[frv f (.slice A f.data.length c), .int .i64 0]) ∧ Row w' base 5 A c (bys f.data) ∧ okF f = true ∧ FrIn f)
set_option maxRecDepth 100000 in
set_option maxHeartbeats 8000000 in
theorem Take_any (w : World) (base N : Nat) (ft : List Nat) (b : Nat) (T : BX) (h : BoxA w base N ft b T) (hN : N ≤ 1000000) (hbase : base ≤ w.heap.size) :
    Calls Try.prog 14 #[.pointer (some ⟨b, 0, none⟩)] w (TakeOf w base N ft b T) := by
  obtain ⟨qb, fb, RA, rc, QA, cap, ql, fl, first, fov, hI, hBD, rfl⟩ := h
  obtain ⟨g1, g2, g3, g4, g5, g6, g7, g8⟩ := hI.foot
  have hbl : b < w.heap.size := heap_lt hI.box
  have HI := Lib.hid hI
  have HBD := Lib.hid hBD
  have hfbl : fb < w.heap.size := by obtain ⟨cs, hh, -⟩ := hI.fifo; exact heap_lt hh
  have htk : T.taken ≤ 1000000 := by unfold BndB at hBD; omega
  have hl := hI.hl
  have c4 : w.cell? ⟨b, 4, none⟩ = some (.pointer (some ⟨fb, 0, none⟩)) := cell_of_heap hI.box 4 _ rfl
  clear hI hBD g1 g2
  cases fl with
  | nil =>
    have HTL : Hid (T.l = []) := by show _ = _; rw [← hl]; rfl
    have HPOP := Lib.hid (fun W hW => fifoPop_any W fb T.iroom first fov [] hW)
    clear hl
    go_enter Try.func14, Try.ntmps14
    go_wp2_with fail
    refine calls_blk1 fun W1 q1 hb1 => ?_
    refine (HPOP.out W1 (HI.out.fifo.below hb1)).mono ?_
    rintro e w2 (⟨-, rfl, hb2⟩ | ⟨s, r, h0, -⟩)
    rotate_left
    · cases h0
    have t2 : Turn [fb] W1 w2 := Turn.of hb2
    have hfi2 : FifoI w2 fb T.iroom first fov [] := (HI.out.fifo.below hb1).below hb2
    have HB1 := Lib.hid hb1
    have hRf : w.heap.size ∉ [fb] := by simp; omega
    have R2 := t2.heap q1 hRf
    have B2 := t2.heap (heap_below hb1 HI.out.box) (by simpa using g4)
    have T2 := Lib.hid t2
    have HF2 := Lib.hid hfi2
    have hR2 : w.heap.size < w2.heap.size := heap_lt R2
    have hR1 : w.heap.size < W1.heap.size := heap_lt q1
    clear q1 hb1 t2 hfi2 c4
    simp only [zfL]
    obtain ⟨W3, hW3, q3, hb3⟩ : ∃ W3, W3 = w2.alloc (.cells #[.int .i64 0, .int .u32 0, .bool false, .bool false, .bool false, .bool false, .bool false, .int .u8 0, .int .u8 0, .int .u32 0, .slice none 0 0] 42) ∧ W3.heap[w2.heap.size]? = some (.cells #[.int .i64 0, .int .u32 0, .bool false, .bool false, .bool false, .bool false, .bool false, .int .u8 0, .int .u8 0, .int .u32 0, .slice none 0 0] 42 (0, 0)) ∧ Below w2.heap.size w2 W3 := ⟨_, rfl, heap_new_at rfl, below_alloc (Below.refl _ _) _⟩
    have R3 := heap_below hb3 R2
    have B3 := heap_below hb3 B2
    have HW3 := Lib.hid hW3
    clear R2 B2
    go_wp2_with fail
    rw [← HW3.out]
    obtain ⟨y0, y1, y2, y3, y4, y5, y6, y7, y8, y9, y10⟩ := extT_11 (s := [b]) q3 (by have := heap_lt B3; simp; have := HB1.out.size; omega)
    have Q3 := Lib.hid q3
    have HR3 := Lib.hid R3
    have HBX3 := Lib.hid B3
    have HB3 := Lib.hid hb3
    clear hW3 q3 hb3 R3 B3
    refine wp_region_mix (fun w' => ∃ e : ExtT [b] W3, w' = e.W) [(true, 0), (true, 1), (true, 2), (true, 3), (true, 4), (true, 5), (false, 6)] [7, 8] (by kernel_rfl) (by kernel_rfl) (by intro _ _ d _ _ h; cases d <;> exact h) ⟨⟨W3.drew, (Turn.refl _ _).drew⟩, rfl⟩ ?_
    simp only [pickM, pickL, List.drop_succ_cons, List.drop_zero]
    repeat (first | (refine mix_pure (by rfl) (by rfl) ?_; intro K hK; go_big_quiet_op; go_big_quiet_on) | (refine mix_nilc ⟨b, 0, none⟩ (by rfl) (by kernel_rfl) ?_; go_simp))
    refine mix_eff (by rfl) ?_
    intro K hK
    go_simp
    refine (countE_any 9 b 14 W3.drew (by decide)).mono ?_
    rintro e _ ⟨rfl, rfl⟩
    refine hK _ _ ⟨⟨W3.drew, (Turn.refl _ _).drew⟩, rfl⟩ ?_
    clear hK K y0 y1 y2 y3 y4 y5 y6 y7 y8 y9 y10
    refine mix_nil ?_
    have R4 : W3.drew.heap[w.heap.size]? = _ := HR3.out
    obtain ⟨W4, hW4⟩ : ∃ W4, W3.drew = W4 := ⟨_, rfl⟩
    have t34 : Turn [b] W3 W4 := by rw [← hW4]; exact (Turn.refl _ _).drew
    rw [hW4] at R4
    have HBX4 : Hid (W4.heap[b]? = some (.cells (boxL RA rc qb fb T).toArray 86 (0, 0))) := by rw [← hW4]; exact HBX3.out
    rw [hW4]
    have T34 := Lib.hid t34
    have zr : ∀ o, W4.frozen? ⟨w.heap.size, o, none⟩ = false := fun o => by simp [World.frozen?, R4]
    obtain ⟨r0, r1, r2, r3, r4, r5, r6, r7, r8, r9, r10⟩ := cells11 R4
    clear hW4 R4 t34
    go_wp2_with fail
    refine bodyPost_ret (v := .tuple #[.agg #[.int .i64 0, .int .u32 0, .bool false, .bool false, .bool false, .bool false, .bool false, .int .u8 0, .int .u8 0, .int .u32 0, .slice none 0 0], .int .i64 9]) (by simp [results, Try.results14, go_sem, *]) rfl ?_
    have key : ∀ W5, Turn [w.heap.size] W4 W5 → TakeOf w base N (footB b qb fb QA) b T (.returned (.tuple #[.agg zfL.toArray, .int .i64 9])) W5 := fun W5 t5 => by
      have hI := HI.out
      have t : Turn [b, fb] w W5 := (((Turn.of (s := [b, fb]) HB1.out).tr (T2.out.mono (fun x hx => .inl (by simp at hx; subst hx; simp)))).tr ((Turn.of (s := [b, fb]) HB3.out).tr (T34.out.mono (fun x hx => .inl (by simp at hx; subst hx; simp))))).trans t5 (fun x hx => by simp at hx; omega)
      have hft : Foot [b, fb] w := fun k hk => by
        simp at hk
        rcases hk with rfl | rfl
        · exact ⟨_, _, _, hI.box, by decide, by decide⟩
        · obtain ⟨cs, hh, -⟩ := hI.fifo; exact ⟨_, _, _, hh, by decide, by decide⟩
      have hfi : FifoI W5 fb T.iroom first fov [] := ((HF2.out.below HB3.out).turn T34.out (by simpa using Ne.symm g4)).turn t5 (by simp; omega)
      have hbx := t5.heap HBX4.out (by simp; omega)
      have hT : takeT T = T := by unfold takeT; rw [HTL.out]
      refine ⟨?_, .inl ⟨HTL.out, rfl⟩⟩
      rw [hT]
      exact ⟨_, ⟨qb, fb, RA, rc, QA, cap, ql, [], first, fov, ⟨hbx, hI.rules.turn t hft, hI.queue.turn t (by simp; exact ⟨Ne.symm g3, g5⟩) (fun a ha => by simp; exact ⟨by rintro rfl; exact g6 ha, by rintro rfl; exact g8 ha⟩) hft, hfi, fun x hx => (hI.data x hx).turn_ty t hft.bytes, hI.fok, hI.bank, hI.wf, hI.hq, hI.hs, hI.hl, hI.lo⟩, HBD.out.mono (by omega), rfl⟩, fun k hk => .inl hk, t.mono fun x hx => .inl (by simp at hx; rcases hx with rfl | rfl <;> simp [footB])⟩
    refine key _ ?_
    repeat (refine Turn.setCell ?_ (by simp) _)
    exact Turn.refl _ _
  | cons s fl =>
    have HTL : Hid (T.l = s.f :: fl.map (·.f)) := by show _ = _; rw [← hl]; rfl
    have HPOP := Lib.hid (fun W hW => fifoPop_any W fb T.iroom first fov (s :: fl) hW)
    clear hl
    go_enter Try.func14, Try.ntmps14
    go_wp2_with fail
    refine calls_blk1 fun W1 q1 hb1 => ?_
    refine (HPOP.out W1 (HI.out.fifo.below hb1)).mono ?_
    rintro e w2 (⟨h0, -⟩ | ⟨s', r, h0, rfl, hfi2, t2⟩)
    · cases h0
    injection h0 with h1 h2
    subst h1 h2
    have HB1 := Lib.hid hb1
    have hRf : w.heap.size ∉ [fb] := by simp; omega
    have R2 := t2.heap q1 hRf
    have B2 := t2.heap (heap_below hb1 HI.out.box) (by simpa using g4)
    have T2 := Lib.hid t2
    have HF2 := Lib.hid hfi2
    have hR2 : w.heap.size < w2.heap.size := heap_lt R2
    have hR1 : w.heap.size < W1.heap.size := heap_lt q1
    clear q1 hb1 t2 hfi2 c4
    simp only [frL]
    obtain ⟨W3, hW3, q3, hb3⟩ : ∃ W3, W3 = w2.alloc (.cells #[.int .i64 s.f.kind, .int .u32 s.f.id, .bool s.f.ext, .bool s.f.rtr, .bool s.f.brs, .bool s.f.esi, .bool s.f.sec, .int .u8 s.f.sdt, .int .u8 s.f.vcid, .int .u32 s.f.af, .slice s.A s.f.data.length s.c] 42) ∧ W3.heap[w2.heap.size]? = some (.cells #[.int .i64 s.f.kind, .int .u32 s.f.id, .bool s.f.ext, .bool s.f.rtr, .bool s.f.brs, .bool s.f.esi, .bool s.f.sec, .int .u8 s.f.sdt, .int .u8 s.f.vcid, .int .u32 s.f.af, .slice s.A s.f.data.length s.c] 42 (0, 0)) ∧ Below w2.heap.size w2 W3 := ⟨_, rfl, heap_new_at rfl, below_alloc (Below.refl _ _) _⟩
    have R3 := heap_below hb3 R2
    have B3 := heap_below hb3 B2
    have HW3 := Lib.hid hW3
    clear R2 B2
    go_wp2_with fail
    rw [← HW3.out]
    obtain ⟨y0, y1, y2, y3, y4, y5, y6, y7, y8, y9, y10⟩ := extT_11 (s := [b]) q3 (by have := heap_lt B3; simp; have := HB1.out.size; omega)
    have Q3 := Lib.hid q3
    have HR3 := Lib.hid R3
    have HBX3 := Lib.hid B3
    have HB3 := Lib.hid hb3
    clear hW3 q3 hb3 R3 B3
    refine wp_region_mix (fun w' => ∃ e : ExtT [b] W3, w' = e.W) [(true, 0), (true, 1), (true, 2), (true, 3), (true, 4), (true, 5), (false, 6)] [7, 8] (by kernel_rfl) (by kernel_rfl) (by intro _ _ d _ _ h; cases d <;> exact h) ⟨⟨W3.drew, (Turn.refl _ _).drew⟩, rfl⟩ ?_
    simp only [pickM, pickL, List.drop_succ_cons, List.drop_zero]
    repeat (first | (refine mix_pure (by rfl) (by rfl) ?_; intro K hK; go_big_quiet_op; go_big_quiet_on) | (refine mix_nilc ⟨b, 0, none⟩ (by rfl) (by kernel_rfl) ?_; go_simp))
    refine mix_eff (by rfl) ?_
    intro K hK
    go_simp
    refine (count0_any b 14 T.taken W3.drew (cell_of_heap (w := W3.drew) HBX3.out 14 _ rfl) (by show W3.frozen? _ = false; simp [World.frozen?, HBX3.out]) htk).mono ?_
    rintro e _ ⟨rfl, rfl⟩
    refine hK _ _ ⟨⟨W3.drew.setCell ⟨b, 14, none⟩ (.int .i64 ((T.taken : Int) + 1)), (Turn.refl _ _).drew.setCell (p := ⟨b, 14, none⟩) (.inl (by simp)) _⟩, rfl⟩ ?_
    clear hK K y0 y1 y2 y3 y4 y5 y6 y7 y8 y9 y10
    refine mix_nil ?_
    obtain ⟨W4, hW4⟩ : ∃ W4, W3.drew.setCell ⟨b, 14, none⟩ (.int .i64 ((T.taken : Int) + 1)) = W4 := ⟨_, rfl⟩
    have t34 : Turn [b] W3 W4 := by rw [← hW4]; exact (Turn.refl _ _).drew.setCell (p := ⟨b, 14, none⟩) (.inl (by simp)) _
    have hbx4 : W4.heap[b]? = some (.cells (boxL RA rc qb fb { T with taken := T.taken + 1 }).toArray 86 (0, 0)) := by
      rw [← hW4]
      have := heap_setCell (w := W3.drew) HBX3.out 14 (.int .i64 ((T.taken : Int) + 1))
      rw [this]
      simp [boxL]
    have HBX4 := Lib.hid hbx4
    have R4 := t34.heap HR3.out (by simp; omega)
    rw [hW4]
    clear hbx4
    have T34 := Lib.hid t34
    have zr : ∀ o, W4.frozen? ⟨w.heap.size, o, none⟩ = false := fun o => by simp [World.frozen?, R4]
    obtain ⟨r0, r1, r2, r3, r4, r5, r6, r7, r8, r9, r10⟩ := cells11 R4
    clear hW4 R4 t34
    go_wp2_with fail
    refine bodyPost_ret (v := .tuple #[.agg #[.int .i64 s.f.kind, .int .u32 s.f.id, .bool s.f.ext, .bool s.f.rtr, .bool s.f.brs, .bool s.f.esi, .bool s.f.sec, .int .u8 s.f.sdt, .int .u8 s.f.vcid, .int .u32 s.f.af, .slice s.A s.f.data.length s.c], .int .i64 0]) (by simp [results, Try.results14, go_sem, *]) rfl ?_
    have key : ∀ W5, Turn [w.heap.size] W4 W5 → TakeOf w base N (footB b qb fb QA) b T (.returned (.tuple #[.agg (frL s).toArray, .int .i64 0])) W5 := fun W5 t5 => by
      have hI := HI.out
      have t : Turn [b, fb] w W5 := (((Turn.of (s := [b, fb]) HB1.out).tr (T2.out.mono (fun x hx => .inl (by simp at hx; subst hx; simp)))).tr ((Turn.of (s := [b, fb]) HB3.out).tr (T34.out.mono (fun x hx => .inl (by simp at hx; subst hx; simp))))).trans t5 (fun x hx => by simp at hx; omega)
      have hft : Foot [b, fb] w := fun k hk => by
        simp at hk
        rcases hk with rfl | rfl
        · exact ⟨_, _, _, hI.box, by decide, by decide⟩
        · obtain ⟨cs, hh, -⟩ := hI.fifo; exact ⟨_, _, _, hh, by decide, by decide⟩
      have hfi : FifoI W5 fb T.iroom ((first + 1) % 64) fov fl := ((HF2.out.below HB3.out).turn T34.out (by simpa using Ne.symm g4)).turn t5 (by simp; omega)
      have hbx := t5.heap HBX4.out (by simp; omega)
      have hT : takeT T = { T with l := fl.map (·.f), taken := T.taken + 1 } := by unfold takeT; rw [HTL.out]
      have hd := hI.data s List.mem_cons_self
      have hk := hI.fok s List.mem_cons_self
      refine ⟨?_, .inr ⟨s.f, fl.map (·.f), s.A, s.c, HTL.out, rfl, hd.turn_ty t hft.bytes, hk.1, hk.2⟩⟩
      rw [hT]
      refine ⟨_, ⟨qb, fb, RA, rc, QA, cap, ql, fl, (first + 1) % 64, fov, ⟨hbx, hI.rules.turn t hft, hI.queue.turn t (by simp; exact ⟨Ne.symm g3, g5⟩) (fun a ha => by simp; exact ⟨by rintro rfl; exact g6 ha, by rintro rfl; exact g8 ha⟩) hft, hfi, fun x hx => (hI.data x (List.mem_cons_of_mem _ hx)).turn_ty t hft.bytes, fun x hx => hI.fok x (List.mem_cons_of_mem _ hx), hI.bank, hI.wf, hI.hq, hI.hs, rfl, hI.lo⟩, ?_, rfl⟩, fun k hk => .inl hk, t.mono fun x hx => .inl (by simp at hx; rcases hx with rfl | rfl <;> simp [footB])⟩
      have := HBD.out; unfold BndB at this ⊢; dsimp only; omega
    refine key _ ?_
    repeat (refine Turn.setCell ?_ (by simp) _)
    exact Turn.refl _ _
end Go.Proofs.Ytlmdkmflbhnlgaa
