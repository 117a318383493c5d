/- fifo.Push: a frame is let into a ring. No condition. -/
import Derived.Test.YtlmdkmflbhnlgaaFifo0
namespace Go.Proofs.Ytlmdkmflbhnlgaa
open Go.RowKit
/-- What fifo.Push answers and leaves. -/
def PushF (w : World) (fb room first over : Nat) (l : List SF) (f : Fr) (e : Ending) (w' : World) : Prop :=
  (okF f = false ∧ e = .returned (.tuple #[.bool false, .int .i64 2]) ∧ Below w.heap.size w w') ∨
  (okF f = true ∧ room ≤ l.length ∧ e = .returned (.tuple #[.bool false, .int .i64 0]) ∧ FifoI w' fb room first (over + 1) l ∧ Turn [fb] w w') ∨
  (okF f = true ∧ l.length < room ∧ e = .returned (.tuple #[.bool true, .int .i64 0]) ∧ ∃ A c, Row w' w.heap.size 5 A c (bys f.data) ∧ FifoI w' fb room first over (l ++ [⟨f, A, c⟩]) ∧ Turn [fb] w w')
theorem frL_one (s : SF) : ∀ v ∈ frL s, v.oneCell' = true := by
  intro v hv; simp [frL] at hv; rcases hv with rfl | rfl | rfl | rfl | rfl | rfl | rfl | rfl | rfl | rfl | rfl <;> rfl
theorem frL_arr (A : Option Addr) (n c : Nat) (fk fi : Int) (fe fr f4 f5 f6 : Bool) (f7 f8 f9 : Int) : (#[.int .i64 fk, .int .u32 fi, .bool fe, .bool fr, .bool f4, .bool f5, .bool f6, .int .u8 f7, .int .u8 f8, .int .u32 f9, .slice A n c] : Array Value).all (·.oneCell') = true := by simp [Value.oneCell']
theorem info_frame : (Try.prog.info? 42).map (·.size) = some 11 := by kernel_rfl
theorem there_of {w : World} {b : Nat} {cs : Array Value} {t : TypeId} (h : w.heap[b]? = some (.cells cs t (0, 0))) (o n : Nat) (hn : o + n ≤ cs.size) : w.there b o n := fun j hj => by
  have hlt : o + j < cs.size := by omega
  refine ⟨?_, by simp [World.frozen?, h]⟩
  rw [cell_of_heap h (o + j) cs[o + j] (by simp [hlt])]; rfl
set_option maxRecDepth 100000 in
set_option maxHeartbeats 4000000 in
theorem fifoPush_any (w : World) (fb room first over d m : Nat) (B : Option Addr) (l : List SF) (f : Fr) (h : FifoI w fb room first over l) (hr : Rd w B (bys f.data)) (hz : B = none → d = 0) (hm : f.data.length = m) (hlen : m ≤ 9223372036854775807) (hov : over ≤ 1000000) :
    Calls Try.prog 33 #[.pointer (some ⟨fb, 0, none⟩), frv f (.slice B m d)] w (PushF w fb room first over l f) := by
  have HF := Lib.hid (fun W => Check_any f B d W (by rw [hm]; exact hlen))
  have HCP := Lib.hid (fun (ho : okF f = true) W hW => Copy_any W f B d hW (by have := codeF_kind _ _ ((okF_iff f).1 ho).size; omega) hz)
  have HFI := Lib.hid h
  have HR := Lib.hid hr
  have hfb : fb < w.heap.size := by obtain ⟨cs, hh, -⟩ := h; exact heap_lt hh
  obtain ⟨n, hn⟩ : ∃ n, l.length = n := ⟨_, rfl⟩
  have HN := Lib.hid hn
  have hnr : n ≤ room ∧ room ≤ 64 ∧ first < 64 := by obtain ⟨cs, hh, hc⟩ := h; rw [← hn]; exact ⟨hc.len, hc.room, hc.first⟩
  obtain ⟨q, hq⟩ : ∃ q, okF f = q := ⟨_, rfl⟩
  rw [hq, hm] at HF
  rw [hq, hm] at HCP
  have HQ := Lib.hid hq
  obtain ⟨fk, fi, fe, fr, f4, f5, f6, f7, f8, f9, data⟩ := f
  obtain ⟨hnr1, hnr2, hnr3⟩ := hnr
  dsimp only [frv] at *
  have HM := Lib.hid hm
  clear h hr hq hn hm
  cases q
  · go_enter Try.func33, Try.ntmps33
    go_wp2_with fail
    refine (HF.out _).mono ?_
    rintro e w1 ⟨rfl, hb⟩
    have HB1 := Lib.hid (below_trans (below_alloc (Below.refl _ _) _) hb)
    clear hb
    simp only [errV]
    go_wp2_with fail
    go_ret2
    exact .inl ⟨HQ.out, rfl, HB1.out⟩
  · go_enter Try.func33, Try.ntmps33
    go_wp2_with fail
    refine calls_blk1 fun W1 q1 hb1 => ?_
    refine (HF.out _).mono ?_
    rintro e w1 ⟨rfl, hb⟩
    have HB1 := Lib.hid (below_trans hb1 hb)
    have Q1 := Lib.hid (heap_below hb q1)
    have HR1 := Lib.hid (HR.out.below HB1.out)
    obtain ⟨cs, hh, hc⟩ := HFI.out.below HB1.out
    have c704 : w1.cell? ⟨fb, 704, none⟩ = some (.int .i64 room) := cell_of_heap hh 704 _ hc.c0
    have c705 : w1.cell? ⟨fb, 705, none⟩ = some (.int .i64 first) := cell_of_heap hh 705 _ hc.c1
    have c706 : w1.cell? ⟨fb, 706, none⟩ = some (.int .i64 n) := by have := hc.c2; rw [HN.out] at this; exact cell_of_heap hh 706 _ this
    have c707 : w1.cell? ⟨fb, 707, none⟩ = some (.int .i64 over) := cell_of_heap hh 707 _ hc.c3
    have zf : ∀ o, w1.frozen? ⟨fb, o, none⟩ = false := fun o => by simp [World.frozen?, hh]
    have HHC := Lib.hid hc
    have HH := Lib.hid hh
    clear hb hb1 q1 hc hh
    simp only [errV]
    by_cases hlt : n < room
    · go_wp2_with fail
      go_quiet (fail)
      go_wp2_with fail
      obtain ⟨W3, hW3⟩ : ∃ W3, w1.drewN nq = W3 := ⟨_, rfl⟩
      have hb3 : Below w1.heap.size w1 W3 := by rw [← hW3]; exact below_drewN (Below.refl _ _) _
      rw [hW3]
      have HB3 := Lib.hid (below_trans HB1.out hb3)
      have HH3 := Lib.hid (heap_below hb3 HH.out)
      have HR3 := Lib.hid (HR1.out.below hb3)
      have HW3 := Lib.hid hW3
      obtain ⟨y0, y1, y2, y3, y4, y5, y6, y7, y8, y9, y10⟩ := ext11 (heap_below hb3 Q1.out)
      have x706 : ∀ e : Ext W3, e.W.cell? ⟨fb, 706, none⟩ = some (.int .i64 n) := fun e => ext_cell (cell_of_heap HH3.out 706 _ (by have := HHC.out.c2; rw [HN.out] at this; exact this)) e
      have X705 := Lib.hid (fun e : Ext W3 => ext_cell (cell_of_heap HH3.out 705 _ HHC.out.c1) e)
      clear hW3 hb3 c704 c705 c706 c707 zf
      refine wp_region_mix (fun w' => ∃ e : Ext W3, w' = e.W) [(true, 0), (true, 1), (true, 6), (false, 2), (true, 3), (true, 4), (false, 5), (false, 7)] [8, 9] (by kernel_rfl) (by kernel_rfl) (by intro _ _ d _ _ h; cases d <;> exact h) ⟨⟨W3.drew, (Below.refl _ _).drew⟩, rfl⟩ ?_
      simp only [pickM, pickL, List.drop_succ_cons, List.drop_zero]
      repeat (refine mix_pure (by rfl) (by rfl) ?_; intro K hK; go_big_quiet_op; go_big_quiet_on)
      refine mix_eff (by rfl) ?_
      intro K hK
      go_simp
      refine hK _ _ ⟨⟨W3.drew, (Below.refl _ _).drew⟩, rfl⟩ ?_
      clear hK K
      repeat (refine mix_pure (by rfl) (by rfl) ?_; intro K hK; go_big_quiet_op; go_big_quiet_on)
      refine mix_eff (by rfl) ?_
      intro K hK
      go_simp
      refine (fifoAt_any _ fb first n (X705.out ⟨W3.drew, (Below.refl _ _).drew⟩) hnr3 (by omega)).mono ?_
      rintro x w4 ⟨rfl, hb4⟩
      have hb34 : Below W3.heap.size W3 w4 := below_trans (Below.refl _ _).drew hb4
      have HB34 := Lib.hid hb34
      refine hK _ _ ⟨⟨w4, hb34⟩, rfl⟩ ?_
      clear hK K hb4 hb34
      refine mix_eff (by rfl) ?_
      intro K hK
      go_simp
      refine (HCP.out trivial w4 (HR3.out.below HB34.out)).mono ?_
      rintro x w5 ⟨⟨A', c', rfl, hrow⟩, hb5⟩
      have hb35 : Below W3.heap.size W3 w5 := below_trans HB34.out hb5
      refine hK _ _ ⟨⟨w5, hb35⟩, rfl⟩ ?_
      clear hK K
      refine mix_nil ?_
      have HROW := Lib.hid (hrow.mono (Nat.le_trans HB3.out.size HB34.out.size))
      have HB5 := Lib.hid (below_trans HB3.out hb35)
      have HH5 := Lib.hid (heap_below hb35 HH3.out)
      have hmod : (first + n) % 64 < 64 := Nat.mod_lt _ (by omega)
      have ht : w5.there fb ((first + n) % 64 * 11) 11 := there_of HH5.out _ _ (by rw [HHC.out.size]; omega)
      have hs := heap_setCells (frL ⟨⟨fk, fi, fe, fr, f4, f5, f6, f7, f8, f9, data⟩, A', c'⟩) ((first + n) % 64 * 11) HH5.out
      have hcl : frL ⟨⟨fk, fi, fe, fr, f4, f5, f6, f7, f8, f9, data⟩, A', c'⟩ = [.int .i64 fk, .int .u32 fi, .bool fe, .bool fr, .bool f4, .bool f5, .bool f6, .int .u8 f7, .int .u8 f8, .int .u32 f9, .slice A' m c'] := by simp [frL, HM.out]
      have HSC := Lib.hid hs
      have HCL := Lib.hid hcl
      have HT := Lib.hid ht
      clear hs hcl ht hrow hb5 hb35 y0 y1 y2 y3 y4 y5 y6 y7 y8 y9 y10 x706
      have H1 := Lib.hid (frL_arr A' m c' fk fi fe fr f4 f5 f6 f7 f8 f9)
      refine wpList_plain rfl fun K hK => ?_
      go_simp
      refine hK _ _ ?_
      clear hK K
      refine wpList_plain rfl fun K hK => ?_
      have hx := HT.out
      refine wp_store_mid 42 (.tmp 38) (.tmp 37) rfl fb ((first + n) % 64 * 11) #[.int .i64 fk, .int .u32 fi, .bool fe, .bool fr, .bool f4, .bool f5, .bool f6, .int .u8 f7, .int .u8 f8, .int .u32 f9, .slice A' m c'] ?_ ?_ HT.out info_frame H1.out (hK _ _ ?_)
      · go_simp
      · go_simp
      simp only [Act.put]
      generalize hW5 : w5.setCells fb ((first + n) % 64 * 11) _ = W5
      have HSC5 : Hid (∃ ds : Array Value, W5.heap[fb]? = some (.cells ds 117 (0, 0)) ∧ ds.size = cs.size ∧ ∀ j, ds[j]? = if (first + n) % 64 * 11 ≤ j ∧ j < (first + n) % 64 * 11 + (frL ⟨⟨fk, fi, fe, fr, f4, f5, f6, f7, f8, f9, data⟩, A', c'⟩).length ∧ j < cs.size then (frL ⟨⟨fk, fi, fe, fr, f4, f5, f6, f7, f8, f9, data⟩, A', c'⟩)[j - (first + n) % 64 * 11]? else cs[j]?) := by
        have := HSC.out
        rw [HCL.out] at this ⊢
        rw [← hW5]; exact this
      have HTU : Hid (Turn [fb] w5 W5) := by rw [← hW5]; exact Turn.setCells (.inl (by simp)) _ _ (Turn.refl _ _)
      clear hW5 hx
      obtain ⟨ds, d1, d2, d3⟩ := HSC5.out
      have c706 : W5.cell? ⟨fb, 706, none⟩ = some (.int .i64 n) := cell_of_heap d1 706 _ (by rw [d3, if_neg (by rw [frL_length]; omega)]; have := HHC.out.c2; rw [HN.out] at this; exact this)
      have z706 : W5.frozen? ⟨fb, 706, none⟩ = false := by simp [World.frozen?, d1]
      have D1 := Lib.hid d1
      have D2 := Lib.hid d2
      have D3 := Lib.hid d3
      clear d1 d2 d3
      go_wp2_with fail
      go_ret2
      refine .inr (.inr ⟨HQ.out, by rw [HN.out]; exact hlt, rfl, A', c', ?_, ⟨_, heap_setCell D1.out 706 _, ?_⟩, ?_⟩)
      · refine Row.turn (s := [fb]) HROW.out (HTU.out.setCell (p := ⟨fb, 706, none⟩) (.inl (by simp)) _) (fun ad e hm => ?_)
        have := HROW.out.geq ad e
        simp at hm
        omega
      · have h2 := FifoC.push HHC.out (by rw [HN.out]; exact hlt) D2.out (by rw [HN.out]; exact D3.out)
        rw [HN.out] at h2
        exact h2
      · exact ((Turn.of HB5.out).tr HTU.out).setCell (p := ⟨fb, 706, none⟩) (.inl (by simp)) _
    · have hge : room ≤ n := by omega
      go_wp2_with fail
      go_quiet (fail)
      go_wp2_with fail
      go_ret2
      refine .inr (.inl ⟨HQ.out, by rw [HN.out]; exact hge, rfl, ⟨_, heap_setCell HH.out 707 _, HHC.out.over⟩, ?_⟩)
      exact ((Turn.of HB1.out).drewN _).setCell (p := ⟨fb, 707, none⟩) (.inl (by simp)) _
end Go.Proofs.Ytlmdkmflbhnlgaa
