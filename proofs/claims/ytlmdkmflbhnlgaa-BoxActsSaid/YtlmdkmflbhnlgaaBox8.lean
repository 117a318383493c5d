/- box.Cancel, box.Done: an item waits no more. No condition. -/
import Derived.Test.YtlmdkmflbhnlgaaBox6
namespace Go.Proofs.Ytlmdkmflbhnlgaa
open Go.RowKit
/-- A box behind an item was taken out so. -/
def goneT (T : BX) (no : Int) : BX := if hasQ no T.q then { T with q := rmQ no T.q, gone := T.gone + 1 } else T
set_option maxRecDepth 100000 in
set_option maxHeartbeats 16000000 in
theorem goneDrop_any (w : World) (base N : Nat) (ft : List Nat) (b : Nat) (T : BX) (no : Int) (h : BoxA w base N ft b T) (hN : N ≤ 100000) :
    Calls Try.prog 47 #[.pointer (some ⟨b, 0, none⟩), .int .i64 no, .func (.func 49) #[] #[]] w fun e w' => e = .returned (.int .i64 (if hasQ no T.q then 0 else 9)) ∧ Acted w base (N + 1) ft b (goneT T no) w' := by
  obtain ⟨qb, fb, RA, rc, QA, cap, ql, fl, first, fov, hI, hBD, rfl⟩ := h
  obtain ⟨g1, g2, g3, g4, g5, g6, g7, g8⟩ := hI.foot
  have HI := Lib.hid hI
  have HBD := Lib.hid hBD
  have HCA := Lib.hid (fun W (hW : HeapQ W base qb T.oroom T.last QA cap ql) => qCancel_any W base qb T.oroom T.last cap QA ql no hW hI.queue.ord (Nat.le_trans hI.queue.len hI.queue.room))
  have hcnt : T.gone ≤ 1000000 := by unfold BndB at hBD; omega
  obtain ⟨v, hv⟩ : ∃ v, hasQ no T.q = v := ⟨_, rfl⟩
  have hcT : goneT T no = if v then { T with q := rmQ no T.q, gone := T.gone + 1 } else T := by unfold goneT; rw [hv]
  obtain ⟨ke, hke⟩ : ∃ ke : Int, ke = if v then 0 else 9 := ⟨_, rfl⟩
  rw [hv, ← hke]
  generalize goneT T no = T2 at hcT ⊢
  have HV := Lib.hid hv
  have HCT := Lib.hid hcT
  have HKE := Lib.hid hke
  have x3 : ∀ e : ExtT (qb :: blkA QA) w, e.W.cell? ⟨b, 3, none⟩ = some (.pointer (some ⟨qb, 0, none⟩)) := fun e => extT_cell (cell_of_heap hI.box 3 _ rfl) (by simp; exact ⟨g3, g6⟩) e
  clear hI hBD hv hcT hke g1 g2
  go_enter Try.func47, Try.ntmps47
  go_wp2_with fail
  refine wp_region_mix (fun w' => ∃ e : ExtT (qb :: blkA QA) w, w' = e.W) [(true, 0), (true, 1), (true, 2), (true, 3), (true, 4), (true, 6), (true, 7), (true, 8), (true, 9), (false, 5)] [10, 11, 12] (by kernel_rfl) (by kernel_rfl) (by intro _ _ d _ _ h; cases d <;> exact h) ⟨⟨w.drew, (Turn.refl _ _).drew⟩, rfl⟩ ?_
  simp only [pickM, pickL, List.drop_succ_cons, List.drop_zero]
  repeat (first | (refine mix_pure (by rfl) (by rfl) ?_; intro K hK; go_big_quiet_op; go_big_quiet_on) | (refine mix_nilc ⟨b, 0, none⟩ (by rfl) (by kernel_rfl) ?_; go_simp))
  refine mix_eff (by rfl) ?_
  intro K hK
  go_simp
  refine (HCA.out w.drew (HI.out.queue.heap.below (Below.refl _ _).drew)).mono ?_
  rintro e w4 (⟨hno, rfl, hb4⟩ | ⟨x, l', hx, hxn, rfl, hh4, ho4, hp4, t4⟩)
  · have t24 : Turn (qb :: blkA QA) w w4 := Turn.of (below_trans (Below.refl _ _).drew hb4)
    refine hK _ _ ⟨⟨w4, t24⟩, rfl⟩ ?_
    clear hK K
    refine mix_nil ?_
    have HB4 := Lib.hid (below_trans (Below.refl _ _).drew hb4)
    have HV0 : Hid (v = false) := by show _ = _; rw [← HV.out]; exact (has_none HI.out.hq hno).1
    clear hb4 t24 hno x3
    go_wp2_with fail
    refine (gone_any b w4).mono ?_
    rintro e _ ⟨rfl, rfl⟩
    go_wp2_with fail
    refine (countE_any 9 b 9 w4 (by decide)).mono ?_
    rintro e _ ⟨rfl, rfl⟩
    go_wp2_with fail
    go_ret
    have hct := HCT.out
    have hk := HKE.out
    rw [HV0.out] at hct hk
    simp only [Bool.false_eq_true, if_false] at hct hk
    subst hct hk
    exact ⟨rfl, _, ⟨qb, fb, RA, rc, QA, cap, ql, fl, first, fov, HI.out.below HB4.out, HBD.out.mono (by omega), rfl⟩, fun k hk => .inl hk, Turn.of HB4.out⟩
  · have t24 : Turn (qb :: blkA QA) w w4 := (Turn.refl _ w).drew.tr t4
    refine hK _ _ ⟨⟨w4, t24⟩, rfl⟩ ?_
    clear hK K
    refine mix_nil ?_
    have HBX4 := Lib.hid (t24.heap HI.out.box (by simp; exact ⟨g3, g6⟩))
    have T24 := Lib.hid t24
    have HH4 := Lib.hid hh4
    have HO4 := Lib.hid ho4
    have HP4 := Lib.hid hp4
    obtain ⟨r1, r2, r3⟩ := rm_perm HI.out.hq HI.out.queue.nodup hp4
    rw [hxn] at r1 r2
    have R1 := Lib.hid r1
    have HV0 : Hid (v = true) := by show _ = _; rw [← HV.out]; exact r2
    clear hh4 ho4 hp4 t4 t24 x3 r1 r2 r3 hxn hx
    go_wp2_with fail
    refine (gone_any b w4).mono ?_
    rintro e _ ⟨rfl, rfl⟩
    go_wp2_with fail
    refine (count0_any b 9 T.gone w4 (cell_of_heap HBX4.out 9 _ rfl) (by simp [World.frozen?, HBX4.out]) hcnt).mono ?_
    rintro e _ ⟨rfl, rfl⟩
    go_wp2_with fail
    go_ret
    have hct := HCT.out
    have hk := HKE.out
    rw [HV0.out] at hct hk
    simp only [if_true] at hct hk
    subst hct hk
    have hI2 := HI.out
    have t5 : Turn [b] w4 (w4.setCell ⟨b, 9, none⟩ (.int .i64 ((T.gone : Int) + 1))) := (Turn.refl _ _).setCell (p := ⟨b, 9, none⟩) (.inl (by simp)) _
    have t : Turn (b :: qb :: blkA QA) w (w4.setCell ⟨b, 9, none⟩ (.int .i64 ((T.gone : Int) + 1))) := (T24.out.mono (fun x hx => .inl (List.mem_cons_of_mem _ hx))).tr (t5.mono (fun x hx => .inl (by simp at hx; subst hx; simp)))
    have hft : Foot (b :: qb :: blkA QA) w := fun k hk => by
      refine hI2.foot.1 k ?_
      simp only [footB, List.mem_cons] at hk ⊢
      rcases hk with h | h | h
      · exact .inl h
      · exact .inr (.inl h)
      · exact .inr (.inr (.inr h))
    have hqb4 : qb ∉ [b] := by simpa using Ne.symm g3
    have hsub : ∀ y ∈ l', y ∈ ql := fun y hy => HP4.out.mem_iff.2 (List.mem_cons_of_mem _ hy)
    refine ⟨rfl, _, ⟨qb, fb, RA, rc, QA, cap, l', fl, first, fov, ⟨?_, hI2.rules.turn t hft, ⟨HH4.out.turn t5 hqb4 (fun a ha => by simp; rintro rfl; exact g6 ha), HO4.out, fun y hy => (hI2.queue.data y (hsub y hy)).turn_ty t hft.bytes, ?_, hI2.queue.room, fun y hy => hI2.queue.ok y (hsub y hy), fun y hy => hI2.queue.nos y (hsub y hy), ?_⟩, hI2.fifo.turn t (by simp; exact ⟨Ne.symm g4, Ne.symm g5, g8⟩), fun y hy => (hI2.data y hy).turn_ty t hft.bytes, hI2.fok, hI2.bank, hI2.wf, R1.out, rmQ_sorted hI2.hs, hI2.hl, hI2.lo⟩, ?_, rfl⟩, fun k hk => .inl hk, t.mono fun x hx => .inl ?_⟩
    · rw [heap_setCell HBX4.out 9 _]
      simp [boxL]
    · have h1 := HP4.out.length_eq
      have h2 := hI2.queue.len
      simp at h1
      dsimp only
      omega
    · have h1 := (HP4.out.map (·.no)).nodup_iff.1 hI2.queue.nodup
      rw [List.map_cons, List.nodup_cons] at h1
      exact h1.2
    · have := HBD.out; unfold BndB at this ⊢; dsimp only; omega
    · simp only [footB, List.mem_cons] at hx ⊢
      rcases hx with h | h | h
      · exact .inl h
      · exact .inr (.inl h)
      · exact .inr (.inr (.inr h))
theorem BoxCancel_any (w : World) (base N : Nat) (ft : List Nat) (b : Nat) (T : BX) (no : Int) (h : BoxA w base N ft b T) (hN : N ≤ 100000) :
    Calls Try.prog 23 #[.pointer (some ⟨b, 0, none⟩), .int .i64 no] w fun e w' => e = .returned (.int .i64 (if hasQ no T.q then 0 else 9)) ∧ Acted w base (N + 1) ft b (goneT T no) w' := by
  have HD := Lib.hid (goneDrop_any w base N ft b T no h hN)
  obtain ⟨ke, hke⟩ : ∃ ke : Int, (if hasQ no T.q then (0 : Int) else 9) = ke := ⟨_, rfl⟩
  rw [hke] at HD ⊢
  clear h hke
  go_enter Try.func23, Try.ntmps23
  go_wp2_with fail
  refine HD.out.mono ?_
  rintro e w' ⟨rfl, hA⟩
  have HA := Lib.hid hA
  clear hA
  go_wp2_with fail
  go_ret
  exact ⟨rfl, HA.out⟩
/-- A box behind an item was taken out so. -/
def sentT (T : BX) (no : Int) : BX := if hasQ no T.q then { T with q := rmQ no T.q, sent := T.sent + 1 } else T
set_option maxRecDepth 100000 in
set_option maxHeartbeats 16000000 in
theorem sentDrop_any (w : World) (base N : Nat) (ft : List Nat) (b : Nat) (T : BX) (no : Int) (h : BoxA w base N ft b T) (hN : N ≤ 100000) :
    Calls Try.prog 47 #[.pointer (some ⟨b, 0, none⟩), .int .i64 no, .func (.func 48) #[] #[]] w fun e w' => e = .returned (.int .i64 (if hasQ no T.q then 0 else 9)) ∧ Acted w base (N + 1) ft b (sentT T no) w' := by
  obtain ⟨qb, fb, RA, rc, QA, cap, ql, fl, first, fov, hI, hBD, rfl⟩ := h
  obtain ⟨g1, g2, g3, g4, g5, g6, g7, g8⟩ := hI.foot
  have HI := Lib.hid hI
  have HBD := Lib.hid hBD
  have HCA := Lib.hid (fun W (hW : HeapQ W base qb T.oroom T.last QA cap ql) => qCancel_any W base qb T.oroom T.last cap QA ql no hW hI.queue.ord (Nat.le_trans hI.queue.len hI.queue.room))
  have hcnt : T.sent ≤ 1000000 := by unfold BndB at hBD; omega
  obtain ⟨v, hv⟩ : ∃ v, hasQ no T.q = v := ⟨_, rfl⟩
  have hcT : sentT T no = if v then { T with q := rmQ no T.q, sent := T.sent + 1 } else T := by unfold sentT; rw [hv]
  obtain ⟨ke, hke⟩ : ∃ ke : Int, ke = if v then 0 else 9 := ⟨_, rfl⟩
  rw [hv, ← hke]
  generalize sentT T no = T2 at hcT ⊢
  have HV := Lib.hid hv
  have HCT := Lib.hid hcT
  have HKE := Lib.hid hke
  have x3 : ∀ e : ExtT (qb :: blkA QA) w, e.W.cell? ⟨b, 3, none⟩ = some (.pointer (some ⟨qb, 0, none⟩)) := fun e => extT_cell (cell_of_heap hI.box 3 _ rfl) (by simp; exact ⟨g3, g6⟩) e
  clear hI hBD hv hcT hke g1 g2
  go_enter Try.func47, Try.ntmps47
  go_wp2_with fail
  refine wp_region_mix (fun w' => ∃ e : ExtT (qb :: blkA QA) w, w' = e.W) [(true, 0), (true, 1), (true, 2), (true, 3), (true, 4), (true, 6), (true, 7), (true, 8), (true, 9), (false, 5)] [10, 11, 12] (by kernel_rfl) (by kernel_rfl) (by intro _ _ d _ _ h; cases d <;> exact h) ⟨⟨w.drew, (Turn.refl _ _).drew⟩, rfl⟩ ?_
  simp only [pickM, pickL, List.drop_succ_cons, List.drop_zero]
  repeat (first | (refine mix_pure (by rfl) (by rfl) ?_; intro K hK; go_big_quiet_op; go_big_quiet_on) | (refine mix_nilc ⟨b, 0, none⟩ (by rfl) (by kernel_rfl) ?_; go_simp))
  refine mix_eff (by rfl) ?_
  intro K hK
  go_simp
  refine (HCA.out w.drew (HI.out.queue.heap.below (Below.refl _ _).drew)).mono ?_
  rintro e w4 (⟨hno, rfl, hb4⟩ | ⟨x, l', hx, hxn, rfl, hh4, ho4, hp4, t4⟩)
  · have t24 : Turn (qb :: blkA QA) w w4 := Turn.of (below_trans (Below.refl _ _).drew hb4)
    refine hK _ _ ⟨⟨w4, t24⟩, rfl⟩ ?_
    clear hK K
    refine mix_nil ?_
    have HB4 := Lib.hid (below_trans (Below.refl _ _).drew hb4)
    have HV0 : Hid (v = false) := by show _ = _; rw [← HV.out]; exact (has_none HI.out.hq hno).1
    clear hb4 t24 hno x3
    go_wp2_with fail
    refine (sent_any b w4).mono ?_
    rintro e _ ⟨rfl, rfl⟩
    go_wp2_with fail
    refine (countE_any 9 b 8 w4 (by decide)).mono ?_
    rintro e _ ⟨rfl, rfl⟩
    go_wp2_with fail
    go_ret
    have hct := HCT.out
    have hk := HKE.out
    rw [HV0.out] at hct hk
    simp only [Bool.false_eq_true, if_false] at hct hk
    subst hct hk
    exact ⟨rfl, _, ⟨qb, fb, RA, rc, QA, cap, ql, fl, first, fov, HI.out.below HB4.out, HBD.out.mono (by omega), rfl⟩, fun k hk => .inl hk, Turn.of HB4.out⟩
  · have t24 : Turn (qb :: blkA QA) w w4 := (Turn.refl _ w).drew.tr t4
    refine hK _ _ ⟨⟨w4, t24⟩, rfl⟩ ?_
    clear hK K
    refine mix_nil ?_
    have HBX4 := Lib.hid (t24.heap HI.out.box (by simp; exact ⟨g3, g6⟩))
    have T24 := Lib.hid t24
    have HH4 := Lib.hid hh4
    have HO4 := Lib.hid ho4
    have HP4 := Lib.hid hp4
    obtain ⟨r1, r2, r3⟩ := rm_perm HI.out.hq HI.out.queue.nodup hp4
    rw [hxn] at r1 r2
    have R1 := Lib.hid r1
    have HV0 : Hid (v = true) := by show _ = _; rw [← HV.out]; exact r2
    clear hh4 ho4 hp4 t4 t24 x3 r1 r2 r3 hxn hx
    go_wp2_with fail
    refine (sent_any b w4).mono ?_
    rintro e _ ⟨rfl, rfl⟩
    go_wp2_with fail
    refine (count0_any b 8 T.sent w4 (cell_of_heap HBX4.out 8 _ rfl) (by simp [World.frozen?, HBX4.out]) hcnt).mono ?_
    rintro e _ ⟨rfl, rfl⟩
    go_wp2_with fail
    go_ret
    have hct := HCT.out
    have hk := HKE.out
    rw [HV0.out] at hct hk
    simp only [if_true] at hct hk
    subst hct hk
    have hI2 := HI.out
    have t5 : Turn [b] w4 (w4.setCell ⟨b, 8, none⟩ (.int .i64 ((T.sent : Int) + 1))) := (Turn.refl _ _).setCell (p := ⟨b, 8, none⟩) (.inl (by simp)) _
    have t : Turn (b :: qb :: blkA QA) w (w4.setCell ⟨b, 8, none⟩ (.int .i64 ((T.sent : Int) + 1))) := (T24.out.mono (fun x hx => .inl (List.mem_cons_of_mem _ hx))).tr (t5.mono (fun x hx => .inl (by simp at hx; subst hx; simp)))
    have hft : Foot (b :: qb :: blkA QA) w := fun k hk => by
      refine hI2.foot.1 k ?_
      simp only [footB, List.mem_cons] at hk ⊢
      rcases hk with h | h | h
      · exact .inl h
      · exact .inr (.inl h)
      · exact .inr (.inr (.inr h))
    have hqb4 : qb ∉ [b] := by simpa using Ne.symm g3
    have hsub : ∀ y ∈ l', y ∈ ql := fun y hy => HP4.out.mem_iff.2 (List.mem_cons_of_mem _ hy)
    refine ⟨rfl, _, ⟨qb, fb, RA, rc, QA, cap, l', fl, first, fov, ⟨?_, hI2.rules.turn t hft, ⟨HH4.out.turn t5 hqb4 (fun a ha => by simp; rintro rfl; exact g6 ha), HO4.out, fun y hy => (hI2.queue.data y (hsub y hy)).turn_ty t hft.bytes, ?_, hI2.queue.room, fun y hy => hI2.queue.ok y (hsub y hy), fun y hy => hI2.queue.nos y (hsub y hy), ?_⟩, hI2.fifo.turn t (by simp; exact ⟨Ne.symm g4, Ne.symm g5, g8⟩), fun y hy => (hI2.data y hy).turn_ty t hft.bytes, hI2.fok, hI2.bank, hI2.wf, R1.out, rmQ_sorted hI2.hs, hI2.hl, hI2.lo⟩, ?_, rfl⟩, fun k hk => .inl hk, t.mono fun x hx => .inl ?_⟩
    · rw [heap_setCell HBX4.out 8 _]
      simp [boxL]
    · have h1 := HP4.out.length_eq
      have h2 := hI2.queue.len
      simp at h1
      dsimp only
      omega
    · have h1 := (HP4.out.map (·.no)).nodup_iff.1 hI2.queue.nodup
      rw [List.map_cons, List.nodup_cons] at h1
      exact h1.2
    · have := HBD.out; unfold BndB at this ⊢; dsimp only; omega
    · simp only [footB, List.mem_cons] at hx ⊢
      rcases hx with h | h | h
      · exact .inl h
      · exact .inr (.inl h)
      · exact .inr (.inr (.inr h))
theorem BoxDone_any (w : World) (base N : Nat) (ft : List Nat) (b : Nat) (T : BX) (no : Int) (h : BoxA w base N ft b T) (hN : N ≤ 100000) :
    Calls Try.prog 22 #[.pointer (some ⟨b, 0, none⟩), .int .i64 no] w fun e w' => e = .returned (.int .i64 (if hasQ no T.q then 0 else 9)) ∧ Acted w base (N + 1) ft b (sentT T no) w' := by
  have HD := Lib.hid (sentDrop_any w base N ft b T no h hN)
  obtain ⟨ke, hke⟩ : ∃ ke : Int, (if hasQ no T.q then (0 : Int) else 9) = ke := ⟨_, rfl⟩
  rw [hke] at HD ⊢
  clear h hke
  go_enter Try.func22, Try.ntmps22
  go_wp2_with fail
  refine HD.out.mono ?_
  rintro e w' ⟨rfl, hA⟩
  have HA := Lib.hid hA
  clear hA
  go_wp2_with fail
  go_ret
  exact ⟨rfl, HA.out⟩
end Go.Proofs.Ytlmdkmflbhnlgaa
namespace Go.Proofs.Ytlmdkmflbhnlgaa
open Go.RowKit
/-- What Next answers. -/
def NextOf (w : World) (T : BX) (e : Ending) (w' : World) : Prop :=
  ((T.q = [] ∧ e = .returned (.tuple #[.agg #[.int .i64 0, .int .i64 0, .int .u32 0, .bool false, .bool false, .bool false, .bool false, .bool false, .int .u8 0, .int .u8 0, .int .u32 0, .slice none 0 0], .int .i64 9])) ∨
    ∃ (x : QE) (r : List QE) (A : Option Addr) (c : Nat), T.q = x :: r ∧ e = .returned (.tuple #[.agg (itL x.no x.f A c).toArray, .int .i64 0]) ∧ Row w' w.heap.size 5 A c (bys x.f.data) ∧ okF x.f = true ∧ FrIn x.f) ∧ Below w.heap.size w w'
set_option maxRecDepth 100000 in
set_option maxHeartbeats 16000000 in
theorem Next_any (w : World) (base N : Nat) (ft : List Nat) (b : Nat) (T : BX) (h : BoxA w base N ft b T) :
    Calls Try.prog 20 #[.pointer (some ⟨b, 0, none⟩)] w (NextOf w T) := by
  obtain ⟨qb, fb, RA, rc, QA, cap, ql, fl, first, fov, hI, hBD, rfl⟩ := h
  have hbl : b < w.heap.size := heap_lt hI.box
  have HI := Lib.hid hI
  have HHE := Lib.hid (fun W hW => Head_any W base qb T.oroom T.last cap QA ql hW)
  have c3 : w.cell? ⟨b, 3, none⟩ = some (.pointer (some ⟨qb, 0, none⟩)) := cell_of_heap hI.box 3 _ rfl
  clear hI hBD
  go_enter Try.func20, Try.ntmps20
  go_wp2_with fail
  refine calls_blk1 fun W1 q1 hb1 => ?_
  refine (HHE.out W1 (HI.out.below hb1).queue).mono ?_
  rintro e w2 ⟨he, hb⟩
  have Q1 := heap_below hb q1
  have HB := Lib.hid (below_trans hb1 hb)
  have hs1 : w.heap.size < W1.heap.size := heap_lt q1
  have zb : ∀ o, w2.frozen? ⟨w.heap.size, o, none⟩ = false := fun o => by simp [World.frozen?, Q1]
  have b0 : w2.cell? ⟨w.heap.size, 0, none⟩ = some (.int .i64 0) := cell_of_heap Q1 0 _ rfl
  have b1 : w2.cell? ⟨w.heap.size, 1, none⟩ = some (.int .i64 0) := cell_of_heap Q1 1 _ rfl
  have b2 : w2.cell? ⟨w.heap.size, 2, none⟩ = some (.int .u32 0) := cell_of_heap Q1 2 _ rfl
  have b3 : w2.cell? ⟨w.heap.size, 3, none⟩ = some (.bool false) := cell_of_heap Q1 3 _ rfl
  have b4 : w2.cell? ⟨w.heap.size, 4, none⟩ = some (.bool false) := cell_of_heap Q1 4 _ rfl
  have b5 : w2.cell? ⟨w.heap.size, 5, none⟩ = some (.bool false) := cell_of_heap Q1 5 _ rfl
  have b6 : w2.cell? ⟨w.heap.size, 6, none⟩ = some (.bool false) := cell_of_heap Q1 6 _ rfl
  have b7 : w2.cell? ⟨w.heap.size, 7, none⟩ = some (.bool false) := cell_of_heap Q1 7 _ rfl
  have b8 : w2.cell? ⟨w.heap.size, 8, none⟩ = some (.int .u8 0) := cell_of_heap Q1 8 _ rfl
  have b9 : w2.cell? ⟨w.heap.size, 9, none⟩ = some (.int .u8 0) := cell_of_heap Q1 9 _ rfl
  have b10 : w2.cell? ⟨w.heap.size, 10, none⟩ = some (.int .u32 0) := cell_of_heap Q1 10 _ rfl
  have b11 : w2.cell? ⟨w.heap.size, 11, none⟩ = some (.slice none 0 0) := cell_of_heap Q1 11 _ rfl
  clear hb hb1 q1 Q1 c3
  rcases he with ⟨h0, rfl⟩ | ⟨h0, A', c', rfl, hrow⟩
  · have HQ0 : Hid (T.q = []) := by
      show _ = _
      have := HI.out.hq
      rw [h0] at this
      exact (List.nil_perm.1 this)
    clear h0
    go_wp2_with fail
    refine bodyPost_ret (v := .tuple #[.agg #[.int .i64 0, .int .i64 0, .int .u32 0, .bool false, .bool false, .bool false, .bool false, .bool false, .int .u8 0, .int .u8 0, .int .u32 0, .slice none 0 0], .int .i64 9]) (by simp [results, Try.results20, go_sem, *]) rfl ⟨.inl ⟨HQ0.out, rfl⟩, ?_⟩
    repeat (refine Below.setCell ?_ (by simp) _)
    exact HB.out
  · have hq0 : ∃ y r, T.q = y :: r := by
      cases hT : T.q with
      | nil => have := HI.out.hq.length_eq; rw [hT, List.length_map, List.length_nil] at this; omega
      | cons y r => exact ⟨y, r, rfl⟩
    obtain ⟨y, r, hq⟩ := hq0
    have hI := HI.out
    have hhq := hI.hq
    have hhs := hI.hs
    rw [hq] at hhq hhs
    obtain ⟨-, hhd⟩ := head_eq hhq hhs hI.queue.ord (fun e he => (hI.queue.ok e he).2.1) hI.queue.nodup
    have hmem : ag ql 0 ∈ ql := by rw [ag_get h0]; exact List.getElem_mem _
    have hok := hI.queue.ok _ hmem
    obtain ⟨x, hx⟩ : ∃ x, ag ql 0 = x := ⟨_, rfl⟩
    rw [hx] at hhd hok hrow ⊢
    have HX : Hid (T.q = ⟨x.no, x.f⟩ :: r) := by show _ = _; rw [hq, ← hhd]; rfl
    have HROW := Lib.hid hrow
    have HOK := Lib.hid hok
    clear hq hI hhq hhs hhd hmem hok hx hrow h0
    simp only [itL]
    go_wp2_with fail
    refine bodyPost_ret (v := .tuple #[.agg #[.int .i64 x.no, .int .i64 x.f.kind, .int .u32 x.f.id, .bool x.f.ext, .bool x.f.rtr, .bool x.f.brs, .bool x.f.esi, .bool x.f.sec, .int .u8 x.f.sdt, .int .u8 x.f.vcid, .int .u32 x.f.af, .slice A' x.f.data.length c'], .int .i64 0]) (by simp [results, Try.results20, go_sem, *]) rfl ⟨.inr ⟨⟨x.no, x.f⟩, r, A', c', HX.out, rfl, ?_, HOK.out.1, HOK.out.2.2⟩, ?_⟩
    · repeat (refine Row.turn (s := [w.heap.size]) ?_ ((Turn.refl _ _).setCell (by simp) _) (fun ad e hm => by have := HROW.out.geq ad e; simp at hm; omega))
      exact HROW.out.mono (by omega)
    · repeat (refine Below.setCell ?_ (by simp) _)
      exact HB.out
end Go.Proofs.Ytlmdkmflbhnlgaa
