/- Words, walks and plain facts that several laws need, part 6: each with its own head. No condition. -/
import Derived.Test.YtlmdkmflbhnlgaaGreatZScan5
import Derived.Test.YtlmdkmflbhnlgaaGreatProg
-- ScanO: The machine's marks: how a bit is taken. No condition.
namespace Go.Proofs.YtlmdkmflbhnlgaaGreat
open Go.RowKit
variable {w : World} {s : List Nat} {mp : Nat} {S : MS} {a : MA}
theorem MAct.congr {S S' : MS} {w' : World} (h : MAct w s mp S w') (e : S = S') : MAct w s mp S' w' := e ▸ h
theorem wpList_mputN {P : Program} {ops : Array Oper} {rest : List Oper} {op : Oper} {f : Act} {Q : Exit → Act → World → Prop} (h : MR w s mp S a) (hgd : op.guard = none) (hds : op.dst = none) (ty : TypeId) (x y : Operand) (ho : op.op = .store ty x y)
    (i : Nat) (v : Value) (hx : f.eval x = .pointer (some ⟨mp, i, none⟩)) (hy : f.eval y = v) (h1 : v.oneCell' = true) (hi : (P.info? ty).map (·.size) = some 1) (hin : i < 34)
    (S' : MS) (a' : MA) (hv : (mca S a).setIfInBounds i v = mca S' a')
    (hk : ∀ w', Turn s w w' → MRest w' s mp S.raw S.l S.own S.sf.data S.f.data S.step S.next S.gh a → MRest w' s mp S'.raw S'.l S'.own S'.sf.data S'.f.data S'.step S'.next S'.gh a')
    (K : ∀ W', Hid (MR W' s mp S' a') → Hid (Turn s w W') → wpList P ops Q rest f W') : wpList P ops Q (op :: rest) f w :=
  wpList_mput h hgd ty x y ho i v hx hy h1 hi hin S' a' hv hk (by rw [hds]; exact K)
set_option maxRecDepth 100000 in
set_option maxHeartbeats 4000000 in
theorem mMarkStep (h : MR w s mp S a) (p q r : Nat) (A : Option Addr) (c n : Nat) (l : List Nat) (x : Aft) (av : Value) (b : Nat) (b1 : BoxV w s p #[ptr mp] 36) (b2 : BoxV w s q #[.slice A n c] 22) (b3 : BoxV w s r #[av] 1) (hd : DatU w s A c l) (hx : AftOk mp x av) (hn : l.length = n) (hat : S.at_ < n) (hn2 : n ≤ 1000) (hraw : 0 < S.raw.length) :
    Calls Tryz.prog 131 #[.int .u8 b, .pointer (some ⟨p, 0, none⟩), .pointer (some ⟨q, 0, none⟩), .pointer (some ⟨r, 0, none⟩)] w (MDone w s mp (markStepM S l x b)) := by
  obtain ⟨k, hk⟩ : ∃ k, S.at_ = k := ⟨_, rfl⟩
  rw [hk] at hat
  obtain ⟨ad, rfl, hca⟩ := hd.1.at_ k (by omega)
  have hgd : l.getD k 0 = l[k]'(by omega) := by simp [List.getD, List.getElem?_eq_getElem (by omega : k < l.length)]
  obtain ⟨y, hy⟩ : ∃ y, l[k]'(by omega) = y := ⟨_, rfl⟩
  rw [hy] at hca hgd
  have c33 : w.cell? ⟨mp, 33, none⟩ = some (.int .i64 k) := h.cell 33 _ (by rw [← hk]; rfl)
  have hs : markStepM S l x b = if b = y then (if k + 1 = n then aftM { S with at_ := k + 1 } x else { S with at_ := k + 1 }) else badM S 5 := by rw [← hgd, ← hn, ← hk]; rfl
  obtain ⟨T, hT⟩ : ∃ T, markStepM S l x b = T := ⟨_, rfl⟩
  rw [hT] at hs ⊢
  have HSS := Lib.hid hs
  have HH := Lib.hid h
  have B1 := Lib.hid b1
  have B2 := Lib.hid b2
  have B3 := Lib.hid b3
  have HX := Lib.hid hx
  have HRAW := Lib.hid hraw
  have c0 : ∀ e : Ext w, e.W.cell? ⟨p, 0, none⟩ = some (.pointer (some ⟨mp, 0, none⟩)) := fun e => ext_cell (b1.cell 0 _ rfl) e
  have c1 : ∀ e : Ext w, e.W.cell? ⟨q, 0, none⟩ = some (.slice (some ad) n c) := fun e => ext_cell (b2.cell 0 _ rfl) e
  have c2 : ∀ e : Ext w, e.W.cell? ⟨mp, 33, none⟩ = some (.int .i64 k) := fun e => ext_cell c33 e
  have c3 : ∀ e : Ext w, e.W.cell? (ad.add k) = some (.int .u8 y) := fun e => ext_cell hca e
  clear h b1 b2 b3 hd hx hraw hca hgd hy c33 hs hT hn
  have HAT : Hid (S.at_ = k) := hk
  clear hk
  by_cases hby : b = y
  · subst hby
    rw [if_pos rfl] at HSS
    by_cases hkn : k + 1 = n
    · rw [if_pos hkn] at HSS
      subst hkn
      cases x
      · obtain rfl : av = .func (.func 121) #[.pointer (some ⟨mp, 0, none⟩)] #[] := HX.out
        go_enter Tryz.func131, Tryz.ntmps131
        go_wp2_with fail
        refine wp_region_mix (fun w' => ∃ e : Ext w, w' = e.W) [(true, 0), (true, 1), (true, 2), (true, 3), (true, 4), (true, 5), (true, 6), (true, 7), (true, 8), (true, 9)] [10, 11] (by kernel_rfl) (by kernel_rfl) (by intro _ _ d _ _ h; cases d <;> exact h) ⟨⟨w.drew, (Below.refl _ _).drew⟩, rfl⟩ ?_
        simp only [pickM, pickL, List.drop_succ_cons, List.drop_zero]
        repeat (first | (refine mix_pure (by rfl) (by rfl) ?_; intro K hK; go_big_quiet_op; go_big_quiet_on) | (refine mix_nilc ⟨mp, 0, none⟩ (by rfl) (by kernel_rfl) ?_; go_simp))
        refine mix_nil ?_
        clear c0 c1 c2 c3
        have hbd : Below w.heap.size w w.drew := (Below.refl _ _).drew
        have H3 := Lib.hid (HH.out.below hbd)
        have C1 := Lib.hid (B1.out.turn (Turn.of (s := s) hbd) (fun _ hk => .inl hk))
        have C2 := Lib.hid (B2.out.turn (Turn.of (s := s) hbd) (fun _ hk => .inl hk))
        have C3 := Lib.hid (B3.out.turn (Turn.of (s := s) hbd) (fun _ hk => .inl hk))
        have HBD := Lib.hid hbd
        clear hbd
        generalize w.drew = W4 at *
        go_wp2_with fail
        refine (mMust H3.out _).mono ?_
        rintro e w4 ⟨rfl, hA⟩
        obtain ⟨s4, a4, h4, n4, t4⟩ := hA
        have T04 := Lib.hid ((Turn.of (s := s) HBD.out).tr t4)
        have E1 := Lib.hid (C1.out.turn t4 n4)
        have E2 := Lib.hid (C2.out.turn t4 n4)
        have E3 := Lib.hid (C3.out.turn t4 n4)
        have H4 : Hid (MR w4 s4 mp S a4) := h4
        have N4 : Hid (∀ k ∈ s4, k ∈ s ∨ w.heap.size ≤ k) := fun k hk => (n4 k hk).imp id (fun h => Nat.le_trans HBD.out.size h)
        clear h4 n4 t4 C1 C2 C3 H3 B1 B2 B3
        have c0 : w4.cell? ⟨p, 0, none⟩ = some (.pointer (some ⟨mp, 0, none⟩)) := E1.out.cell 0 _ rfl
        have c33 : w4.cell? ⟨mp, 33, none⟩ = some (.int .i64 k) := H4.out.cell 33 _ (by rw [← HAT.out]; rfl)
        have z33 := H4.out.frz 33
        go_wp2_with (first
          | (refine wpList_mputN H4.out rfl rfl 3 (.tmp 23) (.tmp 21) rfl 33 (.int .i64 (k + 1 : Nat)) (by kernel_rfl) (by kernel_rfl) rfl info_intS (by decide) { S with at_ := k + 1 } a4 (by kernel_rfl) (fun _ _ hm => hm) ?_; intro W5 H5 T5)
          | fail)
        have F1 := Lib.hid (E1.out.turn T5.out (fun _ hk => .inl hk))
        have F2 := Lib.hid (E2.out.turn T5.out (fun _ hk => .inl hk))
        have F3 := Lib.hid (E3.out.turn T5.out (fun _ hk => .inl hk))
        have c0 : ∀ e : Ext W5, e.W.cell? ⟨p, 0, none⟩ = some (.pointer (some ⟨mp, 0, none⟩)) := fun e => ext_cell (F1.out.cell 0 _ rfl) e
        have c1 : ∀ e : Ext W5, e.W.cell? ⟨q, 0, none⟩ = some (.slice (some ad) (k + 1) c) := fun e => ext_cell (F2.out.cell 0 _ rfl) e
        have c2 : ∀ e : Ext W5, e.W.cell? ⟨mp, 33, none⟩ = some (.int .i64 ((k : Int) + 1)) := fun e => ext_cell (H5.out.cell 33 _ rfl) e
        clear E1 E2 E3 c33 z33
        refine wp_region_mix (fun w' => ∃ e : Ext W5, w' = e.W) [(true, 0), (true, 1), (true, 2), (true, 3), (true, 4), (true, 5), (true, 6)] [] (by kernel_rfl) (by kernel_rfl) (by intro _ _ d _ _ h; cases d <;> exact h) ⟨⟨W5.drew, (Below.refl _ _).drew⟩, rfl⟩ ?_
        simp only [pickM, pickL, List.drop_succ_cons, List.drop_zero]
        repeat (first | (refine mix_pure (by rfl) (by rfl) ?_; intro K hK; go_big_quiet_op; go_big_quiet_on) | (refine mix_nilc ⟨mp, 0, none⟩ (by rfl) (by kernel_rfl) ?_; go_simp))
        refine mix_nil (wpList_nil ?_)
        clear c0 c1 c2
        have hbd : Below W5.heap.size W5 W5.drew := (Below.refl _ _).drew
        have H6 := Lib.hid (H5.out.below hbd)
        have T46 := Lib.hid (T5.out.tr (Turn.of (s := s4) hbd))
        have G3 := Lib.hid (F3.out.turn (Turn.of (s := s4) hbd) (fun _ hk => .inl hk))
        clear hbd F1 F2 F3 H5 T5
        generalize W5.drew = W6 at *
        have c3 : W6.cell? ⟨r, 0, none⟩ = some (.func (.func 121) #[.pointer (some ⟨mp, 0, none⟩)] #[]) := G3.out.cell 0 _ rfl
        go_wp2_with fail
        refine (mXlCode H6.out HRAW.out).mono ?_
        rintro e w7 ⟨rfl, hA7⟩
        go_wp2_with fail
        go_end0
        exact ⟨rfl, HSS.out ▸ (hA7.after (fun _ hk => .inl hk) T46.out).after N4.out T04.out⟩
      · obtain rfl : av = .func (.func 108) #[.pointer (some ⟨mp, 0, none⟩)] #[] := HX.out
        go_enter Tryz.func131, Tryz.ntmps131
        go_wp2_with fail
        refine wp_region_mix (fun w' => ∃ e : Ext w, w' = e.W) [(true, 0), (true, 1), (true, 2), (true, 3), (true, 4), (true, 5), (true, 6), (true, 7), (true, 8), (true, 9)] [10, 11] (by kernel_rfl) (by kernel_rfl) (by intro _ _ d _ _ h; cases d <;> exact h) ⟨⟨w.drew, (Below.refl _ _).drew⟩, rfl⟩ ?_
        simp only [pickM, pickL, List.drop_succ_cons, List.drop_zero]
        repeat (first | (refine mix_pure (by rfl) (by rfl) ?_; intro K hK; go_big_quiet_op; go_big_quiet_on) | (refine mix_nilc ⟨mp, 0, none⟩ (by rfl) (by kernel_rfl) ?_; go_simp))
        refine mix_nil ?_
        clear c0 c1 c2 c3
        have hbd : Below w.heap.size w w.drew := (Below.refl _ _).drew
        have H3 := Lib.hid (HH.out.below hbd)
        have C1 := Lib.hid (B1.out.turn (Turn.of (s := s) hbd) (fun _ hk => .inl hk))
        have C2 := Lib.hid (B2.out.turn (Turn.of (s := s) hbd) (fun _ hk => .inl hk))
        have C3 := Lib.hid (B3.out.turn (Turn.of (s := s) hbd) (fun _ hk => .inl hk))
        have HBD := Lib.hid hbd
        clear hbd
        generalize w.drew = W4 at *
        go_wp2_with fail
        refine (mMust H3.out _).mono ?_
        rintro e w4 ⟨rfl, hA⟩
        obtain ⟨s4, a4, h4, n4, t4⟩ := hA
        have T04 := Lib.hid ((Turn.of (s := s) HBD.out).tr t4)
        have E1 := Lib.hid (C1.out.turn t4 n4)
        have E2 := Lib.hid (C2.out.turn t4 n4)
        have E3 := Lib.hid (C3.out.turn t4 n4)
        have H4 : Hid (MR w4 s4 mp S a4) := h4
        have N4 : Hid (∀ k ∈ s4, k ∈ s ∨ w.heap.size ≤ k) := fun k hk => (n4 k hk).imp id (fun h => Nat.le_trans HBD.out.size h)
        clear h4 n4 t4 C1 C2 C3 H3 B1 B2 B3
        have c0 : w4.cell? ⟨p, 0, none⟩ = some (.pointer (some ⟨mp, 0, none⟩)) := E1.out.cell 0 _ rfl
        have c33 : w4.cell? ⟨mp, 33, none⟩ = some (.int .i64 k) := H4.out.cell 33 _ (by rw [← HAT.out]; rfl)
        have z33 := H4.out.frz 33
        go_wp2_with (first
          | (refine wpList_mputN H4.out rfl rfl 3 (.tmp 23) (.tmp 21) rfl 33 (.int .i64 (k + 1 : Nat)) (by kernel_rfl) (by kernel_rfl) rfl info_intS (by decide) { S with at_ := k + 1 } a4 (by kernel_rfl) (fun _ _ hm => hm) ?_; intro W5 H5 T5)
          | fail)
        have F1 := Lib.hid (E1.out.turn T5.out (fun _ hk => .inl hk))
        have F2 := Lib.hid (E2.out.turn T5.out (fun _ hk => .inl hk))
        have F3 := Lib.hid (E3.out.turn T5.out (fun _ hk => .inl hk))
        have c0 : ∀ e : Ext W5, e.W.cell? ⟨p, 0, none⟩ = some (.pointer (some ⟨mp, 0, none⟩)) := fun e => ext_cell (F1.out.cell 0 _ rfl) e
        have c1 : ∀ e : Ext W5, e.W.cell? ⟨q, 0, none⟩ = some (.slice (some ad) (k + 1) c) := fun e => ext_cell (F2.out.cell 0 _ rfl) e
        have c2 : ∀ e : Ext W5, e.W.cell? ⟨mp, 33, none⟩ = some (.int .i64 ((k : Int) + 1)) := fun e => ext_cell (H5.out.cell 33 _ rfl) e
        clear E1 E2 E3 c33 z33
        refine wp_region_mix (fun w' => ∃ e : Ext W5, w' = e.W) [(true, 0), (true, 1), (true, 2), (true, 3), (true, 4), (true, 5), (true, 6)] [] (by kernel_rfl) (by kernel_rfl) (by intro _ _ d _ _ h; cases d <;> exact h) ⟨⟨W5.drew, (Below.refl _ _).drew⟩, rfl⟩ ?_
        simp only [pickM, pickL, List.drop_succ_cons, List.drop_zero]
        repeat (first | (refine mix_pure (by rfl) (by rfl) ?_; intro K hK; go_big_quiet_op; go_big_quiet_on) | (refine mix_nilc ⟨mp, 0, none⟩ (by rfl) (by kernel_rfl) ?_; go_simp))
        refine mix_nil (wpList_nil ?_)
        clear c0 c1 c2
        have hbd : Below W5.heap.size W5 W5.drew := (Below.refl _ _).drew
        have H6 := Lib.hid (H5.out.below hbd)
        have T46 := Lib.hid (T5.out.tr (Turn.of (s := s4) hbd))
        have G3 := Lib.hid (F3.out.turn (Turn.of (s := s4) hbd) (fun _ hk => .inl hk))
        clear hbd F1 F2 F3 H5 T5
        generalize W5.drew = W6 at *
        have c3 : W6.cell? ⟨r, 0, none⟩ = some (.func (.func 108) #[.pointer (some ⟨mp, 0, none⟩)] #[]) := G3.out.cell 0 _ rfl
        go_wp2_with fail
        refine (mEnd H6.out).mono ?_
        rintro e w7 ⟨rfl, hA7⟩
        go_wp2_with fail
        go_end0
        exact ⟨rfl, HSS.out ▸ (hA7.after (fun _ hk => .inl hk) T46.out).after N4.out T04.out⟩
    · rw [if_neg hkn] at HSS
      have g1 : (((k : Int) + 1) == (n : Int)) = false := by simp; omega
      have g2 : ¬ (k : Int) + 1 = (n : Int) := by omega
      go_enter Tryz.func131, Tryz.ntmps131
      go_wp2_with fail
      refine wp_region_mix (fun w' => ∃ e : Ext w, w' = e.W) [(true, 0), (true, 1), (true, 2), (true, 3), (true, 4), (true, 5), (true, 6), (true, 7), (true, 8), (true, 9)] [10, 11] (by kernel_rfl) (by kernel_rfl) (by intro _ _ d _ _ h; cases d <;> exact h) ⟨⟨w.drew, (Below.refl _ _).drew⟩, rfl⟩ ?_
      simp only [pickM, pickL, List.drop_succ_cons, List.drop_zero]
      repeat (first | (refine mix_pure (by rfl) (by rfl) ?_; intro K hK; go_big_quiet_op; go_big_quiet_on) | (refine mix_nilc ⟨mp, 0, none⟩ (by rfl) (by kernel_rfl) ?_; go_simp))
      refine mix_nil ?_
      clear c0 c1 c2 c3
      have hbd : Below w.heap.size w w.drew := (Below.refl _ _).drew
      have H3 := Lib.hid (HH.out.below hbd)
      have C1 := Lib.hid (B1.out.turn (Turn.of (s := s) hbd) (fun _ hk => .inl hk))
      have C2 := Lib.hid (B2.out.turn (Turn.of (s := s) hbd) (fun _ hk => .inl hk))
      have C3 := Lib.hid (B3.out.turn (Turn.of (s := s) hbd) (fun _ hk => .inl hk))
      have HBD := Lib.hid hbd
      clear hbd
      generalize w.drew = W4 at *
      go_wp2_with fail
      refine (mMust H3.out _).mono ?_
      rintro e w4 ⟨rfl, hA⟩
      obtain ⟨s4, a4, h4, n4, t4⟩ := hA
      have T04 := Lib.hid ((Turn.of (s := s) HBD.out).tr t4)
      have E1 := Lib.hid (C1.out.turn t4 n4)
      have E2 := Lib.hid (C2.out.turn t4 n4)
      have E3 := Lib.hid (C3.out.turn t4 n4)
      have H4 : Hid (MR w4 s4 mp S a4) := h4
      have N4 : Hid (∀ k ∈ s4, k ∈ s ∨ w.heap.size ≤ k) := fun k hk => (n4 k hk).imp id (fun h => Nat.le_trans HBD.out.size h)
      clear h4 n4 t4 C1 C2 C3 H3 B1 B2 B3
      have c0 : w4.cell? ⟨p, 0, none⟩ = some (.pointer (some ⟨mp, 0, none⟩)) := E1.out.cell 0 _ rfl
      have c33 : w4.cell? ⟨mp, 33, none⟩ = some (.int .i64 k) := H4.out.cell 33 _ (by rw [← HAT.out]; rfl)
      have z33 := H4.out.frz 33
      go_wp2_with (first
        | (refine wpList_mputN H4.out rfl rfl 3 (.tmp 23) (.tmp 21) rfl 33 (.int .i64 (k + 1 : Nat)) (by kernel_rfl) (by kernel_rfl) rfl info_intS (by decide) { S with at_ := k + 1 } a4 (by kernel_rfl) (fun _ _ hm => hm) ?_; intro W5 H5 T5)
        | fail)
      have F1 := Lib.hid (E1.out.turn T5.out (fun _ hk => .inl hk))
      have F2 := Lib.hid (E2.out.turn T5.out (fun _ hk => .inl hk))
      have F3 := Lib.hid (E3.out.turn T5.out (fun _ hk => .inl hk))
      have c0 : ∀ e : Ext W5, e.W.cell? ⟨p, 0, none⟩ = some (.pointer (some ⟨mp, 0, none⟩)) := fun e => ext_cell (F1.out.cell 0 _ rfl) e
      have c1 : ∀ e : Ext W5, e.W.cell? ⟨q, 0, none⟩ = some (.slice (some ad) n c) := fun e => ext_cell (F2.out.cell 0 _ rfl) e
      have c2 : ∀ e : Ext W5, e.W.cell? ⟨mp, 33, none⟩ = some (.int .i64 ((k : Int) + 1)) := fun e => ext_cell (H5.out.cell 33 _ rfl) e
      clear E1 E2 E3 c33 z33
      refine wp_region_mix (fun w' => ∃ e : Ext W5, w' = e.W) [(true, 0), (true, 1), (true, 2), (true, 3), (true, 4), (true, 5), (true, 6)] [] (by kernel_rfl) (by kernel_rfl) (by intro _ _ d _ _ h; cases d <;> exact h) ⟨⟨W5.drew, (Below.refl _ _).drew⟩, rfl⟩ ?_
      simp only [pickM, pickL, List.drop_succ_cons, List.drop_zero]
      repeat (first | (refine mix_pure (by rfl) (by rfl) ?_; intro K hK; go_big_quiet_op; go_big_quiet_on) | (refine mix_nilc ⟨mp, 0, none⟩ (by rfl) (by kernel_rfl) ?_; go_simp))
      refine mix_nil (wpList_nil ?_)
      clear c0 c1 c2
      have hbd : Below W5.heap.size W5 W5.drew := (Below.refl _ _).drew
      have H6 := Lib.hid (H5.out.below hbd)
      have T46 := Lib.hid (T5.out.tr (Turn.of (s := s4) hbd))
      have G3 := Lib.hid (F3.out.turn (Turn.of (s := s4) hbd) (fun _ hk => .inl hk))
      clear hbd F1 F2 F3 H5 T5
      generalize W5.drew = W6 at *
      go_wp2_with fail
      go_end0
      exact ⟨rfl, HSS.out ▸ ((MAct.same H6.out T46.out).after N4.out T04.out)⟩
  · rw [if_neg hby] at HSS
    have g0 : ((b : Int) == (y : Int)) = false := by simp; omega
    go_enter Tryz.func131, Tryz.ntmps131
    go_wp2_with fail
    refine wp_region_mix (fun w' => ∃ e : Ext w, w' = e.W) [(true, 0), (true, 1), (true, 2), (true, 3), (true, 4), (true, 5), (true, 6), (true, 7), (true, 8), (true, 9)] [10, 11] (by kernel_rfl) (by kernel_rfl) (by intro _ _ d _ _ h; cases d <;> exact h) ⟨⟨w.drew, (Below.refl _ _).drew⟩, rfl⟩ ?_
    simp only [pickM, pickL, List.drop_succ_cons, List.drop_zero]
    repeat (first | (refine mix_pure (by rfl) (by rfl) ?_; intro K hK; go_big_quiet_op; go_big_quiet_on) | (refine mix_nilc ⟨mp, 0, none⟩ (by rfl) (by kernel_rfl) ?_; go_simp))
    refine mix_nil ?_
    clear c0 c1 c2 c3
    have hbd : Below w.heap.size w w.drew := (Below.refl _ _).drew
    have H3 := Lib.hid (HH.out.below hbd)
    have C1 := Lib.hid (B1.out.turn (Turn.of (s := s) hbd) (fun _ hk => .inl hk))
    have C2 := Lib.hid (B2.out.turn (Turn.of (s := s) hbd) (fun _ hk => .inl hk))
    have C3 := Lib.hid (B3.out.turn (Turn.of (s := s) hbd) (fun _ hk => .inl hk))
    have HBD := Lib.hid hbd
    clear hbd
    generalize w.drew = W4 at *
    go_wp2_with fail
    refine (mMust H3.out _).mono ?_
    rintro e w4 ⟨rfl, hA⟩
    have hA4 := hA.pre HBD.out
    clear hA
    go_wp2_with fail
    go_end0
    exact ⟨rfl, HSS.out ▸ hA4⟩
end Go.Proofs.YtlmdkmflbhnlgaaGreat
namespace Go.Proofs.YtlmdkmflbhnlgaaGreat
open Go.RowKit
variable {w : World} {s : List Nat} {mp : Nat} {S : MS} {a : MA}
/-- What is read of a row with fixed stuffing: so many bits, so many stuff bits. -/
theorem fgetE_inv (ev : Nat) (h1 : 1 ≤ ev) : ∀ (l : List Nat) (last left : Nat) (due : Bool) (out : List Nat), left ≤ ev → (due = true → left = ev) →
    (fgetE ev last left due out l).1 = 4 ∨ ∃ D U left', left' ≤ ev ∧ l.length + out.length = D + U ∧ D + left' = out.length + left + U * ev ∧ (((fgetE ev last left due out l).1 = 0 ∧ (fgetE ev last left due out l).2.length = D) ∨ ((fgetE ev last left due out l).1 = 7 ∧ left' = ev))
  | [], last, left, due, out, hl, hd => by
    right
    refine ⟨out.length, 0, left, hl, by simp, by simp, ?_⟩
    cases due
    · left; exact ⟨rfl, rfl⟩
    · right; exact ⟨rfl, hd rfl⟩
  | b :: r, last, left, due, out, hl, hd => by
    unfold fgetE
    by_cases h0 : left = 0
    · subst h0
      rw [if_pos rfl]
      by_cases hb : 1 - last = b
      · rw [if_pos hb]
        rcases fgetE_inv ev h1 r (1 - last) ev true out (Nat.le_refl _) (fun _ => rfl) with h | ⟨D, U, left', k1, k2, k3, k4⟩
        · exact .inl h
        · refine .inr ⟨D, U + 1, left', k1, by simp only [List.length_cons]; omega, ?_, k4⟩
          rw [Nat.succ_mul]; omega
      · rw [if_neg hb]; exact .inl rfl
    · rw [if_neg h0]
      rcases fgetE_inv ev h1 r b (left - 1) false (out ++ [b]) (by omega) (fun h => by cases h) with h | ⟨D, U, left', k1, k2, k3, k4⟩
      · exact .inl h
      · refine .inr ⟨D, U, left', k1, ?_, ?_, k4⟩
        · rw [List.length_append] at k2; simp only [List.length_cons, List.length_nil] at k2 ⊢; omega
        · rw [List.length_append] at k3; simp only [List.length_cons, List.length_nil] at k3; omega
theorem fgetE_bits (ev : Nat) : ∀ (l : List Nat) (last left : Nat) (due : Bool) (out : List Nat), (∀ x ∈ l, x ≤ 1) → (∀ x ∈ out, x ≤ 1) → ∀ x ∈ (fgetE ev last left due out l).2, x ≤ 1
  | [], last, left, due, out, hl, ho => by
    intro x hx
    cases due
    · exact ho x hx
    · cases hx
  | b :: r, last, left, due, out, hl, ho => by
    unfold fgetE
    split
    · split
      · exact fgetE_bits ev r _ _ _ _ (fun x hx => hl x (List.mem_cons_of_mem _ hx)) ho
      · intro x hx; cases hx
    · exact fgetE_bits ev r _ _ _ _ (fun x hx => hl x (List.mem_cons_of_mem _ hx)) (fun x hx => (List.mem_append.1 hx).elim (ho x) (fun hx => by simp at hx; rw [hx]; exact hl b (List.mem_cons_self ..)))
/-- How many bits a part has, and by which way. -/
def DoFits (ev : Nat) (ah : Bool) (size : Nat) : Do → Prop
  | .fd k => (k = 2 ∨ k = 3) ∧ ev = 4 ∧ ah = true ∧ size = fsize (4 + kSize k) 4 true
  | .xl1 => ev = 8 ∧ ah = false ∧ size = fsize 20 8 false
  | .xl2 z => 1 ≤ z ∧ z ≤ 2048 ∧ ev = 8 ∧ ah = false ∧ size = fsize (109 + 8 * z) 8 false
def doN : Do → Nat
  | .fd k => 4 + kSize k
  | .xl1 => 20
  | .xl2 z => 109 + 8 * z
theorem fget_full (ev prev size : Nat) (ah : Bool) (d : Do) (l : List Nat) (hd : DoFits ev ah size d) (hl : l.length = size) (h4 : (fgetN ev ah prev l).1 ≠ 4) : (fgetN ev ah prev l).1 = 0 ∧ (fgetN ev ah prev l).2.length = doN d := by
  unfold fgetN at *
  cases d with
  | fd k =>
    obtain ⟨hk, rfl, rfl, hs⟩ := hd
    rcases fgetE_inv 4 (by omega) l prev 0 false [] (by omega) (fun h => by cases h) with h | ⟨D, U, left', k1, k2, k3, k4⟩
    · exact absurd h h4
    · simp only [List.length_nil] at k2 k3
      have hds : D = doN (.fd k) ∧ left' ≠ 4 := by
        rcases hk with rfl | rfl; (have e1 : fsize (4 + kSize 2) 4 true = 27 := rfl; have e2 : doN (.fd 2) = 21 := rfl; omega); (have e1 : fsize (4 + kSize 3) 4 true = 32 := rfl; have e2 : doN (.fd 3) = 25 := rfl; omega)
      rcases k4 with ⟨k4, k5⟩ | ⟨k4, k5⟩
      · exact ⟨k4, k5.trans hds.1⟩
      · exact absurd k5 hds.2
  | xl1 =>
    obtain ⟨rfl, rfl, hs⟩ := hd
    rcases fgetE_inv 8 (by omega) l prev 8 false [] (by omega) (fun h => by cases h) with h | ⟨D, U, left', k1, k2, k3, k4⟩
    · exact absurd h h4
    · simp only [List.length_nil] at k2 k3
      have hds : D = doN .xl1 ∧ left' ≠ 8 := by have e1 : fsize 20 8 false = 22 := rfl; have e2 : doN .xl1 = 20 := rfl; omega
      rcases k4 with ⟨k4, k5⟩ | ⟨k4, k5⟩
      · exact ⟨k4, k5.trans hds.1⟩
      · exact absurd k5 hds.2
  | xl2 z =>
    obtain ⟨hz1, hz2, rfl, rfl, hs⟩ := hd
    rcases fgetE_inv 8 (by omega) l prev 8 false [] (by omega) (fun h => by cases h) with h | ⟨D, U, left', k1, k2, k3, k4⟩
    · exact absurd h h4
    · simp only [List.length_nil] at k2 k3
      have e1 : fsize (109 + 8 * z) 8 false = 122 + 9 * z := by unfold fsize; rw [if_neg (by omega), if_neg (by simp)]; omega
      have hds : D = doN (.xl2 z) ∧ left' ≠ 8 := by have e2 : doN (.xl2 z) = 109 + 8 * z := rfl; omega
      rcases k4 with ⟨k4, k5⟩ | ⟨k4, k5⟩
      · exact ⟨k4, k5.trans hds.1⟩
      · exact absurd k5 hds.2
/-- What a row that has grown leaves of the machine. -/
theorem Row.ge0 {w : World} {base t c : Nat} {A : Option Addr} {xs : List Value} (h : Row w base t A c xs) : Row w 0 t A c xs := ⟨h.1, h.2.imp id (by rintro ⟨g, cap, cur, hv, hg, r⟩; exact ⟨g, cap, cur, hv, Nat.zero_le _, r⟩)⟩
theorem MR.grown {w w3 w4 : World} (h : MR w s mp S a) {A3 : Option Addr} {X : Option Addr} (hX : ∀ k ∈ blkA X, k ∈ s ∧ k ≠ mp) (ht : Turn (blkA X) w w3) (hn : ∀ k ∈ blkA A3, k ∈ blkA X ∨ w.heap.size ≤ k) (ht2 : Turn [mp] w3 w4) :
    Turn s w w4 ∧ (∀ k ∈ blkA A3 ++ s, k ∈ s ∨ w.heap.size ≤ k) ∧ w3.heap[mp]? = some (.cells (mca S a) 59 (0, 0)) ∧ (∀ k ∈ s, k < w3.heap.size) := by
  have t1 : Turn s w w3 := ht.mono (fun k hk => .inl (hX k hk).1)
  have t2 : Turn s w3 w4 := ht2.mono (fun k hk => .inl (by simp at hk; rw [hk]; exact h.rest.mem.1))
  refine ⟨t1.tr t2, fun k hk => ?_, ht.heap h.cells (fun hm => (hX mp hm).2 rfl), fun k hk => Nat.lt_of_lt_of_le (h.rest.mem.2 k hk) t1.size⟩
  rcases List.mem_append.1 hk with hk | hk
  · exact (hn k hk).imp (fun h' => (hX k h').1) id
  · exact .inl hk
theorem RowU.app {w w3 w4 : World} {mp : Nat} {s s' : List Nat} {X A : Option Addr} {c : Nat} {l : List Nat} (h : RowU w s A c l) (ht : Turn (blkA X) w w3) (hd : ∀ k ∈ blkA A, k ∉ blkA X) (hm : ∀ k ∈ blkA A, k ≠ mp) (ht2 : Turn [mp] w3 w4) (hs : ∀ k ∈ s, k ∈ s') : RowU w4 s' A c l :=
  ⟨((h.turn ht hd).turn ht2 (fun k hk => by simp only [List.mem_singleton]; exact hm k hk)).1, fun k hk => hs k (h.2 k hk)⟩
theorem MR.ownApp {w w3 w4 : World} (h : MR w s mp S a) {A3 : Option Addr} {c3 b : Nat} (ht : Turn (blkA a.oA) w w3) (hr : Row w3 0 5 A3 c3 (bys (S.own ++ [b]))) (hn : ∀ k ∈ blkA A3, k ∈ blkA a.oA ∨ w.heap.size ≤ k)
    (hc : w4.heap[mp]? = some (.cells (mca { S with own := S.own ++ [b] } { a with oA := A3, oc := c3 }) 59 (0, 0))) (ht2 : Turn [mp] w3 w4) :
    MR w4 (blkA A3 ++ s) mp { S with own := S.own ++ [b] } { a with oA := A3, oc := c3 } ∧ Turn s w w4 ∧ ∀ k ∈ blkA A3 ++ s, k ∈ s ∨ w.heap.size ≤ k := by
  have hne : ∀ {A : Option Addr} {c : Nat} {l : List Nat}, RowU w s A c l → ∀ k ∈ blkA A, k ≠ mp := fun hR => hR.1.ne_ty h.cells (by decide)
  obtain ⟨t04, hs', hm3, hs3⟩ := h.grown (fun k hk => ⟨h.rest.own.2 k hk, hne h.rest.own k hk⟩) ht hn ht2
  have hA3 : ∀ k ∈ blkA A3, k ≠ mp := hr.ne_ty hm3 (by decide)
  have hin : ∀ k ∈ s, k ∈ blkA A3 ++ s := fun k hk => List.mem_append_right _ hk
  have hfr : ∀ {B : Option Addr} {c : Nat} {l : List Nat}, RowU w s B c l → (∀ k ∈ blkA B, k ∉ blkA a.oA) → ∀ k ∈ blkA B, k ∉ blkA A3 := fun hR hd k hk hm => (hn k hm).elim (hd k hk) (fun hge => by have := h.rest.mem.2 k (hR.2 k hk); omega)
  have hA3l : ∀ k ∈ blkA A3, k < w4.heap.size := fun k hk => Nat.lt_of_lt_of_le (hr.lt_ k hk) ht2.size
  refine ⟨⟨hc, ⟨⟨hin _ h.rest.mem.1, fun k hk => (List.mem_append.1 hk).elim (hA3l k) (fun hk => Nat.lt_of_lt_of_le (h.rest.mem.2 k hk) t04.size)⟩, h.rest.raw.app ht h.rest.ro (hne h.rest.raw) ht2 hin, h.rest.l.app ht h.rest.lo (hne h.rest.l) ht2 hin, ⟨hr.turn ht2 (fun ad e hm => by simp at hm; exact hA3 _ (by rw [e]; simp [blkA]) hm), fun k hk => List.mem_append_left _ hk⟩, h.rest.rl, hfr h.rest.raw h.rest.ro, hfr h.rest.l h.rest.lo, h.rest.sf.turn t04 hs', h.rest.f.turn t04 hs', h.rest.step.turn t04 hs', h.rest.next.turn t04 hs', ⟨h.rest.gho.row.app ht h.rest.gho.o (hne h.rest.gho.row) ht2 hin, h.rest.gho.r, h.rest.gho.l, hfr h.rest.gho.row h.rest.gho.o⟩⟩⟩, t04, hs'⟩
theorem MR.rawApp {w w3 w4 : World} (h : MR w s mp S a) {A3 : Option Addr} {c3 b : Nat} (ht : Turn (blkA a.rA) w w3) (hr : Row w3 0 5 A3 c3 (bys (S.raw ++ [b]))) (hn : ∀ k ∈ blkA A3, k ∈ blkA a.rA ∨ w.heap.size ≤ k)
    (hc : w4.heap[mp]? = some (.cells (mca { S with raw := S.raw ++ [b] } { a with rA := A3, rc := c3 }) 59 (0, 0))) (ht2 : Turn [mp] w3 w4) :
    MR w4 (blkA A3 ++ s) mp { S with raw := S.raw ++ [b] } { a with rA := A3, rc := c3 } ∧ Turn s w w4 ∧ ∀ k ∈ blkA A3 ++ s, k ∈ s ∨ w.heap.size ≤ k := by
  have hne : ∀ {A : Option Addr} {c : Nat} {l : List Nat}, RowU w s A c l → ∀ k ∈ blkA A, k ≠ mp := fun hR => hR.1.ne_ty h.cells (by decide)
  obtain ⟨t04, hs', hm3, hs3⟩ := h.grown (fun k hk => ⟨h.rest.raw.2 k hk, hne h.rest.raw k hk⟩) ht hn ht2
  have hA3 : ∀ k ∈ blkA A3, k ≠ mp := hr.ne_ty hm3 (by decide)
  have hin : ∀ k ∈ s, k ∈ blkA A3 ++ s := fun k hk => List.mem_append_right _ hk
  have hfr : ∀ {B : Option Addr} {c : Nat} {l : List Nat}, RowU w s B c l → (∀ k ∈ blkA B, k ∉ blkA a.rA) → ∀ k ∈ blkA B, k ∉ blkA A3 := fun hR hd k hk hm => (hn k hm).elim (hd k hk) (fun hge => by have := h.rest.mem.2 k (hR.2 k hk); omega)
  have hA3l : ∀ k ∈ blkA A3, k < w4.heap.size := fun k hk => Nat.lt_of_lt_of_le (hr.lt_ k hk) ht2.size
  refine ⟨⟨hc, ⟨⟨hin _ h.rest.mem.1, fun k hk => (List.mem_append.1 hk).elim (hA3l k) (fun hk => Nat.lt_of_lt_of_le (h.rest.mem.2 k hk) t04.size)⟩, ⟨hr.turn ht2 (fun ad e hm => by simp at hm; exact hA3 _ (by rw [e]; simp [blkA]) hm), fun k hk => List.mem_append_left _ hk⟩, h.rest.l.app ht (fun k hk hm => h.rest.rl k hm hk) (hne h.rest.l) ht2 hin, h.rest.own.app ht (fun k hk hm => h.rest.ro k hm hk) (hne h.rest.own) ht2 hin, (fun k hk hm => hfr h.rest.l (fun k hk hm => h.rest.rl k hm hk) k hm hk), (fun k hk hm => hfr h.rest.own (fun k hk hm => h.rest.ro k hm hk) k hm hk), h.rest.lo, h.rest.sf.turn t04 hs', h.rest.f.turn t04 hs', h.rest.step.turn t04 hs', h.rest.next.turn t04 hs', ⟨h.rest.gho.row.app ht h.rest.gho.r (hne h.rest.gho.row) ht2 hin, hfr h.rest.gho.row h.rest.gho.r, h.rest.gho.l, h.rest.gho.o⟩⟩⟩, t04, hs'⟩
theorem MR.lApp {w w3 w4 : World} (h : MR w s mp S a) {A3 : Option Addr} {c3 b : Nat} (ht : Turn (blkA a.lA) w w3) (hr : Row w3 0 5 A3 c3 (bys (S.l ++ [b]))) (hn : ∀ k ∈ blkA A3, k ∈ blkA a.lA ∨ w.heap.size ≤ k)
    (hc : w4.heap[mp]? = some (.cells (mca { S with l := S.l ++ [b] } { a with lA := A3, lc := c3 }) 59 (0, 0))) (ht2 : Turn [mp] w3 w4) :
    MR w4 (blkA A3 ++ s) mp { S with l := S.l ++ [b] } { a with lA := A3, lc := c3 } ∧ Turn s w w4 ∧ ∀ k ∈ blkA A3 ++ s, k ∈ s ∨ w.heap.size ≤ k := by
  have hne : ∀ {A : Option Addr} {c : Nat} {l : List Nat}, RowU w s A c l → ∀ k ∈ blkA A, k ≠ mp := fun hR => hR.1.ne_ty h.cells (by decide)
  obtain ⟨t04, hs', hm3, hs3⟩ := h.grown (fun k hk => ⟨h.rest.l.2 k hk, hne h.rest.l k hk⟩) ht hn ht2
  have hA3 : ∀ k ∈ blkA A3, k ≠ mp := hr.ne_ty hm3 (by decide)
  have hin : ∀ k ∈ s, k ∈ blkA A3 ++ s := fun k hk => List.mem_append_right _ hk
  have hfr : ∀ {B : Option Addr} {c : Nat} {l : List Nat}, RowU w s B c l → (∀ k ∈ blkA B, k ∉ blkA a.lA) → ∀ k ∈ blkA B, k ∉ blkA A3 := fun hR hd k hk hm => (hn k hm).elim (hd k hk) (fun hge => by have := h.rest.mem.2 k (hR.2 k hk); omega)
  have hA3l : ∀ k ∈ blkA A3, k < w4.heap.size := fun k hk => Nat.lt_of_lt_of_le (hr.lt_ k hk) ht2.size
  refine ⟨⟨hc, ⟨⟨hin _ h.rest.mem.1, fun k hk => (List.mem_append.1 hk).elim (hA3l k) (fun hk => Nat.lt_of_lt_of_le (h.rest.mem.2 k hk) t04.size)⟩, h.rest.raw.app ht h.rest.rl (hne h.rest.raw) ht2 hin, ⟨hr.turn ht2 (fun ad e hm => by simp at hm; exact hA3 _ (by rw [e]; simp [blkA]) hm), fun k hk => List.mem_append_left _ hk⟩, h.rest.own.app ht (fun k hk hm => h.rest.lo k hm hk) (hne h.rest.own) ht2 hin, hfr h.rest.raw h.rest.rl, h.rest.ro, (fun k hk hm => hfr h.rest.own (fun k hk hm => h.rest.lo k hm hk) k hm hk), h.rest.sf.turn t04 hs', h.rest.f.turn t04 hs', h.rest.step.turn t04 hs', h.rest.next.turn t04 hs', ⟨h.rest.gho.row.app ht h.rest.gho.l (hne h.rest.gho.row) ht2 hin, h.rest.gho.r, hfr h.rest.gho.row h.rest.gho.l, h.rest.gho.o⟩⟩⟩, t04, hs'⟩
/-- The caller's row has grown. -/
theorem MR.ghApp {w w3 : World} (h : MR w s mp S a) {A3 : Option Addr} {c3 b : Nat} (ht : Turn (blkA S.gh.1) w w3) (hr : Row w3 0 5 A3 c3 (bys (S.gh.2.2 ++ [b]))) (hn : ∀ k ∈ blkA A3, k ∈ blkA S.gh.1 ∨ w.heap.size ≤ k) :
    MR w3 (blkA A3 ++ s) mp { S with gh := (A3, c3, S.gh.2.2 ++ [b]) } a ∧ Turn s w w3 ∧ ∀ k ∈ blkA A3 ++ s, k ∈ s ∨ w.heap.size ≤ k := by
  have hne : ∀ {A : Option Addr} {c : Nat} {l : List Nat}, RowU w s A c l → ∀ k ∈ blkA A, k ≠ mp := fun hR => hR.1.ne_ty h.cells (by decide)
  have ht2 : Turn [mp] w3 w3 := Turn.refl _ _
  obtain ⟨t04, hs', hm3, hs3⟩ := h.grown (fun k hk => ⟨h.rest.gho.row.2 k hk, hne h.rest.gho.row k hk⟩) ht hn ht2
  have hin : ∀ k ∈ s, k ∈ blkA A3 ++ s := fun k hk => List.mem_append_right _ hk
  have hfr : ∀ {B : Option Addr} {c : Nat} {l : List Nat}, RowU w s B c l → (∀ k ∈ blkA S.gh.1, k ∉ blkA B) → ∀ k ∈ blkA A3, k ∉ blkA B := fun hR hd k hk hm => (hn k hk).elim (fun hx => hd k hx hm) (fun hge => by have := h.rest.mem.2 k (hR.2 k hm); omega)
  have hA3l : ∀ k ∈ blkA A3, k < w3.heap.size := fun k hk => hr.lt_ k hk
  refine ⟨⟨hm3, ⟨⟨hin _ h.rest.mem.1, fun k hk => (List.mem_append.1 hk).elim (hA3l k) (fun hk => Nat.lt_of_lt_of_le (h.rest.mem.2 k hk) t04.size)⟩, h.rest.raw.app ht (fun k hk hm => h.rest.gho.r k hm hk) (hne h.rest.raw) ht2 hin, h.rest.l.app ht (fun k hk hm => h.rest.gho.l k hm hk) (hne h.rest.l) ht2 hin, h.rest.own.app ht (fun k hk hm => h.rest.gho.o k hm hk) (hne h.rest.own) ht2 hin, h.rest.rl, h.rest.ro, h.rest.lo, h.rest.sf.turn t04 hs', h.rest.f.turn t04 hs', h.rest.step.turn t04 hs', h.rest.next.turn t04 hs', ⟨⟨hr, fun k hk => List.mem_append_left _ hk⟩, hfr h.rest.raw h.rest.gho.r, hfr h.rest.l h.rest.gho.l, hfr h.rest.own h.rest.gho.o⟩⟩⟩, t04, hs'⟩
theorem oper_appK {P : Program} {W : World} {o : Oper} {a : Act} {Q : Exit → Act → World → Prop} {K : Act → World → Prop} (s x : Operand) (t : TypeId)
    (ho : o.op = .call { callee := .builtin .append, args := #[s, x], argTypes := #[t, t] })
    (base : Nat) (e : TypeId) (i : TypeInfo) (z : Value) (size bytes : Nat) (ht : P.underlying t = some (.slice e)) (hi : P.info? e = some i) (hz : i.zero = some z) (hsize : i.size = size) (hby : i.bytes = bytes) (hzs : z.cells.size = size) (hsz : 0 < size)
    (A : Option Addr) (n c : Nat) (xs : List Value) (hs : a.eval s = .slice A n c) (hown : W.ownsRow base e size (.slice A n c) n xs)
    (q d : Nat) (tq : TypeId) (news : List Value) (hx : a.eval x = .slice (some ⟨q, 0, none⟩) 1 d) (hq : W.heap[q]? = some (.cells news.toArray tq)) (hnl : news.length = size) (h1 : ∀ u ∈ news, u.oneCell' = true)
    (h63 : n + 1 ≤ maxLen) (hbytes : (n + 1) * bytes ≤ 140737488355328) (hbase : base ≤ W.heap.size)
    (h : ∀ (w3 : World) (A3 : Option Addr) (c3 : Nat), Hid (w3.ownsRow base e size (.slice A3 (n + 1) c3) (n + 1) (xs ++ news)) → Hid (Turn (blkA A) W w3) → Hid (∀ k ∈ blkA A3, k ∈ blkA A ∨ W.heap.size ≤ k) → K (a.put o.dst (.slice A3 (n + 1 : Nat) c3)) w3) : o.wp P a W K Q := by
  have hnews : ∀ j u, news[j]? = some u → W.cell? ((⟨q, 0, none⟩ : Addr).add j) = some u := World.news_of_block hq
  obtain ⟨v', w', hr, h2, h3, h4, h5⟩ := run_append_own_at (P := P) W base t o.type e i z size bytes ht hi hz hsize hby hzs hsz (.slice A n c) n xs hown ⟨q, 0, none⟩ 1 d news (by rw [hnl, Nat.one_mul]) hnews h1 h63 hbytes hbase
  unfold Oper.wp execOp
  simp only [ho, resolve, invoke, builtin, Sem.run_bind, Sem.run_pure, Result.andThen_ok, List.map_toArray, List.map_cons, List.map_nil, hs, hx, hr]
  have hv : ∃ A3 c3, v' = .slice A3 (n + 1 : Nat) c3 := by
    rcases h2.2 with ⟨hv, hl0⟩ | ⟨g', cap', cur, hv, hg, -⟩
    · omega
    · exact ⟨_, _, hv⟩
  obtain ⟨A3, c3, rfl⟩ := hv
  refine h w' A3 c3 h2 (grown_turn h3) ?_
  intro k hk
  cases A3 with
  | none => simp [blkA] at hk
  | some ad =>
    simp [blkA] at hk
    subst hk
    rcases h5 with h5 | h5
    · left
      cases A with
      | none => cases h5
      | some ad' => injection h5 with h5; simp [blkA, h5]
    · injection h5 with h5
      right
      omega
/-- A byte behind a row of bytes. -/
theorem oper_appU {W : World} {o : Oper} {f : Act} {Q : Exit → Act → World → Prop} {K : Act → World → Prop} (sl x : Operand)
    (ho : o.op = .call { callee := .builtin .append, args := #[sl, x], argTypes := #[22, 22] })
    (A : Option Addr) (n c : Nat) (l : List Nat) (hs : f.eval sl = .slice A n c) (hown : Row W 0 5 A c (bys l)) (hn : l.length = n) (q d b : Nat) (hx : f.eval x = .slice (some ⟨q, 0, none⟩) 1 d) (hq : W.heap[q]? = some (.cells #[.int .u8 b] 5 (0, 0))) (h63 : n ≤ 100000)
    (h : ∀ (w3 : World) (A3 : Option Addr) (c3 : Nat), Hid (Row w3 0 5 A3 c3 (bys (l ++ [b]))) → Hid (Turn (blkA A) W w3) → Hid (∀ k ∈ blkA A3, k ∈ blkA A ∨ W.heap.size ≤ k) → K (f.put o.dst (.slice A3 (n + 1 : Nat) c3)) w3) : o.wp Tryz.prog f W K Q := by
  obtain ⟨i0, hi, hz0, hz1, hz2⟩ := info_parts info_u8
  have hbl : (bys l).length = n := by rw [bys_length, hn]
  refine oper_appK sl x 22 ho 0 5 i0 (.int .u8 0) 1 1 Tryz.underlying22 hi hz0 hz1 hz2 rfl (by omega) A n c (bys l) hs (by have := hown; unfold Row at this; rwa [hbl] at this) q d 5 [.int .u8 b] hx hq rfl (by simp [Value.oneCell']) (by unfold maxLen; omega) (by omega) (Nat.zero_le _) ?_
  intro w3 A3 c3 h1 h2 h3
  refine h w3 A3 c3 ?_ h2 h3
  have e : bys (l ++ [b]) = bys l ++ [.int .u8 b] := by rw [bys_append]; rfl
  show Row w3 0 5 A3 c3 (bys (l ++ [b]))
  unfold Row
  rw [e, List.length_append, hbl]
  exact h1.out
theorem wpList_sputN {P : Program} {ops : Array Oper} {rest : List Oper} {op : Oper} {f : Act} {Q : Exit → Act → World → Prop} {g : Nat} {cs : Array Value} {t : TypeId} (hg : w.heap[g]? = some (.cells cs t (0, 0))) (hgd : op.guard = none) (hds : op.dst = none) (ty : TypeId) (x y : Operand) (ho : op.op = .store ty x y)
    (i : Nat) (v : Value) (hx : f.eval x = .pointer (some ⟨g, i, none⟩)) (hy : f.eval y = v) (h1 : v.oneCell' = true) (hi : (P.info? ty).map (·.size) = some 1) (hin : i < cs.size)
    (ds : Array Value) (hv : cs.setIfInBounds i v = ds)
    (K : ∀ W', Hid (W'.heap[g]? = some (.cells ds t (0, 0))) → Hid (Turn [g] w W') → wpList P ops Q rest f W') : wpList P ops Q (op :: rest) f w :=
  wpList_sput hg hgd ty x y ho i v hx hy h1 hi hin ds hv (by rw [hds]; exact K)
end Go.Proofs.YtlmdkmflbhnlgaaGreat
-- ScanS: The machine's parts with fixed stuffing: how a bit is taken. No condition.
namespace Go.Proofs.YtlmdkmflbhnlgaaGreat
open Go.RowKit
variable {w : World} {s : List Nat} {mp : Nat} {S : MS} {a : MA}
set_option maxRecDepth 100000 in
set_option maxHeartbeats 8000000 in
theorem mPartStep (h : MR w s mp S a) (p q r u t prev ev size b m : Nat) (ah : Bool) (d : Do) (dv : Value) (b1 : BoxV w s p #[ptr mp] 36) (b2 : BoxV w s q #[.int .u8 prev] 5) (b3 : BoxV w s r #[.int .i64 ev, .bool ah] 99) (b4 : BoxV w s u #[.int .i64 size] 3) (b5 : BoxV w s t #[dv] 159) (hv : DoOk w s mp d dv)
    (hfit : DoFits ev ah size d) (hp : prev ≤ 1) (hb : b ≤ 1) (he1 : 1 ≤ ev) (he2 : ev ≤ 64) (hm : S.own.length = m) (hm2 : m ≤ 30000) (hown : ∀ x ∈ S.own, x ≤ 1) (hraw0 : 0 < S.raw.length) (hraw : S.raw.length ≤ 30000) (hraw1 : ∀ x ∈ S.raw, x ≤ 1) (hl0 : 0 < S.l.length) (hl1 : S.l.length ≤ 1000) (hl01 : ∀ x ∈ S.l, x ≤ 1) :
    Calls Tryz.prog 127 #[.int .u8 b, .pointer (some ⟨p, 0, none⟩), .pointer (some ⟨q, 0, none⟩), .pointer (some ⟨r, 0, none⟩), .pointer (some ⟨u, 0, none⟩), .pointer (some ⟨t, 0, none⟩)] w (MDone w s mp (partStepM S prev ev ah size d b)) := by
  have hown1 : ∀ x ∈ S.own ++ [b], x ≤ 1 := fun x hx => (List.mem_append.1 hx).elim (hown x) (fun h => by simp at h; omega)
  have hlen1 : (S.own ++ [b]).length = m + 1 := by simp [hm]
  have HG := Lib.hid (fun W A c (hW : Rd W A (bys (S.own ++ [b]))) => FGet_any W A prev ev c (m + 1) ah (S.own ++ [b]) he1 he2 hp hW hlen1 (by omega) hown1)
  obtain ⟨R, hR⟩ : ∃ R, fgetN ev ah prev (S.own ++ [b]) = R := ⟨_, rfl⟩
  have hs : partStepM S prev ev ah size d b = if R.1 = 4 then badM { S with own := S.own ++ [b] } 4 else if m + 1 = size then doM { S with own := S.own ++ [b] } d R.2 else { S with own := S.own ++ [b] } := by rw [← hR, ← hlen1]; rfl
  have hfull : R.1 ≠ 4 → m + 1 = size → R.1 = 0 ∧ R.2.length = doN d := by intro h4 hsz; rw [← hR] at h4 ⊢; exact fget_full ev prev size ah d _ hfit (by rw [hlen1]; exact hsz) h4
  have hbits : ∀ x ∈ R.2, x ≤ 1 := by rw [← hR]; exact fgetE_bits ev _ _ _ _ _ hown1 (by simp)
  have h047 : R.1 = 4 ∨ R.1 = 0 ∨ R.1 = 7 := by
    rw [← hR]
    rcases fgetE_inv ev he1 (S.own ++ [b]) prev (if ah then 0 else ev) false [] (by split <;> omega) (fun h => by cases h) with h | ⟨_, _, _, _, _, _, ⟨h, _⟩ | ⟨h, _⟩⟩
    · exact .inl h
    · exact .inr (.inl h)
    · exact .inr (.inr h)
  rw [hR] at HG
  obtain ⟨T, hT⟩ : ∃ T, partStepM S prev ev ah size d b = T := ⟨_, rfl⟩
  rw [hT] at hs ⊢
  have HSS := Lib.hid hs
  have HFULL := Lib.hid hfull
  have HBITS := Lib.hid hbits
  have H047 := Lib.hid h047
  have HFIT := Lib.hid hfit
  have HH := Lib.hid h
  have B1 := Lib.hid b1
  have B2 := Lib.hid b2
  have B3 := Lib.hid b3
  have B4 := Lib.hid b4
  have B5 := Lib.hid b5
  have HV := Lib.hid hv
  have HLEN := Lib.hid hlen1
  have HM := Lib.hid hm
  have HRAW0 := Lib.hid hraw0
  have HRAW := Lib.hid hraw
  have HRAW1 := Lib.hid hraw1
  have HL0 := Lib.hid hl0
  have HL1 := Lib.hid hl1
  have HL01 := Lib.hid hl01
  have c20 : w.cell? ⟨mp, 20, none⟩ = some (.slice a.oA m a.oc) := h.cell 20 _ (by rw [← hm]; rfl)
  let l0 : List (Addr × Value) := [(⟨p, 0, none⟩, ptr mp), (⟨mp, 20, none⟩, .slice a.oA m a.oc)]
  have hce : Cels l0 w := by intro x hx; simp [l0] at hx; rcases hx with rfl | rfl; (exact b1.cell 0 _ rfl); (exact c20)
  have HCE := Lib.hid hce
  have e0 : ∀ e : Sat (Cels l0), e.W.cell? ⟨p, 0, none⟩ = some (.pointer (some ⟨mp, 0, none⟩)) := fun e => Cels.at e.h 0 rfl
  have e1 : ∀ e : Sat (Cels l0), e.W.cell? ⟨mp, 20, none⟩ = some (.slice a.oA m a.oc) := fun e => Cels.at e.h 1 rfl
  have HCN : Hid (∀ W', W'.cell? ⟨p, 0, none⟩ = some (ptr mp) → W'.cell? ⟨mp, 20, none⟩ = some (.slice a.oA m a.oc) → Cels l0 W') := by
    intro W' k1 k2 x hx
    simp [l0] at hx
    rcases hx with rfl | rfl
    · exact k1
    · exact k2
  haveI : Nonempty (Sat (Cels l0)) := ⟨⟨w, hce⟩⟩
  generalize l0 = l1 at *
  clear h b1 b2 b3 b4 b5 hv hfit hm hown hraw0 hraw hraw1 hl0 hl1 hl01 hown1 hlen1 hs hT hfull hbits h047 hce hR c20
  go_enter Tryz.func127, Tryz.ntmps127
  go_wp2_with fail
  refine wp_region_mix (fun w' => ∃ e : Sat (Cels l1), w' = e.W) [(true, 0), (true, 1), (true, 2), (true, 3), (true, 4), (true, 5), (false, 6), (false, 7), (true, 8), (true, 9)] [10] (by kernel_rfl) (by kernel_rfl) (by intro _ _ d _ _ h; cases d <;> exact h) ⟨⟨w.drew, HCE.out.drew⟩, rfl⟩ ?_
  simp only [pickM, pickL, List.drop_succ_cons, List.drop_zero]
  repeat (first | (refine mix_pure (by rfl) (by rfl) ?_; intro K hK; go_big_quiet_op; go_big_quiet_on) | (refine mix_nilc ⟨mp, 0, none⟩ (by rfl) (by kernel_rfl) ?_; go_simp))
  refine mix_eff (by rfl) ?_
  intro K hK
  go_simp
  have hb2 : Below w.heap.size w (w.alloc (.cells #[.int .u8 b] 5)).drew := (below_alloc (Below.refl _ _) _).drew
  have q2 : (w.alloc (.cells #[.int .u8 b] 5)).drew.heap[w.heap.size]? = some (.cells #[.int .u8 b] 5 (0, 0)) := heap_new_at rfl
  refine hK _ _ ⟨⟨_, HCE.out.below hb2⟩, rfl⟩ ?_
  clear hK K
  generalize (w.alloc (.cells #[.int .u8 b] 5)).drew = W2 at *
  have H2 := Lib.hid (HH.out.below hb2)
  have C1 := Lib.hid (B1.out.turn (Turn.of (s := s) hb2) (fun _ hk => .inl hk))
  have Q2 := Lib.hid q2
  have HB2 := Lib.hid hb2
  clear q2 hb2
  refine mix_eff (by rfl) ?_
  intro K hK
  refine oper_appU (.tmp 13) (.tmp 15) rfl a.oA m a.oc S.own (by kernel_rfl) H2.out.rest.own.1 HM.out w.heap.size 1 b (by kernel_rfl) Q2.out (by omega) ?_
  intro W3 A3 c3 HR3 T3 N3
  have hne : ∀ k ∈ blkA a.oA, k ≠ mp := H2.out.rest.own.1.ne_ty H2.out.cells (by decide)
  have hm3 : W3.heap[mp]? = some (.cells (mca S a) 59 (0, 0)) := T3.out.heap H2.out.cells (fun hm => hne mp hm rfl)
  have hp3 : W3.cell? ⟨p, 0, none⟩ = some (ptr mp) := cell_of_heap (T3.out.heap C1.out.1 (fun hm => C1.out.2 (H2.out.rest.own.2 p hm))) 0 _ rfl
  refine hK _ _ ⟨⟨_, HCN.out W3 hp3 (cell_of_heap hm3 20 _ (by rw [← HM.out]; rfl))⟩, rfl⟩ ?_
  clear hK K hne hp3
  have HM3 := Lib.hid hm3
  clear hm3
  go_simp
  repeat (first | (refine mix_pure (by rfl) (by rfl) ?_; intro K hK; go_big_quiet_op; go_big_quiet_on) | (refine mix_nilc ⟨mp, 0, none⟩ (by rfl) (by kernel_rfl) ?_; go_simp))
  refine mix_nil ?_
  have hds : (mca S a).setIfInBounds 20 (.slice A3 (m + 1 : Nat) c3) = mca { S with own := S.own ++ [b] } { a with oA := A3, oc := c3 } := by rw [← HLEN.out]; rfl
  refine wpList_sputN HM3.out rfl rfl 22 (.tmp 18) (.tmp 16) rfl 20 (.slice A3 (m + 1 : Nat) c3) (by kernel_rfl) (by kernel_rfl) rfl info_slcS (by simp [mca, mcs]) _ hds ?_
  intro W4 M4 T4
  refine wpList_nil ?_
  obtain ⟨h4, t4, n4⟩ := H2.out.ownApp T3.out HR3.out N3.out M4.out T4.out
  have H4 := Lib.hid h4
  have T04 : Hid (Turn s w W4) := (Turn.of HB2.out).tr t4
  have hs4 : ∀ k ∈ blkA A3 ++ s, k ∈ s ∨ w.heap.size ≤ k := fun k hk => (n4 k hk).imp id (fun h => Nat.le_trans HB2.out.size h)
  have N4 := Lib.hid hs4
  have D1 := Lib.hid (B1.out.turn T04.out hs4)
  have D2 := Lib.hid (B2.out.turn T04.out hs4)
  have D3 := Lib.hid (B3.out.turn T04.out hs4)
  have D4 := Lib.hid (B4.out.turn T04.out hs4)
  have D5 := Lib.hid (B5.out.turn T04.out hs4)
  have DV := Lib.hid (HV.out.turn T04.out hs4)
  clear h4 t4 n4 hs4 hds e0 e1 H2 C1 Q2 HR3 T3 N3 HM3 M4 T4 B1 B2 B3 B4 B5 HV HCN HCE
  obtain ⟨S1, hS1⟩ : ∃ S1, ({ S with own := S.own ++ [b] } : MS) = S1 := ⟨_, rfl⟩
  have hz : S1.own.length = m + 1 ∧ S1.raw = S.raw ∧ S1.l = S.l := by rw [← hS1]; exact ⟨HLEN.out, rfl, rfl⟩
  have hown4 : Rd W4 A3 (bys (S.own ++ [b])) := H4.out.rest.own.1.rd
  have c20' : W4.cell? ⟨mp, 20, none⟩ = some (.slice A3 (m + 1 : Nat) c3) := H4.out.cell 20 _ (by rw [← HLEN.out]; rfl)
  rw [hS1] at H4 HSS
  have HZ := Lib.hid hz
  have HO4 := Lib.hid hown4
  generalize ({ a with oA := A3, oc := c3 } : MA) = a4 at *
  generalize blkA A3 ++ s = s4 at *
  clear hS1 hz hown4
  have c0 : ∀ e : Ext W4, e.W.cell? ⟨p, 0, none⟩ = some (.pointer (some ⟨mp, 0, none⟩)) := fun e => ext_cell (D1.out.cell 0 _ rfl) e
  have c1 : ∀ e : Ext W4, e.W.cell? ⟨mp, 20, none⟩ = some (.slice A3 (m + 1 : Nat) c3) := fun e => ext_cell c20' e
  have c2 : ∀ e : Ext W4, e.W.cell? ⟨q, 0, none⟩ = some (.int .u8 prev) := fun e => ext_cell (D2.out.cell 0 _ rfl) e
  have c3' : ∀ e : Ext W4, e.W.cell? ⟨r, 0, none⟩ = some (.int .i64 ev) := fun e => ext_cell (D3.out.cell 0 _ rfl) e
  have c4 : ∀ e : Ext W4, e.W.cell? ⟨r, 1, none⟩ = some (.bool ah) := fun e => ext_cell (D3.out.cell 1 _ rfl) e
  have C20 := Lib.hid c20'
  clear c20'
  go_wp2_with fail
  refine wp_region_mix (fun w' => ∃ e : Ext W4, w' = e.W) [(true, 0), (true, 1), (true, 2), (true, 3), (true, 4), (true, 5), (false, 6), (true, 7), (true, 8), (true, 9), (true, 10), (true, 11)] [] (by kernel_rfl) (by kernel_rfl) (by intro _ _ d _ _ h; cases d <;> exact h) ⟨⟨W4.drew, (Below.refl _ _).drew⟩, rfl⟩ ?_
  simp only [pickM, pickL, List.drop_succ_cons, List.drop_zero]
  repeat (first | (refine mix_pure (by rfl) (by rfl) ?_; intro K hK; go_big_quiet_op; go_big_quiet_on) | (refine mix_nilc ⟨mp, 0, none⟩ (by rfl) (by kernel_rfl) ?_; go_simp))
  refine mix_eff (by rfl) ?_
  intro K hK
  go_simp
  refine (HG.out _ A3 c3 (HO4.out.below (Below.refl _ _).drew)).mono ?_
  rintro e w5 ⟨hres, hb5⟩
  have hb45 : Below W4.heap.size W4 w5 := below_trans (Below.refl _ _).drew hb5
  have H5 := Lib.hid (H4.out.below hb45)
  have T45 : Hid (Turn s4 W4 w5) := Turn.of hb45
  have HB45 := Lib.hid hb45
  clear hb5 hb45
  rcases H047.out with h4 | h0 | h7
  · rw [if_pos h4] at HSS
    rcases hres with ⟨h0', _⟩ | ⟨-, rfl⟩
    · omega
    rw [h4]
    go_simp
    refine hK _ _ ⟨⟨_, HB45.out⟩, rfl⟩ ?_
    clear hK K
    repeat (first | (refine mix_pure (by rfl) (by rfl) ?_; intro K hK; go_big_quiet_op; go_big_quiet_on) | (refine mix_nilc ⟨mp, 0, none⟩ (by rfl) (by kernel_rfl) ?_; go_simp))
    refine mix_nil (wpList_nil ?_)
    clear c0 c1 c2 c3' c4
    have E1 := Lib.hid (D1.out.turn T45.out (fun _ hk => .inl hk))
    have E4 := Lib.hid (D4.out.turn T45.out (fun _ hk => .inl hk))
    have E5 := Lib.hid (D5.out.turn T45.out (fun _ hk => .inl hk))
    have EV := Lib.hid (DV.out.turn T45.out (fun _ hk => .inl hk))
    have F20 := Lib.hid (Below.cell_of HB45.out C20.out)
    clear D1 D2 D3 D4 D5 DV C20 H4
    have k0 : w5.cell? ⟨p, 0, none⟩ = some (.pointer (some ⟨mp, 0, none⟩)) := E1.out.cell 0 _ rfl
    go_wp2_with fail
    refine (mBad H5.out 4).mono ?_
    rintro e w6 ⟨rfl, hA⟩
    go_wp2_with fail
    go_end0
    exact ⟨rfl, HSS.out ▸ ((hA.after (fun _ hk => .inl hk) T45.out).after N4.out T04.out)⟩
  · have hn4 : ¬ R.1 = 4 := by omega
    rw [if_neg hn4] at HSS
    rcases hres with ⟨-, A', c', rfl, hrow⟩ | ⟨hx, -⟩
    rotate_left
    · exact absurd h0 hx
    by_cases hsz : m + 1 = size
    · rw [if_pos hsz] at HSS
      obtain ⟨-, hnd⟩ := HFULL.out hn4 hsz
      subst hsz
      have k1 := hrow.cap
      have k2 := hrow.capm
      obtain ⟨g, rfl | hz0⟩ := hrow.form
      rotate_left
      · rw [bys_length, hnd] at hz0; cases d <;> simp [doN] at hz0
      have hdat : DatU w5 s4 (some ⟨g, 0, none⟩) c' R.2 := DatU.of hrow H4.out.drew.rest.mem.2
      rw [hnd]
      rw [bys_length, hnd] at k1
      have HDAT := Lib.hid hdat
      have HND := Lib.hid hnd
      clear hrow hnd hdat
      have HCONT : Hid (∀ (W : World) (hbw : Below w5.heap.size w5 W), MR W s4 mp S1 a4 → BoxV W s4 t #[dv] 159 → DoOk W s4 mp d dv → ∃ x y, (dv = .func (.func 118) #[] #[.pointer (some ⟨x, 0, none⟩), .pointer (some ⟨y, 0, none⟩)] ∧ Calls Tryz.prog 118 #[.slice (some ⟨g, 0, none⟩) (doN d) c', .pointer (some ⟨x, 0, none⟩), .pointer (some ⟨y, 0, none⟩)] W (MDone W s4 mp (doM S1 d R.2))) ∨ (dv = .func (.func 132) #[] #[.pointer (some ⟨x, 0, none⟩), .pointer (some ⟨y, 0, none⟩)] ∧ Calls Tryz.prog 132 #[.slice (some ⟨g, 0, none⟩) (doN d) c', .pointer (some ⟨x, 0, none⟩), .pointer (some ⟨y, 0, none⟩)] W (MDone W s4 mp (doM S1 d R.2))) ∨ (dv = .func (.func 133) #[] #[.pointer (some ⟨x, 0, none⟩), .pointer (some ⟨y, 0, none⟩)] ∧ Calls Tryz.prog 133 #[.slice (some ⟨g, 0, none⟩) (doN d) c', .pointer (some ⟨x, 0, none⟩), .pointer (some ⟨y, 0, none⟩)] W (MDone W s4 mp (doM S1 d R.2)))) := by
        intro W hbw hM hB hD
        have hdat := HDAT.out.turn (Turn.of (s := s4) hbw) (fun _ hk => .inl hk)
        obtain ⟨z1, z2, z3⟩ := HZ.out
        have r0 := HRAW0.out
        have r1 := HRAW.out
        have r2 := HRAW1.out
        have r3 := HL0.out
        have r4 := HL1.out
        have r5 := HL01.out
        rw [← z2] at r0 r1 r2
        rw [← z3] at r3 r4 r5
        have hnd := HND.out
        cases d with
        | fd k =>
          obtain ⟨hk, -⟩ := HFIT.out
          obtain ⟨x, y, rfl, e1, e2⟩ := hD
          exact ⟨x, y, .inl ⟨rfl, mFdFits hM x y k e1 e2 hk g c' _ R.2 hdat.1 hnd (by show kSize k + 4 = 4 + kSize k; omega) k1 k2 HBITS.out r0 r1 r2⟩⟩
        | xl1 =>
          obtain ⟨x, y, rfl, e1, e2⟩ := hD
          exact ⟨x, y, .inr (.inl ⟨rfl, mXl1 hM x y e1 e2 g c' R.2 hdat.1 hnd k1 k2 HBITS.out r0⟩)⟩
        | xl2 z =>
          obtain ⟨hz1, hz2, -⟩ := HFIT.out
          obtain ⟨x, y, rfl, e1, e2⟩ := hD
          exact ⟨x, y, .inr (.inr ⟨rfl, mXl2 hM x y z e1 e2 g c' _ R.2 hdat hnd rfl hz2 hz1 k1 k2 HBITS.out r1 r2 r3 r4 r5⟩)⟩
      generalize doN d = nd at *
      go_simp
      refine hK _ _ ⟨⟨_, HB45.out⟩, rfl⟩ ?_
      clear hK K
      repeat (first | (refine mix_pure (by rfl) (by rfl) ?_; intro K hK; go_big_quiet_op; go_big_quiet_on) | (refine mix_nilc ⟨mp, 0, none⟩ (by rfl) (by kernel_rfl) ?_; go_simp))
      refine mix_nil (wpList_nil ?_)
      clear c0 c1 c2 c3' c4
      have E1 := Lib.hid (D1.out.turn T45.out (fun _ hk => .inl hk))
      have E4 := Lib.hid (D4.out.turn T45.out (fun _ hk => .inl hk))
      have E5 := Lib.hid (D5.out.turn T45.out (fun _ hk => .inl hk))
      have EV := Lib.hid (DV.out.turn T45.out (fun _ hk => .inl hk))
      have F20 := Lib.hid (Below.cell_of HB45.out C20.out)
      clear D1 D2 D3 D4 D5 DV C20 H4
      have k0 : w5.cell? ⟨p, 0, none⟩ = some (.pointer (some ⟨mp, 0, none⟩)) := E1.out.cell 0 _ rfl
      go_wp2_with fail
      have k0 : ∀ e : Ext w5, e.W.cell? ⟨p, 0, none⟩ = some (.pointer (some ⟨mp, 0, none⟩)) := fun e => ext_cell (E1.out.cell 0 _ rfl) e
      have k1 : ∀ e : Ext w5, e.W.cell? ⟨mp, 20, none⟩ = some (.slice A3 (m + 1 : Nat) c3) := fun e => ext_cell F20.out e
      have k2 : ∀ e : Ext w5, e.W.cell? ⟨u, 0, none⟩ = some (.int .i64 (m + 1 : Nat)) := fun e => ext_cell (E4.out.cell 0 _ rfl) e
      refine wp_region_mix (fun w' => ∃ e : Ext w5, w' = e.W) [(true, 0), (true, 1), (true, 2), (true, 3), (true, 4), (true, 5), (true, 6), (true, 7)] [] (by kernel_rfl) (by kernel_rfl) (by intro _ _ d _ _ h; cases d <;> exact h) ⟨⟨w5.drew, (Below.refl _ _).drew⟩, rfl⟩ ?_
      simp only [pickM, pickL, List.drop_succ_cons, List.drop_zero]
      repeat (first | (refine mix_pure (by rfl) (by rfl) ?_; intro K hK; go_big_quiet_op; go_big_quiet_on) | (refine mix_nilc ⟨mp, 0, none⟩ (by rfl) (by kernel_rfl) ?_; go_simp))
      refine mix_nil (wpList_nil ?_)
      clear k0 k1 k2
      have hbd : Below w5.heap.size w5 w5.drew := (Below.refl _ _).drew
      have H6 := Lib.hid (H5.out.below hbd)
      have T46 : Hid (Turn s4 W4 w5.drew) := T45.out.tr (Turn.of hbd)
      have E6 := Lib.hid (E5.out.turn (Turn.of (s := s4) hbd) (fun _ hk => .inl hk))
      have EW := Lib.hid (EV.out.turn (Turn.of (s := s4) hbd) (fun _ hk => .inl hk))
      have HBD := Lib.hid hbd
      clear hbd E1 E4 E5 EV F20
      obtain ⟨x, y, ⟨rfl, hcall⟩ | ⟨rfl, hcall⟩ | ⟨rfl, hcall⟩⟩ := HCONT.out _ HBD.out H6.out E6.out EW.out
      · have k5 : w5.drew.cell? ⟨t, 0, none⟩ = some (.func (.func 118) #[] #[.pointer (some ⟨x, 0, none⟩), .pointer (some ⟨y, 0, none⟩)]) := E6.out.cell 0 _ rfl
        have HCALL := Lib.hid hcall
        clear hcall
        generalize w5.drew = W6 at *
        go_wp2_with fail
        refine HCALL.out.mono ?_
        rintro e w7 ⟨rfl, hA⟩
        go_wp2_with fail
        go_end0
        exact ⟨rfl, HSS.out ▸ ((hA.after (fun _ hk => .inl hk) T46.out).after N4.out T04.out)⟩
      · have k5 : w5.drew.cell? ⟨t, 0, none⟩ = some (.func (.func 132) #[] #[.pointer (some ⟨x, 0, none⟩), .pointer (some ⟨y, 0, none⟩)]) := E6.out.cell 0 _ rfl
        have HCALL := Lib.hid hcall
        clear hcall
        generalize w5.drew = W6 at *
        go_wp2_with fail
        refine HCALL.out.mono ?_
        rintro e w7 ⟨rfl, hA⟩
        go_wp2_with fail
        go_end0
        exact ⟨rfl, HSS.out ▸ ((hA.after (fun _ hk => .inl hk) T46.out).after N4.out T04.out)⟩
      · have k5 : w5.drew.cell? ⟨t, 0, none⟩ = some (.func (.func 133) #[] #[.pointer (some ⟨x, 0, none⟩), .pointer (some ⟨y, 0, none⟩)]) := E6.out.cell 0 _ rfl
        have HCALL := Lib.hid hcall
        clear hcall
        generalize w5.drew = W6 at *
        go_wp2_with fail
        refine HCALL.out.mono ?_
        rintro e w7 ⟨rfl, hA⟩
        go_wp2_with fail
        go_end0
        exact ⟨rfl, HSS.out ▸ ((hA.after (fun _ hk => .inl hk) T46.out).after N4.out T04.out)⟩
    · rw [if_neg hsz] at HSS
      have g1 : (((m : Int) + 1) == (size : Int)) = false := by simp; omega
      have g2 : ¬ (m : Int) + 1 = (size : Int) := by omega
      go_simp
      refine hK _ _ ⟨⟨_, HB45.out⟩, rfl⟩ ?_
      clear hK K
      repeat (first | (refine mix_pure (by rfl) (by rfl) ?_; intro K hK; go_big_quiet_op; go_big_quiet_on) | (refine mix_nilc ⟨mp, 0, none⟩ (by rfl) (by kernel_rfl) ?_; go_simp))
      refine mix_nil (wpList_nil ?_)
      clear c0 c1 c2 c3' c4
      have E1 := Lib.hid (D1.out.turn T45.out (fun _ hk => .inl hk))
      have E4 := Lib.hid (D4.out.turn T45.out (fun _ hk => .inl hk))
      have E5 := Lib.hid (D5.out.turn T45.out (fun _ hk => .inl hk))
      have EV := Lib.hid (DV.out.turn T45.out (fun _ hk => .inl hk))
      have F20 := Lib.hid (Below.cell_of HB45.out C20.out)
      clear D1 D2 D3 D4 D5 DV C20 H4
      have k0 : w5.cell? ⟨p, 0, none⟩ = some (.pointer (some ⟨mp, 0, none⟩)) := E1.out.cell 0 _ rfl
      go_wp2_with fail
      have k0 : ∀ e : Ext w5, e.W.cell? ⟨p, 0, none⟩ = some (.pointer (some ⟨mp, 0, none⟩)) := fun e => ext_cell (E1.out.cell 0 _ rfl) e
      have k1 : ∀ e : Ext w5, e.W.cell? ⟨mp, 20, none⟩ = some (.slice A3 (m + 1 : Nat) c3) := fun e => ext_cell F20.out e
      have k2 : ∀ e : Ext w5, e.W.cell? ⟨u, 0, none⟩ = some (.int .i64 size) := fun e => ext_cell (E4.out.cell 0 _ rfl) e
      refine wp_region_mix (fun w' => ∃ e : Ext w5, w' = e.W) [(true, 0), (true, 1), (true, 2), (true, 3), (true, 4), (true, 5), (true, 6), (true, 7)] [] (by kernel_rfl) (by kernel_rfl) (by intro _ _ d _ _ h; cases d <;> exact h) ⟨⟨w5.drew, (Below.refl _ _).drew⟩, rfl⟩ ?_
      simp only [pickM, pickL, List.drop_succ_cons, List.drop_zero]
      repeat (first | (refine mix_pure (by rfl) (by rfl) ?_; intro K hK; go_big_quiet_op; go_big_quiet_on) | (refine mix_nilc ⟨mp, 0, none⟩ (by rfl) (by kernel_rfl) ?_; go_simp))
      refine mix_nil (wpList_nil ?_)
      clear k0 k1 k2
      have hbd : Below w5.heap.size w5 w5.drew := (Below.refl _ _).drew
      have H6 := Lib.hid (H5.out.below hbd)
      have T46 : Hid (Turn s4 W4 w5.drew) := T45.out.tr (Turn.of hbd)
      have E6 := Lib.hid (E5.out.turn (Turn.of (s := s4) hbd) (fun _ hk => .inl hk))
      have EW := Lib.hid (EV.out.turn (Turn.of (s := s4) hbd) (fun _ hk => .inl hk))
      have HBD := Lib.hid hbd
      clear hbd E1 E4 E5 EV F20
      go_wp2_with fail
      go_end0
      exact ⟨rfl, HSS.out ▸ ((MAct.same H6.out T46.out).after N4.out T04.out)⟩
  · have hn4 : ¬ R.1 = 4 := by omega
    rw [if_neg hn4] at HSS
    rcases hres with ⟨hx, -⟩ | ⟨-, rfl⟩
    · omega
    have hsz : ¬ m + 1 = size := fun e => by have := (HFULL.out hn4 e).1; omega
    rw [if_neg hsz] at HSS
    have g1 : (((m : Int) + 1) == (size : Int)) = false := by simp; omega
    have g2 : ¬ (m : Int) + 1 = (size : Int) := by omega
    rw [h7]
    go_simp
    refine hK _ _ ⟨⟨_, HB45.out⟩, rfl⟩ ?_
    clear hK K
    repeat (first | (refine mix_pure (by rfl) (by rfl) ?_; intro K hK; go_big_quiet_op; go_big_quiet_on) | (refine mix_nilc ⟨mp, 0, none⟩ (by rfl) (by kernel_rfl) ?_; go_simp))
    refine mix_nil (wpList_nil ?_)
    clear c0 c1 c2 c3' c4
    have E1 := Lib.hid (D1.out.turn T45.out (fun _ hk => .inl hk))
    have E4 := Lib.hid (D4.out.turn T45.out (fun _ hk => .inl hk))
    have E5 := Lib.hid (D5.out.turn T45.out (fun _ hk => .inl hk))
    have EV := Lib.hid (DV.out.turn T45.out (fun _ hk => .inl hk))
    have F20 := Lib.hid (Below.cell_of HB45.out C20.out)
    clear D1 D2 D3 D4 D5 DV C20 H4
    have k0 : w5.cell? ⟨p, 0, none⟩ = some (.pointer (some ⟨mp, 0, none⟩)) := E1.out.cell 0 _ rfl
    go_wp2_with fail
    have k0 : ∀ e : Ext w5, e.W.cell? ⟨p, 0, none⟩ = some (.pointer (some ⟨mp, 0, none⟩)) := fun e => ext_cell (E1.out.cell 0 _ rfl) e
    have k1 : ∀ e : Ext w5, e.W.cell? ⟨mp, 20, none⟩ = some (.slice A3 (m + 1 : Nat) c3) := fun e => ext_cell F20.out e
    have k2 : ∀ e : Ext w5, e.W.cell? ⟨u, 0, none⟩ = some (.int .i64 size) := fun e => ext_cell (E4.out.cell 0 _ rfl) e
    refine wp_region_mix (fun w' => ∃ e : Ext w5, w' = e.W) [(true, 0), (true, 1), (true, 2), (true, 3), (true, 4), (true, 5), (true, 6), (true, 7)] [] (by kernel_rfl) (by kernel_rfl) (by intro _ _ d _ _ h; cases d <;> exact h) ⟨⟨w5.drew, (Below.refl _ _).drew⟩, rfl⟩ ?_
    simp only [pickM, pickL, List.drop_succ_cons, List.drop_zero]
    repeat (first | (refine mix_pure (by rfl) (by rfl) ?_; intro K hK; go_big_quiet_op; go_big_quiet_on) | (refine mix_nilc ⟨mp, 0, none⟩ (by rfl) (by kernel_rfl) ?_; go_simp))
    refine mix_nil (wpList_nil ?_)
    clear k0 k1 k2
    have hbd : Below w5.heap.size w5 w5.drew := (Below.refl _ _).drew
    have H6 := Lib.hid (H5.out.below hbd)
    have T46 : Hid (Turn s4 W4 w5.drew) := T45.out.tr (Turn.of hbd)
    have E6 := Lib.hid (E5.out.turn (Turn.of (s := s4) hbd) (fun _ hk => .inl hk))
    have EW := Lib.hid (EV.out.turn (Turn.of (s := s4) hbd) (fun _ hk => .inl hk))
    have HBD := Lib.hid hbd
    clear hbd E1 E4 E5 EV F20
    go_wp2_with fail
    go_end0
    exact ⟨rfl, HSS.out ▸ ((MAct.same H6.out T46.out).after N4.out T04.out)⟩
end Go.Proofs.YtlmdkmflbhnlgaaGreat
namespace Go.Proofs.YtlmdkmflbhnlgaaGreat
open Go.RowKit
variable {w : World} {s : List Nat} {mp : Nat} {S : MS} {a : MA}
/-- What was asked for is what the next act needs. -/
def NxtFits (S : MS) : Nxt → Prop
  | .start => S.need = 1
  | .ident => S.need = 14
  | .extended => S.need = 34 ∧ ∃ i : Nat, i < 2048 ∧ S.f.id = (i : Int)
  | .reserved => S.need = 35
  | .format => S.need = 15
  | .newer => S.need = 16
  | .code => S.need = 19 ∨ S.need = 39
  | .codeC at_ n => n ≤ 8 ∧ at_ ≤ 100 ∧ S.need = at_ + 8 * n + 15
  | .fdCode => S.need = 22
  | .fdData n => n ≤ 64 ∧ 1 ≤ n ∧ S.need = 22 + 8 * n
  | .xlHead => S.need = 17
  | .nil => False
/-- One of the acts' calls. -/
def NextCall (mp : Nat) (v : Value) (W : World) (Q : Ending → World → Prop) : Prop :=
  (v = .func (.func 27) #[.pointer (some ⟨mp, 0, none⟩)] #[] ∧ Calls Tryz.prog 27 #[.pointer (some ⟨mp, 0, none⟩)] W Q) ∨ (v = .func (.func 51) #[.pointer (some ⟨mp, 0, none⟩)] #[] ∧ Calls Tryz.prog 51 #[.pointer (some ⟨mp, 0, none⟩)] W Q) ∨ (v = .func (.func 74) #[.pointer (some ⟨mp, 0, none⟩)] #[] ∧ Calls Tryz.prog 74 #[.pointer (some ⟨mp, 0, none⟩)] W Q) ∨ (v = .func (.func 98) #[.pointer (some ⟨mp, 0, none⟩)] #[] ∧ Calls Tryz.prog 98 #[.pointer (some ⟨mp, 0, none⟩)] W Q) ∨ (v = .func (.func 73) #[.pointer (some ⟨mp, 0, none⟩)] #[] ∧ Calls Tryz.prog 73 #[.pointer (some ⟨mp, 0, none⟩)] W Q) ∨ (v = .func (.func 97) #[.pointer (some ⟨mp, 0, none⟩)] #[] ∧ Calls Tryz.prog 97 #[.pointer (some ⟨mp, 0, none⟩)] W Q) ∨ (v = .func (.func 96) #[.pointer (some ⟨mp, 0, none⟩)] #[] ∧ Calls Tryz.prog 96 #[.pointer (some ⟨mp, 0, none⟩)] W Q) ∨ (v = .func (.func 109) #[.pointer (some ⟨mp, 0, none⟩)] #[] ∧ Calls Tryz.prog 109 #[.pointer (some ⟨mp, 0, none⟩)] W Q) ∨ (v = .func (.func 110) #[.pointer (some ⟨mp, 0, none⟩)] #[] ∧ Calls Tryz.prog 110 #[.pointer (some ⟨mp, 0, none⟩)] W Q) ∨ (∃ x y z, v = .func (.func 105) #[] #[.pointer (some ⟨x, 0, none⟩), .pointer (some ⟨y, 0, none⟩), .pointer (some ⟨z, 0, none⟩)] ∧ Calls Tryz.prog 105 #[.pointer (some ⟨x, 0, none⟩), .pointer (some ⟨y, 0, none⟩), .pointer (some ⟨z, 0, none⟩)] W Q) ∨ (∃ x y, v = .func (.func 116) #[] #[.pointer (some ⟨x, 0, none⟩), .pointer (some ⟨y, 0, none⟩)] ∧ Calls Tryz.prog 116 #[.pointer (some ⟨x, 0, none⟩), .pointer (some ⟨y, 0, none⟩)] W Q)
theorem mNext (h : MR w s mp S a) (hn : S.l.length = S.need) (hf : NxtFits S S.next) (hl : S.l.length ≤ 1000) (h01 : ∀ x ∈ S.l, x ≤ 1) (hraw : 0 < S.raw.length) : NextCall mp a.nv w (MDone w s mp (nextM S)) := by
  have hx := h.rest.next
  unfold nextM
  generalize S.next = x at *
  generalize a.nv = v at *
  cases x
  · exact .inl (⟨hx, mStart h (by have : S.need = 1 := hf; omega)⟩)
  · exact .inr (.inl (⟨hx, mIdent h (by have : S.need = 14 := hf; omega) (by omega) h01⟩))
  · obtain ⟨hf1, i, hi, hid⟩ := hf
    exact .inr (.inr (.inl (⟨hx, mExtended h (by omega) (by omega) h01 i hid hi⟩)))
  · exact .inr (.inr (.inr (.inl (⟨hx, mReserved h (by have : S.need = 35 := hf; omega)⟩))))
  · exact .inr (.inr (.inr (.inr (.inl (⟨hx, mFormat h (by have : S.need = 15 := hf; omega)⟩)))))
  · exact .inr (.inr (.inr (.inr (.inr (.inl (⟨hx, mNewer h (by have : S.need = 16 := hf; omega)⟩))))))
  · exact .inr (.inr (.inr (.inr (.inr (.inr (.inl (⟨hx, mCode h (by have : S.need = 19 ∨ S.need = 39 := hf; omega) (by omega) h01⟩)))))))
  · obtain ⟨h8, hat, hnd⟩ := hf
    obtain ⟨x, y, z, hv, e1, e2, e3⟩ := hx
    exact .inr (.inr (.inr (.inr (.inr (.inr (.inr (.inr (.inr (.inl (⟨x, y, z, hv, mCodeC h x y z _ _ e1 e2 e3 h8 hat (by omega) h01⟩))))))))))
  · exact .inr (.inr (.inr (.inr (.inr (.inr (.inr (.inl (⟨hx, mFdCode h (by have : S.need = 22 := hf; omega) h01 hraw⟩))))))))
  · obtain ⟨h64, h1, hnd⟩ := hf
    obtain ⟨x, y, hv, e1, e2⟩ := hx
    exact .inr (.inr (.inr (.inr (.inr (.inr (.inr (.inr (.inr (.inr (⟨x, y, hv, mFdData h x y _ e1 e2 h64 (by omega) h01 hraw⟩))))))))))
  · exact .inr (.inr (.inr (.inr (.inr (.inr (.inr (.inr (.inl (⟨hx, mXlHead h (by have : S.need = 17 := hf; omega)⟩)))))))))
  · exact hf.elim
theorem five_run (raw : List Nat) (r : Nat) (h : RunIs (raw.drop (raw.length - 5)) r) : ((r : Int) == 5) = fullR raw := by
  have hl : (raw.drop (raw.length - 5)).length = raw.length - (raw.length - 5) := List.length_drop
  have he : ∀ j, j < 5 → 5 ≤ raw.length → endN (raw.drop (raw.length - 5)) j = endN raw j := by
    intro j hj h5
    unfold endN
    rw [List.getElem?_drop, hl]
    congr 2
    omega
  obtain ⟨h1, h2, h3⟩ := h
  rw [hl] at h1 h3
  unfold fullR
  rw [Bool.eq_iff_iff]
  simp only [beq_iff_eq, Bool.and_eq_true, decide_eq_true_eq, List.all_eq_true, List.mem_range]
  constructor
  · intro hr
    have hr5 : r = 5 := by omega
    subst hr5
    have h5 : 5 ≤ raw.length := by omega
    refine ⟨h5, fun j hj => ?_⟩
    rw [← he j hj h5, ← he 0 (by omega) h5]
    exact h2 j hj
  · rintro ⟨h5, ha⟩
    by_cases hr : r < 5
    · exfalso
      refine h3 (by omega) ?_
      rw [he r hr h5, he 0 (by omega) h5]
      exact ha r hr
    · omega
end Go.Proofs.YtlmdkmflbhnlgaaGreat
-- ScanV: The machine's invariant, kept by each bit. No condition.
namespace Go.Proofs.YtlmdkmflbhnlgaaGreat
open Go.RowKit
/-- What takes a bit fits the machine. -/
def StpFits (S : MS) : Stp → Prop
  | .dynamic => S.l.length < S.need ∧ S.need ≤ 600 ∧ S.own = [] ∧ NxtFits S S.next
  | .part prev ev ah size d => prev ≤ 1 ∧ 1 ≤ ev ∧ ev ≤ 64 ∧ DoFits ev ah size d ∧ S.own.length < size ∧ 0 < S.raw.length ∧ 0 < S.l.length ∧ S.l.length ≤ 600
  | .mark l x => S.at_ < 4 ∧ l.length = 4 ∧ 0 < S.raw.length ∧ 0 < S.l.length ∧ S.l.length ≤ 600 ∧ (x = .xlCode → S.own = [])
  | .last => S.at_ < 9
structure MOk (S : MS) : Prop where
  raw : ∀ x ∈ S.raw, x ≤ 1
  l : ∀ x ∈ S.l, x ≤ 1
  own : ∀ x ∈ S.own, x ≤ 1
  rawn : S.raw.length ≤ S.seen
  fd : S.f.data.length ≤ 20000
  sfd : S.sf.data.length ≤ 20000
  stp : S.kind < 2 → StpFits S S.step
theorem newM_ok (xl : Bool) : MOk (newM xl) := ⟨by simp [newM], by simp [newM], by simp [newM], by simp [newM], by simp [newM, zFr], by simp [newM, zFr], fun _ => ⟨by simp [newM], by simp [newM], rfl, rfl⟩⟩
theorem packL_le (l : List Nat) : (packL l).length ≤ l.length := by unfold packL; rw [List.length_map, List.length_range]; unfold nchN; omega
/-- The rows are rows of bits. -/
structure MBit (S : MS) : Prop where
  raw : ∀ x ∈ S.raw, x ≤ 1
  l : ∀ x ∈ S.l, x ≤ 1
  own : ∀ x ∈ S.own, x ≤ 1
  rawn : S.raw.length ≤ S.seen
  fd : S.f.data.length ≤ 20000
  sfd : S.sf.data.length ≤ 20000
theorem MOk.bit {S : MS} (h : MOk S) : MBit S := ⟨h.raw, h.l, h.own, h.rawn, h.fd, h.sfd⟩
theorem MBit.bad {S : MS} (h : MBit S) (e : Nat) : MOk (badM S e) := ⟨h.raw, h.l, h.own, h.rawn, h.fd, by simp [badM, zFr], fun hk => absurd hk (by simp [badM])⟩
theorem MBit.ask {S : MS} (h : MBit S) (hs : S.step = .dynamic) (n : Nat) (x : Nxt) (h1 : S.l.length < n) (h2 : n ≤ 600) (h3 : S.own = []) (h4 : NxtFits (askM S n x) x) : MOk (askM S n x) :=
  ⟨h.raw, h.l, h.own, h.rawn, h.fd, h.sfd, fun _ => by show StpFits (askM S n x) S.step; rw [hs]; exact ⟨h1, h2, h3, h4⟩⟩
theorem MBit.fin {S : MS} (h : MBit S) : MOk (endM S) := ⟨h.raw, h.l, h.own, h.rawn, h.fd, h.sfd, fun _ => by show 0 < 9; omega⟩
theorem MBit.f {S : MS} (h : MBit S) (f : Fr) (hf : f.data.length ≤ 20000) : MBit { S with f := f } := ⟨h.raw, h.l, h.own, h.rawn, hf, h.sfd⟩
theorem MBit.fits {S : MS} (h : MBit S) (b : Bool) : MBit { S with fits := b } := ⟨h.raw, h.l, h.own, h.rawn, h.fd, h.sfd⟩
theorem getD_bit (l : List Nat) (i : Nat) (h : ∀ x ∈ l, x ≤ 1) : l.getD i 0 ≤ 1 := by
  rw [List.getD_eq_getElem?_getD]
  cases e : l[i]? with
  | none => simp
  | some x => exact h x (List.mem_of_getElem? e)
theorem MBit.part {S : MS} (h : MBit S) (ev n : Nat) (ah : Bool) (d : Do) (h1 : 1 ≤ ev) (h2 : ev ≤ 64) (h3 : DoFits ev ah (fsize n ev ah) d) (h4 : S.own.length < fsize n ev ah) (h5 : 0 < S.raw.length) (h6 : 0 < S.l.length) (h7 : S.l.length ≤ 600) : MOk (partM S ev ah n d) :=
  ⟨h.raw, h.l, h.own, h.rawn, h.fd, h.sfd, fun _ => ⟨by split; exact getD_bit _ _ h.raw; exact Nat.le_refl _, h1, h2, h3, h4, h5, h6, h7⟩⟩
theorem MBit.mark {S : MS} (h : MBit S) (l : List Nat) (x : Aft) (h1 : l.length = 4) (h5 : 0 < S.raw.length) (h6 : 0 < S.l.length) (h7 : S.l.length ≤ 600) (h8 : x = .xlCode → S.own = []) : MOk (markM S l x) :=
  ⟨h.raw, h.l, h.own, h.rawn, h.fd, h.sfd, fun _ => ⟨by show 0 < 4; omega, h1, h5, h6, h7, h8⟩⟩
theorem fdDataM_ok {S : MS} (h : MBit S) (size : Nat) (hl : S.l.length ≤ 600) (hl0 : 0 < S.l.length) (hr : 0 < S.raw.length) (ho : S.own = []) : MOk (fdDataM S size) := by
  have hd : (packL (S.l.drop 22)).length ≤ 20000 := by have := packL_le (S.l.drop 22); rw [List.length_drop] at this; omega
  unfold fdDataM
  by_cases h16 : 16 < size
  · simp only [if_pos h16]
    exact (h.f _ hd).part 4 _ true _ (by omega) (by omega) ⟨.inr rfl, rfl, rfl, rfl⟩ (by show S.own.length < _; rw [ho]; decide) hr hl0 hl
  · simp only [if_neg h16]
    exact (h.f _ hd).part 4 _ true _ (by omega) (by omega) ⟨.inl rfl, rfl, rfl, rfl⟩ (by show S.own.length < _; rw [ho]; decide) hr hl0 hl
theorem nextM_ok {S : MS} (h : MBit S) (hs : S.step = .dynamic) (hn : S.l.length = S.need) (hl : S.l.length ≤ 600) (hr : 0 < S.raw.length) (ho : S.own = []) (hf : NxtFits S S.next) : MOk (nextM S) := by
  have h01 := h.l
  unfold nextM
  cases hx : S.next <;> rw [hx] at hf <;> simp only [NxtFits] at hf ⊢
  · show MOk (if flagM S 0 then badM S 5 else askM S 14 .ident)
    split
    · exact h.bad 5
    · exact h.ask hs _ _ (by omega) (by omega) ho rfl
  · have h2 : MBit { S with f := { zFr with kind := 1, id := numM S 1 12, rtr := flagM S 12 } } := h.f _ (by simp [zFr])
    show MOk (if flagM S 13 then (if flagM S 12 then askM { S with f := { zFr with kind := 1, id := numM S 1 12, rtr := flagM S 12 } } 34 .extended else badM { S with f := { zFr with kind := 1, id := numM S 1 12, rtr := flagM S 12 } } 5) else askM { S with f := { zFr with kind := 1, id := numM S 1 12, rtr := flagM S 12 } } 15 .format)
    split
    · split
      · exact h2.ask hs _ _ (by show S.l.length < 34; omega) (by omega) ho ⟨rfl, numM S 1 12, by have := numM_lt S 1 12 11 (by omega) h01; omega, rfl⟩
      · exact h2.bad 5
    · exact h2.ask hs _ _ (by show S.l.length < 15; omega) (by omega) ho rfl
  · have h2 : ∀ f : Fr, f.data = S.f.data → MBit { S with f := f } := fun f e => h.f _ (by rw [e]; exact h.fd)
    show MOk (if flagM S 33 then badM { S with f := { S.f with ext := true, rtr := flagM S 32, id := S.f.id * 262144 + numM S 14 32 } } 5 else askM { S with f := { S.f with ext := true, rtr := flagM S 32, id := S.f.id * 262144 + numM S 14 32 } } 35 .reserved)
    split
    · exact (h2 { S.f with ext := true, rtr := flagM S 32, id := S.f.id * 262144 + numM S 14 32 } rfl).bad 5
    · exact (h2 { S.f with ext := true, rtr := flagM S 32, id := S.f.id * 262144 + numM S 14 32 } rfl).ask hs _ _ (by show S.l.length < 35; omega) (by omega) ho rfl
  · show MOk (if flagM S 34 then badM S 5 else askM S 39 .code)
    split
    · exact h.bad 5
    · exact h.ask hs _ _ (by omega) (by omega) ho (.inr rfl)
  · show MOk (if flagM S 14 then (if S.f.rtr then badM S 5 else askM S 16 .newer) else askM S 19 .code)
    split
    · split
      · exact h.bad 5
      · exact h.ask hs _ _ (by omega) (by omega) ho rfl
    · exact h.ask hs _ _ (by omega) (by omega) ho (.inl rfl)
  · show MOk (if flagM S 15 then (if S.xl then askM { S with f := { S.f with kind := 3 } } 17 .xlHead else { S with kind := 4, err := 0, sf := zFr }) else askM { S with f := { S.f with kind := 2 } } 22 .fdCode)
    split
    · split
      · exact (h.f { S.f with kind := 3 } h.fd).ask hs _ _ (by show S.l.length < 17; omega) (by omega) ho rfl
      · exact ⟨h.raw, h.l, h.own, h.rawn, h.fd, by simp [zFr], fun hk => absurd hk (by simp)⟩
    · exact (h.f { S.f with kind := 2 } h.fd).ask hs _ _ (by show S.l.length < 22; omega) (by omega) ho rfl
  · show MOk (if numM S (S.l.length - 4) S.l.length ≤ 8 ∧ (numM S (S.l.length - 4) S.l.length = 0 ∨ S.f.rtr = false) then askM S (S.l.length + 8 * numM S (S.l.length - 4) S.l.length + 15) (.codeC S.l.length (numM S (S.l.length - 4) S.l.length)) else badM S 5)
    split
    · rename_i hc
      exact h.ask hs _ _ (by omega) (by omega) ho ⟨hc.1, by omega, rfl⟩
    · exact h.bad 5
  · rename_i at_ n
    exact MBit.fin ((h.f { S.f with data := packL ((S.l.take (at_ + 8 * n)).drop at_) } (by have := packL_le ((S.l.take (at_ + 8 * n)).drop at_); rw [List.length_drop, List.length_take] at this; show (packL ((S.l.take (at_ + 8 * n)).drop at_)).length ≤ 20000; omega)).fits _)
  · show MOk (if fdSz (numM { S with f := { S.f with brs := flagM S 16, esi := flagM S 17 } } 18 22) = 0 then fdDataM { S with f := { S.f with brs := flagM S 16, esi := flagM S 17 } } 0 else askM { S with f := { S.f with brs := flagM S 16, esi := flagM S 17 } } (22 + 8 * fdSz (numM { S with f := { S.f with brs := flagM S 16, esi := flagM S 17 } } 18 22)) (.fdData (fdSz (numM { S with f := { S.f with brs := flagM S 16, esi := flagM S 17 } } 18 22))))
    have h2 : MBit { S with f := { S.f with brs := flagM S 16, esi := flagM S 17 } } := h.f _ h.fd
    have hz : fdSz (numM { S with f := { S.f with brs := flagM S 16, esi := flagM S 17 } } 18 22) ≤ 64 := fdSz_le _ (by have := numM_lt { S with f := { S.f with brs := flagM S 16, esi := flagM S 17 } } 18 22 4 (by omega) h01; omega)
    generalize fdSz (numM { S with f := { S.f with brs := flagM S 16, esi := flagM S 17 } } 18 22) = z at *
    split
    · exact fdDataM_ok h2 0 hl (by show 0 < S.l.length; omega) hr ho
    · exact h2.ask hs _ _ (by show S.l.length < _; omega) (by omega) ho ⟨hz, by omega, rfl⟩
  · exact fdDataM_ok h _ hl (by omega) hr ho
  · show MOk (if flagM S 16 then badM S 5 else markM S [1, 0, 0, 1] .xlCode)
    split
    · exact h.bad 5
    · exact h.mark _ _ rfl hr (by omega) hl (fun _ => ho)
theorem NxtFits.congr' {S S' : MS} {x : Nxt} (h : NxtFits S x) (hn : S'.need = S.need) (hf : S'.f = S.f) : NxtFits S' x := by
  cases x <;> simp only [NxtFits, hn, hf] at h ⊢ <;> exact h
theorem dynM_ok {S : MS} (h : MOk S) (hk : S.kind < 2) (hs : S.step = .dynamic) (hr : S.raw.length + 1 ≤ S.seen) (b : Nat) (hb : b ≤ 1) : MOk (dynM S b) := by
  have hst := h.stp hk
  rw [hs] at hst
  obtain ⟨k1, k2, k3, k4⟩ := hst
  have happ : ∀ l : List Nat, (∀ x ∈ l, x ≤ 1) → ∀ x ∈ l ++ [b], x ≤ 1 := fun l hl x hx => (List.mem_append.1 hx).elim (hl x) (fun h => by simp at h; omega)
  have hb1 : MBit { S with raw := S.raw ++ [b] } := ⟨happ _ h.raw, h.l, h.own, by show (S.raw ++ [b]).length ≤ S.seen; simp; omega, h.fd, h.sfd⟩
  have hb2 : MBit { S with raw := S.raw ++ [b], l := S.l ++ [b] } := ⟨happ _ h.raw, happ _ h.l, h.own, by show (S.raw ++ [b]).length ≤ S.seen; simp; omega, h.fd, h.sfd⟩
  unfold dynM
  split
  · exact h.bit.bad 4
  · split
    · exact ⟨hb1.raw, hb1.l, hb1.own, hb1.rawn, hb1.fd, hb1.sfd, fun _ => by show StpFits { S with raw := S.raw ++ [b] } S.step; rw [hs]; exact ⟨k1, k2, k3, k4.congr' rfl rfl⟩⟩
    · split
      · rename_i hn
        exact nextM_ok hb2 hs (by show (S.l ++ [b]).length = S.need; simp; exact hn) (by show (S.l ++ [b]).length ≤ 600; simp; omega) (by show 0 < (S.raw ++ [b]).length; simp) k3 (k4.congr' rfl rfl)
      · exact ⟨hb2.raw, hb2.l, hb2.own, hb2.rawn, hb2.fd, hb2.sfd, fun _ => by show StpFits { S with raw := S.raw ++ [b], l := S.l ++ [b] } S.step; rw [hs]; exact ⟨by show (S.l ++ [b]).length < S.need; simp; omega, k2, k3, k4.congr' rfl rfl⟩⟩
theorem getL_dt (l : List Nat) (i n : Nat) : ((l.take (i + n)).drop i).length ≤ n := by rw [List.length_drop, List.length_take]; omega
theorem partStepM_ok {S : MS} (h : MOk S) (hk : S.kind < 2) (prev ev size : Nat) (ah : Bool) (d : Do) (hs : S.step = .part prev ev ah size d) (b : Nat) (hb : b ≤ 1) : MOk (partStepM S prev ev ah size d b) := by
  have hst := h.stp hk
  rw [hs] at hst
  obtain ⟨k1, k2, k3, k4, k5, k6, k7, k8⟩ := hst
  have happ : ∀ x ∈ S.own ++ [b], x ≤ 1 := fun x hx => (List.mem_append.1 hx).elim (h.own x) (fun h => by simp at h; omega)
  have hb1 : MBit { S with own := S.own ++ [b] } := ⟨h.raw, h.l, happ, h.rawn, h.fd, h.sfd⟩
  have hlen : (S.own ++ [b]).length = S.own.length + 1 := by simp
  unfold partStepM
  show MOk (if (fgetN ev ah prev (S.own ++ [b])).1 = 4 then badM { S with own := S.own ++ [b] } 4 else if (S.own ++ [b]).length = size then doM { S with own := S.own ++ [b] } d (fgetN ev ah prev (S.own ++ [b])).2 else { S with own := S.own ++ [b] })
  split
  · exact hb1.bad 4
  · rename_i h4
    split
    · rename_i hfull
      obtain ⟨-, hlen2⟩ := fget_full ev prev size ah d _ k4 hfull h4
      have hbits : ∀ x ∈ (fgetN ev ah prev (S.own ++ [b])).2, x ≤ 1 := fgetE_bits ev _ _ _ _ _ happ (by simp)
      generalize (fgetN ev ah prev (S.own ++ [b])).2 = r at *
      cases d with
      | fd k => exact (hb1.fits _).fin
      | xl1 =>
        obtain ⟨-, -, hsz⟩ := k4
        have hlt := numN_lt (r.drop 9) (fun x hx => hbits x (List.mem_of_mem_drop hx))
        have hl11 : (r.drop 9).length = 11 := by rw [List.length_drop, hlen2]; rfl
        rw [hl11] at hlt
        have hz : numN (r.drop 9) + 1 ≤ 2048 := by omega
        have e0 : fsize 20 8 false = 22 := rfl
        refine hb1.part 8 _ false _ (by omega) (by omega) ⟨by omega, hz, rfl, rfl, rfl⟩ ?_ k6 k7 k8
        show (S.own ++ [b]).length < _
        have e1 : fsize (109 + 8 * (numN (r.drop 9) + 1)) 8 false = 122 + 9 * (numN (r.drop 9) + 1) := by unfold fsize; rw [if_neg (by omega), if_neg (by simp)]; omega
        rw [e1]; omega
      | xl2 z =>
        obtain ⟨hz1, hz2, -⟩ := k4
        have hln : r.length = 109 + 8 * z := hlen2
        have hd : (packL ((r.take (77 + 8 * z)).drop 77)).length ≤ 20000 := by
          have h1 := packL_le ((r.take (77 + 8 * z)).drop 77)
          have h2 := getL_dt r 77 (8 * z)
          omega
        have hb2 : MBit (xlDataM { S with own := S.own ++ [b] } r z) := (hb1.f { S.f with sdt := getL r 0 8, sec := getL r 8 1 == 1, vcid := getL r 37 8, af := getL r 45 32, data := packL ((r.take (77 + 8 * z)).drop 77) } hd).fits _
        exact hb2.mark _ _ rfl k6 k7 k8 (fun e => by cases e)
    · rename_i hne
      exact ⟨hb1.raw, hb1.l, hb1.own, hb1.rawn, hb1.fd, hb1.sfd, fun _ => by show StpFits { S with own := S.own ++ [b] } S.step; rw [hs]; exact ⟨k1, k2, k3, k4, by show (S.own ++ [b]).length < size; omega, k6, k7, k8⟩⟩
theorem markStepM_ok {S : MS} (h : MOk S) (hk : S.kind < 2) (l : List Nat) (x : Aft) (hs : S.step = .mark l x) (b : Nat) : MOk (markStepM S l x b) := by
  have hst := h.stp hk
  rw [hs] at hst
  obtain ⟨k1, k2, k3, k4, k5, k6⟩ := hst
  have hb1 : MBit { S with at_ := S.at_ + 1 } := ⟨h.raw, h.l, h.own, h.rawn, h.fd, h.sfd⟩
  unfold markStepM
  split
  · split
    · cases x with
      | xlCode => exact hb1.part 8 20 false .xl1 (by omega) (by omega) ⟨rfl, rfl, rfl⟩ (by show S.own.length < _; rw [k6 rfl]; decide) k3 k4 k5
      | fin => exact hb1.fin
    · exact ⟨hb1.raw, hb1.l, hb1.own, hb1.rawn, hb1.fd, hb1.sfd, fun _ => by show StpFits { S with at_ := S.at_ + 1 } S.step; rw [hs]; exact ⟨by show S.at_ + 1 < 4; omega, k2, k3, k4, k5, k6⟩⟩
  · exact h.bit.bad 5
theorem lastM_ok {S : MS} (h : MOk S) (hk : S.kind < 2) (hs : S.step = .last) (b : Nat) : MOk (lastM S b) := by
  have hst := h.stp hk
  rw [hs] at hst
  have k1 : S.at_ < 9 := hst
  have hb1 : MBit { S with at_ := S.at_ + 1, kind := 0, err := 0, sf := zFr } := ⟨h.raw, h.l, h.own, h.rawn, h.fd, by simp [zFr]⟩
  show MOk (if S.at_ = 2 ∧ S.fits = false then badM { S with at_ := S.at_ + 1, kind := 0, err := 0, sf := zFr } 6 else if S.at_ ≠ 1 ∧ b = 0 then badM { S with at_ := S.at_ + 1, kind := 0, err := 0, sf := zFr } 5 else if S.at_ = 0 ∧ S.fits = true then { S with at_ := S.at_ + 1, kind := 1, err := 0, sf := zFr } else if S.at_ + 1 = 9 then { S with at_ := S.at_ + 1, kind := 2, err := 0, sf := S.f } else { S with at_ := S.at_ + 1, kind := 0, err := 0, sf := zFr })
  split
  · exact hb1.bad 6
  · split
    · exact hb1.bad 5
    · split
      · rename_i h0
        exact ⟨hb1.raw, hb1.l, hb1.own, hb1.rawn, hb1.fd, hb1.sfd, fun _ => by show StpFits { S with at_ := S.at_ + 1, kind := 1, err := 0, sf := zFr } S.step; rw [hs]; show S.at_ + 1 < 9; omega⟩
      · split
        · exact ⟨hb1.raw, hb1.l, hb1.own, hb1.rawn, hb1.fd, h.fd, fun hk => absurd hk (by simp)⟩
        · exact ⟨hb1.raw, hb1.l, hb1.own, hb1.rawn, hb1.fd, hb1.sfd, fun _ => by show StpFits { S with at_ := S.at_ + 1, kind := 0, err := 0, sf := zFr } S.step; rw [hs]; show S.at_ + 1 < 9; omega⟩
theorem MOk.saw {S : MS} (h : MOk S) : MOk { S with seen := S.seen + 1 } :=
  ⟨h.raw, h.l, h.own, Nat.le_succ_of_le h.rawn, h.fd, h.sfd, fun hk => by
    have := h.stp hk
    show StpFits { S with seen := S.seen + 1 } S.step
    cases hx : S.step <;> rw [hx] at this
    · exact ⟨this.1, this.2.1, this.2.2.1, this.2.2.2.congr' rfl rfl⟩
    · exact this
    · exact this
    · exact this⟩
theorem stepM_dyn {S : MS} {b : Nat} (h : S.step = .dynamic) : stepM S b = dynM S b := by unfold stepM; rw [h]
theorem stepM_part {S : MS} {b p e n : Nat} {a : Bool} {d : Do} (h : S.step = .part p e a n d) : stepM S b = partStepM S p e a n d b := by unfold stepM; rw [h]
theorem stepM_mark {S : MS} {b : Nat} {l : List Nat} {x : Aft} (h : S.step = .mark l x) : stepM S b = markStepM S l x b := by unfold stepM; rw [h]
theorem stepM_last {S : MS} {b : Nat} (h : S.step = .last) : stepM S b = lastM S b := by unfold stepM; rw [h]
theorem stepM_ok {S : MS} (h : MOk S) (hk : S.kind < 2) (hr : S.raw.length + 1 ≤ S.seen) (b : Nat) (hb : b ≤ 1) : MOk (stepM S b) := by
  cases hx : S.step with
  | dynamic => rw [stepM_dyn hx]; exact dynM_ok h hk hx hr b hb
  | part p e a n d => rw [stepM_part hx]; exact partStepM_ok h hk p e n a d hx b hb
  | mark l x => rw [stepM_mark hx]; exact markStepM_ok h hk l x hx b
  | last => rw [stepM_last hx]; exact lastM_ok h hk hx b
theorem seeM_ok {S : MS} (h : MOk S) (b : Nat) (hb : b ≤ 1) : MOk (seeM S b) := by
  have h2 := h.saw
  unfold seeM
  split
  · rename_i hk
    exact stepM_ok h2 hk (by show S.raw.length + 1 ≤ S.seen + 1; have := h.rawn; omega) b hb
  · exact h2
theorem seeM_seen (S : MS) (b : Nat) : (seeM S b).seen = S.seen + 1 := by
  have hbad : ∀ (S : MS) e, (badM S e).seen = S.seen := fun _ _ => rfl
  have hask : ∀ (S : MS) n x, (askM S n x).seen = S.seen := fun _ _ _ => rfl
  have hpart : ∀ (S : MS) e a n d, (partM S e a n d).seen = S.seen := fun _ _ _ _ _ => rfl
  have hmark : ∀ (S : MS) l x, (markM S l x).seen = S.seen := fun _ _ _ => rfl
  have hend : ∀ (S : MS), (endM S).seen = S.seen := fun _ => rfl
  have hfd : ∀ (S : MS) n, (fdDataM S n).seen = S.seen := fun _ _ => rfl
  have hdo : ∀ (S : MS) d l, (doM S d l).seen = S.seen := fun S d l => by cases d <;> rfl
  have haft : ∀ (S : MS) x, (aftM S x).seen = S.seen := fun S x => by cases x <;> rfl
  have hnext : ∀ S : MS, (nextM S).seen = S.seen := by
    intro S
    unfold nextM
    split
    · unfold startM; split <;> rfl
    · unfold identM; simp only []; split
      · split <;> rfl
      · rfl
    · unfold extendedM; simp only []; split <;> rfl
    · unfold reservedM; split <;> rfl
    · unfold formatM; split
      · split <;> rfl
      · rfl
    · unfold newerM; split
      · split <;> rfl
      · rfl
    · unfold codeM; simp only []; split <;> rfl
    · rfl
    · unfold fdCodeM; simp only []; split <;> rfl
    · rfl
    · unfold xlHeadM; split <;> rfl
    · rfl
  unfold seeM
  split
  · unfold stepM
    split
    · unfold dynM
      split
      · rfl
      · split
        · rfl
        · split
          · rw [hnext]
          · rfl
    · unfold partStepM
      simp only []
      split
      · rfl
      · split
        · exact hdo _ _ _
        · rfl
    · unfold markStepM
      split
      · split
        · exact haft _ _
        · rfl
      · rfl
    · unfold lastM
      simp only []
      split
      · rfl
      · split
        · rfl
        · split
          · rfl
          · split <;> rfl
  · rfl
end Go.Proofs.YtlmdkmflbhnlgaaGreat
namespace Go.Proofs.YtlmdkmflbhnlgaaGreat
open Go.RowKit
theorem seeM_stays {S : MS} (h : 2 ≤ S.kind) (b : Nat) : (seeM S b).kind = S.kind ∧ (seeM S b).err = S.err ∧ (seeM S b).sf = S.sf := by
  unfold seeM; rw [if_neg (by omega)]; exact ⟨rfl, rfl, rfl⟩
theorem foldM_stays : ∀ (l : List Nat) {S : MS}, 2 ≤ S.kind → (l.foldl seeM S).kind = S.kind ∧ (l.foldl seeM S).err = S.err ∧ (l.foldl seeM S).sf = S.sf
  | [], _, _ => ⟨rfl, rfl, rfl⟩
  | b :: r, S, h => by
    obtain ⟨h1, h2, h3⟩ := seeM_stays h b
    obtain ⟨k1, k2, k3⟩ := foldM_stays r (S := seeM S b) (by omega)
    exact ⟨k1.trans h1, k2.trans h2, k3.trans h3⟩
theorem scanM_app (xl : Bool) (a b : List Nat) : scanM xl (a ++ b) = b.foldl seeM (scanM xl a) := by unfold scanM; rw [List.foldl_append]
theorem scanM_stays (xl : Bool) (a b : List Nat) (h : 2 ≤ (scanM xl a).kind) : (scanM xl (a ++ b)).kind = (scanM xl a).kind ∧ (scanM xl (a ++ b)).err = (scanM xl a).err ∧ (scanM xl (a ++ b)).sf = (scanM xl a).sf := by
  rw [scanM_app]; exact foldM_stays b h
theorem scanM_less (xl : Bool) (l : List Nat) (n : Nat) (h : (scanM xl l).kind < 2) : (scanM xl (l.take n)).kind < 2 := by
  rcases Nat.lt_or_ge (scanM xl (l.take n)).kind 2 with h2 | h2
  · exact h2
  · have h3 := (scanM_stays xl (l.take n) (l.drop n) h2).1
    rw [List.take_append_drop] at h3
    omega
theorem scanM_seen (xl : Bool) (l : List Nat) : (scanM xl l).seen = l.length := by
  have : ∀ (l : List Nat) (S : MS), (l.foldl seeM S).seen = S.seen + l.length := by
    intro l
    induction l with
    | nil => intro S; rfl
    | cons b r ih => intro S; rw [List.foldl_cons, ih, seeM_seen, List.length_cons]; omega
  unfold scanM
  rw [this]
  show 0 + l.length = l.length
  omega
theorem scanM_ok (xl : Bool) (l : List Nat) (h : ∀ x ∈ l, x ≤ 1) : MOk (scanM xl l) := by
  have : ∀ (l : List Nat) (S : MS), MOk S → (∀ x ∈ l, x ≤ 1) → MOk (l.foldl seeM S) := by
    intro l
    induction l with
    | nil => intro S h _; exact h
    | cons b r ih => intro S h hb; exact ih _ (seeM_ok h b (hb b (List.mem_cons_self ..))) (fun x hx => hb x (List.mem_cons_of_mem _ hx))
  exact this l _ (newM_ok xl) h
theorem scanM_snoc (xl : Bool) (l : List Nat) (b : Nat) : scanM xl (l ++ [b]) = seeM (scanM xl l) b := scanM_app xl l [b]
/-- While nothing is told there is neither an error nor a frame. -/
def MQ (S : MS) : Prop := S.kind < 2 → S.err = 0 ∧ S.sf = zFr
theorem MQ.of {S S' : MS} (h : MQ S) (h2 : (S'.kind = S.kind ∧ S'.err = S.err ∧ S'.sf = S.sf) ∨ 2 ≤ S'.kind) : MQ S' := by
  intro hk
  rcases h2 with ⟨h1, h2, h3⟩ | h2
  · rw [h2, h3]; exact h (by omega)
  · omega
theorem MQ.bad (S : MS) (e : Nat) : MQ (badM S e) := fun hk => absurd hk (by simp [badM])
theorem fdDataM_same (S : MS) (n : Nat) : (fdDataM S n).kind = S.kind ∧ (fdDataM S n).err = S.err ∧ (fdDataM S n).sf = S.sf := ⟨rfl, rfl, rfl⟩
theorem MQ.same {S S' : MS} (h : MQ S) (h2 : S'.kind = S.kind ∧ S'.err = S.err ∧ S'.sf = S.sf) : MQ S' := h.of (.inl h2)
theorem nextM_q {S : MS} (h : MQ S) : MQ (nextM S) := by
  unfold nextM
  split
  · unfold startM; split
    · exact MQ.bad _ _
    · exact h.same ⟨rfl, rfl, rfl⟩
  · unfold identM; simp only []; split
    · split
      · exact h.same ⟨rfl, rfl, rfl⟩
      · exact MQ.bad _ _
    · exact h.same ⟨rfl, rfl, rfl⟩
  · unfold extendedM; simp only []; split
    · exact MQ.bad _ _
    · exact h.same ⟨rfl, rfl, rfl⟩
  · unfold reservedM; split
    · exact MQ.bad _ _
    · exact h.same ⟨rfl, rfl, rfl⟩
  · unfold formatM; split
    · split
      · exact MQ.bad _ _
      · exact h.same ⟨rfl, rfl, rfl⟩
    · exact h.same ⟨rfl, rfl, rfl⟩
  · unfold newerM; split
    · split
      · exact h.same ⟨rfl, rfl, rfl⟩
      · exact fun hk => absurd hk (by simp)
    · exact h.same ⟨rfl, rfl, rfl⟩
  · unfold codeM; simp only []; split
    · exact h.same ⟨rfl, rfl, rfl⟩
    · exact MQ.bad _ _
  · exact h.same ⟨rfl, rfl, rfl⟩
  · unfold fdCodeM; simp only []; split
    · exact h.same ⟨rfl, rfl, rfl⟩
    · exact h.same ⟨rfl, rfl, rfl⟩
  · exact h.same ⟨rfl, rfl, rfl⟩
  · unfold xlHeadM; split
    · exact MQ.bad _ _
    · exact h.same ⟨rfl, rfl, rfl⟩
  · exact h
theorem doM_q {S : MS} (h : MQ S) (d : Do) (l : List Nat) : MQ (doM S d l) := by cases d <;> exact h.same ⟨rfl, rfl, rfl⟩
theorem aftM_q {S : MS} (h : MQ S) (x : Aft) : MQ (aftM S x) := by cases x <;> exact h.same ⟨rfl, rfl, rfl⟩
theorem stepM_q {S : MS} (h : MQ S) (b : Nat) : MQ (stepM S b) := by
  unfold stepM
  split
  · unfold dynM
    split
    · exact MQ.bad _ _
    · split
      · exact h.same ⟨rfl, rfl, rfl⟩
      · split
        · exact nextM_q (S := { S with raw := S.raw ++ [b], l := S.l ++ [b] }) (h.same ⟨rfl, rfl, rfl⟩)
        · exact h.same ⟨rfl, rfl, rfl⟩
  · unfold partStepM
    simp only []
    split
    · exact MQ.bad _ _
    · split
      · exact doM_q (S := { S with own := S.own ++ [b] }) (h.same ⟨rfl, rfl, rfl⟩) _ _
      · exact h.same ⟨rfl, rfl, rfl⟩
  · unfold markStepM
    split
    · split
      · exact aftM_q (S := { S with at_ := S.at_ + 1 }) (h.same ⟨rfl, rfl, rfl⟩) _
      · exact h.same ⟨rfl, rfl, rfl⟩
    · exact MQ.bad _ _
  · unfold lastM
    simp only []
    split
    · exact MQ.bad _ _
    · split
      · exact MQ.bad _ _
      · split
        · exact fun _ => ⟨rfl, rfl⟩
        · split
          · exact fun hk => absurd hk (by simp)
          · exact fun _ => ⟨rfl, rfl⟩
theorem seeM_q {S : MS} (h : MQ S) (b : Nat) : MQ (seeM S b) := by
  unfold seeM
  split
  · exact stepM_q (S := { S with seen := S.seen + 1 }) (h.same ⟨rfl, rfl, rfl⟩) b
  · exact h.same ⟨rfl, rfl, rfl⟩
theorem scanM_q (xl : Bool) (l : List Nat) : MQ (scanM xl l) := by
  have : ∀ (l : List Nat) (S : MS), MQ S → MQ (l.foldl seeM S) := by
    intro l
    induction l with
    | nil => intro S h; exact h
    | cons b r ih => intro S h; exact ih _ (seeM_q h b)
  exact this l _ (fun _ => ⟨rfl, rfl⟩)
end Go.Proofs.YtlmdkmflbhnlgaaGreat
-- Check2: Which frames may be: what frame.Check answers. No condition.
namespace Go.Proofs.YtlmdkmflbhnlgaaGreat
open Go.RowKit

/-- A frame without what its kind may have. -/
def bareF (f : Fr) : Fr :=
  { kind := f.kind, id := 0, ext := if f.kind = 1 then false else f.ext, rtr := if f.kind = 1 then false else f.rtr, brs := if f.kind = 2 then false else f.brs, esi := if f.kind = 2 then false else f.esi,
    sec := if f.kind = 3 then false else f.sec, sdt := if f.kind = 3 then 0 else f.sdt, vcid := if f.kind = 3 then 0 else f.vcid, af := if f.kind = 3 then 0 else f.af, data := [] }
set_option maxRecDepth 100000 in
set_option maxHeartbeats 1000000 in
theorem bare_any (f : Fr) (s : Option Addr) (n c : Nat) (w : World) :
    Calls Tryz.prog 30 #[frv f (.slice s n c)] w fun e w' => e = .returned (frv (bareF f) (.slice none 0 0)) ∧ Below w.heap.size w w' := by
  by_cases h1 : f.kind = 1
  · have hb : bareF f = { kind := 1, id := 0, ext := false, rtr := false, brs := f.brs, esi := f.esi, sec := f.sec, sdt := f.sdt, vcid := f.vcid, af := f.af, data := [] } := by simp [bareF, h1]
    rw [hb]
    dsimp only [frv]
    rw [h1]
    clear hb h1
    go_enter Tryz.func30, Tryz.ntmps30
    go_wp2
    exact bodyPost_ret (v := .agg #[.int .i64 1, .int .u32 0, .bool false, .bool false, .bool f.brs, .bool f.esi, .bool f.sec, .int .u8 f.sdt, .int .u8 f.vcid, .int .u32 f.af, .slice none 0 0]) (by simp [results, Tryz.results30, go_sem]) rfl ⟨rfl, below_alloc (below_alloc (Below.refl _ _) _) _⟩
  · by_cases h2 : f.kind = 2
    · have hb : bareF f = { kind := 2, id := 0, ext := f.ext, rtr := f.rtr, brs := false, esi := false, sec := f.sec, sdt := f.sdt, vcid := f.vcid, af := f.af, data := [] } := by simp [bareF, h2]
      rw [hb]
      dsimp only [frv]
      rw [h2]
      clear hb h1 h2
      go_enter Tryz.func30, Tryz.ntmps30
      go_wp2
      exact bodyPost_ret (v := .agg #[.int .i64 2, .int .u32 0, .bool f.ext, .bool f.rtr, .bool false, .bool false, .bool f.sec, .int .u8 f.sdt, .int .u8 f.vcid, .int .u32 f.af, .slice none 0 0]) (by simp [results, Tryz.results30, go_sem]) rfl ⟨rfl, below_alloc (below_alloc (Below.refl _ _) _) _⟩
    · by_cases h3 : f.kind = 3
      · have hb : bareF f = { kind := 3, id := 0, ext := f.ext, rtr := f.rtr, brs := f.brs, esi := f.esi, sec := false, sdt := 0, vcid := 0, af := 0, data := [] } := by simp [bareF, h3]
        rw [hb]
        dsimp only [frv]
        rw [h3]
        clear hb h1 h2 h3
        go_enter Tryz.func30, Tryz.ntmps30
        go_wp2
        exact bodyPost_ret (v := .agg #[.int .i64 3, .int .u32 0, .bool f.ext, .bool f.rtr, .bool f.brs, .bool f.esi, .bool false, .int .u8 0, .int .u8 0, .int .u32 0, .slice none 0 0]) (by simp [results, Tryz.results30, go_sem]) rfl ⟨rfl, below_alloc (below_alloc (Below.refl _ _) _) _⟩
      · have hb : bareF f = { kind := f.kind, id := 0, ext := f.ext, rtr := f.rtr, brs := f.brs, esi := f.esi, sec := f.sec, sdt := f.sdt, vcid := f.vcid, af := f.af, data := [] } := by simp [bareF, h1, h2, h3]
        rw [hb]
        dsimp only [frv]
        have k1 : (f.kind == 1) = false := by simp [h1]
        have k2 : (f.kind == 2) = false := by simp [h2]
        have k3 : (f.kind == 3) = false := by simp [h3]
        clear hb h1 h2 h3
        go_enter Tryz.func30, Tryz.ntmps30
        go_wp2
        exact bodyPost_ret (v := .agg #[.int .i64 f.kind, .int .u32 0, .bool f.ext, .bool f.rtr, .bool f.brs, .bool f.esi, .bool f.sec, .int .u8 f.sdt, .int .u8 f.vcid, .int .u32 f.af, .slice none 0 0]) (by simp [results, Tryz.results30, go_sem]) rfl ⟨rfl, below_alloc (below_alloc (Below.refl _ _) _) _⟩
end Go.Proofs.YtlmdkmflbhnlgaaGreat
namespace Go.Proofs.YtlmdkmflbhnlgaaGreat
open Go.RowKit

/-- An error's number: 0 is none. -/
def zeroF (k : Int) : Fr := { kind := k, id := 0, ext := false, rtr := false, brs := false, esi := false, sec := false, sdt := 0, vcid := 0, af := 0, data := [] }
def limF (f : Fr) : Int := if f.ext then 536870912 else 2048
/-- May a frame be? -/
def okF (f : Fr) : Bool := (codeF f.kind f.data.length).isSome && decide (f.id < limF f) && !(f.rtr && decide (0 < f.data.length)) && sameF (bareF f) (zeroF f.kind)
def errV (b : Bool) : Value := .int .i64 (if b then 0 else 2)
set_option maxRecDepth 100000 in
set_option maxHeartbeats 400000 in
theorem Check_none (kind id : Int) (ext rtr brs esi sec : Bool) (sdt vcid af : Int) (A : Option Addr) (n c : Nat) (w : World)
    (HC : Hid (∀ W : World, Calls Tryz.prog 29 #[.int .i64 kind, .int .i64 (n : Nat)] W fun e w' => e = .returned (codeV none) ∧ Below W.heap.size W w')) :
    Calls Tryz.prog 16 #[.agg #[.int .i64 kind, .int .u32 id, .bool ext, .bool rtr, .bool brs, .bool esi, .bool sec, .int .u8 sdt, .int .u8 vcid, .int .u32 af, .slice A n c]] w fun e w' => e = .returned (.int .i64 2) ∧ Below w.heap.size w w' := by
  cases ext
  all_goals
    go_enter Tryz.func16, Tryz.ntmps16
    go_wp2_with fail
    refine (HC.out _).mono ?_
    rintro e w1 ⟨rfl, hb⟩
    obtain ⟨hce, hfe⟩ := bcell hb
    have HB := Lib.hid hb
    clear hb
    simp only [codeV_none]
    go_wp2_with fail
    go_quiet (fail)
    go_wp2_with fail
    go_ret
    exact ⟨rfl, below_drewN (below_trans (below_alloc (Below.refl _ _) _) HB.out) _⟩
set_option maxRecDepth 100000 in
set_option maxHeartbeats 400000 in
theorem Check_id (kind id : Int) (ext rtr brs esi sec : Bool) (sdt vcid af : Int) (A : Option Addr) (n c : Nat) (w : World) (co : Int) (hid : (if ext then 536870912 else 2048) ≤ id)
    (HC : Hid (∀ W : World, Calls Tryz.prog 29 #[.int .i64 kind, .int .i64 (n : Nat)] W fun e w' => e = .returned (codeV (some co)) ∧ Below W.heap.size W w')) :
    Calls Tryz.prog 16 #[.agg #[.int .i64 kind, .int .u32 id, .bool ext, .bool rtr, .bool brs, .bool esi, .bool sec, .int .u8 sdt, .int .u8 vcid, .int .u32 af, .slice A n c]] w fun e w' => e = .returned (.int .i64 2) ∧ Below w.heap.size w w' := by
  cases ext
  all_goals
    simp only [Bool.false_eq_true, if_false, if_true] at hid
    go_enter Tryz.func16, Tryz.ntmps16
    go_wp2_with fail
    refine (HC.out _).mono ?_
    rintro e w1 ⟨rfl, hb⟩
    obtain ⟨hce, hfe⟩ := bcell hb
    have HB := Lib.hid hb
    clear hb
    simp only [codeV_some]
    go_wp2_with fail
    go_quiet (fail)
    go_wp2_with fail
    go_ret
    exact ⟨rfl, below_drewN (below_trans (below_alloc (Below.refl _ _) _) HB.out) _⟩
set_option maxRecDepth 100000 in
set_option maxHeartbeats 400000 in
theorem Check_rtr (kind id : Int) (ext brs esi sec : Bool) (sdt vcid af : Int) (A : Option Addr) (n c : Nat) (w : World) (co : Int) (hid : id < (if ext then 536870912 else 2048)) (hn : 0 < n)
    (HC : Hid (∀ W : World, Calls Tryz.prog 29 #[.int .i64 kind, .int .i64 (n : Nat)] W fun e w' => e = .returned (codeV (some co)) ∧ Below W.heap.size W w')) :
    Calls Tryz.prog 16 #[.agg #[.int .i64 kind, .int .u32 id, .bool ext, .bool true, .bool brs, .bool esi, .bool sec, .int .u8 sdt, .int .u8 vcid, .int .u32 af, .slice A n c]] w fun e w' => e = .returned (.int .i64 2) ∧ Below w.heap.size w w' := by
  cases ext
  · simp only [Bool.false_eq_true, if_false] at hid
    have hn' : decide (0 < n) = true := by simp [hn]
    have hd : decide (2048 ≤ id) = false := by simp; omega
    clear hn hid
    go_enter Tryz.func16, Tryz.ntmps16
    go_wp2_with fail
    refine (HC.out _).mono ?_
    rintro e w1 ⟨rfl, hb⟩
    obtain ⟨hce, hfe⟩ := bcell hb
    have HB := Lib.hid hb
    clear hb
    simp only [codeV_some]
    go_wp2_with fail
    go_quiet (fail)
    go_wp2_with fail
    go_ret
    exact ⟨rfl, below_drewN (below_trans (below_alloc (Below.refl _ _) _) HB.out) _⟩
  · simp only [if_true] at hid
    have hn' : decide (0 < n) = true := by simp [hn]
    have hd : decide (536870912 ≤ id) = false := by simp; omega
    clear hn hid
    go_enter Tryz.func16, Tryz.ntmps16
    go_wp2_with fail
    refine (HC.out _).mono ?_
    rintro e w1 ⟨rfl, hb⟩
    obtain ⟨hce, hfe⟩ := bcell hb
    have HB := Lib.hid hb
    clear hb
    simp only [codeV_some]
    go_wp2_with fail
    go_quiet (fail)
    go_wp2_with fail
    go_ret
    exact ⟨rfl, below_drewN (below_trans (below_alloc (Below.refl _ _) _) HB.out) _⟩

set_option maxRecDepth 100000 in
set_option maxHeartbeats 400000 in
theorem Check_callsF (kind id : Int) (brs esi sec : Bool) (sdt vcid af : Int) (A : Option Addr) (n c : Nat) (w : World) (co : Int) (sm : Bool) (vb : Value) (hid : id < 2048)
    (HC : Hid (∀ W : World, Calls Tryz.prog 29 #[.int .i64 kind, .int .i64 (n : Nat)] W fun e w' => e = .returned (codeV (some co)) ∧ Below W.heap.size W w'))
    (HBA : Hid (∀ W : World, Calls Tryz.prog 30 #[.agg #[.int .i64 kind, .int .u32 id, .bool false, .bool false, .bool brs, .bool esi, .bool sec, .int .u8 sdt, .int .u8 vcid, .int .u32 af, .slice A n c]] W fun e w' => e = .returned vb ∧ Below W.heap.size W w'))
    (HSA : Hid (∀ W : World, Calls Tryz.prog 18 #[vb, .agg #[.int .i64 kind, .int .u32 0, .bool false, .bool false, .bool false, .bool false, .bool false, .int .u8 0, .int .u8 0, .int .u32 0, .slice none 0 0]] W fun e w' => e = .returned (.bool sm) ∧ Below W.heap.size W w')) :
    Calls Tryz.prog 16 #[.agg #[.int .i64 kind, .int .u32 id, .bool false, .bool false, .bool brs, .bool esi, .bool sec, .int .u8 sdt, .int .u8 vcid, .int .u32 af, .slice A n c]] w fun e w' => e = .returned (errV sm) ∧ Below w.heap.size w w' := by
  have hd : decide (2048 ≤ id) = false := by simp; omega
  clear hid
  go_enter Tryz.func16, Tryz.ntmps16
  go_wp2_with fail
  refine (HC.out _).mono ?_
  rintro e w1 ⟨rfl, hb⟩
  obtain ⟨hce, hfe⟩ := bcell hb
  have HB := Lib.hid hb
  clear hb
  simp only [codeV_some]
  go_wp2_with fail
  have hB0 : w1.heap[w.heap.size]? = some (.cells #[.int .i64 kind, .int .u32 id, .bool false, .bool false, .bool brs, .bool esi, .bool sec, .int .u8 sdt, .int .u8 vcid, .int .u32 af, .slice A n c] 28 (0, 0)) := heap_below HB.out (heap_new_at rfl)
  have hE := fun e : Ext w1 => cells11 (ext_heap hB0 e)
  have e0 : ∀ e : Ext w1, e.W.cell? ⟨w.heap.size, 0, none⟩ = some (.int .i64 kind) := fun e => (hE e).1
  have e1 : ∀ e : Ext w1, e.W.cell? ⟨w.heap.size, 1, none⟩ = some (.int .u32 id) := fun e => (hE e).2.1
  have e2 : ∀ e : Ext w1, e.W.cell? ⟨w.heap.size, 2, none⟩ = some (.bool false) := fun e => (hE e).2.2.1
  have e3 : ∀ e : Ext w1, e.W.cell? ⟨w.heap.size, 3, none⟩ = some (.bool false) := fun e => (hE e).2.2.2.1
  have e4 : ∀ e : Ext w1, e.W.cell? ⟨w.heap.size, 4, none⟩ = some (.bool brs) := fun e => (hE e).2.2.2.2.1
  have e5 : ∀ e : Ext w1, e.W.cell? ⟨w.heap.size, 5, none⟩ = some (.bool esi) := fun e => (hE e).2.2.2.2.2.1
  have e6 : ∀ e : Ext w1, e.W.cell? ⟨w.heap.size, 6, none⟩ = some (.bool sec) := fun e => (hE e).2.2.2.2.2.2.1
  have e7 : ∀ e : Ext w1, e.W.cell? ⟨w.heap.size, 7, none⟩ = some (.int .u8 sdt) := fun e => (hE e).2.2.2.2.2.2.2.1
  have e8 : ∀ e : Ext w1, e.W.cell? ⟨w.heap.size, 8, none⟩ = some (.int .u8 vcid) := fun e => (hE e).2.2.2.2.2.2.2.2.1
  have e9 : ∀ e : Ext w1, e.W.cell? ⟨w.heap.size, 9, none⟩ = some (.int .u32 af) := fun e => (hE e).2.2.2.2.2.2.2.2.2.1
  have e10 : ∀ e : Ext w1, e.W.cell? ⟨w.heap.size, 10, none⟩ = some (.slice A n c) := fun e => (hE e).2.2.2.2.2.2.2.2.2.2
  clear hE hB0 hce hfe
  refine wp_region_ext (by kernel_rfl) (by kernel_rfl) ?_
  repeat (go_big_quiet_step (first | (go_at_call 30; exact ecall (HBA.out _)) | (go_at_call 18; exact ecall (HSA.out _))))
  refine wpQuiet_nil ?_
  rintro _ ⟨⟨w2, hb2⟩, rfl⟩
  have HB2 := Lib.hid hb2
  clear hb2
  cases sm
  all_goals
    go_wp2_with fail
    go_ret
    exact ⟨rfl, below_trans (below_trans (below_alloc (Below.refl _ _) _) HB.out) HB2.out⟩
set_option maxRecDepth 100000 in
set_option maxHeartbeats 400000 in
theorem Check_callsT (kind id : Int) (brs esi sec : Bool) (sdt vcid af : Int) (A : Option Addr) (n c : Nat) (w : World) (co : Int) (sm : Bool) (vb : Value) (hid : id < 536870912)
    (HC : Hid (∀ W : World, Calls Tryz.prog 29 #[.int .i64 kind, .int .i64 (n : Nat)] W fun e w' => e = .returned (codeV (some co)) ∧ Below W.heap.size W w'))
    (HBA : Hid (∀ W : World, Calls Tryz.prog 30 #[.agg #[.int .i64 kind, .int .u32 id, .bool true, .bool false, .bool brs, .bool esi, .bool sec, .int .u8 sdt, .int .u8 vcid, .int .u32 af, .slice A n c]] W fun e w' => e = .returned vb ∧ Below W.heap.size W w'))
    (HSA : Hid (∀ W : World, Calls Tryz.prog 18 #[vb, .agg #[.int .i64 kind, .int .u32 0, .bool false, .bool false, .bool false, .bool false, .bool false, .int .u8 0, .int .u8 0, .int .u32 0, .slice none 0 0]] W fun e w' => e = .returned (.bool sm) ∧ Below W.heap.size W w')) :
    Calls Tryz.prog 16 #[.agg #[.int .i64 kind, .int .u32 id, .bool true, .bool false, .bool brs, .bool esi, .bool sec, .int .u8 sdt, .int .u8 vcid, .int .u32 af, .slice A n c]] w fun e w' => e = .returned (errV sm) ∧ Below w.heap.size w w' := by
  have hd : decide (536870912 ≤ id) = false := by simp; omega
  clear hid
  go_enter Tryz.func16, Tryz.ntmps16
  go_wp2_with fail
  refine (HC.out _).mono ?_
  rintro e w1 ⟨rfl, hb⟩
  obtain ⟨hce, hfe⟩ := bcell hb
  have HB := Lib.hid hb
  clear hb
  simp only [codeV_some]
  go_wp2_with fail
  have hB0 : w1.heap[w.heap.size]? = some (.cells #[.int .i64 kind, .int .u32 id, .bool true, .bool false, .bool brs, .bool esi, .bool sec, .int .u8 sdt, .int .u8 vcid, .int .u32 af, .slice A n c] 28 (0, 0)) := heap_below HB.out (heap_new_at rfl)
  have hE := fun e : Ext w1 => cells11 (ext_heap hB0 e)
  have e0 : ∀ e : Ext w1, e.W.cell? ⟨w.heap.size, 0, none⟩ = some (.int .i64 kind) := fun e => (hE e).1
  have e1 : ∀ e : Ext w1, e.W.cell? ⟨w.heap.size, 1, none⟩ = some (.int .u32 id) := fun e => (hE e).2.1
  have e2 : ∀ e : Ext w1, e.W.cell? ⟨w.heap.size, 2, none⟩ = some (.bool true) := fun e => (hE e).2.2.1
  have e3 : ∀ e : Ext w1, e.W.cell? ⟨w.heap.size, 3, none⟩ = some (.bool false) := fun e => (hE e).2.2.2.1
  have e4 : ∀ e : Ext w1, e.W.cell? ⟨w.heap.size, 4, none⟩ = some (.bool brs) := fun e => (hE e).2.2.2.2.1
  have e5 : ∀ e : Ext w1, e.W.cell? ⟨w.heap.size, 5, none⟩ = some (.bool esi) := fun e => (hE e).2.2.2.2.2.1
  have e6 : ∀ e : Ext w1, e.W.cell? ⟨w.heap.size, 6, none⟩ = some (.bool sec) := fun e => (hE e).2.2.2.2.2.2.1
  have e7 : ∀ e : Ext w1, e.W.cell? ⟨w.heap.size, 7, none⟩ = some (.int .u8 sdt) := fun e => (hE e).2.2.2.2.2.2.2.1
  have e8 : ∀ e : Ext w1, e.W.cell? ⟨w.heap.size, 8, none⟩ = some (.int .u8 vcid) := fun e => (hE e).2.2.2.2.2.2.2.2.1
  have e9 : ∀ e : Ext w1, e.W.cell? ⟨w.heap.size, 9, none⟩ = some (.int .u32 af) := fun e => (hE e).2.2.2.2.2.2.2.2.2.1
  have e10 : ∀ e : Ext w1, e.W.cell? ⟨w.heap.size, 10, none⟩ = some (.slice A n c) := fun e => (hE e).2.2.2.2.2.2.2.2.2.2
  clear hE hB0 hce hfe
  refine wp_region_ext (by kernel_rfl) (by kernel_rfl) ?_
  repeat (go_big_quiet_step (first | (go_at_call 30; exact ecall (HBA.out _)) | (go_at_call 18; exact ecall (HSA.out _))))
  refine wpQuiet_nil ?_
  rintro _ ⟨⟨w2, hb2⟩, rfl⟩
  have HB2 := Lib.hid hb2
  clear hb2
  cases sm
  all_goals
    go_wp2_with fail
    go_ret
    exact ⟨rfl, below_trans (below_trans (below_alloc (Below.refl _ _) _) HB.out) HB2.out⟩
set_option maxRecDepth 100000 in
set_option maxHeartbeats 400000 in
theorem Check_callsRF (kind id : Int) (brs esi sec : Bool) (sdt vcid af : Int) (A : Option Addr) (c : Nat) (w : World) (co : Int) (sm : Bool) (vb : Value) (hid : id < 2048)
    (HC : Hid (∀ W : World, Calls Tryz.prog 29 #[.int .i64 kind, .int .i64 (0 : Nat)] W fun e w' => e = .returned (codeV (some co)) ∧ Below W.heap.size W w'))
    (HBA : Hid (∀ W : World, Calls Tryz.prog 30 #[.agg #[.int .i64 kind, .int .u32 id, .bool false, .bool true, .bool brs, .bool esi, .bool sec, .int .u8 sdt, .int .u8 vcid, .int .u32 af, .slice A 0 c]] W fun e w' => e = .returned vb ∧ Below W.heap.size W w'))
    (HSA : Hid (∀ W : World, Calls Tryz.prog 18 #[vb, .agg #[.int .i64 kind, .int .u32 0, .bool false, .bool false, .bool false, .bool false, .bool false, .int .u8 0, .int .u8 0, .int .u32 0, .slice none 0 0]] W fun e w' => e = .returned (.bool sm) ∧ Below W.heap.size W w')) :
    Calls Tryz.prog 16 #[.agg #[.int .i64 kind, .int .u32 id, .bool false, .bool true, .bool brs, .bool esi, .bool sec, .int .u8 sdt, .int .u8 vcid, .int .u32 af, .slice A 0 c]] w fun e w' => e = .returned (errV sm) ∧ Below w.heap.size w w' := by
  have hd : decide (2048 ≤ id) = false := by simp; omega
  clear hid
  go_enter Tryz.func16, Tryz.ntmps16
  go_wp2_with fail
  refine (HC.out _).mono ?_
  rintro e w1 ⟨rfl, hb⟩
  obtain ⟨hce, hfe⟩ := bcell hb
  have HB := Lib.hid hb
  clear hb
  simp only [codeV_some]
  go_wp2_with fail
  have hB0 : w1.heap[w.heap.size]? = some (.cells #[.int .i64 kind, .int .u32 id, .bool false, .bool true, .bool brs, .bool esi, .bool sec, .int .u8 sdt, .int .u8 vcid, .int .u32 af, .slice A 0 c] 28 (0, 0)) := heap_below HB.out (heap_new_at rfl)
  have hE := fun e : Ext w1 => cells11 (ext_heap hB0 e)
  have e0 : ∀ e : Ext w1, e.W.cell? ⟨w.heap.size, 0, none⟩ = some (.int .i64 kind) := fun e => (hE e).1
  have e1 : ∀ e : Ext w1, e.W.cell? ⟨w.heap.size, 1, none⟩ = some (.int .u32 id) := fun e => (hE e).2.1
  have e2 : ∀ e : Ext w1, e.W.cell? ⟨w.heap.size, 2, none⟩ = some (.bool false) := fun e => (hE e).2.2.1
  have e3 : ∀ e : Ext w1, e.W.cell? ⟨w.heap.size, 3, none⟩ = some (.bool true) := fun e => (hE e).2.2.2.1
  have e4 : ∀ e : Ext w1, e.W.cell? ⟨w.heap.size, 4, none⟩ = some (.bool brs) := fun e => (hE e).2.2.2.2.1
  have e5 : ∀ e : Ext w1, e.W.cell? ⟨w.heap.size, 5, none⟩ = some (.bool esi) := fun e => (hE e).2.2.2.2.2.1
  have e6 : ∀ e : Ext w1, e.W.cell? ⟨w.heap.size, 6, none⟩ = some (.bool sec) := fun e => (hE e).2.2.2.2.2.2.1
  have e7 : ∀ e : Ext w1, e.W.cell? ⟨w.heap.size, 7, none⟩ = some (.int .u8 sdt) := fun e => (hE e).2.2.2.2.2.2.2.1
  have e8 : ∀ e : Ext w1, e.W.cell? ⟨w.heap.size, 8, none⟩ = some (.int .u8 vcid) := fun e => (hE e).2.2.2.2.2.2.2.2.1
  have e9 : ∀ e : Ext w1, e.W.cell? ⟨w.heap.size, 9, none⟩ = some (.int .u32 af) := fun e => (hE e).2.2.2.2.2.2.2.2.2.1
  have e10 : ∀ e : Ext w1, e.W.cell? ⟨w.heap.size, 10, none⟩ = some (.slice A 0 c) := fun e => (hE e).2.2.2.2.2.2.2.2.2.2
  clear hE hB0 hce hfe
  refine wp_region_ext (by kernel_rfl) (by kernel_rfl) ?_
  repeat (go_big_quiet_step (first | (go_at_call 30; exact ecall (HBA.out _)) | (go_at_call 18; exact ecall (HSA.out _))))
  refine wpQuiet_nil ?_
  rintro _ ⟨⟨w2, hb2⟩, rfl⟩
  have HB2 := Lib.hid hb2
  clear hb2
  cases sm
  all_goals
    go_wp2_with fail
    go_ret
    exact ⟨rfl, below_trans (below_trans (below_alloc (Below.refl _ _) _) HB.out) HB2.out⟩
set_option maxRecDepth 100000 in
set_option maxHeartbeats 400000 in
theorem Check_callsRT (kind id : Int) (brs esi sec : Bool) (sdt vcid af : Int) (A : Option Addr) (c : Nat) (w : World) (co : Int) (sm : Bool) (vb : Value) (hid : id < 536870912)
    (HC : Hid (∀ W : World, Calls Tryz.prog 29 #[.int .i64 kind, .int .i64 (0 : Nat)] W fun e w' => e = .returned (codeV (some co)) ∧ Below W.heap.size W w'))
    (HBA : Hid (∀ W : World, Calls Tryz.prog 30 #[.agg #[.int .i64 kind, .int .u32 id, .bool true, .bool true, .bool brs, .bool esi, .bool sec, .int .u8 sdt, .int .u8 vcid, .int .u32 af, .slice A 0 c]] W fun e w' => e = .returned vb ∧ Below W.heap.size W w'))
    (HSA : Hid (∀ W : World, Calls Tryz.prog 18 #[vb, .agg #[.int .i64 kind, .int .u32 0, .bool false, .bool false, .bool false, .bool false, .bool false, .int .u8 0, .int .u8 0, .int .u32 0, .slice none 0 0]] W fun e w' => e = .returned (.bool sm) ∧ Below W.heap.size W w')) :
    Calls Tryz.prog 16 #[.agg #[.int .i64 kind, .int .u32 id, .bool true, .bool true, .bool brs, .bool esi, .bool sec, .int .u8 sdt, .int .u8 vcid, .int .u32 af, .slice A 0 c]] w fun e w' => e = .returned (errV sm) ∧ Below w.heap.size w w' := by
  have hd : decide (536870912 ≤ id) = false := by simp; omega
  clear hid
  go_enter Tryz.func16, Tryz.ntmps16
  go_wp2_with fail
  refine (HC.out _).mono ?_
  rintro e w1 ⟨rfl, hb⟩
  obtain ⟨hce, hfe⟩ := bcell hb
  have HB := Lib.hid hb
  clear hb
  simp only [codeV_some]
  go_wp2_with fail
  have hB0 : w1.heap[w.heap.size]? = some (.cells #[.int .i64 kind, .int .u32 id, .bool true, .bool true, .bool brs, .bool esi, .bool sec, .int .u8 sdt, .int .u8 vcid, .int .u32 af, .slice A 0 c] 28 (0, 0)) := heap_below HB.out (heap_new_at rfl)
  have hE := fun e : Ext w1 => cells11 (ext_heap hB0 e)
  have e0 : ∀ e : Ext w1, e.W.cell? ⟨w.heap.size, 0, none⟩ = some (.int .i64 kind) := fun e => (hE e).1
  have e1 : ∀ e : Ext w1, e.W.cell? ⟨w.heap.size, 1, none⟩ = some (.int .u32 id) := fun e => (hE e).2.1
  have e2 : ∀ e : Ext w1, e.W.cell? ⟨w.heap.size, 2, none⟩ = some (.bool true) := fun e => (hE e).2.2.1
  have e3 : ∀ e : Ext w1, e.W.cell? ⟨w.heap.size, 3, none⟩ = some (.bool true) := fun e => (hE e).2.2.2.1
  have e4 : ∀ e : Ext w1, e.W.cell? ⟨w.heap.size, 4, none⟩ = some (.bool brs) := fun e => (hE e).2.2.2.2.1
  have e5 : ∀ e : Ext w1, e.W.cell? ⟨w.heap.size, 5, none⟩ = some (.bool esi) := fun e => (hE e).2.2.2.2.2.1
  have e6 : ∀ e : Ext w1, e.W.cell? ⟨w.heap.size, 6, none⟩ = some (.bool sec) := fun e => (hE e).2.2.2.2.2.2.1
  have e7 : ∀ e : Ext w1, e.W.cell? ⟨w.heap.size, 7, none⟩ = some (.int .u8 sdt) := fun e => (hE e).2.2.2.2.2.2.2.1
  have e8 : ∀ e : Ext w1, e.W.cell? ⟨w.heap.size, 8, none⟩ = some (.int .u8 vcid) := fun e => (hE e).2.2.2.2.2.2.2.2.1
  have e9 : ∀ e : Ext w1, e.W.cell? ⟨w.heap.size, 9, none⟩ = some (.int .u32 af) := fun e => (hE e).2.2.2.2.2.2.2.2.2.1
  have e10 : ∀ e : Ext w1, e.W.cell? ⟨w.heap.size, 10, none⟩ = some (.slice A 0 c) := fun e => (hE e).2.2.2.2.2.2.2.2.2.2
  clear hE hB0 hce hfe
  refine wp_region_ext (by kernel_rfl) (by kernel_rfl) ?_
  repeat (go_big_quiet_step (first | (go_at_call 30; exact ecall (HBA.out _)) | (go_at_call 18; exact ecall (HSA.out _))))
  refine wpQuiet_nil ?_
  rintro _ ⟨⟨w2, hb2⟩, rfl⟩
  have HB2 := Lib.hid hb2
  clear hb2
  cases sm
  all_goals
    go_wp2_with fail
    go_ret
    exact ⟨rfl, below_trans (below_trans (below_alloc (Below.refl _ _) _) HB.out) HB2.out⟩

set_option maxHeartbeats 400000 in
theorem Check_any (f : Fr) (A : Option Addr) (c : Nat) (w : World) (hl : f.data.length ≤ 9223372036854775807) :
    Calls Tryz.prog 16 #[frv f (.slice A f.data.length c)] w fun e w' => e = .returned (errV (okF f)) ∧ Below w.heap.size w w' := by
  have hok : okF f = ((codeF f.kind f.data.length).isSome && decide (f.id < limF f) && !(f.rtr && decide (0 < f.data.length)) && sameF (bareF f) (zeroF f.kind)) := rfl
  have hc := fun W => Code_any f.kind f.data.length W (by omega) (by omega)
  have hbare := fun W => bare_any f A f.data.length c W
  have hsame := fun W => Same_any (bareF f) (zeroF f.kind) none none 0 0 W (Rd.nil _ _) (Rd.nil _ _) (by intro x hx; simp [bareF] at hx) (by intro x hx; simp [zeroF] at hx)
  have hlim : limF f = if f.ext then 536870912 else 2048 := rfl
  generalize okF f = r at *
  generalize sameF (bareF f) (zeroF f.kind) = sm at *
  generalize codeF f.kind f.data.length = co at *
  generalize limF f = lim at *
  obtain ⟨kind, id, ext, rtr, brs, esi, sec, sdt, vcid, af, data⟩ := f
  dsimp only [frv] at *
  generalize data.length = n at *
  cases co with
  | none =>
    have hr : r = false := by rw [hok]; rfl
    subst hr
    exact Check_none kind id ext rtr brs esi sec sdt vcid af A n c w (Lib.hid hc)
  | some co =>
    by_cases hid : id < lim
    · cases rtr with
      | true =>
        by_cases hn : 0 < n
        · have hr : r = false := by rw [hok]; simp [hn]
          subst hr hlim
          exact Check_rtr kind id ext brs esi sec sdt vcid af A n c w co hid hn (Lib.hid hc)
        · obtain rfl : n = 0 := by omega
          have hr : r = sm := by rw [hok]; simp [hid]
          subst hr hlim
          cases ext
          · exact Check_callsRF kind id brs esi sec sdt vcid af A c w co r _ hid (Lib.hid hc) (Lib.hid hbare) (Lib.hid hsame)
          · exact Check_callsRT kind id brs esi sec sdt vcid af A c w co r _ hid (Lib.hid hc) (Lib.hid hbare) (Lib.hid hsame)
      | false =>
        have hr : r = sm := by rw [hok]; simp [hid]
        subst hr hlim
        cases ext
        · exact Check_callsF kind id brs esi sec sdt vcid af A n c w co r _ hid (Lib.hid hc) (Lib.hid hbare) (Lib.hid hsame)
        · exact Check_callsT kind id brs esi sec sdt vcid af A n c w co r _ hid (Lib.hid hc) (Lib.hid hbare) (Lib.hid hsame)
    · have hr : r = false := by rw [hok]; simp [hid]
      subst hr hlim
      exact Check_id kind id ext rtr brs esi sec sdt vcid af A n c w co (by simpa using hid) (Lib.hid hc)
end Go.Proofs.YtlmdkmflbhnlgaaGreat
-- Fields: Bits of bytes, of numbers, and fields that grow. No condition.
namespace Go.Proofs.YtlmdkmflbhnlgaaGreat
open Go.RowKit
set_option maxRecDepth 100000 in
set_option maxHeartbeats 1000000 in
theorem fieldsPut_any (w : World) (B b t : Nat) (A : Option Addr) (c n size : Nat) (l : List Nat) (h : Pot w B b t A c l) (hn : n < 18446744073709551616) (hs : size ≤ 64) (hlt : n < 2 ^ size) (hl : l.length + size ≤ 1000000) :
    Calls Tryz.prog 67 #[.pointer (some ⟨b, 0, none⟩), .int .u64 n, .int .i64 size] w fun e w' => e = .returned (.tuple #[]) ∧ (∃ A' c', Pot w' B b t A' c' (l ++ bitsN n size)) ∧ Keep B b w w' := by
  obtain ⟨i0, hi, hz0, hz1, hz2⟩ := info_parts info_u8
  have HB := Lib.hid (bitsPut_any w n size hn hs hlt)
  have HP := Lib.hid h
  clear h hlt
  go_enter Tryz.func67, Tryz.ntmps67
  go_wp2_with fail
  refine HB.out.mono ?_
  rintro e w1 ⟨⟨A2, c2, rfl, hrow⟩, hb⟩
  have HQ := Lib.hid (HP.out.below hb)
  have HRow := Lib.hid hrow
  have HB1 := Lib.hid hb
  clear hrow hb
  obtain ⟨q, hq⟩ : ∃ q, l.length = q := ⟨_, rfl⟩
  have hq2 : q + size ≤ 1000000 := by omega
  have c0 : w1.cell? ⟨b, 0, none⟩ = some (.slice A q c) := by rw [← hq]; exact HQ.out.cell
  have z0 : w1.frozen? ⟨b, 0, none⟩ = false := HQ.out.frozen
  have sb : b < w1.heap.size := heap_lt HQ.out.box
  have HL := Lib.hid hq
  clear hq hl
  go_wp2_with (at_builtin; refine wpList_pot (W0 := w) HQ.out (.of HB1.out HP.out.size) rfl (.tmp 18) (.tmp 19) 22 rfl i0 _ 1 Tryz.underlying22 hi hz0 hz1 hz2 rfl q HL.out rfl A2 size c2 (bitsN n size) rfl (bitsN_length _ _) HRow.out.rd (fun _ e => HRow.out.none_ e) (q + size) rfl (by unfold maxLen; omega) (by omega) ?_; intro w3 A3 c3 HP3 c03 z03)
  go_end0
  obtain ⟨p1, p2⟩ := HP3.out.store (n := q + size) (by rw [List.length_append, HL.out, bitsN_length])
  exact ⟨rfl, ⟨_, _, p1⟩, p2⟩
theorem fieldsFlag_any (w : World) (B b t : Nat) (A : Option Addr) (c : Nat) (x : Bool) (l : List Nat) (h : Pot w B b t A c l) (hl : l.length + 1 ≤ 1000000) :
    Calls Tryz.prog 69 #[.pointer (some ⟨b, 0, none⟩), .bool x] w fun e w' => e = .returned (.tuple #[]) ∧ (∃ A' c', Pot w' B b t A' c' (l ++ [bitB x])) ∧ Keep B b w w' := by
  cases x
  · have HP := Lib.hid (fieldsPut_any w B b t A c 0 1 l h (by omega) (by omega) (by omega) (by omega))
    clear h
    go_enter Tryz.func69, Tryz.ntmps69
    go_wp2_with fail
    refine HP.out.mono ?_
    rintro e w' ⟨rfl, h1, h2⟩
    have H1 := Lib.hid h1
    have H2 := Lib.hid h2
    clear h1 h2
    go_wp2_with fail
    go_end0
    exact ⟨rfl, H1.out, H2.out⟩
  · have HP := Lib.hid (fieldsPut_any w B b t A c 1 1 l h (by omega) (by omega) (by omega) (by omega))
    clear h
    go_enter Tryz.func69, Tryz.ntmps69
    go_wp2_with fail
    refine HP.out.mono ?_
    rintro e w' ⟨rfl, h1, h2⟩
    have H1 := Lib.hid h1
    have H2 := Lib.hid h2
    clear h1 h2
    go_wp2_with fail
    go_end0
    exact ⟨rfl, H1.out, H2.out⟩
/-- A frame's bits, up to the last one that arbitrates. -/
def headL (f : Fr) : List Nat :=
  if f.ext then [0] ++ bitsN (f.id.toNat / 262144) 11 ++ [1, 1] ++ bitsN (f.id.toNat % 262144) 18 ++ [bitB f.rtr] ++ [0, 0]
  else [0] ++ bitsN f.id.toNat 11 ++ [bitB f.rtr] ++ [0, 0]
end Go.Proofs.YtlmdkmflbhnlgaaGreat
-- And18: The low eighteen bits of an identifier. No condition.
namespace Go.Proofs.YtlmdkmflbhnlgaaGreat
open Go.RowKit
theorem and18 (id : Int) (h0 : 0 ≤ id) (h1 : id < 536870912) : bits .and .u32 id 262143 = id % 262144 := by
  rw [u32_and id 262143 h0 (by omega) (by omega) (by omega)]
  have : id.toNat &&& (262143 : Int).toNat = id.toNat % 2 ^ 18 := Nat.and_two_pow_sub_one_eq_mod id.toNat 18
  rw [this]
  omega
/-- A frame's key among all that arbitrate. -/
def keyF (f : Fr) : Int :=
  if f.ext then f.id / 262144 * 8388608 + 6291456 + f.id % 262144 * 8 + (if f.rtr then 4 else 0)
  else f.id * 8388608 + (if f.rtr then 4194304 else 0) + (if f.kind = 1 then 0 else 1048576) + (if f.kind = 3 then 524288 else 0)
end Go.Proofs.YtlmdkmflbhnlgaaGreat
