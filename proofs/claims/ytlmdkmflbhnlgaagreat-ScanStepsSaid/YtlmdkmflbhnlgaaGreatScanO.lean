/- The machine's marks: how a bit is taken. No condition. -/
import Derived.Test.YtlmdkmflbhnlgaaGreatScanM
namespace Go.Proofs.YtlmdkmflbhnlgaaGreat
open Go.RowKit
variable {w : World} {s : List Nat} {mp : Nat} {S : MS} {a : MA}
theorem MAct.congr {S S' : MS} {w' : World} (h : MAct w s mp S w') (e : S = S') : MAct w s mp S' w' := e ▸ h
theorem wpList_mputN {P : Program} {ops : Array Oper} {rest : List Oper} {op : Oper} {f : Act} {Q : Exit → Act → World → Prop} (h : MR w s mp S a) (hgd : op.guard = none) (hds : op.dst = none) (ty : TypeId) (x y : Operand) (ho : op.op = .store ty x y)
    (i : Nat) (v : Value) (hx : f.eval x = .pointer (some ⟨mp, i, none⟩)) (hy : f.eval y = v) (h1 : v.oneCell' = true) (hi : (P.info? ty).map (·.size) = some 1) (hin : i < 34)
    (S' : MS) (a' : MA) (hv : (mca S a).setIfInBounds i v = mca S' a')
    (hk : ∀ w', Turn s w w' → MRest w' s mp S.raw S.l S.own S.sf.data S.f.data S.step S.next S.gh a → MRest w' s mp S'.raw S'.l S'.own S'.sf.data S'.f.data S'.step S'.next S'.gh a')
    (K : ∀ W', Hid (MR W' s mp S' a') → Hid (Turn s w W') → wpList P ops Q rest f W') : wpList P ops Q (op :: rest) f w :=
  wpList_mput h hgd ty x y ho i v hx hy h1 hi hin S' a' hv hk (by rw [hds]; exact K)
set_option maxRecDepth 100000 in
set_option maxHeartbeats 4000000 in
theorem mMarkStep (h : MR w s mp S a) (p q r : Nat) (A : Option Addr) (c n : Nat) (l : List Nat) (x : Aft) (av : Value) (b : Nat) (b1 : BoxV w s p #[ptr mp] 36) (b2 : BoxV w s q #[.slice A n c] 22) (b3 : BoxV w s r #[av] 1) (hd : DatU w s A c l) (hx : AftOk mp x av) (hn : l.length = n) (hat : S.at_ < n) (hn2 : n ≤ 1000) (hraw : 0 < S.raw.length) :
    Calls Tryz.prog 131 #[.int .u8 b, .pointer (some ⟨p, 0, none⟩), .pointer (some ⟨q, 0, none⟩), .pointer (some ⟨r, 0, none⟩)] w (MDone w s mp (markStepM S l x b)) := by
  obtain ⟨k, hk⟩ : ∃ k, S.at_ = k := ⟨_, rfl⟩
  rw [hk] at hat
  obtain ⟨ad, rfl, hca⟩ := hd.1.at_ k (by omega)
  have hgd : l.getD k 0 = l[k]'(by omega) := by simp [List.getD, List.getElem?_eq_getElem (by omega : k < l.length)]
  obtain ⟨y, hy⟩ : ∃ y, l[k]'(by omega) = y := ⟨_, rfl⟩
  rw [hy] at hca hgd
  have c33 : w.cell? ⟨mp, 33, none⟩ = some (.int .i64 k) := h.cell 33 _ (by rw [← hk]; rfl)
  have hs : markStepM S l x b = if b = y then (if k + 1 = n then aftM { S with at_ := k + 1 } x else { S with at_ := k + 1 }) else badM S 5 := by rw [← hgd, ← hn, ← hk]; rfl
  obtain ⟨T, hT⟩ : ∃ T, markStepM S l x b = T := ⟨_, rfl⟩
  rw [hT] at hs ⊢
  have HSS := Lib.hid hs
  have HH := Lib.hid h
  have B1 := Lib.hid b1
  have B2 := Lib.hid b2
  have B3 := Lib.hid b3
  have HX := Lib.hid hx
  have HRAW := Lib.hid hraw
  have c0 : ∀ e : Ext w, e.W.cell? ⟨p, 0, none⟩ = some (.pointer (some ⟨mp, 0, none⟩)) := fun e => ext_cell (b1.cell 0 _ rfl) e
  have c1 : ∀ e : Ext w, e.W.cell? ⟨q, 0, none⟩ = some (.slice (some ad) n c) := fun e => ext_cell (b2.cell 0 _ rfl) e
  have c2 : ∀ e : Ext w, e.W.cell? ⟨mp, 33, none⟩ = some (.int .i64 k) := fun e => ext_cell c33 e
  have c3 : ∀ e : Ext w, e.W.cell? (ad.add k) = some (.int .u8 y) := fun e => ext_cell hca e
  clear h b1 b2 b3 hd hx hraw hca hgd hy c33 hs hT hn
  have HAT : Hid (S.at_ = k) := hk
  clear hk
  by_cases hby : b = y
  · subst hby
    rw [if_pos rfl] at HSS
    by_cases hkn : k + 1 = n
    · rw [if_pos hkn] at HSS
      subst hkn
      cases x
      · obtain rfl : av = .func (.func 121) #[.pointer (some ⟨mp, 0, none⟩)] #[] := HX.out
        go_enter Tryz.func131, Tryz.ntmps131
        go_wp2_with fail
        refine wp_region_mix (fun w' => ∃ e : Ext w, w' = e.W) [(true, 0), (true, 1), (true, 2), (true, 3), (true, 4), (true, 5), (true, 6), (true, 7), (true, 8), (true, 9)] [10, 11] (by kernel_rfl) (by kernel_rfl) (by intro _ _ d _ _ h; cases d <;> exact h) ⟨⟨w.drew, (Below.refl _ _).drew⟩, rfl⟩ ?_
        simp only [pickM, pickL, List.drop_succ_cons, List.drop_zero]
        repeat (first | (refine mix_pure (by rfl) (by rfl) ?_; intro K hK; go_big_quiet_op; go_big_quiet_on) | (refine mix_nilc ⟨mp, 0, none⟩ (by rfl) (by kernel_rfl) ?_; go_simp))
        refine mix_nil ?_
        clear c0 c1 c2 c3
        have hbd : Below w.heap.size w w.drew := (Below.refl _ _).drew
        have H3 := Lib.hid (HH.out.below hbd)
        have C1 := Lib.hid (B1.out.turn (Turn.of (s := s) hbd) (fun _ hk => .inl hk))
        have C2 := Lib.hid (B2.out.turn (Turn.of (s := s) hbd) (fun _ hk => .inl hk))
        have C3 := Lib.hid (B3.out.turn (Turn.of (s := s) hbd) (fun _ hk => .inl hk))
        have HBD := Lib.hid hbd
        clear hbd
        generalize w.drew = W4 at *
        go_wp2_with fail
        refine (mMust H3.out _).mono ?_
        rintro e w4 ⟨rfl, hA⟩
        obtain ⟨s4, a4, h4, n4, t4⟩ := hA
        have T04 := Lib.hid ((Turn.of (s := s) HBD.out).tr t4)
        have E1 := Lib.hid (C1.out.turn t4 n4)
        have E2 := Lib.hid (C2.out.turn t4 n4)
        have E3 := Lib.hid (C3.out.turn t4 n4)
        have H4 : Hid (MR w4 s4 mp S a4) := h4
        have N4 : Hid (∀ k ∈ s4, k ∈ s ∨ w.heap.size ≤ k) := fun k hk => (n4 k hk).imp id (fun h => Nat.le_trans HBD.out.size h)
        clear h4 n4 t4 C1 C2 C3 H3 B1 B2 B3
        have c0 : w4.cell? ⟨p, 0, none⟩ = some (.pointer (some ⟨mp, 0, none⟩)) := E1.out.cell 0 _ rfl
        have c33 : w4.cell? ⟨mp, 33, none⟩ = some (.int .i64 k) := H4.out.cell 33 _ (by rw [← HAT.out]; rfl)
        have z33 := H4.out.frz 33
        go_wp2_with (first
          | (refine wpList_mputN H4.out rfl rfl 3 (.tmp 23) (.tmp 21) rfl 33 (.int .i64 (k + 1 : Nat)) (by kernel_rfl) (by kernel_rfl) rfl info_intS (by decide) { S with at_ := k + 1 } a4 (by kernel_rfl) (fun _ _ hm => hm) ?_; intro W5 H5 T5)
          | fail)
        have F1 := Lib.hid (E1.out.turn T5.out (fun _ hk => .inl hk))
        have F2 := Lib.hid (E2.out.turn T5.out (fun _ hk => .inl hk))
        have F3 := Lib.hid (E3.out.turn T5.out (fun _ hk => .inl hk))
        have c0 : ∀ e : Ext W5, e.W.cell? ⟨p, 0, none⟩ = some (.pointer (some ⟨mp, 0, none⟩)) := fun e => ext_cell (F1.out.cell 0 _ rfl) e
        have c1 : ∀ e : Ext W5, e.W.cell? ⟨q, 0, none⟩ = some (.slice (some ad) (k + 1) c) := fun e => ext_cell (F2.out.cell 0 _ rfl) e
        have c2 : ∀ e : Ext W5, e.W.cell? ⟨mp, 33, none⟩ = some (.int .i64 ((k : Int) + 1)) := fun e => ext_cell (H5.out.cell 33 _ rfl) e
        clear E1 E2 E3 c33 z33
        refine wp_region_mix (fun w' => ∃ e : Ext W5, w' = e.W) [(true, 0), (true, 1), (true, 2), (true, 3), (true, 4), (true, 5), (true, 6)] [] (by kernel_rfl) (by kernel_rfl) (by intro _ _ d _ _ h; cases d <;> exact h) ⟨⟨W5.drew, (Below.refl _ _).drew⟩, rfl⟩ ?_
        simp only [pickM, pickL, List.drop_succ_cons, List.drop_zero]
        repeat (first | (refine mix_pure (by rfl) (by rfl) ?_; intro K hK; go_big_quiet_op; go_big_quiet_on) | (refine mix_nilc ⟨mp, 0, none⟩ (by rfl) (by kernel_rfl) ?_; go_simp))
        refine mix_nil (wpList_nil ?_)
        clear c0 c1 c2
        have hbd : Below W5.heap.size W5 W5.drew := (Below.refl _ _).drew
        have H6 := Lib.hid (H5.out.below hbd)
        have T46 := Lib.hid (T5.out.tr (Turn.of (s := s4) hbd))
        have G3 := Lib.hid (F3.out.turn (Turn.of (s := s4) hbd) (fun _ hk => .inl hk))
        clear hbd F1 F2 F3 H5 T5
        generalize W5.drew = W6 at *
        have c3 : W6.cell? ⟨r, 0, none⟩ = some (.func (.func 121) #[.pointer (some ⟨mp, 0, none⟩)] #[]) := G3.out.cell 0 _ rfl
        go_wp2_with fail
        refine (mXlCode H6.out HRAW.out).mono ?_
        rintro e w7 ⟨rfl, hA7⟩
        go_wp2_with fail
        go_end0
        exact ⟨rfl, HSS.out ▸ (hA7.after (fun _ hk => .inl hk) T46.out).after N4.out T04.out⟩
      · obtain rfl : av = .func (.func 108) #[.pointer (some ⟨mp, 0, none⟩)] #[] := HX.out
        go_enter Tryz.func131, Tryz.ntmps131
        go_wp2_with fail
        refine wp_region_mix (fun w' => ∃ e : Ext w, w' = e.W) [(true, 0), (true, 1), (true, 2), (true, 3), (true, 4), (true, 5), (true, 6), (true, 7), (true, 8), (true, 9)] [10, 11] (by kernel_rfl) (by kernel_rfl) (by intro _ _ d _ _ h; cases d <;> exact h) ⟨⟨w.drew, (Below.refl _ _).drew⟩, rfl⟩ ?_
        simp only [pickM, pickL, List.drop_succ_cons, List.drop_zero]
        repeat (first | (refine mix_pure (by rfl) (by rfl) ?_; intro K hK; go_big_quiet_op; go_big_quiet_on) | (refine mix_nilc ⟨mp, 0, none⟩ (by rfl) (by kernel_rfl) ?_; go_simp))
        refine mix_nil ?_
        clear c0 c1 c2 c3
        have hbd : Below w.heap.size w w.drew := (Below.refl _ _).drew
        have H3 := Lib.hid (HH.out.below hbd)
        have C1 := Lib.hid (B1.out.turn (Turn.of (s := s) hbd) (fun _ hk => .inl hk))
        have C2 := Lib.hid (B2.out.turn (Turn.of (s := s) hbd) (fun _ hk => .inl hk))
        have C3 := Lib.hid (B3.out.turn (Turn.of (s := s) hbd) (fun _ hk => .inl hk))
        have HBD := Lib.hid hbd
        clear hbd
        generalize w.drew = W4 at *
        go_wp2_with fail
        refine (mMust H3.out _).mono ?_
        rintro e w4 ⟨rfl, hA⟩
        obtain ⟨s4, a4, h4, n4, t4⟩ := hA
        have T04 := Lib.hid ((Turn.of (s := s) HBD.out).tr t4)
        have E1 := Lib.hid (C1.out.turn t4 n4)
        have E2 := Lib.hid (C2.out.turn t4 n4)
        have E3 := Lib.hid (C3.out.turn t4 n4)
        have H4 : Hid (MR w4 s4 mp S a4) := h4
        have N4 : Hid (∀ k ∈ s4, k ∈ s ∨ w.heap.size ≤ k) := fun k hk => (n4 k hk).imp id (fun h => Nat.le_trans HBD.out.size h)
        clear h4 n4 t4 C1 C2 C3 H3 B1 B2 B3
        have c0 : w4.cell? ⟨p, 0, none⟩ = some (.pointer (some ⟨mp, 0, none⟩)) := E1.out.cell 0 _ rfl
        have c33 : w4.cell? ⟨mp, 33, none⟩ = some (.int .i64 k) := H4.out.cell 33 _ (by rw [← HAT.out]; rfl)
        have z33 := H4.out.frz 33
        go_wp2_with (first
          | (refine wpList_mputN H4.out rfl rfl 3 (.tmp 23) (.tmp 21) rfl 33 (.int .i64 (k + 1 : Nat)) (by kernel_rfl) (by kernel_rfl) rfl info_intS (by decide) { S with at_ := k + 1 } a4 (by kernel_rfl) (fun _ _ hm => hm) ?_; intro W5 H5 T5)
          | fail)
        have F1 := Lib.hid (E1.out.turn T5.out (fun _ hk => .inl hk))
        have F2 := Lib.hid (E2.out.turn T5.out (fun _ hk => .inl hk))
        have F3 := Lib.hid (E3.out.turn T5.out (fun _ hk => .inl hk))
        have c0 : ∀ e : Ext W5, e.W.cell? ⟨p, 0, none⟩ = some (.pointer (some ⟨mp, 0, none⟩)) := fun e => ext_cell (F1.out.cell 0 _ rfl) e
        have c1 : ∀ e : Ext W5, e.W.cell? ⟨q, 0, none⟩ = some (.slice (some ad) (k + 1) c) := fun e => ext_cell (F2.out.cell 0 _ rfl) e
        have c2 : ∀ e : Ext W5, e.W.cell? ⟨mp, 33, none⟩ = some (.int .i64 ((k : Int) + 1)) := fun e => ext_cell (H5.out.cell 33 _ rfl) e
        clear E1 E2 E3 c33 z33
        refine wp_region_mix (fun w' => ∃ e : Ext W5, w' = e.W) [(true, 0), (true, 1), (true, 2), (true, 3), (true, 4), (true, 5), (true, 6)] [] (by kernel_rfl) (by kernel_rfl) (by intro _ _ d _ _ h; cases d <;> exact h) ⟨⟨W5.drew, (Below.refl _ _).drew⟩, rfl⟩ ?_
        simp only [pickM, pickL, List.drop_succ_cons, List.drop_zero]
        repeat (first | (refine mix_pure (by rfl) (by rfl) ?_; intro K hK; go_big_quiet_op; go_big_quiet_on) | (refine mix_nilc ⟨mp, 0, none⟩ (by rfl) (by kernel_rfl) ?_; go_simp))
        refine mix_nil (wpList_nil ?_)
        clear c0 c1 c2
        have hbd : Below W5.heap.size W5 W5.drew := (Below.refl _ _).drew
        have H6 := Lib.hid (H5.out.below hbd)
        have T46 := Lib.hid (T5.out.tr (Turn.of (s := s4) hbd))
        have G3 := Lib.hid (F3.out.turn (Turn.of (s := s4) hbd) (fun _ hk => .inl hk))
        clear hbd F1 F2 F3 H5 T5
        generalize W5.drew = W6 at *
        have c3 : W6.cell? ⟨r, 0, none⟩ = some (.func (.func 108) #[.pointer (some ⟨mp, 0, none⟩)] #[]) := G3.out.cell 0 _ rfl
        go_wp2_with fail
        refine (mEnd H6.out).mono ?_
        rintro e w7 ⟨rfl, hA7⟩
        go_wp2_with fail
        go_end0
        exact ⟨rfl, HSS.out ▸ (hA7.after (fun _ hk => .inl hk) T46.out).after N4.out T04.out⟩
    · rw [if_neg hkn] at HSS
      have g1 : (((k : Int) + 1) == (n : Int)) = false := by simp; omega
      have g2 : ¬ (k : Int) + 1 = (n : Int) := by omega
      go_enter Tryz.func131, Tryz.ntmps131
      go_wp2_with fail
      refine wp_region_mix (fun w' => ∃ e : Ext w, w' = e.W) [(true, 0), (true, 1), (true, 2), (true, 3), (true, 4), (true, 5), (true, 6), (true, 7), (true, 8), (true, 9)] [10, 11] (by kernel_rfl) (by kernel_rfl) (by intro _ _ d _ _ h; cases d <;> exact h) ⟨⟨w.drew, (Below.refl _ _).drew⟩, rfl⟩ ?_
      simp only [pickM, pickL, List.drop_succ_cons, List.drop_zero]
      repeat (first | (refine mix_pure (by rfl) (by rfl) ?_; intro K hK; go_big_quiet_op; go_big_quiet_on) | (refine mix_nilc ⟨mp, 0, none⟩ (by rfl) (by kernel_rfl) ?_; go_simp))
      refine mix_nil ?_
      clear c0 c1 c2 c3
      have hbd : Below w.heap.size w w.drew := (Below.refl _ _).drew
      have H3 := Lib.hid (HH.out.below hbd)
      have C1 := Lib.hid (B1.out.turn (Turn.of (s := s) hbd) (fun _ hk => .inl hk))
      have C2 := Lib.hid (B2.out.turn (Turn.of (s := s) hbd) (fun _ hk => .inl hk))
      have C3 := Lib.hid (B3.out.turn (Turn.of (s := s) hbd) (fun _ hk => .inl hk))
      have HBD := Lib.hid hbd
      clear hbd
      generalize w.drew = W4 at *
      go_wp2_with fail
      refine (mMust H3.out _).mono ?_
      rintro e w4 ⟨rfl, hA⟩
      obtain ⟨s4, a4, h4, n4, t4⟩ := hA
      have T04 := Lib.hid ((Turn.of (s := s) HBD.out).tr t4)
      have E1 := Lib.hid (C1.out.turn t4 n4)
      have E2 := Lib.hid (C2.out.turn t4 n4)
      have E3 := Lib.hid (C3.out.turn t4 n4)
      have H4 : Hid (MR w4 s4 mp S a4) := h4
      have N4 : Hid (∀ k ∈ s4, k ∈ s ∨ w.heap.size ≤ k) := fun k hk => (n4 k hk).imp id (fun h => Nat.le_trans HBD.out.size h)
      clear h4 n4 t4 C1 C2 C3 H3 B1 B2 B3
      have c0 : w4.cell? ⟨p, 0, none⟩ = some (.pointer (some ⟨mp, 0, none⟩)) := E1.out.cell 0 _ rfl
      have c33 : w4.cell? ⟨mp, 33, none⟩ = some (.int .i64 k) := H4.out.cell 33 _ (by rw [← HAT.out]; rfl)
      have z33 := H4.out.frz 33
      go_wp2_with (first
        | (refine wpList_mputN H4.out rfl rfl 3 (.tmp 23) (.tmp 21) rfl 33 (.int .i64 (k + 1 : Nat)) (by kernel_rfl) (by kernel_rfl) rfl info_intS (by decide) { S with at_ := k + 1 } a4 (by kernel_rfl) (fun _ _ hm => hm) ?_; intro W5 H5 T5)
        | fail)
      have F1 := Lib.hid (E1.out.turn T5.out (fun _ hk => .inl hk))
      have F2 := Lib.hid (E2.out.turn T5.out (fun _ hk => .inl hk))
      have F3 := Lib.hid (E3.out.turn T5.out (fun _ hk => .inl hk))
      have c0 : ∀ e : Ext W5, e.W.cell? ⟨p, 0, none⟩ = some (.pointer (some ⟨mp, 0, none⟩)) := fun e => ext_cell (F1.out.cell 0 _ rfl) e
      have c1 : ∀ e : Ext W5, e.W.cell? ⟨q, 0, none⟩ = some (.slice (some ad) n c) := fun e => ext_cell (F2.out.cell 0 _ rfl) e
      have c2 : ∀ e : Ext W5, e.W.cell? ⟨mp, 33, none⟩ = some (.int .i64 ((k : Int) + 1)) := fun e => ext_cell (H5.out.cell 33 _ rfl) e
      clear E1 E2 E3 c33 z33
      refine wp_region_mix (fun w' => ∃ e : Ext W5, w' = e.W) [(true, 0), (true, 1), (true, 2), (true, 3), (true, 4), (true, 5), (true, 6)] [] (by kernel_rfl) (by kernel_rfl) (by intro _ _ d _ _ h; cases d <;> exact h) ⟨⟨W5.drew, (Below.refl _ _).drew⟩, rfl⟩ ?_
      simp only [pickM, pickL, List.drop_succ_cons, List.drop_zero]
      repeat (first | (refine mix_pure (by rfl) (by rfl) ?_; intro K hK; go_big_quiet_op; go_big_quiet_on) | (refine mix_nilc ⟨mp, 0, none⟩ (by rfl) (by kernel_rfl) ?_; go_simp))
      refine mix_nil (wpList_nil ?_)
      clear c0 c1 c2
      have hbd : Below W5.heap.size W5 W5.drew := (Below.refl _ _).drew
      have H6 := Lib.hid (H5.out.below hbd)
      have T46 := Lib.hid (T5.out.tr (Turn.of (s := s4) hbd))
      have G3 := Lib.hid (F3.out.turn (Turn.of (s := s4) hbd) (fun _ hk => .inl hk))
      clear hbd F1 F2 F3 H5 T5
      generalize W5.drew = W6 at *
      go_wp2_with fail
      go_end0
      exact ⟨rfl, HSS.out ▸ ((MAct.same H6.out T46.out).after N4.out T04.out)⟩
  · rw [if_neg hby] at HSS
    have g0 : ((b : Int) == (y : Int)) = false := by simp; omega
    go_enter Tryz.func131, Tryz.ntmps131
    go_wp2_with fail
    refine wp_region_mix (fun w' => ∃ e : Ext w, w' = e.W) [(true, 0), (true, 1), (true, 2), (true, 3), (true, 4), (true, 5), (true, 6), (true, 7), (true, 8), (true, 9)] [10, 11] (by kernel_rfl) (by kernel_rfl) (by intro _ _ d _ _ h; cases d <;> exact h) ⟨⟨w.drew, (Below.refl _ _).drew⟩, rfl⟩ ?_
    simp only [pickM, pickL, List.drop_succ_cons, List.drop_zero]
    repeat (first | (refine mix_pure (by rfl) (by rfl) ?_; intro K hK; go_big_quiet_op; go_big_quiet_on) | (refine mix_nilc ⟨mp, 0, none⟩ (by rfl) (by kernel_rfl) ?_; go_simp))
    refine mix_nil ?_
    clear c0 c1 c2 c3
    have hbd : Below w.heap.size w w.drew := (Below.refl _ _).drew
    have H3 := Lib.hid (HH.out.below hbd)
    have C1 := Lib.hid (B1.out.turn (Turn.of (s := s) hbd) (fun _ hk => .inl hk))
    have C2 := Lib.hid (B2.out.turn (Turn.of (s := s) hbd) (fun _ hk => .inl hk))
    have C3 := Lib.hid (B3.out.turn (Turn.of (s := s) hbd) (fun _ hk => .inl hk))
    have HBD := Lib.hid hbd
    clear hbd
    generalize w.drew = W4 at *
    go_wp2_with fail
    refine (mMust H3.out _).mono ?_
    rintro e w4 ⟨rfl, hA⟩
    have hA4 := hA.pre HBD.out
    clear hA
    go_wp2_with fail
    go_end0
    exact ⟨rfl, HSS.out ▸ hA4⟩
end Go.Proofs.YtlmdkmflbhnlgaaGreat
namespace Go.Proofs.YtlmdkmflbhnlgaaGreat
open Go.RowKit
variable {w : World} {s : List Nat} {mp : Nat} {S : MS} {a : MA}
/-- What is read of a row with fixed stuffing: so many bits, so many stuff bits. -/
theorem fgetE_inv (ev : Nat) (h1 : 1 ≤ ev) : ∀ (l : List Nat) (last left : Nat) (due : Bool) (out : List Nat), left ≤ ev → (due = true → left = ev) →
    (fgetE ev last left due out l).1 = 4 ∨ ∃ D U left', left' ≤ ev ∧ l.length + out.length = D + U ∧ D + left' = out.length + left + U * ev ∧ (((fgetE ev last left due out l).1 = 0 ∧ (fgetE ev last left due out l).2.length = D) ∨ ((fgetE ev last left due out l).1 = 7 ∧ left' = ev))
  | [], last, left, due, out, hl, hd => by
    right
    refine ⟨out.length, 0, left, hl, by simp, by simp, ?_⟩
    cases due
    · left; exact ⟨rfl, rfl⟩
    · right; exact ⟨rfl, hd rfl⟩
  | b :: r, last, left, due, out, hl, hd => by
    unfold fgetE
    by_cases h0 : left = 0
    · subst h0
      rw [if_pos rfl]
      by_cases hb : 1 - last = b
      · rw [if_pos hb]
        rcases fgetE_inv ev h1 r (1 - last) ev true out (Nat.le_refl _) (fun _ => rfl) with h | ⟨D, U, left', k1, k2, k3, k4⟩
        · exact .inl h
        · refine .inr ⟨D, U + 1, left', k1, by simp only [List.length_cons]; omega, ?_, k4⟩
          rw [Nat.succ_mul]; omega
      · rw [if_neg hb]; exact .inl rfl
    · rw [if_neg h0]
      rcases fgetE_inv ev h1 r b (left - 1) false (out ++ [b]) (by omega) (fun h => by cases h) with h | ⟨D, U, left', k1, k2, k3, k4⟩
      · exact .inl h
      · refine .inr ⟨D, U, left', k1, ?_, ?_, k4⟩
        · rw [List.length_append] at k2; simp only [List.length_cons, List.length_nil] at k2 ⊢; omega
        · rw [List.length_append] at k3; simp only [List.length_cons, List.length_nil] at k3; omega
theorem fgetE_bits (ev : Nat) : ∀ (l : List Nat) (last left : Nat) (due : Bool) (out : List Nat), (∀ x ∈ l, x ≤ 1) → (∀ x ∈ out, x ≤ 1) → ∀ x ∈ (fgetE ev last left due out l).2, x ≤ 1
  | [], last, left, due, out, hl, ho => by
    intro x hx
    cases due
    · exact ho x hx
    · cases hx
  | b :: r, last, left, due, out, hl, ho => by
    unfold fgetE
    split
    · split
      · exact fgetE_bits ev r _ _ _ _ (fun x hx => hl x (List.mem_cons_of_mem _ hx)) ho
      · intro x hx; cases hx
    · exact fgetE_bits ev r _ _ _ _ (fun x hx => hl x (List.mem_cons_of_mem _ hx)) (fun x hx => (List.mem_append.1 hx).elim (ho x) (fun hx => by simp at hx; rw [hx]; exact hl b (List.mem_cons_self ..)))
/-- How many bits a part has, and by which way. -/
def DoFits (ev : Nat) (ah : Bool) (size : Nat) : Do → Prop
  | .fd k => (k = 2 ∨ k = 3) ∧ ev = 4 ∧ ah = true ∧ size = fsize (4 + kSize k) 4 true
  | .xl1 => ev = 8 ∧ ah = false ∧ size = fsize 20 8 false
  | .xl2 z => 1 ≤ z ∧ z ≤ 2048 ∧ ev = 8 ∧ ah = false ∧ size = fsize (109 + 8 * z) 8 false
def doN : Do → Nat
  | .fd k => 4 + kSize k
  | .xl1 => 20
  | .xl2 z => 109 + 8 * z
theorem fget_full (ev prev size : Nat) (ah : Bool) (d : Do) (l : List Nat) (hd : DoFits ev ah size d) (hl : l.length = size) (h4 : (fgetN ev ah prev l).1 ≠ 4) : (fgetN ev ah prev l).1 = 0 ∧ (fgetN ev ah prev l).2.length = doN d := by
  unfold fgetN at *
  cases d with
  | fd k =>
    obtain ⟨hk, rfl, rfl, hs⟩ := hd
    rcases fgetE_inv 4 (by omega) l prev 0 false [] (by omega) (fun h => by cases h) with h | ⟨D, U, left', k1, k2, k3, k4⟩
    · exact absurd h h4
    · simp only [List.length_nil] at k2 k3
      have hds : D = doN (.fd k) ∧ left' ≠ 4 := by
        rcases hk with rfl | rfl; (have e1 : fsize (4 + kSize 2) 4 true = 27 := rfl; have e2 : doN (.fd 2) = 21 := rfl; omega); (have e1 : fsize (4 + kSize 3) 4 true = 32 := rfl; have e2 : doN (.fd 3) = 25 := rfl; omega)
      rcases k4 with ⟨k4, k5⟩ | ⟨k4, k5⟩
      · exact ⟨k4, k5.trans hds.1⟩
      · exact absurd k5 hds.2
  | xl1 =>
    obtain ⟨rfl, rfl, hs⟩ := hd
    rcases fgetE_inv 8 (by omega) l prev 8 false [] (by omega) (fun h => by cases h) with h | ⟨D, U, left', k1, k2, k3, k4⟩
    · exact absurd h h4
    · simp only [List.length_nil] at k2 k3
      have hds : D = doN .xl1 ∧ left' ≠ 8 := by have e1 : fsize 20 8 false = 22 := rfl; have e2 : doN .xl1 = 20 := rfl; omega
      rcases k4 with ⟨k4, k5⟩ | ⟨k4, k5⟩
      · exact ⟨k4, k5.trans hds.1⟩
      · exact absurd k5 hds.2
  | xl2 z =>
    obtain ⟨hz1, hz2, rfl, rfl, hs⟩ := hd
    rcases fgetE_inv 8 (by omega) l prev 8 false [] (by omega) (fun h => by cases h) with h | ⟨D, U, left', k1, k2, k3, k4⟩
    · exact absurd h h4
    · simp only [List.length_nil] at k2 k3
      have e1 : fsize (109 + 8 * z) 8 false = 122 + 9 * z := by unfold fsize; rw [if_neg (by omega), if_neg (by simp)]; omega
      have hds : D = doN (.xl2 z) ∧ left' ≠ 8 := by have e2 : doN (.xl2 z) = 109 + 8 * z := rfl; omega
      rcases k4 with ⟨k4, k5⟩ | ⟨k4, k5⟩
      · exact ⟨k4, k5.trans hds.1⟩
      · exact absurd k5 hds.2
/-- What a row that has grown leaves of the machine. -/
theorem Row.ge0 {w : World} {base t c : Nat} {A : Option Addr} {xs : List Value} (h : Row w base t A c xs) : Row w 0 t A c xs := ⟨h.1, h.2.imp id (by rintro ⟨g, cap, cur, hv, hg, r⟩; exact ⟨g, cap, cur, hv, Nat.zero_le _, r⟩)⟩
theorem MR.grown {w w3 w4 : World} (h : MR w s mp S a) {A3 : Option Addr} {X : Option Addr} (hX : ∀ k ∈ blkA X, k ∈ s ∧ k ≠ mp) (ht : Turn (blkA X) w w3) (hn : ∀ k ∈ blkA A3, k ∈ blkA X ∨ w.heap.size ≤ k) (ht2 : Turn [mp] w3 w4) :
    Turn s w w4 ∧ (∀ k ∈ blkA A3 ++ s, k ∈ s ∨ w.heap.size ≤ k) ∧ w3.heap[mp]? = some (.cells (mca S a) 59 (0, 0)) ∧ (∀ k ∈ s, k < w3.heap.size) := by
  have t1 : Turn s w w3 := ht.mono (fun k hk => .inl (hX k hk).1)
  have t2 : Turn s w3 w4 := ht2.mono (fun k hk => .inl (by simp at hk; rw [hk]; exact h.rest.mem.1))
  refine ⟨t1.tr t2, fun k hk => ?_, ht.heap h.cells (fun hm => (hX mp hm).2 rfl), fun k hk => Nat.lt_of_lt_of_le (h.rest.mem.2 k hk) t1.size⟩
  rcases List.mem_append.1 hk with hk | hk
  · exact (hn k hk).imp (fun h' => (hX k h').1) id
  · exact .inl hk
theorem RowU.app {w w3 w4 : World} {mp : Nat} {s s' : List Nat} {X A : Option Addr} {c : Nat} {l : List Nat} (h : RowU w s A c l) (ht : Turn (blkA X) w w3) (hd : ∀ k ∈ blkA A, k ∉ blkA X) (hm : ∀ k ∈ blkA A, k ≠ mp) (ht2 : Turn [mp] w3 w4) (hs : ∀ k ∈ s, k ∈ s') : RowU w4 s' A c l :=
  ⟨((h.turn ht hd).turn ht2 (fun k hk => by simp only [List.mem_singleton]; exact hm k hk)).1, fun k hk => hs k (h.2 k hk)⟩
theorem MR.ownApp {w w3 w4 : World} (h : MR w s mp S a) {A3 : Option Addr} {c3 b : Nat} (ht : Turn (blkA a.oA) w w3) (hr : Row w3 0 5 A3 c3 (bys (S.own ++ [b]))) (hn : ∀ k ∈ blkA A3, k ∈ blkA a.oA ∨ w.heap.size ≤ k)
    (hc : w4.heap[mp]? = some (.cells (mca { S with own := S.own ++ [b] } { a with oA := A3, oc := c3 }) 59 (0, 0))) (ht2 : Turn [mp] w3 w4) :
    MR w4 (blkA A3 ++ s) mp { S with own := S.own ++ [b] } { a with oA := A3, oc := c3 } ∧ Turn s w w4 ∧ ∀ k ∈ blkA A3 ++ s, k ∈ s ∨ w.heap.size ≤ k := by
  have hne : ∀ {A : Option Addr} {c : Nat} {l : List Nat}, RowU w s A c l → ∀ k ∈ blkA A, k ≠ mp := fun hR => hR.1.ne_ty h.cells (by decide)
  obtain ⟨t04, hs', hm3, hs3⟩ := h.grown (fun k hk => ⟨h.rest.own.2 k hk, hne h.rest.own k hk⟩) ht hn ht2
  have hA3 : ∀ k ∈ blkA A3, k ≠ mp := hr.ne_ty hm3 (by decide)
  have hin : ∀ k ∈ s, k ∈ blkA A3 ++ s := fun k hk => List.mem_append_right _ hk
  have hfr : ∀ {B : Option Addr} {c : Nat} {l : List Nat}, RowU w s B c l → (∀ k ∈ blkA B, k ∉ blkA a.oA) → ∀ k ∈ blkA B, k ∉ blkA A3 := fun hR hd k hk hm => (hn k hm).elim (hd k hk) (fun hge => by have := h.rest.mem.2 k (hR.2 k hk); omega)
  have hA3l : ∀ k ∈ blkA A3, k < w4.heap.size := fun k hk => Nat.lt_of_lt_of_le (hr.lt_ k hk) ht2.size
  refine ⟨⟨hc, ⟨⟨hin _ h.rest.mem.1, fun k hk => (List.mem_append.1 hk).elim (hA3l k) (fun hk => Nat.lt_of_lt_of_le (h.rest.mem.2 k hk) t04.size)⟩, h.rest.raw.app ht h.rest.ro (hne h.rest.raw) ht2 hin, h.rest.l.app ht h.rest.lo (hne h.rest.l) ht2 hin, ⟨hr.turn ht2 (fun ad e hm => by simp at hm; exact hA3 _ (by rw [e]; simp [blkA]) hm), fun k hk => List.mem_append_left _ hk⟩, h.rest.rl, hfr h.rest.raw h.rest.ro, hfr h.rest.l h.rest.lo, h.rest.sf.turn t04 hs', h.rest.f.turn t04 hs', h.rest.step.turn t04 hs', h.rest.next.turn t04 hs', ⟨h.rest.gho.row.app ht h.rest.gho.o (hne h.rest.gho.row) ht2 hin, h.rest.gho.r, h.rest.gho.l, hfr h.rest.gho.row h.rest.gho.o⟩⟩⟩, t04, hs'⟩
theorem MR.rawApp {w w3 w4 : World} (h : MR w s mp S a) {A3 : Option Addr} {c3 b : Nat} (ht : Turn (blkA a.rA) w w3) (hr : Row w3 0 5 A3 c3 (bys (S.raw ++ [b]))) (hn : ∀ k ∈ blkA A3, k ∈ blkA a.rA ∨ w.heap.size ≤ k)
    (hc : w4.heap[mp]? = some (.cells (mca { S with raw := S.raw ++ [b] } { a with rA := A3, rc := c3 }) 59 (0, 0))) (ht2 : Turn [mp] w3 w4) :
    MR w4 (blkA A3 ++ s) mp { S with raw := S.raw ++ [b] } { a with rA := A3, rc := c3 } ∧ Turn s w w4 ∧ ∀ k ∈ blkA A3 ++ s, k ∈ s ∨ w.heap.size ≤ k := by
  have hne : ∀ {A : Option Addr} {c : Nat} {l : List Nat}, RowU w s A c l → ∀ k ∈ blkA A, k ≠ mp := fun hR => hR.1.ne_ty h.cells (by decide)
  obtain ⟨t04, hs', hm3, hs3⟩ := h.grown (fun k hk => ⟨h.rest.raw.2 k hk, hne h.rest.raw k hk⟩) ht hn ht2
  have hA3 : ∀ k ∈ blkA A3, k ≠ mp := hr.ne_ty hm3 (by decide)
  have hin : ∀ k ∈ s, k ∈ blkA A3 ++ s := fun k hk => List.mem_append_right _ hk
  have hfr : ∀ {B : Option Addr} {c : Nat} {l : List Nat}, RowU w s B c l → (∀ k ∈ blkA B, k ∉ blkA a.rA) → ∀ k ∈ blkA B, k ∉ blkA A3 := fun hR hd k hk hm => (hn k hm).elim (hd k hk) (fun hge => by have := h.rest.mem.2 k (hR.2 k hk); omega)
  have hA3l : ∀ k ∈ blkA A3, k < w4.heap.size := fun k hk => Nat.lt_of_lt_of_le (hr.lt_ k hk) ht2.size
  refine ⟨⟨hc, ⟨⟨hin _ h.rest.mem.1, fun k hk => (List.mem_append.1 hk).elim (hA3l k) (fun hk => Nat.lt_of_lt_of_le (h.rest.mem.2 k hk) t04.size)⟩, ⟨hr.turn ht2 (fun ad e hm => by simp at hm; exact hA3 _ (by rw [e]; simp [blkA]) hm), fun k hk => List.mem_append_left _ hk⟩, h.rest.l.app ht (fun k hk hm => h.rest.rl k hm hk) (hne h.rest.l) ht2 hin, h.rest.own.app ht (fun k hk hm => h.rest.ro k hm hk) (hne h.rest.own) ht2 hin, (fun k hk hm => hfr h.rest.l (fun k hk hm => h.rest.rl k hm hk) k hm hk), (fun k hk hm => hfr h.rest.own (fun k hk hm => h.rest.ro k hm hk) k hm hk), h.rest.lo, h.rest.sf.turn t04 hs', h.rest.f.turn t04 hs', h.rest.step.turn t04 hs', h.rest.next.turn t04 hs', ⟨h.rest.gho.row.app ht h.rest.gho.r (hne h.rest.gho.row) ht2 hin, hfr h.rest.gho.row h.rest.gho.r, h.rest.gho.l, h.rest.gho.o⟩⟩⟩, t04, hs'⟩
theorem MR.lApp {w w3 w4 : World} (h : MR w s mp S a) {A3 : Option Addr} {c3 b : Nat} (ht : Turn (blkA a.lA) w w3) (hr : Row w3 0 5 A3 c3 (bys (S.l ++ [b]))) (hn : ∀ k ∈ blkA A3, k ∈ blkA a.lA ∨ w.heap.size ≤ k)
    (hc : w4.heap[mp]? = some (.cells (mca { S with l := S.l ++ [b] } { a with lA := A3, lc := c3 }) 59 (0, 0))) (ht2 : Turn [mp] w3 w4) :
    MR w4 (blkA A3 ++ s) mp { S with l := S.l ++ [b] } { a with lA := A3, lc := c3 } ∧ Turn s w w4 ∧ ∀ k ∈ blkA A3 ++ s, k ∈ s ∨ w.heap.size ≤ k := by
  have hne : ∀ {A : Option Addr} {c : Nat} {l : List Nat}, RowU w s A c l → ∀ k ∈ blkA A, k ≠ mp := fun hR => hR.1.ne_ty h.cells (by decide)
  obtain ⟨t04, hs', hm3, hs3⟩ := h.grown (fun k hk => ⟨h.rest.l.2 k hk, hne h.rest.l k hk⟩) ht hn ht2
  have hA3 : ∀ k ∈ blkA A3, k ≠ mp := hr.ne_ty hm3 (by decide)
  have hin : ∀ k ∈ s, k ∈ blkA A3 ++ s := fun k hk => List.mem_append_right _ hk
  have hfr : ∀ {B : Option Addr} {c : Nat} {l : List Nat}, RowU w s B c l → (∀ k ∈ blkA B, k ∉ blkA a.lA) → ∀ k ∈ blkA B, k ∉ blkA A3 := fun hR hd k hk hm => (hn k hm).elim (hd k hk) (fun hge => by have := h.rest.mem.2 k (hR.2 k hk); omega)
  have hA3l : ∀ k ∈ blkA A3, k < w4.heap.size := fun k hk => Nat.lt_of_lt_of_le (hr.lt_ k hk) ht2.size
  refine ⟨⟨hc, ⟨⟨hin _ h.rest.mem.1, fun k hk => (List.mem_append.1 hk).elim (hA3l k) (fun hk => Nat.lt_of_lt_of_le (h.rest.mem.2 k hk) t04.size)⟩, h.rest.raw.app ht h.rest.rl (hne h.rest.raw) ht2 hin, ⟨hr.turn ht2 (fun ad e hm => by simp at hm; exact hA3 _ (by rw [e]; simp [blkA]) hm), fun k hk => List.mem_append_left _ hk⟩, h.rest.own.app ht (fun k hk hm => h.rest.lo k hm hk) (hne h.rest.own) ht2 hin, hfr h.rest.raw h.rest.rl, h.rest.ro, (fun k hk hm => hfr h.rest.own (fun k hk hm => h.rest.lo k hm hk) k hm hk), h.rest.sf.turn t04 hs', h.rest.f.turn t04 hs', h.rest.step.turn t04 hs', h.rest.next.turn t04 hs', ⟨h.rest.gho.row.app ht h.rest.gho.l (hne h.rest.gho.row) ht2 hin, h.rest.gho.r, hfr h.rest.gho.row h.rest.gho.l, h.rest.gho.o⟩⟩⟩, t04, hs'⟩
/-- The caller's row has grown. -/
theorem MR.ghApp {w w3 : World} (h : MR w s mp S a) {A3 : Option Addr} {c3 b : Nat} (ht : Turn (blkA S.gh.1) w w3) (hr : Row w3 0 5 A3 c3 (bys (S.gh.2.2 ++ [b]))) (hn : ∀ k ∈ blkA A3, k ∈ blkA S.gh.1 ∨ w.heap.size ≤ k) :
    MR w3 (blkA A3 ++ s) mp { S with gh := (A3, c3, S.gh.2.2 ++ [b]) } a ∧ Turn s w w3 ∧ ∀ k ∈ blkA A3 ++ s, k ∈ s ∨ w.heap.size ≤ k := by
  have hne : ∀ {A : Option Addr} {c : Nat} {l : List Nat}, RowU w s A c l → ∀ k ∈ blkA A, k ≠ mp := fun hR => hR.1.ne_ty h.cells (by decide)
  have ht2 : Turn [mp] w3 w3 := Turn.refl _ _
  obtain ⟨t04, hs', hm3, hs3⟩ := h.grown (fun k hk => ⟨h.rest.gho.row.2 k hk, hne h.rest.gho.row k hk⟩) ht hn ht2
  have hin : ∀ k ∈ s, k ∈ blkA A3 ++ s := fun k hk => List.mem_append_right _ hk
  have hfr : ∀ {B : Option Addr} {c : Nat} {l : List Nat}, RowU w s B c l → (∀ k ∈ blkA S.gh.1, k ∉ blkA B) → ∀ k ∈ blkA A3, k ∉ blkA B := fun hR hd k hk hm => (hn k hk).elim (fun hx => hd k hx hm) (fun hge => by have := h.rest.mem.2 k (hR.2 k hm); omega)
  have hA3l : ∀ k ∈ blkA A3, k < w3.heap.size := fun k hk => hr.lt_ k hk
  refine ⟨⟨hm3, ⟨⟨hin _ h.rest.mem.1, fun k hk => (List.mem_append.1 hk).elim (hA3l k) (fun hk => Nat.lt_of_lt_of_le (h.rest.mem.2 k hk) t04.size)⟩, h.rest.raw.app ht (fun k hk hm => h.rest.gho.r k hm hk) (hne h.rest.raw) ht2 hin, h.rest.l.app ht (fun k hk hm => h.rest.gho.l k hm hk) (hne h.rest.l) ht2 hin, h.rest.own.app ht (fun k hk hm => h.rest.gho.o k hm hk) (hne h.rest.own) ht2 hin, h.rest.rl, h.rest.ro, h.rest.lo, h.rest.sf.turn t04 hs', h.rest.f.turn t04 hs', h.rest.step.turn t04 hs', h.rest.next.turn t04 hs', ⟨⟨hr, fun k hk => List.mem_append_left _ hk⟩, hfr h.rest.raw h.rest.gho.r, hfr h.rest.l h.rest.gho.l, hfr h.rest.own h.rest.gho.o⟩⟩⟩, t04, hs'⟩
theorem oper_appK {P : Program} {W : World} {o : Oper} {a : Act} {Q : Exit → Act → World → Prop} {K : Act → World → Prop} (s x : Operand) (t : TypeId)
    (ho : o.op = .call { callee := .builtin .append, args := #[s, x], argTypes := #[t, t] })
    (base : Nat) (e : TypeId) (i : TypeInfo) (z : Value) (size bytes : Nat) (ht : P.underlying t = some (.slice e)) (hi : P.info? e = some i) (hz : i.zero = some z) (hsize : i.size = size) (hby : i.bytes = bytes) (hzs : z.cells.size = size) (hsz : 0 < size)
    (A : Option Addr) (n c : Nat) (xs : List Value) (hs : a.eval s = .slice A n c) (hown : W.ownsRow base e size (.slice A n c) n xs)
    (q d : Nat) (tq : TypeId) (news : List Value) (hx : a.eval x = .slice (some ⟨q, 0, none⟩) 1 d) (hq : W.heap[q]? = some (.cells news.toArray tq)) (hnl : news.length = size) (h1 : ∀ u ∈ news, u.oneCell' = true)
    (h63 : n + 1 ≤ maxLen) (hbytes : (n + 1) * bytes ≤ 140737488355328) (hbase : base ≤ W.heap.size)
    (h : ∀ (w3 : World) (A3 : Option Addr) (c3 : Nat), Hid (w3.ownsRow base e size (.slice A3 (n + 1) c3) (n + 1) (xs ++ news)) → Hid (Turn (blkA A) W w3) → Hid (∀ k ∈ blkA A3, k ∈ blkA A ∨ W.heap.size ≤ k) → K (a.put o.dst (.slice A3 (n + 1 : Nat) c3)) w3) : o.wp P a W K Q := by
  have hnews : ∀ j u, news[j]? = some u → W.cell? ((⟨q, 0, none⟩ : Addr).add j) = some u := World.news_of_block hq
  obtain ⟨v', w', hr, h2, h3, h4, h5⟩ := run_append_own_at (P := P) W base t o.type e i z size bytes ht hi hz hsize hby hzs hsz (.slice A n c) n xs hown ⟨q, 0, none⟩ 1 d news (by rw [hnl, Nat.one_mul]) hnews h1 h63 hbytes hbase
  unfold Oper.wp execOp
  simp only [ho, resolve, invoke, builtin, Sem.run_bind, Sem.run_pure, Result.andThen_ok, List.map_toArray, List.map_cons, List.map_nil, hs, hx, hr]
  have hv : ∃ A3 c3, v' = .slice A3 (n + 1 : Nat) c3 := by
    rcases h2.2 with ⟨hv, hl0⟩ | ⟨g', cap', cur, hv, hg, -⟩
    · omega
    · exact ⟨_, _, hv⟩
  obtain ⟨A3, c3, rfl⟩ := hv
  refine h w' A3 c3 h2 (grown_turn h3) ?_
  intro k hk
  cases A3 with
  | none => simp [blkA] at hk
  | some ad =>
    simp [blkA] at hk
    subst hk
    rcases h5 with h5 | h5
    · left
      cases A with
      | none => cases h5
      | some ad' => injection h5 with h5; simp [blkA, h5]
    · injection h5 with h5
      right
      omega
/-- A byte behind a row of bytes. -/
theorem oper_appU {W : World} {o : Oper} {f : Act} {Q : Exit → Act → World → Prop} {K : Act → World → Prop} (sl x : Operand)
    (ho : o.op = .call { callee := .builtin .append, args := #[sl, x], argTypes := #[22, 22] })
    (A : Option Addr) (n c : Nat) (l : List Nat) (hs : f.eval sl = .slice A n c) (hown : Row W 0 5 A c (bys l)) (hn : l.length = n) (q d b : Nat) (hx : f.eval x = .slice (some ⟨q, 0, none⟩) 1 d) (hq : W.heap[q]? = some (.cells #[.int .u8 b] 5 (0, 0))) (h63 : n ≤ 100000)
    (h : ∀ (w3 : World) (A3 : Option Addr) (c3 : Nat), Hid (Row w3 0 5 A3 c3 (bys (l ++ [b]))) → Hid (Turn (blkA A) W w3) → Hid (∀ k ∈ blkA A3, k ∈ blkA A ∨ W.heap.size ≤ k) → K (f.put o.dst (.slice A3 (n + 1 : Nat) c3)) w3) : o.wp Tryz.prog f W K Q := by
  obtain ⟨i0, hi, hz0, hz1, hz2⟩ := info_parts info_u8
  have hbl : (bys l).length = n := by rw [bys_length, hn]
  refine oper_appK sl x 22 ho 0 5 i0 (.int .u8 0) 1 1 Tryz.underlying22 hi hz0 hz1 hz2 rfl (by omega) A n c (bys l) hs (by have := hown; unfold Row at this; rwa [hbl] at this) q d 5 [.int .u8 b] hx hq rfl (by simp [Value.oneCell']) (by unfold maxLen; omega) (by omega) (Nat.zero_le _) ?_
  intro w3 A3 c3 h1 h2 h3
  refine h w3 A3 c3 ?_ h2 h3
  have e : bys (l ++ [b]) = bys l ++ [.int .u8 b] := by rw [bys_append]; rfl
  show Row w3 0 5 A3 c3 (bys (l ++ [b]))
  unfold Row
  rw [e, List.length_append, hbl]
  exact h1.out
theorem wpList_sputN {P : Program} {ops : Array Oper} {rest : List Oper} {op : Oper} {f : Act} {Q : Exit → Act → World → Prop} {g : Nat} {cs : Array Value} {t : TypeId} (hg : w.heap[g]? = some (.cells cs t (0, 0))) (hgd : op.guard = none) (hds : op.dst = none) (ty : TypeId) (x y : Operand) (ho : op.op = .store ty x y)
    (i : Nat) (v : Value) (hx : f.eval x = .pointer (some ⟨g, i, none⟩)) (hy : f.eval y = v) (h1 : v.oneCell' = true) (hi : (P.info? ty).map (·.size) = some 1) (hin : i < cs.size)
    (ds : Array Value) (hv : cs.setIfInBounds i v = ds)
    (K : ∀ W', Hid (W'.heap[g]? = some (.cells ds t (0, 0))) → Hid (Turn [g] w W') → wpList P ops Q rest f W') : wpList P ops Q (op :: rest) f w :=
  wpList_sput hg hgd ty x y ho i v hx hy h1 hi hin ds hv (by rw [hds]; exact K)
end Go.Proofs.YtlmdkmflbhnlgaaGreat
