/- The machine behind an XL frame's data part. No condition. -/
import Derived.Test.YtlmdkmflbhnlgaaGreatScanJ
import Derived.Test.YtlmdkmflbhnlgaaGreatOf23
namespace Go.Proofs.YtlmdkmflbhnlgaaGreat
open Go.RowKit
variable {w : World} {s : List Nat} {mp : Nat} {S : MS} {a : MA}
theorem getL_lt (l : List Nat) (i k : Nat) (h01 : ∀ x ∈ l, x ≤ 1) : getL l i k < 2 ^ k := by
  have h := numN_lt ((l.take (i + k)).drop i) (fun x hx => h01 x (List.mem_of_mem_take (List.mem_of_mem_drop hx)))
  have hl : ((l.take (i + k)).drop i).length ≤ k := by rw [List.length_drop, List.length_take]; omega
  exact Nat.lt_of_lt_of_le h (Nat.pow_le_pow_right (by omega) hl)
set_option maxHeartbeats 1000000 in
theorem mGet (w : World) (b g n c : Nat) (l : List Nat) (hb : w.heap[b]? = some (.cells #[.slice (some ⟨g, 0, none⟩) n c] 22 (0, 0))) (hr : Rd w (some ⟨g, 0, none⟩) (bys l)) (hn : l.length = n) (hc1 : n ≤ c) (hc2 : c ≤ 9223372036854775807) (i k : Nat) (hk : 0 < k) (hik : i + k ≤ n) (hk2 : k ≤ 62) (h01 : ∀ x ∈ l, x ≤ 1) :
    Calls Tryz.prog 136 #[.int .i64 i, .int .i64 k, .pointer (some ⟨b, 0, none⟩)] w fun e w' => e = .returned (.int .u64 (getL l i k : Nat)) ∧ Below w.heap.size w w' := by
  obtain ⟨j, hj⟩ : ∃ j, i + k = j := ⟨_, rfl⟩
  have hlen : ((l.take j).drop i).length = k := by rw [List.length_drop, List.length_take]; omega
  have h01' : ∀ x ∈ (l.take j).drop i, x ≤ 1 := fun x hx => h01 x (List.mem_of_mem_take (List.mem_of_mem_drop hx))
  have HG := Lib.hid (fun c' => Get_any w (some ⟨g, i, none⟩) c' k _ (rd_part hr i j) hlen (by omega) h01')
  have hlt := getL_lt l i k h01
  have hp : 2 ^ k ≤ 2 ^ 62 := Nat.pow_le_pow_right (by omega) hk2
  have hm : getL l i k < 4611686018427387904 := by omega
  have hge : numN ((l.take j).drop i) = getL l i k := by rw [← hj]; rfl
  rw [hge] at HG
  generalize getL l i k = x at *
  have c0 : w.cell? ⟨b, 0, none⟩ = some (.slice (some ⟨g, 0, none⟩) n c) := cell_of_heap hb 0 _ rfl
  have hln : (i : Int) + (k : Int) = (j : Int) := by omega
  have hji : ¬ j < i := by omega
  have hnd : j - i = k := by omega
  have hcj : ¬ c < j := by omega
  have hjn : ¬ n < j := by omega
  have hci : ¬ c = i := by omega
  clear hb hr hlen h01' h01 hlt hp hge hj
  go_enter Tryz.func136, Tryz.ntmps136
  go_wp2_with fail
  refine (HG.out _).mono ?_
  rintro e w1 ⟨rfl, hb⟩
  have HB := Lib.hid hb
  clear hb
  go_wp2_with fail
  go_ret
  exact ⟨rfl, HB.out⟩
set_option maxRecDepth 100000 in
set_option maxHeartbeats 4000000 in
theorem mXlData (h : MR w s mp S a) (g c n size : Nat) (l : List Nat) (hd : DatU w s (some ⟨g, 0, none⟩) c l) (hn : l.length = n) (hns : n = 109 + 8 * size) (hsz : size ≤ 2048) (hsz1 : 1 ≤ size) (hc1 : n ≤ c) (hc2 : c ≤ 9223372036854775807) (h01 : ∀ x ∈ l, x ≤ 1)
    (hraw : S.raw.length ≤ 30000) (hraw1 : ∀ x ∈ S.raw, x ≤ 1) (hl0 : 0 < S.l.length) (hl1 : S.l.length ≤ 1000) (hl01 : ∀ x ∈ S.l, x ≤ 1) :
    Calls Tryz.prog 134 #[.pointer (some ⟨mp, 0, none⟩), .slice (some ⟨g, 0, none⟩) n c, .int .i64 size] w (MDone w s mp (xlDataM S l size)) := by
  obtain ⟨x0, hx0⟩ : ∃ x, getL l 0 8 = x := ⟨_, rfl⟩
  obtain ⟨x1, hx1⟩ : ∃ x, getL l 8 1 = x := ⟨_, rfl⟩
  obtain ⟨x2, hx2⟩ : ∃ x, getL l 37 8 = x := ⟨_, rfl⟩
  obtain ⟨x3, hx3⟩ : ∃ x, getL l 45 32 = x := ⟨_, rfl⟩
  have l0 : x0 < 256 := by have := getL_lt l 0 8 h01; omega
  have l2 : x2 < 256 := by have := getL_lt l 37 8 h01; omega
  have l3 : x3 < 4294967296 := by have := getL_lt l 45 32 h01; omega
  obtain ⟨sb, hsb⟩ : ∃ sb, (x1 == 1) = sb := ⟨_, rfl⟩
  have hsb2 : ((x1 : Int) == 1) = sb := by rw [← hsb, Bool.eq_iff_iff]; simp only [beq_iff_eq]; omega
  obtain ⟨d, hdd⟩ : ∃ d, 8 * size = d := ⟨_, rfl⟩
  obtain ⟨j, hjj⟩ : ∃ j, 77 + d = j := ⟨_, rfl⟩
  have hlen : ((l.take j).drop 77).length = d := by rw [List.length_drop, List.length_take]; omega
  have h01' : ∀ x ∈ (l.take j).drop 77, x ≤ 1 := fun x hx => h01 x (List.mem_of_mem_take (List.mem_of_mem_drop hx))
  have hpl : (packL ((l.take j).drop 77)).length = d / 8 := by unfold packL; rw [List.length_map, List.length_range, hlen, nch8 d (by omega)]
  have HP := Lib.hid (fun W (hW : Rd W (some ⟨g, 0, none⟩) (bys l)) => Pack_any g 77 d (c - 77) _ (.inl rfl) _ W (rd_part hW 77 j) hlen (by omega) (by omega) (by omega) (by omega) h01')
  rw [← hpl] at HP
  have HGET := Lib.hid (fun W b (hb : W.heap[b]? = some (.cells #[.slice (some ⟨g, 0, none⟩) n c] 22 (0, 0))) (hr : Rd W (some ⟨g, 0, none⟩) (bys l)) i k h1 h2 h3 => mGet W b g n c l hb hr hn hc1 hc2 i k h1 h2 h3 h01)
  have HT := Lib.hid (fun W S' a' (hW : MR W s mp S' a') (e : S'.raw = S.raw) (hR : Rd W (some ⟨g, 0, none⟩) (bys l)) => by
    have k := mTells hW (some ⟨g, 20, none⟩) (c - 20) ((l.take 24).drop 20) (rd_part hR 20 24) (by rw [List.length_drop, List.length_take]; omega) (fun x hx => h01 x (List.mem_of_mem_take (List.mem_of_mem_drop hx))) (by rw [e]; omega) (by rw [e]; exact hraw1)
    rw [e] at k
    exact k)
  obtain ⟨g2, hg2, hd1, hd2, -⟩ := h.rest.l.at_ 0 hl0
  obtain ⟨m, hm⟩ : ∃ m, S.l.length = m := ⟨_, rfl⟩
  have hl37 : (l.take 37).length = 37 := by rw [List.length_take]; omega
  have HC := Lib.hid (fun W b dd (hb : W.heap[b]? = some (.cells #[.slice (some ⟨g2, 0, none⟩) m a.lc, .slice (some ⟨g, 0, none⟩) 37 c] 22 (0, 0))) (h1 : Rd W (some ⟨g2, 0, none⟩) (bys S.l)) (h2 : Rd W (some ⟨g, 0, none⟩) (bys l)) => cat2_any b m 37 _ _ a.lc c dd S.l (l.take 37) W hb h1 (rd_take h2 37) hm hl37 (by intro e; rw [e] at hl0; cases hl0) (by intro e; rw [e] at hl37; cases hl37) (by omega))
  have hLL : (S.l ++ l.take 37).length = m + 37 := by rw [List.length_append, hm, hl37]
  have HF1 := Lib.hid (fun W g' c' (hR : Rd W (some ⟨g', 0, none⟩) (bys (S.l ++ l.take 37))) k1 k2 => CrcFits_any of_4 (by omega) (by omega) g' c' (m + 37) (S.l ++ l.take 37) W hR hLL (by omega) (by omega) k1 k2 (fun x hx => (List.mem_append.1 hx).elim (hl01 x) (fun hx => h01 x (List.mem_of_mem_take hx))))
  have HF2 := Lib.hid (fun W (hR : Rd W (some ⟨g, 0, none⟩) (bys l)) => CrcFits_any of_5 (by omega) (by omega) g c n l W hR hn (by omega) (by omega) hc1 hc2 h01)
  have hs : xlDataM S l size = { S with f := { S.f with sdt := x0, sec := sb, vcid := x2, af := x3, data := packL ((l.take j).drop 77) }, fits := tellsM S.raw ((l.take 24).drop 20) && fitsC 13 6631 1 (S.l ++ l.take 37) && fitsC 32 4104977171 1 l } := by
    rw [← hx0, ← hsb, ← hx1, ← hx2, ← hx3, ← hjj, ← hdd]; rfl
  have HX0 := Lib.hid (fun W b hb hr => HGET.out W b hb hr 0 8 (by omega) (by omega) (by omega))
  have HX1 := Lib.hid (fun W b hb hr => HGET.out W b hb hr 8 1 (by omega) (by omega) (by omega))
  have HX2 := Lib.hid (fun W b hb hr => HGET.out W b hb hr 37 8 (by omega) (by omega) (by omega))
  have HX3 := Lib.hid (fun W b hb hr => HGET.out W b hb hr 45 32 (by omega) (by omega) (by omega))
  rw [hx0] at HX0
  rw [hx1] at HX1
  rw [hx2] at HX2
  rw [hx3] at HX3
  generalize packL ((l.take j).drop 77) = D at *
  generalize tellsM S.raw ((l.take 24).drop 20) = T1 at *
  generalize fitsC 13 6631 1 (S.l ++ l.take 37) = F1 at *
  generalize fitsC 32 4104977171 1 l = F2 at *
  obtain ⟨V, hV⟩ : ∃ V, (T1 && F1 && F2) = V := ⟨_, rfl⟩
  rw [hs, hV]
  have HV := Lib.hid hV
  have HH := Lib.hid h
  have HA := Lib.hid hg2
  have HM := Lib.hid hm
  have HDA := Lib.hid hd
  have HLL := Lib.hid hLL
  have HS : Hid (∀ k ∈ s, k < w.heap.size) := h.rest.mem.2
  have hdi : (8 : Int) * (size : Int) = (d : Int) := by omega
  have hji : (77 : Int) + (d : Int) = (j : Int) := by omega
  have j1 : ¬ c < j := by omega
  have j2 : ¬ n < j := by omega
  have j3 : ¬ c = 77 := by omega
  have j4 : ¬ c < 24 := by omega
  have j5 : ¬ c = 20 := by omega
  have j6 : ¬ c < 37 := by omega
  have j7 : d ≤ 20000 := by omega
  have j8 : j - 77 = d := by omega
  have hm0 : 0 < m := by omega
  clear hjj h hd hpl hlen h01 h01' hs hV hg2 hm hLL hl37 hn hns hraw hraw1 hl0 hl1 hl01 hx0 hx1 hx2 hx3 hsb HGET
  go_enter Tryz.func134, Tryz.ntmps134
  go_upto_region 1 with (fail)
  obtain ⟨W1, hW1, q1, hb1⟩ : ∃ W1, w.alloc (.cells #[.slice (some ⟨g, 0, none⟩) n c] 22) = W1 ∧ W1.heap[w.heap.size]? = some (.cells #[.slice (some ⟨g, 0, none⟩) n c] 22 (0, 0)) ∧ Below w.heap.size w W1 := ⟨_, rfl, heap_new_at rfl, below_alloc (Below.refl _ _) _⟩
  rw [hW1]
  have H1 := Lib.hid (HH.out.below hb1)
  have B1 := Lib.hid (BoxV.new (t := 22) q1 HS.out (Nat.le_refl _))
  have D1 := Lib.hid (HDA.out.turn (Turn.of hb1) (fun k hk => .inl hk))
  have HBW := Lib.hid hb1
  clear hW1 q1 hb1
  obtain ⟨b, hbe⟩ : ∃ b, w.heap.size = b := ⟨_, rfl⟩
  rw [hbe] at B1 ⊢
  clear hbe
  go_wp2_with fail
  refine (HX0.out _ _ B1.out.1 D1.out.1).mono ?_
  rintro e w2 ⟨rfl, hb2⟩
  have H2 := Lib.hid (H1.out.below hb2)
  have B2 := Lib.hid (B1.out.turn (Turn.of (s := s) hb2) (fun _ hk => .inl hk))
  have D2 := Lib.hid (D1.out.turn (Turn.of (s := s) hb2) (fun _ hk => .inl hk))
  have T2 : Hid (Turn s W1 w2) := Turn.of hb2
  clear hb2
  go_wp2_with fail
  refine (HX1.out _ _ B2.out.1 D2.out.1).mono ?_
  rintro e w3 ⟨rfl, hb3⟩
  have H3 := Lib.hid (H2.out.below hb3)
  have T3 : Hid (Turn s W1 w3) := T2.out.tr (Turn.of hb3)
  clear hb3
  go_wp2_with (first
    | (refine wpList_mput H3.out rfl 5 (.tmp 18) (.tmp 12) rfl 28 (.int .u8 x0) (by kernel_rfl) (by kernel_rfl) rfl info_u8S (by decide) { S with f := { S.f with sdt := x0 } } a (by kernel_rfl) (fun _ _ h => h) ?_; intro W4 H4 T4)
    | (refine wpList_mput H4.out rfl 4 (.tmp 21) (.tmp 15) rfl 27 (.bool sb) (by kernel_rfl) (by kernel_rfl) rfl info_boolS (by decide) { S with f := { S.f with sdt := x0, sec := sb } } a (by kernel_rfl) (fun _ _ h => h) ?_; intro W5 H5 T5; have T15 := Lib.hid (T3.out.tr (T4.out.tr T5.out)); have B5 := Lib.hid (B1.out.turn T15.out (fun _ hk => .inl hk)); have D5 := Lib.hid (D1.out.turn T15.out (fun _ hk => .inl hk))))
  clear H2 H3 H4 B2 D2 T2 T3 T4 T5 H1 hsb2
  refine (HX2.out _ _ B5.out.1 D5.out.1).mono ?_
  rintro e w6 ⟨rfl, hb6⟩
  have H6 := Lib.hid (H5.out.below hb6)
  have B6 := Lib.hid (B5.out.turn (Turn.of (s := s) hb6) (fun _ hk => .inl hk))
  have D6 := Lib.hid (D5.out.turn (Turn.of (s := s) hb6) (fun _ hk => .inl hk))
  have T16 : Hid (Turn s W1 w6) := T15.out.tr (Turn.of hb6)
  clear hb6 T15 B5 D5 H5
  go_wp2_with fail
  refine (HX3.out _ _ B6.out.1 D6.out.1).mono ?_
  rintro e w7 ⟨rfl, hb7⟩
  have H7 := Lib.hid (H6.out.below hb7)
  have T17 : Hid (Turn s W1 w7) := T16.out.tr (Turn.of hb7)
  clear hb7 T16 B6 D6 H6
  go_wp2_with (first
    | (refine wpList_mput H7.out rfl 5 (.tmp 32) (.tmp 26) rfl 29 (.int .u8 x2) (by kernel_rfl) (by kernel_rfl) rfl info_u8S (by decide) { S with f := { S.f with sdt := x0, sec := sb, vcid := x2 } } a (by kernel_rfl) (fun _ _ h => h) ?_; intro W8 H8 T8)
    | (refine wpList_mput H8.out rfl 26 (.tmp 35) (.tmp 29) rfl 30 (.int .u32 x3) (by kernel_rfl) (by kernel_rfl) rfl info_u32S (by decide) { S with f := { S.f with sdt := x0, sec := sb, vcid := x2, af := x3 } } a (by kernel_rfl) (fun _ _ h => h) ?_; intro W9 H9 T9; have T19 := Lib.hid (T17.out.tr (T8.out.tr T9.out)); have B9 := Lib.hid (B1.out.turn T19.out (fun _ hk => .inl hk)); have D9 := Lib.hid (D1.out.turn T19.out (fun _ hk => .inl hk)); have c0 := B9.out.cell 0 _ rfl))
  clear H7 H8 T17 T8 T9
  refine (HP.out _ D9.out.1).mono ?_
  rintro e w10 ⟨⟨A', c', rfl, hrow⟩, hb10⟩
  have H10 := Lib.hid (H9.out.below hb10)
  have B10 := Lib.hid (B9.out.turn (Turn.of (s := s) hb10) (fun _ hk => .inl hk))
  have T20 : Hid (Turn s W1 w10) := T19.out.tr (Turn.of hb10)
  have DD : Hid (DatU w10 s A' c' D) := DatU.of hrow H9.out.rest.mem.2
  clear hb10 hrow T19 B9 D9 H9 c0
  go_wp2_with (first
    | (refine wpList_mput H10.out rfl 22 (.tmp 48) (.tmp 44) rfl 31 (.slice A' D.length c') (by kernel_rfl) (by kernel_rfl) rfl info_slcS (by decide) { S with f := { S.f with sdt := x0, sec := sb, vcid := x2, af := x3, data := D } } { a with fA := A', fc := c' } (by kernel_rfl) (fun w' ht hm => ⟨hm.mem, hm.raw, hm.l, hm.own, hm.rl, hm.ro, hm.lo, hm.sf, DD.out.turn ht (fun _ hk => .inl hk), hm.step, hm.next, hm.gho⟩) ?_; intro W11 H11 T11; have T21 := Lib.hid (T20.out.tr T11.out); have B11 := Lib.hid (B1.out.turn T21.out (fun _ hk => .inl hk)); have D11 := Lib.hid (D1.out.turn T21.out (fun _ hk => .inl hk)))
    | fail)
  clear H10 T20 B10 DD T11
  have c18 : ∀ e : Ext W11, e.W.cell? ⟨mp, 18, none⟩ = some (.slice (some ⟨g2, 0, none⟩) m a.lc) := fun e => ext_cell (H11.out.cell 18 _ (by rw [← HM.out, ← HA.out]; rfl)) e
  have c0 : ∀ e : Ext W11, e.W.cell? ⟨b, 0, none⟩ = some (.slice (some ⟨g, 0, none⟩) n c) := fun e => ext_cell (B11.out.cell 0 _ rfl) e
  cases T1
  · go_wp2_with fail
    refine wp_region_mix (fun w' => ∃ e : Ext W11, w' = e.W) [(true, 0), (true, 1), (true, 2), (true, 3), (false, 4), (true, 5), (true, 6), (true, 7), (true, 8), (true, 9), (true, 10), (true, 11), (false, 12), (false, 13), (false, 14), (true, 15), (true, 16), (true, 17), (false, 18), (true, 19), (true, 20), (true, 21)] [22] (by kernel_rfl) (by kernel_rfl) (by intro _ _ d _ _ h; cases d <;> exact h) ⟨⟨W11.drew, (Below.refl _ _).drew⟩, rfl⟩ ?_
    simp only [pickM, pickL, List.drop_succ_cons, List.drop_zero]
    repeat (first | (refine mix_pure (by rfl) (by rfl) ?_; intro K hK; go_big_quiet_op; go_big_quiet_on) | (refine mix_nilc ⟨mp, 0, none⟩ (by rfl) (by kernel_rfl) ?_; go_simp))
    refine mix_eff (by rfl) ?_
    intro K hK
    go_simp
    refine (HT.out _ _ _ H11.out.drew rfl (D11.out.1.below (Below.refl _ _).drew)).mono ?_
    rintro e w12 ⟨rfl, hb12⟩
    have hb02 : Below W11.heap.size W11 w12 := below_trans (Below.refl _ _).drew hb12
    refine hK _ _ ⟨⟨w12, hb02⟩, rfl⟩ ?_
    clear hK K hb12
    have HB12 := Lib.hid hb02
    clear hb02
    repeat (first | (refine mix_pure (by rfl) (by rfl) ?_; intro K hK; go_big_quiet_op; go_big_quiet_on) | (refine mix_nilc ⟨mp, 0, none⟩ (by rfl) (by kernel_rfl) ?_; go_simp) | (refine mix_skip (by rfl) ?_; go_simp) | (refine mix_skipF (by rfl) ⟨⟨_, HB12.out⟩, rfl⟩ ?_; go_simp))
    refine mix_nil ?_
    clear c0 c18
    have H16 := Lib.hid (H11.out.below HB12.out)
    have T26 : Hid (Turn s W1 _) := T21.out.tr (Turn.of HB12.out)
    refine wpList_mput H16.out rfl 4 (.tmp 70) (.tmp 68) rfl 32 (.bool false) (by kernel_rfl) (by kernel_rfl) rfl info_boolS (by decide) { S with f := { S.f with sdt := x0, sec := sb, vcid := x2, af := x3, data := D }, fits := V } { a with fA := A', fc := c' } (by rw [← HV.out]; kernel_rfl) (fun _ _ h => h) ?_
    intro W17 H17 T17
    refine wpList_nil ?_
    go_wp2_with fail
    go_end0
    exact ⟨rfl, (MAct.same H17.out (T26.out.tr T17.out)).pre HBW.out⟩
  · cases F1
    · go_wp2_with fail
      refine wp_region_mix (fun w' => ∃ e : Ext W11, w' = e.W) [(true, 0), (true, 1), (true, 2), (true, 3), (false, 4), (true, 5), (true, 6), (true, 7), (true, 8), (true, 9), (true, 10), (true, 11), (false, 12), (false, 13), (false, 14), (true, 15), (true, 16), (true, 17), (false, 18), (true, 19), (true, 20), (true, 21)] [22] (by kernel_rfl) (by kernel_rfl) (by intro _ _ d _ _ h; cases d <;> exact h) ⟨⟨W11.drew, (Below.refl _ _).drew⟩, rfl⟩ ?_
      simp only [pickM, pickL, List.drop_succ_cons, List.drop_zero]
      repeat (first | (refine mix_pure (by rfl) (by rfl) ?_; intro K hK; go_big_quiet_op; go_big_quiet_on) | (refine mix_nilc ⟨mp, 0, none⟩ (by rfl) (by kernel_rfl) ?_; go_simp))
      refine mix_eff (by rfl) ?_
      intro K hK
      go_simp
      refine (HT.out _ _ _ H11.out.drew rfl (D11.out.1.below (Below.refl _ _).drew)).mono ?_
      rintro e w12 ⟨rfl, hb12⟩
      have hb02 : Below W11.heap.size W11 w12 := below_trans (Below.refl _ _).drew hb12
      refine hK _ _ ⟨⟨w12, hb02⟩, rfl⟩ ?_
      clear hK K hb12
      have HB12 := Lib.hid hb02
      clear hb02
      repeat (first | (refine mix_pure (by rfl) (by rfl) ?_; intro K hK; go_big_quiet_op; go_big_quiet_on) | (refine mix_nilc ⟨mp, 0, none⟩ (by rfl) (by kernel_rfl) ?_; go_simp))
      refine mix_eff (by rfl) ?_
      intro K hK
      go_simp
      have hb3 : Below w12.heap.size w12 (w12.alloc (.cells #[.slice (some ⟨g2, 0, none⟩) m a.lc, .slice (some ⟨g, 0, none⟩) 37 c] 22)) := below_alloc (Below.refl _ _) _
      have hblk : (w12.alloc (.cells #[.slice (some ⟨g2, 0, none⟩) m a.lc, .slice (some ⟨g, 0, none⟩) 37 c] 22)).heap[w12.heap.size]? = _ := heap_new_at rfl
      have HB13 := Lib.hid (below_trans HB12.out hb3)
      refine hK _ _ ⟨⟨_, HB13.out⟩, rfl⟩ ?_
      clear hK K
      have HBLK := Lib.hid hblk
      clear hblk hb3
      generalize w12.alloc (.cells #[.slice (some ⟨g2, 0, none⟩) m a.lc, .slice (some ⟨g, 0, none⟩) 37 c] 22) = W13 at *
      generalize w12.heap.size = bb at *
      refine mix_eff (by rfl) ?_
      intro K hK
      go_simp
      have hrl : Rd W13 (some ⟨g2, 0, none⟩) (bys S.l) := by have := (H11.out.below HB13.out).rest.l.1.rd; rwa [show ({ a with fA := A', fc := c' } : MA).lA = _ from HA.out] at this
      refine (HC.out W13 bb _ HBLK.out hrl (D11.out.1.below HB13.out)).mono ?_
      rintro e w14 ⟨⟨A4, c4, rfl, hrow⟩, hb4⟩
      have HB14 := Lib.hid (below_trans HB13.out hb4)
      refine hK _ _ ⟨⟨_, HB14.out⟩, rfl⟩ ?_
      clear hK K hrl
      obtain ⟨g4, rfl | h0⟩ := hrow.form
      rotate_left
      · rw [bys_length, HLL.out] at h0; omega
      have k1 := hrow.cap
      have k2 := hrow.capm
      have HRD := Lib.hid hrow.rd
      clear hrow hb4
      rw [bys_length, HLL.out] at k1
      refine mix_eff (by rfl) ?_
      intro K hK
      go_simp
      refine (HF1.out w14 g4 c4 HRD.out k1 k2).mono ?_
      rintro e w15 ⟨rfl, hb5⟩
      have HB15 := Lib.hid (below_trans HB14.out hb5)
      refine hK _ _ ⟨⟨_, HB15.out⟩, rfl⟩ ?_
      clear hK K k1 k2 hb5
      repeat (first | (refine mix_pure (by rfl) (by rfl) ?_; intro K hK; go_big_quiet_op; go_big_quiet_on) | (refine mix_nilc ⟨mp, 0, none⟩ (by rfl) (by kernel_rfl) ?_; go_simp) | (refine mix_skip (by rfl) ?_; go_simp) | (refine mix_skipF (by rfl) ⟨⟨_, HB15.out⟩, rfl⟩ ?_; go_simp))
      refine mix_nil ?_
      clear c0 c18
      have H16 := Lib.hid (H11.out.below HB15.out)
      have T26 : Hid (Turn s W1 _) := T21.out.tr (Turn.of HB15.out)
      refine wpList_mput H16.out rfl 4 (.tmp 70) (.tmp 68) rfl 32 (.bool false) (by kernel_rfl) (by kernel_rfl) rfl info_boolS (by decide) { S with f := { S.f with sdt := x0, sec := sb, vcid := x2, af := x3, data := D }, fits := V } { a with fA := A', fc := c' } (by rw [← HV.out]; kernel_rfl) (fun _ _ h => h) ?_
      intro W17 H17 T17
      refine wpList_nil ?_
      go_wp2_with fail
      go_end0
      exact ⟨rfl, (MAct.same H17.out (T26.out.tr T17.out)).pre HBW.out⟩
    · go_wp2_with fail
      refine wp_region_mix (fun w' => ∃ e : Ext W11, w' = e.W) [(true, 0), (true, 1), (true, 2), (true, 3), (false, 4), (true, 5), (true, 6), (true, 7), (true, 8), (true, 9), (true, 10), (true, 11), (false, 12), (false, 13), (false, 14), (true, 15), (true, 16), (true, 17), (false, 18), (true, 19), (true, 20), (true, 21)] [22] (by kernel_rfl) (by kernel_rfl) (by intro _ _ d _ _ h; cases d <;> exact h) ⟨⟨W11.drew, (Below.refl _ _).drew⟩, rfl⟩ ?_
      simp only [pickM, pickL, List.drop_succ_cons, List.drop_zero]
      repeat (first | (refine mix_pure (by rfl) (by rfl) ?_; intro K hK; go_big_quiet_op; go_big_quiet_on) | (refine mix_nilc ⟨mp, 0, none⟩ (by rfl) (by kernel_rfl) ?_; go_simp))
      refine mix_eff (by rfl) ?_
      intro K hK
      go_simp
      refine (HT.out _ _ _ H11.out.drew rfl (D11.out.1.below (Below.refl _ _).drew)).mono ?_
      rintro e w12 ⟨rfl, hb12⟩
      have hb02 : Below W11.heap.size W11 w12 := below_trans (Below.refl _ _).drew hb12
      refine hK _ _ ⟨⟨w12, hb02⟩, rfl⟩ ?_
      clear hK K hb12
      have HB12 := Lib.hid hb02
      clear hb02
      repeat (first | (refine mix_pure (by rfl) (by rfl) ?_; intro K hK; go_big_quiet_op; go_big_quiet_on) | (refine mix_nilc ⟨mp, 0, none⟩ (by rfl) (by kernel_rfl) ?_; go_simp))
      refine mix_eff (by rfl) ?_
      intro K hK
      go_simp
      have hb3 : Below w12.heap.size w12 (w12.alloc (.cells #[.slice (some ⟨g2, 0, none⟩) m a.lc, .slice (some ⟨g, 0, none⟩) 37 c] 22)) := below_alloc (Below.refl _ _) _
      have hblk : (w12.alloc (.cells #[.slice (some ⟨g2, 0, none⟩) m a.lc, .slice (some ⟨g, 0, none⟩) 37 c] 22)).heap[w12.heap.size]? = _ := heap_new_at rfl
      have HB13 := Lib.hid (below_trans HB12.out hb3)
      refine hK _ _ ⟨⟨_, HB13.out⟩, rfl⟩ ?_
      clear hK K
      have HBLK := Lib.hid hblk
      clear hblk hb3
      generalize w12.alloc (.cells #[.slice (some ⟨g2, 0, none⟩) m a.lc, .slice (some ⟨g, 0, none⟩) 37 c] 22) = W13 at *
      generalize w12.heap.size = bb at *
      refine mix_eff (by rfl) ?_
      intro K hK
      go_simp
      have hrl : Rd W13 (some ⟨g2, 0, none⟩) (bys S.l) := by have := (H11.out.below HB13.out).rest.l.1.rd; rwa [show ({ a with fA := A', fc := c' } : MA).lA = _ from HA.out] at this
      refine (HC.out W13 bb _ HBLK.out hrl (D11.out.1.below HB13.out)).mono ?_
      rintro e w14 ⟨⟨A4, c4, rfl, hrow⟩, hb4⟩
      have HB14 := Lib.hid (below_trans HB13.out hb4)
      refine hK _ _ ⟨⟨_, HB14.out⟩, rfl⟩ ?_
      clear hK K hrl
      obtain ⟨g4, rfl | h0⟩ := hrow.form
      rotate_left
      · rw [bys_length, HLL.out] at h0; omega
      have k1 := hrow.cap
      have k2 := hrow.capm
      have HRD := Lib.hid hrow.rd
      clear hrow hb4
      rw [bys_length, HLL.out] at k1
      refine mix_eff (by rfl) ?_
      intro K hK
      go_simp
      refine (HF1.out w14 g4 c4 HRD.out k1 k2).mono ?_
      rintro e w15 ⟨rfl, hb5⟩
      have HB15 := Lib.hid (below_trans HB14.out hb5)
      refine hK _ _ ⟨⟨_, HB15.out⟩, rfl⟩ ?_
      clear hK K k1 k2 hb5
      repeat (first | (refine mix_pure (by rfl) (by rfl) ?_; intro K hK; go_big_quiet_op; go_big_quiet_on) | (refine mix_nilc ⟨mp, 0, none⟩ (by rfl) (by kernel_rfl) ?_; go_simp))
      refine mix_eff (by rfl) ?_
      intro K hK
      go_simp
      refine (HF2.out w15 (D11.out.1.below HB15.out)).mono ?_
      rintro e w16 ⟨rfl, hb6⟩
      have HB16 := Lib.hid (below_trans HB15.out hb6)
      refine hK _ _ ⟨⟨_, HB16.out⟩, rfl⟩ ?_
      clear hK K hb6
      repeat (first | (refine mix_pure (by rfl) (by rfl) ?_; intro K hK; go_big_quiet_op; go_big_quiet_on) | (refine mix_nilc ⟨mp, 0, none⟩ (by rfl) (by kernel_rfl) ?_; go_simp))
      refine mix_nil ?_
      clear c0 c18
      have H16 := Lib.hid (H11.out.below HB16.out)
      have T26 : Hid (Turn s W1 _) := T21.out.tr (Turn.of HB16.out)
      refine wpList_mput H16.out rfl 4 (.tmp 70) (.tmp 68) rfl 32 (.bool F2) (by kernel_rfl) (by kernel_rfl) rfl info_boolS (by decide) { S with f := { S.f with sdt := x0, sec := sb, vcid := x2, af := x3, data := D }, fits := V } { a with fA := A', fc := c' } (by rw [← HV.out]; kernel_rfl) (fun _ _ h => h) ?_
      intro W17 H17 T17
      refine wpList_nil ?_
      go_wp2_with fail
      go_end0
      exact ⟨rfl, (MAct.same H17.out (T26.out.tr T17.out)).pre HBW.out⟩
end Go.Proofs.YtlmdkmflbhnlgaaGreat
namespace Go.Proofs.YtlmdkmflbhnlgaaGreat
open Go.RowKit
variable {w : World} {s : List Nat} {mp : Nat} {S : MS} {a : MA}
set_option maxRecDepth 100000 in
set_option maxHeartbeats 4000000 in
theorem mXl2 (h : MR w s mp S a) (p q size : Nat) (b1 : BoxV w s p #[ptr mp] 36) (b2 : BoxV w s q #[.int .i64 size] 3) (g c n : Nat) (l : List Nat) (hd : DatU w s (some ⟨g, 0, none⟩) c l) (hn : l.length = n) (hns : n = 109 + 8 * size) (hsz : size ≤ 2048) (hsz1 : 1 ≤ size) (hc1 : n ≤ c) (hc2 : c ≤ 9223372036854775807) (h01 : ∀ x ∈ l, x ≤ 1)
    (hraw : S.raw.length ≤ 30000) (hraw1 : ∀ x ∈ S.raw, x ≤ 1) (hl0 : 0 < S.l.length) (hl1 : S.l.length ≤ 1000) (hl01 : ∀ x ∈ S.l, x ≤ 1) :
    Calls Tryz.prog 133 #[.slice (some ⟨g, 0, none⟩) n c, .pointer (some ⟨p, 0, none⟩), .pointer (some ⟨q, 0, none⟩)] w (MDone w s mp (markM (xlDataM S l size) [0, 1, 1, 0] .fin)) := by
  have HX := Lib.hid (mXlData h g c n size l hd hn hns hsz hsz1 hc1 hc2 h01 hraw hraw1 hl0 hl1 hl01)
  generalize xlDataM S l size = S2 at *
  have c0 : w.cell? ⟨p, 0, none⟩ = some (.pointer (some ⟨mp, 0, none⟩)) := b1.cell 0 _ rfl
  have c1 : w.cell? ⟨q, 0, none⟩ = some (.int .i64 size) := b2.cell 0 _ rfl
  have B1 := Lib.hid b1
  clear h b1 b2 hd hn hns h01 hraw hraw1 hl0 hl1 hl01
  go_enter Tryz.func133, Tryz.ntmps133
  go_wp2_with fail
  refine HX.out.mono ?_
  rintro e w2 ⟨rfl, hA⟩
  obtain ⟨s2, a2, h2, n2, t2⟩ := hA
  have B2 := Lib.hid (B1.out.turn t2 n2)
  have c0 : w2.cell? ⟨p, 0, none⟩ = some (.pointer (some ⟨mp, 0, none⟩)) := B2.out.cell 0 _ rfl
  have H2 := Lib.hid h2
  have N2 := Lib.hid n2
  have T2 := Lib.hid t2
  have hmpl := h2.lt
  have hp2 : p < w2.heap.size := heap_lt B2.out.1
  clear h2 n2 t2 c1
  go_wp2_with fail
  have hb3 := below_alloc (Below.refl w2.heap.size w2) (.cells #[.int .u8 0, .int .u8 1, .int .u8 1, .int .u8 0] 5)
  have hd : DatU (w2.alloc (.cells #[.int .u8 0, .int .u8 1, .int .u8 1, .int .u8 0] 5)) s2 (some ⟨w2.heap.size, 0, none⟩) 4 [0, 1, 1, 0] :=
    ⟨Rd.blk (heap_new_at rfl), fun k hk => by simp [blkA] at hk; subst hk; exact ⟨fun hm => by have := H2.out.rest.mem.2 _ hm; omega, by simp, _, _, heap_new_at rfl⟩, fun e => by cases e⟩
  refine (mMark (H2.out.below hb3) _ 4 4 [0, 1, 1, 0] rfl hd .fin _ rfl).mono ?_
  rintro e w3 ⟨rfl, hA3⟩
  go_wp2_with fail
  go_end0
  exact ⟨rfl, (hA3.pre hb3).after N2.out T2.out⟩
set_option maxRecDepth 100000 in
set_option maxHeartbeats 4000000 in
theorem mXl1 (h : MR w s mp S a) (p q : Nat) (b1 : BoxV w s p #[ptr mp] 36) (b2 : BoxV w s q #[.int .i64 8, .bool false] 99) (g c : Nat) (l : List Nat) (hr : Rd w (some ⟨g, 0, none⟩) (bys l)) (hn : l.length = 20) (hc1 : 20 ≤ c) (hc2 : c ≤ 9223372036854775807) (h01 : ∀ x ∈ l, x ≤ 1) (hraw : 0 < S.raw.length) :
    Calls Tryz.prog 132 #[.slice (some ⟨g, 0, none⟩) 20 c, .pointer (some ⟨p, 0, none⟩), .pointer (some ⟨q, 0, none⟩)] w (MDone w s mp (xlSizeM S l)) := by
  have hlen : (l.drop 9).length = 11 := by rw [List.length_drop]; omega
  have h01' : ∀ x ∈ l.drop 9, x ≤ 1 := fun x hx => h01 x (List.mem_of_mem_drop hx)
  have hlt := numN_lt _ h01'
  rw [hlen] at hlt
  have HG := Lib.hid (by have k := rd_drop hr 9; rw [Nat.zero_add] at k; exact Get_any w (some ⟨g, 9, none⟩) (c - 9) 11 _ k hlen (by omega) h01')
  have hs : xlSizeM S l = partM S 8 false (109 + 8 * (numN (l.drop 9) + 1)) (.xl2 (numN (l.drop 9) + 1)) := rfl
  rw [hs]
  generalize numN (l.drop 9) = x at *
  have hx : x < 2048 := by omega
  obtain ⟨z, hz⟩ : ∃ z, x + 1 = z := ⟨_, rfl⟩
  have HZ := Lib.hid (fun W => by
    have k := Size_xl x W hx
    rw [show (x : Int) + 1 = (z : Int) by omega] at k
    exact k)
  rw [hz]
  have hz2 : z ≤ 2048 := by omega
  have HH := Lib.hid h
  have B1 := Lib.hid b1
  have B2 := Lib.hid b2
  have HRAW := Lib.hid hraw
  have hcc : ¬ c = 9 := by omega
  have hcc2 : ¬ c < 20 := by omega
  clear h b1 b2 hr hn h01 h01' hlt hlen hs hraw hz
  go_enter Tryz.func132, Tryz.ntmps132
  go_wp2_with fail
  refine HG.out.mono ?_
  rintro e w2 ⟨rfl, hb2⟩
  have HB2 := Lib.hid hb2
  clear hb2
  go_wp2_with fail
  refine (HZ.out _).mono ?_
  rintro e w3 ⟨rfl, hb3⟩
  have HB3 := Lib.hid (below_trans HB2.out hb3)
  clear hb3 HB2
  go_upto_region 2 with (fail)
  obtain ⟨W4, hW4, q4, hb4⟩ : ∃ W4, w3.alloc (.cells #[.int .i64 z] 3) = W4 ∧ W4.heap[w3.heap.size]? = some (.cells #[.int .i64 z] 3 (0, 0)) ∧ Below w3.heap.size w3 W4 := ⟨_, rfl, heap_new_at rfl, below_alloc (Below.refl _ _) _⟩
  rw [hW4]
  have hb04 := below_trans HB3.out hb4
  have H4 := Lib.hid (HH.out.below hb04)
  have C1 := Lib.hid (B1.out.turn (Turn.of (s := s) hb04) (fun _ hk => .inl hk))
  have C2 := Lib.hid (B2.out.turn (Turn.of (s := s) hb04) (fun _ hk => .inl hk))
  have C4 : Hid (BoxV W4 s w3.heap.size #[.int .i64 z] 3) := BoxV.new q4 (HH.out.below HB3.out).rest.mem.2 (Nat.le_refl _)
  have HB4 := Lib.hid hb04
  clear hW4 q4 hb4 hb04 HB3
  generalize w3.heap.size = b at *
  have c0 : W4.cell? ⟨p, 0, none⟩ = some (.pointer (some ⟨mp, 0, none⟩)) := C1.out.cell 0 _ rfl
  have c1 : W4.cell? ⟨q, 0, none⟩ = some (.int .i64 8) := C2.out.cell 0 _ rfl
  have c2 : W4.cell? ⟨q, 1, none⟩ = some (.bool false) := C2.out.cell 1 _ rfl
  have c3 : W4.cell? ⟨b, 0, none⟩ = some (.int .i64 z) := C4.out.cell 0 _ rfl
  have HFIN := Lib.hid (mPart H4.out 8 (109 + 8 * z) false (.xl2 z) (.func 133) #[] #[ptr p, ptr b] ⟨p, b, rfl, C1.out, C4.out⟩ HRAW.out (by omega) (by omega) (by omega))
  go_wp2_with fail
  refine (part_at HFIN.out (by omega)).mono ?_
  rintro e w5 ⟨rfl, hA⟩
  go_wp2_with fail
  go_end0
  exact ⟨rfl, hA.pre HB4.out⟩
set_option maxRecDepth 100000 in
set_option maxHeartbeats 4000000 in
theorem mXlCode (h : MR w s mp S a) (hraw : 0 < S.raw.length) :
    Calls Tryz.prog 121 #[.pointer (some ⟨mp, 0, none⟩)] w (MDone w s mp (partM S 8 false 20 .xl1)) := by
  have HH := Lib.hid h
  have HRAW := Lib.hid hraw
  have HS : Hid (∀ k ∈ s, k < w.heap.size) := h.rest.mem.2
  clear h hraw
  go_enter Tryz.func121, Tryz.ntmps121
  go_upto_region 2 with (fail)
  obtain ⟨W2, hW2, q1, q2, hb⟩ : ∃ W2, (w.alloc (.cells #[.pointer (some ⟨mp, 0, none⟩)] 36)).alloc (.cells #[.int .i64 8, .bool false] 99) = W2 ∧ W2.heap[w.heap.size]? = some (.cells #[.pointer (some ⟨mp, 0, none⟩)] 36 (0, 0)) ∧ W2.heap[w.heap.size + 1]? = some (.cells #[.int .i64 8, .bool false] 99 (0, 0)) ∧ Below w.heap.size w W2 :=
    ⟨_, rfl, heap_push (heap_new_at rfl), heap_new_at (by simp), below_alloc (below_alloc (Below.refl _ _) _) _⟩
  rw [hW2]
  have H2 := Lib.hid (HH.out.below hb)
  have C1 := Lib.hid (BoxV.new (t := 36) q1 HS.out (Nat.le_refl _))
  have C2 := Lib.hid (BoxV.new q2 HS.out (by omega))
  have HB := Lib.hid hb
  clear hW2 q1 q2 hb
  have c0 : W2.cell? ⟨w.heap.size, 0, none⟩ = some (.pointer (some ⟨mp, 0, none⟩)) := C1.out.cell 0 _ rfl
  have c1 : W2.cell? ⟨w.heap.size + 1, 0, none⟩ = some (.int .i64 8) := C2.out.cell 0 _ rfl
  have c2 : W2.cell? ⟨w.heap.size + 1, 1, none⟩ = some (.bool false) := C2.out.cell 1 _ rfl
  have HFIN := Lib.hid (mPart H2.out 8 20 false .xl1 (.func 132) #[] #[ptr w.heap.size, ptr (w.heap.size + 1)] ⟨_, _, rfl, C1.out, C2.out⟩ HRAW.out (by omega) (by omega) (by omega))
  go_wp2_with fail
  refine (part_at HFIN.out (by kernel_rfl)).mono ?_
  rintro e w5 ⟨rfl, hA⟩
  go_wp2_with fail
  go_end0
  exact ⟨rfl, hA.pre HB.out⟩
end Go.Proofs.YtlmdkmflbhnlgaaGreat
