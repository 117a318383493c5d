/- The machine behind an FD frame: what a closure does with the part that has fixed stuffing. No condition. -/
import Derived.Test.YtlmdkmflbhnlgaaGreatScanG
import Derived.Test.YtlmdkmflbhnlgaaGreatOf23
import Derived.Test.YtlmdkmflbhnlgaaGreatConcat
import Derived.Test.YtlmdkmflbhnlgaaGreatSizeF
namespace Go.Proofs.YtlmdkmflbhnlgaaGreat
open Go.RowKit
variable {w : World} {s : List Nat} {mp : Nat} {S : MS} {a : MA}
theorem kFits_any (k g c n : Nat) (l : List Nat) (w : World) (hk : k = 2 ∨ k = 3) (hr : Rd w (some ⟨g, 0, none⟩) (bys l)) (hn : l.length = n) (hn2 : n ≤ 65536) (hs : kSize k ≤ n) (hc1 : n ≤ c) (hc2 : c ≤ 9223372036854775807) (h01 : ∀ x ∈ l, x ≤ 1) :
    Calls Tryz.prog 107 #[.int .i64 k, .slice (some ⟨g, 0, none⟩) n c] w fun e w' => e = .returned (.bool (fitsK k l)) ∧ Below w.heap.size w w' := by
  rcases hk with rfl | rfl
  · exact CrcFits_any of_2 (by omega) (by omega) g c n l w hr hn hn2 hs hc1 hc2 h01
  · exact CrcFits_any of_3 (by omega) (by omega) g c n l w hr hn hn2 hs hc1 hc2 h01
theorem cat2_any (b n m : Nat) (A1 A2 : Option Addr) (c1 c2 d : Nat) (l1 l2 : List Nat) (w : World) (hb : w.heap[b]? = some (.cells #[.slice A1 n c1, .slice A2 m c2] 22 (0, 0))) (h1 : Rd w A1 (bys l1)) (h2 : Rd w A2 (bys l2)) (k1 : l1.length = n) (k2 : l2.length = m) (n1 : l1 ≠ []) (n2 : l2 ≠ []) (hN : n + m ≤ 1000000) :
    Calls Tryz.prog 55 #[.slice (some ⟨b, 0, none⟩) 2 d] w fun e w' => (∃ A' c', e = .returned (.slice A' (n + m : Nat) c') ∧ Row w' w.heap.size 5 A' c' (bys (l1 ++ l2))) ∧ Below w.heap.size w w' := by
  have h := concat_any (some ⟨b, 0, none⟩) d 2 (n + m) [(A1, c1, l1), (A2, c2, l2)] w ?_ rfl ?_ ?_ hN (by omega)
  · simpa [partsL] using h
  · subst k1; subst k2; exact Rd.blk hb
  · intro p hp
    simp at hp
    rcases hp with rfl | rfl
    · exact ⟨h1, fun e => absurd e n1⟩
    · exact ⟨h2, fun e => absurd e n2⟩
  · simp [partsL, k1, k2]
theorem mix_skipF {P : Program} {ops : Array Oper} {T : Act → World → Prop} {C : World → Prop} {Q : Exit → Act → World → Prop} {r : List (Bool × Oper)} {f : Act} {w : World} {o : Oper} (hw : Region.wanted o (yielded ops f.tmps) = false) (hC : C w)
    (h : wpMixL P ops Q C T r (f.put o.dst undef) w) : wpMixL P ops Q C T ((false, o) :: r) f w := by
  unfold wpMixL
  rw [if_neg (by rw [hw]; simp)]
  exact ⟨hC, h⟩
set_option maxRecDepth 100000 in
set_option maxHeartbeats 4000000 in
theorem mFdFits (h : MR w s mp S a) (p q k : Nat) (b1 : BoxV w s p #[ptr mp] 36) (b2 : BoxV w s q #[.int .i64 k] 3) (hk : k = 2 ∨ k = 3) (g c n : Nat) (l : List Nat) (hr : Rd w (some ⟨g, 0, none⟩) (bys l)) (hn : l.length = n) (hn4 : kSize k + 4 = n) (hc1 : n ≤ c) (hc2 : c ≤ 9223372036854775807) (h01 : ∀ x ∈ l, x ≤ 1) (hraw0 : 0 < S.raw.length) (hraw : S.raw.length ≤ 30000) (hraw1 : ∀ x ∈ S.raw, x ≤ 1) :
    Calls Tryz.prog 118 #[.slice (some ⟨g, 0, none⟩) n c, .pointer (some ⟨p, 0, none⟩), .pointer (some ⟨q, 0, none⟩)] w (MDone w s mp (fdFitsM S k l)) := by
  have hn30 : n ≤ 30000 := by have : kSize k ≤ 21 := by unfold kSize; split <;> omega
                              omega
  have hk0 : kSize k ≤ n := by omega
  have hn4' : 4 ≤ n := by omega
  obtain ⟨g2, hg2, hd1, hd2, -⟩ := h.rest.raw.at_ 0 hraw0
  obtain ⟨m, hm⟩ : ∃ m, S.raw.length = m := ⟨_, rfl⟩
  have HT := Lib.hid (fun W (hW : MR W s mp S a) (hR : Rd W (some ⟨g, 0, none⟩) (bys l)) => mTells hW (some ⟨g, 0, none⟩) c (l.take 4) (rd_take hR 4) (by rw [List.length_take]; omega) (fun x hx => h01 x (List.mem_of_mem_take hx)) (by omega) hraw1)
  have HK := Lib.hid (fun W g' c' (hR : Rd W (some ⟨g', 0, none⟩) (bys (S.raw ++ l))) k1 k2 => kFits_any k g' c' (m + n) (S.raw ++ l) W hk hR (by rw [List.length_append, hm, hn]) (by omega) (by omega) k1 k2 (fun x hx => (List.mem_append.1 hx).elim (hraw1 x) (h01 x)))
  have HC := Lib.hid (fun W b d (hb : W.heap[b]? = some (.cells #[.slice (some ⟨g2, 0, none⟩) m a.rc, .slice (some ⟨g, 0, none⟩) n c] 22 (0, 0))) (h1 : Rd W (some ⟨g2, 0, none⟩) (bys S.raw)) (h2 : Rd W (some ⟨g, 0, none⟩) (bys l)) => cat2_any b m n _ _ a.rc c d S.raw l W hb h1 h2 hm hn (by intro e; rw [e] at hraw0; cases hraw0) (by intro e; rw [e] at hn; simp at hn; omega) (by omega))
  have hs : fdFitsM S k l = endM { S with fits := tellsM S.raw (l.take 4) && fitsK k (S.raw ++ l) } := rfl
  rw [hs]
  generalize tellsM S.raw (l.take 4) = T at *
  generalize fitsK k (S.raw ++ l) = F at *
  have c17 : w.cell? ⟨mp, 17, none⟩ = some (.slice (some ⟨g2, 0, none⟩) m a.rc) := h.cell 17 _ (by rw [← hg2, ← hm]; rfl)
  have HH := Lib.hid h
  have HR := Lib.hid hr
  have HA := Lib.hid hg2
  have HL : Hid (S.raw.length + l.length = m + n) := by rw [hm, hn]; exact Lib.hid rfl
  have hml : 0 < S.raw.length := hraw0
  let l0 : List (Addr × Value) := [(⟨p, 0, none⟩, ptr mp), (⟨q, 0, none⟩, .int .i64 k), (⟨mp, 17, none⟩, .slice (some ⟨g2, 0, none⟩) m a.rc)]
  have hce : Cels l0 w := by intro x hx; simp [l0] at hx; rcases hx with rfl | rfl | rfl; (exact b1.cell 0 _ rfl); (exact b2.cell 0 _ rfl); (exact c17)
  have HCE := Lib.hid hce
  have e0 : ∀ e : Sat (Cels l0), e.W.cell? ⟨p, 0, none⟩ = some (.pointer (some ⟨mp, 0, none⟩)) := fun e => Cels.at e.h 0 rfl
  have e1 : ∀ e : Sat (Cels l0), e.W.cell? ⟨q, 0, none⟩ = some (.int .i64 k) := fun e => Cels.at e.h 1 rfl
  have e2 : ∀ e : Sat (Cels l0), e.W.cell? ⟨mp, 17, none⟩ = some (.slice (some ⟨g2, 0, none⟩) m a.rc) := fun e => Cels.at e.h 2 rfl
  have B1 := Lib.hid b1
  haveI : Nonempty (Sat (Cels l0)) := ⟨⟨w, hce⟩⟩
  generalize l0 = l1 at *
  have hc4 : ¬ c < 4 := by omega
  have hc0 : ¬ c = 0 := by omega
  clear h b1 b2 hr hm hn h01 c17 hs hce hg2 hraw1 hraw0 hraw
  cases T
  · go_enter Tryz.func118, Tryz.ntmps118
    go_wp2_with fail
    refine wp_region_mix (fun w' => ∃ e : Sat (Cels l1), w' = e.W) [(true, 0), (true, 1), (true, 2), (true, 3), (false, 4), (true, 5), (true, 6), (true, 7), (true, 8), (true, 9), (true, 10), (true, 11), (false, 12), (false, 13), (false, 14), (true, 15), (true, 16), (true, 17)] [18] (by kernel_rfl) (by kernel_rfl) (by intro _ _ d _ _ h; cases d <;> exact h) ⟨⟨w.drew, HCE.out.drew⟩, rfl⟩ ?_
    simp only [pickM, pickL, List.drop_succ_cons, List.drop_zero]
    repeat (first | (refine mix_pure (by rfl) (by rfl) ?_; intro K hK; go_big_quiet_op; go_big_quiet_on) | (refine mix_nilc ⟨mp, 0, none⟩ (by rfl) (by kernel_rfl) ?_; go_simp))
    refine mix_eff (by rfl) ?_
    intro K hK
    go_simp
    refine (HT.out _ HH.out.drew (HR.out.below (Below.refl _ _).drew)).mono ?_
    rintro e w2 ⟨rfl, hb2⟩
    have hb02 : Below w.heap.size w w2 := below_trans (Below.refl _ _).drew hb2
    refine hK _ _ ⟨⟨w2, HCE.out.below hb02⟩, rfl⟩ ?_
    clear hK K hb2
    have HB2 := Lib.hid hb02
    have HCX := Lib.hid (HCE.out.below hb02)
    have H2 := Lib.hid (HH.out.below hb02)
    clear hb02
    repeat (first | (refine mix_pure (by rfl) (by rfl) ?_; intro K hK; go_big_quiet_op; go_big_quiet_on) | (refine mix_nilc ⟨mp, 0, none⟩ (by rfl) (by kernel_rfl) ?_; go_simp) | (refine mix_skip (by rfl) ?_; go_simp) | (refine mix_skipF (by rfl) ⟨⟨_, HCX.out⟩, rfl⟩ ?_; go_simp))
    refine mix_nil ?_
    refine wpList_mput H2.out rfl 4 (.tmp 21) (.tmp 19) rfl 32 (.bool false) (by kernel_rfl) (by kernel_rfl) rfl info_boolS (by decide) { S with fits := false } a (by kernel_rfl) (fun _ _ hm => hm) ?_
    intro W7 H7 T7
    refine wpList_nil ?_
    have T8 := Lib.hid ((Turn.of (s := s) HB2.out).tr T7.out)
    have c0 : W7.cell? ⟨p, 0, none⟩ = some (.pointer (some ⟨mp, 0, none⟩)) := (B1.out.turn T8.out (fun _ hk => .inl hk)).cell 0 _ rfl
    go_wp2_with fail
    refine (mEnd H7.out).mono ?_
    rintro e w8 ⟨rfl, hA⟩
    go_wp2_with fail
    go_end0
    exact ⟨rfl, hA.after (fun _ hk => .inl hk) T8.out⟩
  · go_enter Tryz.func118, Tryz.ntmps118
    go_wp2_with fail
    refine wp_region_mix (fun w' => ∃ e : Sat (Cels l1), w' = e.W) [(true, 0), (true, 1), (true, 2), (true, 3), (false, 4), (true, 5), (true, 6), (true, 7), (true, 8), (true, 9), (true, 10), (true, 11), (false, 12), (false, 13), (false, 14), (true, 15), (true, 16), (true, 17)] [18] (by kernel_rfl) (by kernel_rfl) (by intro _ _ d _ _ h; cases d <;> exact h) ⟨⟨w.drew, HCE.out.drew⟩, rfl⟩ ?_
    simp only [pickM, pickL, List.drop_succ_cons, List.drop_zero]
    repeat (first | (refine mix_pure (by rfl) (by rfl) ?_; intro K hK; go_big_quiet_op; go_big_quiet_on) | (refine mix_nilc ⟨mp, 0, none⟩ (by rfl) (by kernel_rfl) ?_; go_simp))
    refine mix_eff (by rfl) ?_
    intro K hK
    go_simp
    refine (HT.out _ HH.out.drew (HR.out.below (Below.refl _ _).drew)).mono ?_
    rintro e w2 ⟨rfl, hb2⟩
    have hb02 : Below w.heap.size w w2 := below_trans (Below.refl _ _).drew hb2
    refine hK _ _ ⟨⟨w2, HCE.out.below hb02⟩, rfl⟩ ?_
    clear hK K hb2
    have HB2 := Lib.hid hb02
    have HCX := Lib.hid (HCE.out.below hb02)
    have H2 := Lib.hid (HH.out.below hb02)
    clear hb02
    repeat (first | (refine mix_pure (by rfl) (by rfl) ?_; intro K hK; go_big_quiet_op; go_big_quiet_on) | (refine mix_nilc ⟨mp, 0, none⟩ (by rfl) (by kernel_rfl) ?_; go_simp))
    refine mix_eff (by rfl) ?_
    intro K hK
    go_simp
    have hb3 : Below w2.heap.size w2 (w2.alloc (.cells #[.slice (some ⟨g2, 0, none⟩) m a.rc, .slice (some ⟨g, 0, none⟩) n c] 22)) := below_alloc (Below.refl _ _) _
    have hblk : (w2.alloc (.cells #[.slice (some ⟨g2, 0, none⟩) m a.rc, .slice (some ⟨g, 0, none⟩) n c] 22)).heap[w2.heap.size]? = _ := heap_new_at rfl
    refine hK _ _ ⟨⟨_, HCX.out.below hb3⟩, rfl⟩ ?_
    clear hK K
    have HCX3 := Lib.hid (HCX.out.below hb3)
    have H3 := Lib.hid (H2.out.below hb3)
    have HB3 := Lib.hid (below_trans HB2.out hb3)
    have HBLK := Lib.hid hblk
    clear hblk hb3
    generalize w2.alloc (.cells #[.slice (some ⟨g2, 0, none⟩) m a.rc, .slice (some ⟨g, 0, none⟩) n c] 22) = W3 at *
    generalize w2.heap.size = b at *
    refine mix_eff (by rfl) ?_
    intro K hK
    go_simp
    have hraw3 : Rd W3 (some ⟨g2, 0, none⟩) (bys S.raw) := by have := H3.out.rest.raw.1.rd; rwa [HA.out] at this
    refine (HC.out W3 b _ HBLK.out hraw3 (HR.out.below HB3.out)).mono ?_
    rintro e w4 ⟨⟨A4, c4, rfl, hrow⟩, hb4⟩
    refine hK _ _ ⟨⟨_, HCX3.out.below hb4⟩, rfl⟩ ?_
    clear hK K hraw3
    obtain ⟨g4, rfl | h0⟩ := hrow.form
    rotate_left
    · rw [bys_length, List.length_append] at h0; omega
    have k1 := hrow.cap
    have k2 := hrow.capm
    have HRD := Lib.hid hrow.rd
    have HCX4 := Lib.hid (HCX3.out.below hb4)
    have H4 := Lib.hid (H3.out.below hb4)
    have HB4 := Lib.hid (below_trans HB3.out hb4)
    clear hrow hb4
    rw [bys_length, List.length_append, HL.out] at k1
    refine mix_eff (by rfl) ?_
    intro K hK
    go_simp
    refine (HK.out w4 g4 c4 HRD.out k1 k2).mono ?_
    rintro e w5 ⟨rfl, hb5⟩
    refine hK _ _ ⟨⟨_, HCX4.out.below hb5⟩, rfl⟩ ?_
    clear hK K k1 k2
    have H5 := Lib.hid (H4.out.below hb5)
    have HB5 := Lib.hid (below_trans HB4.out hb5)
    clear hb5
    repeat (first | (refine mix_pure (by rfl) (by rfl) ?_; intro K hK; go_big_quiet_op; go_big_quiet_on) | (refine mix_nilc ⟨mp, 0, none⟩ (by rfl) (by kernel_rfl) ?_; go_simp))
    refine mix_nil ?_
    refine wpList_mput H5.out rfl 4 (.tmp 21) (.tmp 19) rfl 32 (.bool F) (by kernel_rfl) (by kernel_rfl) rfl info_boolS (by decide) { S with fits := F } a (by kernel_rfl) (fun _ _ hm => hm) ?_
    intro W7 H7 T7
    refine wpList_nil ?_
    have T8 := Lib.hid ((Turn.of (s := s) HB5.out).tr T7.out)
    have c0 : W7.cell? ⟨p, 0, none⟩ = some (.pointer (some ⟨mp, 0, none⟩)) := (B1.out.turn T8.out (fun _ hk => .inl hk)).cell 0 _ rfl
    go_wp2_with fail
    refine (mEnd H7.out).mono ?_
    rintro e w8 ⟨rfl, hA⟩
    go_wp2_with fail
    go_end0
    exact ⟨rfl, hA.after (fun _ hk => .inl hk) T8.out⟩
end Go.Proofs.YtlmdkmflbhnlgaaGreat
namespace Go.Proofs.YtlmdkmflbhnlgaaGreat
open Go.RowKit
variable {w : World} {s : List Nat} {mp : Nat} {S : MS} {a : MA}
theorem kLen_any (k : Nat) (w : World) (hk : k = 2 ∨ k = 3) : Calls Tryz.prog 91 #[.int .i64 k] w fun e w' => e = .returned (.int .i64 (kSize k)) ∧ Below w.heap.size w w' := by
  rcases hk with rfl | rfl
  · exact Size_any of_2 w
  · exact Size_any of_3 w
theorem part_at {P : Program} {f : FuncId} {p x v : Value} {n : Nat} {m : Int} {W : World} {R : Ending → World → Prop} (h : Calls P f #[p, x, .int .i64 n, v] W R) (e : m = n) : Calls P f #[p, x, .int .i64 m, v] W R := by rw [e]; exact h
theorem packTail_any (g k L d lc : Nat) (l : List Nat) (w : World) (hr : Rd w (some ⟨g, 0, none⟩) (bys l)) (hl : l.length = L) (hd : L - k = d) (hk : k ≤ L) (h8 : d % 8 = 0) (hL : L ≤ 65536) (hc1 : L ≤ lc) (hc2 : lc ≤ 9223372036854775807) (h01 : ∀ x ∈ l, x ≤ 1) :
    Calls Tryz.prog 106 #[.slice (if lc = k then some ⟨g, 0, none⟩ else some ⟨g, k, none⟩) d (lc - k)] w fun e w' => (∃ A' c', e = .returned (.tuple #[.slice A' (packL (l.drop k)).length c', .int .i64 0]) ∧ Row w' w.heap.size 5 A' c' (bys (packL (l.drop k)))) ∧ Below w.heap.size w w' := by
  have hlen : (l.drop k).length = d := by rw [List.length_drop]; omega
  have hpl : (packL (l.drop k)).length = d / 8 := by unfold packL; rw [List.length_map, List.length_range, hlen, nch8 d h8]
  have h01' : ∀ x ∈ l.drop k, x ≤ 1 := fun x hx => h01 x (List.mem_of_mem_drop hx)
  rw [hpl]
  by_cases h : lc = k
  · rw [if_pos h]
    have h0 : l.drop k = [] := List.eq_nil_of_length_eq_zero (by omega)
    exact Pack_any g 0 d (lc - k) _ (.inl rfl) (l.drop k) w (by rw [h0]; exact Rd.nil _ _) hlen (by omega) h8 (by omega) (by omega) h01'
  · rw [if_neg h]
    have hr' := rd_drop hr k
    rw [Nat.zero_add] at hr'
    exact Pack_any g k d (lc - k) _ (.inl rfl) (l.drop k) w hr' hlen (by omega) h8 (by omega) (by omega) h01'
set_option maxRecDepth 100000 in
set_option maxHeartbeats 4000000 in
theorem mFdData (h : MR w s mp S a) (p q size : Nat) (b1 : BoxV w s p #[ptr mp] 36) (b2 : BoxV w s q #[.int .i64 size] 3) (hz : size ≤ 64) (hl : S.l.length = 22 + 8 * size) (h01 : ∀ x ∈ S.l, x ≤ 1) (hraw : 0 < S.raw.length) :
    Calls Tryz.prog 116 #[.pointer (some ⟨p, 0, none⟩), .pointer (some ⟨q, 0, none⟩)] w (MDone w s mp (fdDataM S size)) := by
  obtain ⟨g, hg, hc1, hc2, -⟩ := h.rest.l.at_ 0 (by omega)
  obtain ⟨L, hL⟩ : ∃ L, S.l.length = L := ⟨_, rfl⟩
  obtain ⟨d, hd⟩ : ∃ d, L - 22 = d := ⟨_, rfl⟩
  have hr := h.rest.l.1.rd
  rw [hg] at hr
  rw [hL] at hc1 hl
  have HP := Lib.hid (fun W (hW : Rd W (some ⟨g, 0, none⟩) (bys S.l)) => packTail_any g 22 L d a.lc S.l W hW hL hd (by omega) (by omega) (by omega) hc1 hc2 h01)
  have c18 : w.cell? ⟨mp, 18, none⟩ = some (.slice (some ⟨g, 0, none⟩) L a.lc) := h.cell 18 _ (by rw [← hg, ← hL]; rfl)
  have hs : fdDataM S size = partM { S with f := { S.f with data := packL (S.l.drop 22) } } 4 true (4 + kSize (if 16 < size then 3 else 2)) (.fd (if 16 < size then 3 else 2)) := rfl
  rw [hs]
  obtain ⟨kd, hkd⟩ : ∃ kd, (if 16 < size then 3 else 2) = kd := ⟨_, rfl⟩
  rw [hkd]
  have HKD := Lib.hid hkd
  generalize packL (S.l.drop 22) = D at *
  have HKL := Lib.hid (fun k W hk => kLen_any k W hk)
  have HPT := Lib.hid (fun W s' S' a' (hW : MR W s' mp S' a') d f0 f1 f2 hv hr n hn => mPart hW 4 n true d f0 f1 f2 hv hr (by omega) (by omega) hn)
  have HH := Lib.hid h
  have HR := Lib.hid hr
  have HLA := Lib.hid hg
  have HLL := Lib.hid hL
  have HRAW := Lib.hid hraw
  have HS : Hid (∀ k ∈ s, k < w.heap.size) := h.rest.mem.2
  let l0 : List (Addr × Value) := [(⟨p, 0, none⟩, ptr mp), (⟨q, 0, none⟩, .int .i64 size), (⟨mp, 18, none⟩, .slice (some ⟨g, 0, none⟩) L a.lc)]
  have hce : Cels l0 w := by intro x hx; simp [l0] at hx; rcases hx with rfl | rfl | rfl; (exact b1.cell 0 _ rfl); (exact b2.cell 0 _ rfl); (exact c18)
  have HCE := Lib.hid hce
  have e0 : ∀ e : Sat (Cels l0), e.W.cell? ⟨p, 0, none⟩ = some (.pointer (some ⟨mp, 0, none⟩)) := fun e => Cels.at e.h 0 rfl
  have e1 : ∀ e : Sat (Cels l0), e.W.cell? ⟨q, 0, none⟩ = some (.int .i64 size) := fun e => Cels.at e.h 1 rfl
  have e2 : ∀ e : Sat (Cels l0), e.W.cell? ⟨mp, 18, none⟩ = some (.slice (some ⟨g, 0, none⟩) L a.lc) := fun e => Cels.at e.h 2 rfl
  have HCN : Hid (∀ W' S' a', MR W' s mp S' a' → S'.l.length = L → a'.lA = some ⟨g, 0, none⟩ → a'.lc = a.lc → Turn s w W' → Cels l0 W') := by
    intro W' S' a' hm k1 k2 k3 ht x hx
    have hss : ∀ k ∈ s, k ∈ s ∨ w.heap.size ≤ k := fun _ hk => .inl hk
    simp [l0] at hx
    rcases hx with rfl | rfl | rfl
    · exact (b1.turn ht hss).cell 0 _ rfl
    · exact (b2.turn ht hss).cell 0 _ rfl
    · exact hm.cell 18 _ (by rw [← k1, ← k2, ← k3]; rfl)
  have B1 := Lib.hid b1
  have B2 := Lib.hid b2
  haveI : Nonempty (Sat (Cels l0)) := ⟨⟨w, hce⟩⟩
  generalize l0 = l1 at *
  have hc22 : ¬ a.lc < L := by omega
  have hL22 : ¬ L < 22 := by omega
  clear hkd h b1 b2 hr h01 c18 hs hce hg hL hraw hl
  go_enter Tryz.func116, Tryz.ntmps116
  go_wp2_with fail
  refine wp_region_mix (fun w' => ∃ e : Sat (Cels l1), w' = e.W) [(true, 0), (true, 1), (true, 2), (true, 3), (true, 4), (true, 5), (false, 6), (true, 7), (true, 8), (true, 9), (true, 10), (true, 11), (true, 12), (false, 13)] [] (by kernel_rfl) (by kernel_rfl) (by intro _ _ d _ _ h; cases d <;> exact h) ⟨⟨w.drew, HCE.out.drew⟩, rfl⟩ ?_
  simp only [pickM, pickL, List.drop_succ_cons, List.drop_zero]
  repeat (first | (refine mix_pure (by rfl) (by rfl) ?_; intro K hK; go_big_quiet_op; go_big_quiet_on) | (refine mix_nilc ⟨mp, 0, none⟩ (by rfl) (by kernel_rfl) ?_; go_simp))
  refine mix_eff (by rfl) ?_
  intro K hK
  go_simp
  refine (HP.out _ (HR.out.below (Below.refl _ _).drew)).mono ?_
  rintro e w4 ⟨⟨A', c', rfl, hrow⟩, hb4⟩
  have hb04 : Below w.heap.size w w4 := below_trans (Below.refl _ _).drew hb4
  refine hK _ _ ⟨⟨w4, HCE.out.below hb04⟩, rfl⟩ ?_
  clear hK K
  have H4 := Lib.hid (HH.out.below hb04)
  have HROW := Lib.hid hrow
  have HB4 := Lib.hid hb04
  clear hrow hb4 hb04
  repeat (first | (refine mix_pure (by rfl) (by rfl) ?_; intro K hK; go_big_quiet_op; go_big_quiet_on) | (refine mix_nilc ⟨mp, 0, none⟩ (by rfl) (by kernel_rfl) ?_; go_simp))
  refine mix_mput H4.out (by rfl) 22 (.tmp 15) (.tmp 11) rfl 31 (.slice A' D.length c') (by kernel_rfl) (by kernel_rfl) rfl info_slcS (by decide) { S with f := { S.f with data := D } } { a with fA := A', fc := c' } (by kernel_rfl) (fun w' ht hm => ⟨hm.mem, hm.raw, hm.l, hm.own, hm.rl, hm.ro, hm.lo, hm.sf, (DatU.of HROW.out HS.out).turn ht (fun _ hk => .inl hk), hm.step, hm.next, hm.gho⟩) (fun W' hm ht => ⟨⟨W', HCN.out _ _ _ hm HLL.out HLA.out rfl ((Turn.of HB4.out).tr ht)⟩, rfl⟩) ?_
  intro W5 H5 T5
  refine mix_nil (wpList_nil ?_)
  generalize (if a.lc = 22 then (some ⟨g, 0, none⟩ : Option Addr) else some ⟨g, 22, none⟩) = A9
  have T05 : Hid (Turn s w W5) := (Turn.of HB4.out).tr T5.out
  have C1 := Lib.hid (B1.out.turn T05.out (fun _ hk => .inl hk))
  have C2 := Lib.hid (B2.out.turn T05.out (fun _ hk => .inl hk))
  clear T5 H4 HROW HB4 HCE
  go_upto_region 2 with (fail)
  obtain ⟨W6, hW6, q6, hb6⟩ : ∃ W6, W5.alloc (.cells #[.int .i64 2] 3) = W6 ∧ W6.heap[W5.heap.size]? = some (.cells #[.int .i64 2] 3 (0, 0)) ∧ Below W5.heap.size W5 W6 := ⟨_, rfl, heap_new_at rfl, below_alloc (Below.refl _ _) _⟩
  rw [hW6]
  have H6 := Lib.hid (H5.out.below hb6)
  have D1 := Lib.hid (C1.out.turn (Turn.of hb6) (fun _ hk => .inl hk))
  have D2 := Lib.hid (C2.out.turn (Turn.of hb6) (fun _ hk => .inl hk))
  have Q6 := Lib.hid q6
  have T06 : Hid (Turn s w W6) := T05.out.tr (Turn.of hb6)
  have hnew : ∀ k ∈ s, k < W5.heap.size := H5.out.rest.mem.2
  have HNW := Lib.hid hnew
  have c2 : W6.cell? ⟨q, 0, none⟩ = some (.int .i64 size) := D2.out.cell 0 _ rfl
  have hp5 : p < W5.heap.size := heap_lt C1.out.1
  obtain ⟨b, hbe⟩ : ∃ b, W5.heap.size = b := ⟨_, rfl⟩
  rw [hbe] at Q6 HNW hp5 ⊢
  have HBE := Lib.hid hbe
  have HB6 := Lib.hid hb6
  clear hW6 q6 hb6 C1 C2 hnew hbe
  by_cases h16 : 16 < size
  · have g16 : decide ((16 : Int) < (size : Int)) = true := by simp; omega
    have hkd : kd = 3 := by rw [← HKD.out, if_pos h16]
    subst hkd
    go_wp2_with (first
      | (refine wpList_sput Q6.out rfl 3 (.tmp 2) (.const (.int .i64 3)) rfl 0 (.int .i64 3) (by kernel_rfl) (by kernel_rfl) rfl info_intS (by simp) #[.int .i64 3] (by simp) ?_; intro W7 Q7 T7)
      | fail)
    have hb67 : Below b W6 W7 := Below.of_turn T7.out (Nat.le_refl _) (by have := heap_lt Q6.out; omega)
    have hb57 : Below W5.heap.size W5 W7 := by rw [HBE.out]; exact (HBE.out ▸ HB6.out : Below b W5 W6).trans hb67
    have H7 := Lib.hid (H5.out.below hb57)
    have T07 : Hid (Turn s w W7) := T05.out.tr (Turn.of hb57)
    have G1 : Hid (BoxV W7 s p #[ptr mp] 36) := ⟨(heap_belowG hb67 hp5 D1.out.1), D1.out.2⟩
    clear hb67 hb57 T7 T06 H6 D1 D2 Q6 H5
    have f0 : ∀ e : Ext W7, e.W.cell? ⟨p, 0, none⟩ = some (.pointer (some ⟨mp, 0, none⟩)) := fun e => ext_cell (G1.out.cell 0 _ rfl) e
    have f2 : ∀ e : Ext W7, e.W.cell? ⟨b, 0, none⟩ = some (.int .i64 3) := fun e => ext_cell (cell_of_heap Q7.out 0 _ rfl) e
    clear c2 e0 e1 e2
    refine wp_region_mix (fun w' => ∃ e : Ext W7, w' = e.W) [(true, 0), (true, 1), (true, 2), (true, 5), (false, 3), (true, 4)] [6] (by kernel_rfl) (by kernel_rfl) (by intro _ _ d _ _ h; cases d <;> exact h) ⟨⟨W7.drew, (Below.refl _ _).drew⟩, rfl⟩ ?_
    simp only [pickM, pickL, List.drop_succ_cons, List.drop_zero]
    repeat (first | (refine mix_pure (by rfl) (by rfl) ?_; intro K hK; go_big_quiet_op; go_big_quiet_on) | (refine mix_nilc ⟨mp, 0, none⟩ (by rfl) (by kernel_rfl) ?_; go_simp))
    refine mix_eff (by rfl) ?_
    intro K hK
    go_simp
    refine (HKL.out 3 _ (by omega)).mono ?_
    rintro e w8 ⟨rfl, hb8⟩
    have hb78 : Below W7.heap.size W7 w8 := below_trans (Below.refl _ _).drew hb8
    refine hK _ _ ⟨⟨w8, hb78⟩, rfl⟩ ?_
    clear hK K
    have H8 := Lib.hid (H7.out.below hb78)
    have T8 := Lib.hid (T07.out.tr (Turn.of hb78))
    have E1 := Lib.hid (G1.out.turn (Turn.of (s := s) hb78) (fun _ hk => .inl hk))
    have E2 : Hid (BoxV w8 s b #[.int .i64 3] 3) := ⟨heap_below hb78 Q7.out, fun hm => by have := HNW.out b hm; omega⟩
    clear hb8 hb78 f0 f2
    repeat (first | (refine mix_pure (by rfl) (by rfl) ?_; intro K hK; go_big_quiet_op; go_big_quiet_on) | (refine mix_nilc ⟨mp, 0, none⟩ (by rfl) (by kernel_rfl) ?_; go_simp))
    refine mix_nil ?_
    have hke : kSize 3 = 21 := rfl
    rw [hke] at *
    have HFIN := Lib.hid (HPT.out w8 s _ _ H8.out (.fd 3) (.func 118) #[] #[ptr p, ptr b] ⟨p, b, rfl, E1.out, E2.out⟩ HRAW.out (4 + 21) (by omega))
    go_wp2_with fail
    refine (part_at HFIN.out (by kernel_rfl)).mono ?_
    rintro e w9 ⟨rfl, hA⟩
    go_wp2_with fail
    go_end0
    exact ⟨rfl, hA.after (fun _ hk => .inl hk) T8.out⟩
  · have g16 : decide ((16 : Int) < (size : Int)) = false := by simp; omega
    have hkd : kd = 2 := by rw [← HKD.out, if_neg h16]
    subst hkd
    go_wp2_with fail
    have f0 : ∀ e : Ext W6, e.W.cell? ⟨p, 0, none⟩ = some (.pointer (some ⟨mp, 0, none⟩)) := fun e => ext_cell (D1.out.cell 0 _ rfl) e
    have f2 : ∀ e : Ext W6, e.W.cell? ⟨b, 0, none⟩ = some (.int .i64 2) := fun e => ext_cell (cell_of_heap Q6.out 0 _ rfl) e
    clear c2 e0 e1 e2
    refine wp_region_mix (fun w' => ∃ e : Ext W6, w' = e.W) [(true, 0), (true, 1), (true, 2), (true, 5), (false, 3), (true, 4)] [6] (by kernel_rfl) (by kernel_rfl) (by intro _ _ d _ _ h; cases d <;> exact h) ⟨⟨W6.drew, (Below.refl _ _).drew⟩, rfl⟩ ?_
    simp only [pickM, pickL, List.drop_succ_cons, List.drop_zero]
    repeat (first | (refine mix_pure (by rfl) (by rfl) ?_; intro K hK; go_big_quiet_op; go_big_quiet_on) | (refine mix_nilc ⟨mp, 0, none⟩ (by rfl) (by kernel_rfl) ?_; go_simp))
    refine mix_eff (by rfl) ?_
    intro K hK
    go_simp
    refine (HKL.out 2 _ (by omega)).mono ?_
    rintro e w8 ⟨rfl, hb8⟩
    have hb78 : Below W6.heap.size W6 w8 := below_trans (Below.refl _ _).drew hb8
    refine hK _ _ ⟨⟨w8, hb78⟩, rfl⟩ ?_
    clear hK K
    have H8 := Lib.hid (H6.out.below hb78)
    have T8 := Lib.hid (T06.out.tr (Turn.of hb78))
    have E1 := Lib.hid (D1.out.turn (Turn.of (s := s) hb78) (fun _ hk => .inl hk))
    have E2 : Hid (BoxV w8 s b #[.int .i64 2] 3) := ⟨heap_below hb78 Q6.out, fun hm => by have := HNW.out b hm; omega⟩
    clear hb8 hb78 f0 f2
    repeat (first | (refine mix_pure (by rfl) (by rfl) ?_; intro K hK; go_big_quiet_op; go_big_quiet_on) | (refine mix_nilc ⟨mp, 0, none⟩ (by rfl) (by kernel_rfl) ?_; go_simp))
    refine mix_nil ?_
    have hke : kSize 2 = 17 := rfl
    rw [hke] at *
    have HFIN := Lib.hid (HPT.out w8 s _ _ H8.out (.fd 2) (.func 118) #[] #[ptr p, ptr b] ⟨p, b, rfl, E1.out, E2.out⟩ HRAW.out (4 + 17) (by omega))
    go_wp2_with fail
    refine (part_at HFIN.out (by kernel_rfl)).mono ?_
    rintro e w9 ⟨rfl, hA⟩
    go_wp2_with fail
    go_end0
    exact ⟨rfl, hA.after (fun _ hk => .inl hk) T8.out⟩
end Go.Proofs.YtlmdkmflbhnlgaaGreat
namespace Go.Proofs.YtlmdkmflbhnlgaaGreat
open Go.RowKit
variable {w : World} {s : List Nat} {mp : Nat} {S : MS} {a : MA}
theorem fdSz_of (n : Nat) (h : n < 16) : (fdSizes[n]'(by show n < 16; exact h)) = ((fdSz n : Nat) : Int) := by
  have : ∀ k : Fin 16, (fdSizes[k.1]'(by show k.1 < 16; exact k.2)) = ((fdSz k.1 : Nat) : Int) := by decide
  exact this ⟨n, h⟩
theorem fdSz_le (n : Nat) (h : n < 16) : fdSz n ≤ 64 := by
  have : ∀ k : Fin 16, fdSz k.1 ≤ 64 := by decide
  exact this ⟨n, h⟩
set_option maxRecDepth 100000 in
set_option maxHeartbeats 4000000 in
theorem mFdCode (h : MR w s mp S a) (hl : S.l.length = 22) (h01 : ∀ x ∈ S.l, x ≤ 1) (hraw : 0 < S.raw.length) :
    Calls Tryz.prog 109 #[.pointer (some ⟨mp, 0, none⟩)] w (MDone w s mp (fdCodeM S)) := by
  obtain ⟨r1, hr1⟩ : ∃ r, flagM S 16 = r := ⟨_, rfl⟩
  obtain ⟨r2, hr2⟩ : ∃ r, flagM S 17 = r := ⟨_, rfl⟩
  obtain ⟨n, hn⟩ : ∃ n, numM S 18 22 = n := ⟨_, rfl⟩
  have hn16 : n < 16 := by have := numM_lt S 18 22 4 (by omega) h01; rw [hn] at this; omega
  have HF1 := Lib.hid (fun W (hW : MR W s mp S a) => mFlag hW 16 (by omega))
  have HF2 := Lib.hid (fun W (hW : MR W s mp S a) => mFlag hW 17 (by omega))
  rw [hr1] at HF1
  rw [hr2] at HF2
  have HN := Lib.hid (fun W S2 a2 (hW : MR W s mp S2 a2) (e : S2.l = S.l) => by
    have k := mNumber hW 18 22 (by omega) (by rw [e]; omega) (by omega) (by rw [e]; exact h01) (by rw [e]; omega)
    rw [show numM S2 18 22 = n by rw [← hn]; unfold numM; rw [e]] at k
    exact k)
  have HZ := Lib.hid (fun W => by
    have k := Size_fd n W hn16
    rw [fdSz_of n hn16] at k
    exact k)
  have hz64 := fdSz_le n hn16
  have hs : fdCodeM S = if fdSz n = 0 then fdDataM { S with f := { S.f with brs := r1, esi := r2 } } 0 else askM { S with f := { S.f with brs := r1, esi := r2 } } (22 + 8 * fdSz n) (.fdData (fdSz n)) := by
    rw [← hn, ← hr1, ← hr2]; rfl
  generalize fdSz n = z at *
  obtain ⟨T, hT⟩ : ∃ T, fdCodeM S = T := ⟨_, rfl⟩
  rw [hT] at hs ⊢
  have HSS := Lib.hid hs
  have HH := Lib.hid h
  have HS : Hid (∀ k ∈ s, k < w.heap.size) := h.rest.mem.2
  have HD := Lib.hid (fun W s' S' a' (hW : MR W s' mp S' a') p q size b1 b2 hz hl' (e1 : S'.l = S.l) (e2 : S'.raw = S.raw) => mFdData hW p q size b1 b2 hz hl' (by rw [e1]; exact h01) (by rw [e2]; exact hraw))
  have HL := Lib.hid hl
  clear h hs hT hr1 hr2 hn h01 hraw hn16 hl
  go_enter Tryz.func109, Tryz.ntmps109
  go_upto_region 1 with (fail)
  obtain ⟨W1, hW1, q1, hb1⟩ : ∃ W1, w.alloc (.cells #[.pointer (some ⟨mp, 0, none⟩)] 36) = W1 ∧ W1.heap[w.heap.size]? = some (.cells #[.pointer (some ⟨mp, 0, none⟩)] 36 (0, 0)) ∧ Below w.heap.size w W1 := ⟨_, rfl, heap_new_at rfl, below_alloc (Below.refl _ _) _⟩
  rw [hW1]
  have H1 := Lib.hid (HH.out.below hb1)
  have B1 := Lib.hid (BoxV.new (t := 36) q1 HS.out (Nat.le_refl _))
  have HB1 := Lib.hid hb1
  have hwl : w.heap.size < W1.heap.size := heap_lt q1
  clear hW1 q1 hb1
  let l0 : List (Addr × Value) := [(⟨w.heap.size, 0, none⟩, ptr mp)]
  have hcl : ∀ W, BoxV W s w.heap.size #[ptr mp] 36 → Cels l0 W := by intro W hb x hx; simp [l0] at hx; subst hx; exact hb.cell 0 _ rfl
  have HCL := Lib.hid hcl
  have e0 : ∀ e : Sat (Cels l0), e.W.cell? ⟨w.heap.size, 0, none⟩ = some (.pointer (some ⟨mp, 0, none⟩)) := fun e => Cels.at e.h 0 rfl
  haveI : Nonempty (Sat (Cels l0)) := ⟨⟨W1, hcl _ B1.out⟩⟩
  clear hcl
  generalize l0 = l1 at *
  refine wp_region_mix (fun w' => ∃ e : Sat (Cels l1), w' = e.W) [(true, 0), (true, 1), (true, 2), (true, 4), (false, 3), (false, 5), (true, 6), (true, 7), (true, 8), (false, 9), (true, 10), (true, 11), (true, 12)] [13] (by kernel_rfl) (by kernel_rfl) (by intro _ _ d _ _ h; cases d <;> exact h) ⟨⟨W1.drew, (HCL.out _ B1.out).drew⟩, rfl⟩ ?_
  simp only [pickM, pickL, List.drop_succ_cons, List.drop_zero]
  repeat (first | (refine mix_pure (by rfl) (by rfl) ?_; intro K hK; go_big_quiet_op; go_big_quiet_on) | (refine mix_nilc ⟨mp, 0, none⟩ (by rfl) (by kernel_rfl) ?_; go_simp))
  refine mix_eff (by rfl) ?_
  intro K hK
  go_simp
  refine (HF1.out _ H1.out.drew).mono ?_
  rintro e w2 ⟨rfl, hb2⟩
  have hb12 : Below W1.heap.size W1 w2 := below_trans (Below.refl _ _).drew hb2
  have B2 := Lib.hid (B1.out.turn (Turn.of (s := s) hb12) (fun _ hk => .inl hk))
  refine hK _ _ ⟨⟨w2, HCL.out _ B2.out⟩, rfl⟩ ?_
  clear hK K hb2
  have H2 := Lib.hid (H1.out.below hb12)
  have HB2 := Lib.hid hb12
  clear hb12
  refine mix_eff (by rfl) ?_
  intro K hK
  go_simp
  refine (HF2.out _ H2.out).mono ?_
  rintro e w3 ⟨rfl, hb3⟩
  have B3 := Lib.hid (B2.out.turn (Turn.of (s := s) hb3) (fun _ hk => .inl hk))
  refine hK _ _ ⟨⟨w3, HCL.out _ B3.out⟩, rfl⟩ ?_
  clear hK K
  have H3 := Lib.hid (H2.out.below hb3)
  have HB3 := Lib.hid (below_trans HB2.out hb3)
  clear hb3
  repeat (first | (refine mix_pure (by rfl) (by rfl) ?_; intro K hK; go_big_quiet_op; go_big_quiet_on) | (refine mix_nilc ⟨mp, 0, none⟩ (by rfl) (by kernel_rfl) ?_; go_simp))
  refine mix_mput H3.out (by rfl) 4 (.tmp 13) (.tmp 8) rfl 25 (.bool r1) (by kernel_rfl) (by kernel_rfl) rfl info_boolS (by decide) { S with f := { S.f with brs := r1 } } a (by kernel_rfl) (fun _ _ hm => hm) (fun W' hm ht => ⟨⟨W', HCL.out _ (B3.out.turn ht (fun _ hk => .inl hk))⟩, rfl⟩) ?_
  intro W4 H4 T4
  have B4 := Lib.hid (B3.out.turn T4.out (fun _ hk => .inl hk))
  repeat (first | (refine mix_pure (by rfl) (by rfl) ?_; intro K hK; go_big_quiet_op; go_big_quiet_on) | (refine mix_nilc ⟨mp, 0, none⟩ (by rfl) (by kernel_rfl) ?_; go_simp))
  refine mix_nil ?_
  refine wpList_mput H4.out rfl 4 (.tmp 16) (.tmp 10) rfl 26 (.bool r2) (by kernel_rfl) (by kernel_rfl) rfl info_boolS (by decide) { S with f := { S.f with brs := r1, esi := r2 } } a (by kernel_rfl) (fun _ _ hm => hm) ?_
  intro W5 H5 T5
  refine wpList_nil ?_
  have B5 := Lib.hid (B4.out.turn T5.out (fun _ hk => .inl hk))
  have T15 : Hid (Turn s W1 W5) := (Turn.of HB3.out).tr (T4.out.tr T5.out)
  have hs5 : W1.heap.size ≤ W5.heap.size := T15.out.size
  clear B1 B2 B3 B4 H1 H2 H3 H4 HB2 HB3 T4 T5
  have c0 : W5.cell? ⟨w.heap.size, 0, none⟩ = some (.pointer (some ⟨mp, 0, none⟩)) := B5.out.cell 0 _ rfl
  go_wp2_with fail
  refine (HN.out _ _ _ H5.out rfl).mono ?_
  rintro e w6 ⟨rfl, hb6⟩
  go_wp2_with fail
  refine (HZ.out _).mono ?_
  rintro e w7 ⟨rfl, hb7⟩
  have hb57 := below_trans hb6 hb7
  have H7 := Lib.hid (H5.out.below hb57)
  have B7 := Lib.hid (B5.out.turn (Turn.of (s := s) hb57) (fun _ hk => .inl hk))
  have T17 : Hid (Turn s W1 w7) := T15.out.tr (Turn.of hb57)
  clear hb6 hb7 hb57 T15 B5 c0
  go_upto_region 3 with (fail)
  obtain ⟨W8, hW8, q8, hb8⟩ : ∃ W8, w7.alloc (.cells #[.int .i64 z] 3) = W8 ∧ W8.heap[w7.heap.size]? = some (.cells #[.int .i64 z] 3 (0, 0)) ∧ Below w7.heap.size w7 W8 := ⟨_, rfl, heap_new_at rfl, below_alloc (Below.refl _ _) _⟩
  rw [hW8]
  have H8 := Lib.hid (H7.out.below hb8)
  have B8 := Lib.hid (B7.out.turn (Turn.of (s := s) hb8) (fun _ hk => .inl hk))
  have T18 : Hid (Turn s W1 W8) := T17.out.tr (Turn.of hb8)
  have D8 : Hid (BoxV W8 s w7.heap.size #[.int .i64 z] 3) := BoxV.new q8 H7.out.rest.mem.2 (Nat.le_refl _)
  clear hW8 q8 hb8 T17 B7 H7 e0
  generalize w7.heap.size = b at *
  have c0 : W8.cell? ⟨w.heap.size, 0, none⟩ = some (.pointer (some ⟨mp, 0, none⟩)) := B8.out.cell 0 _ rfl
  have c1 : W8.cell? ⟨b, 0, none⟩ = some (.int .i64 z) := D8.out.cell 0 _ rfl
  by_cases hz : z = 0
  · subst hz
    rw [if_pos rfl] at HSS
    go_wp2_with fail
    refine (HD.out _ _ _ _ H8.out w.heap.size b 0 B8.out D8.out (by omega) HL.out rfl rfl).mono ?_
    rintro e w9 ⟨rfl, hA⟩
    go_wp2_with fail
    go_end0
    exact ⟨rfl, HSS.out ▸ (hA.after (fun _ hk => .inl hk) T18.out).pre HB1.out⟩
  · have gz : ((z : Int) == 0) = false := by simp; omega
    rw [if_neg hz] at HSS
    have HA := Lib.hid (mAsk H8.out (22 + 8 * z) (.fdData z) _ ⟨w.heap.size, b, rfl, B8.out, D8.out⟩)
    go_wp2_with fail
    refine (ask_at HA.out (by omega)).mono ?_
    rintro e w9 ⟨rfl, hA⟩
    go_wp2_with fail
    go_end0
    exact ⟨rfl, HSS.out ▸ (hA.after (fun _ hk => .inl hk) T18.out).pre HB1.out⟩
end Go.Proofs.YtlmdkmflbhnlgaaGreat
