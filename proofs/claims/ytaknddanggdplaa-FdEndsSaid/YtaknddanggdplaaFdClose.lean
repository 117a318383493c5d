/- fd.close: what stands behind an FD frame's first raw bits. No condition. -/
import Derived.Test.YtaknddanggdplaaPFd
import Derived.Test.YtaknddanggdplaaOf23
import Derived.Test.YtaknddanggdplaaFixedPut
import Derived.Test.YtaknddanggdplaaConcatP
import Derived.Test.YtaknddanggdplaaMix
namespace Go.Proofs.Ytaknddanggdplaa
open Go.RowKit
theorem of_S (n : Nat) : OfK (kindS n) (sizeS n) (polyS n) (startS n) := by
  unfold kindS sizeS polyS startS
  by_cases h : 16 < n
  · simp only [if_pos h]; exact of_3
  · simp only [if_neg h]; exact of_2
theorem fdSum_any (n : Nat) (w : World) (hn : n ≤ 100000) : Calls Try.prog 75 #[.int .i64 n] w fun e w' => e = .returned (.int .i64 (kindS n)) ∧ w = w' := by
  unfold kindS
  by_cases h : 16 < n
  · have h2 : (16 : Int) < (n : Int) := by omega
    rw [if_pos h]
    go_enter Try.func75, Try.ntmps75
    go_wp2
    go_ret
    exact ⟨rfl, rfl⟩
  · have h2 : ¬ (16 : Int) < (n : Int) := by omega
    rw [if_neg h]
    go_enter Try.func75, Try.ntmps75
    go_wp2
    go_ret
    exact ⟨rfl, rfl⟩
theorem fdWay_any (w : World) : Calls Try.prog 76 #[] w fun e w' => e = .returned (wayV 4 true) ∧ Below w.heap.size w w' := by
  go_enter Try.func76, Try.ntmps76
  go_wp2
  exact bodyPost_ret (v := wayV 4 true) (by simp [results, Try.results76, go_sem]) rfl ⟨rfl, below_alloc (Below.refl _ _) _⟩
theorem rd_drop {w : World} {g k : Nat} {l : List Nat} (h : Rd w (some ⟨g, 0, none⟩) (bys l)) : Rd w (some ⟨g, k, none⟩) (bys (l.drop k)) := by
  intro j u hj
  refine ⟨_, rfl, ?_⟩
  have h1 : (bys l)[k + j]? = some u := by
    rw [← hj]
    simp [bys]
  obtain ⟨ad, e, hc⟩ := h (k + j) u h1
  injection e with e
  subst e
  rw [← hc]
  unfold Addr.add
  by_cases h0 : j = 0 <;> by_cases h2 : k = 0 <;> simp [h0, h2]
set_option maxRecDepth 100000 in
set_option maxHeartbeats 4000000 in
theorem fdClose_any (g c n st sz N : Nat) (raw : List Nat) (w : World) (hr : Rd w (some ⟨g, 0, none⟩) (bys raw)) (hn : raw.length = n) (hn1 : 1 ≤ n) (hn2 : n ≤ 5000) (hc : n ≤ c) (hc2 : c ≤ 9223372036854775807) (h01 : ∀ x ∈ raw, x ≤ 1) (hst : st ≤ 5000) (hsz : sz ≤ 100) (hN : (closeD raw st sz).length = N) :
    Calls Try.prog 46 #[.slice (some ⟨g, 0, none⟩) n c, .int .i64 st, .int .i64 sz] w fun e w' => (∃ A' c', e = .returned (.slice A' N c') ∧ Row w' w.heap.size 5 A' c' (bys (closeD raw st sz))) ∧ Below w.heap.size w w' := by
  have hS := sizeS_or sz
  have hcb : ∀ x ∈ raw ++ tallyN st, x ≤ 1 := fun x hx => by rcases List.mem_append.1 hx with h | h; exact h01 x h; exact tallyN_bits _ x h
  have hlast : lastN raw ≤ 1 := lastN_le raw h01
  have y0 : raw[n - 1]? = some (lastN raw) := by
    unfold lastN
    rw [hn, List.getElem?_eq_getElem (by omega)]; rfl
  have hal : (addN (sizeS sz) (polyS sz) (startS sz) (raw ++ tallyN st)).drop n = sealD raw st sz := by
    unfold addN sealD
    rw [List.append_assoc, List.drop_append_of_le_length (by omega), ← hn, List.drop_length, List.nil_append]
  have hsel := sealD_length raw st sz
  have HADD := Lib.hid (fun (W : World) (base : Nat) (A2 : Option Addr) (c2 : Nat) (hrow : Row W base 5 A2 c2 (bys (raw ++ tallyN st))) => Add_row (of_S sz) (n + 4) c2 (n + 4 + sizeS sz) base A2 (raw ++ tallyN st) W hrow (by rw [List.length_append, tallyN_length, hn]) (by omega) hcb rfl)
  have HFP := Lib.hid (fun (W : World) (A2 : Option Addr) (c2 : Nat) (hW : Rd W A2 (bys (sealD raw st sz))) => FixedPut_any W A2 (lastN raw) 4 c2 (4 + sizeS sz) N true (sealD raw st sz) (by decide) (by decide) hlast hW (sealD_length _ _ _) (by omega) (by omega) (sealD_bits _ _ _) hN)
  have hcl : closeD raw st sz = fixN 4 true (lastN raw) (sealD raw st sz) := rfl
  rw [hcl]
  have hk1 : kindS sz = 2 ∨ kindS sz = 3 := by unfold kindS; split <;> simp
  obtain ⟨la, hla⟩ : ∃ la, lastN raw = la := ⟨_, rfl⟩
  obtain ⟨S, hSS⟩ : ∃ S, sizeS sz = S := ⟨_, rfl⟩
  obtain ⟨K, hKK⟩ : ∃ K, kindS sz = K := ⟨_, rfl⟩
  obtain ⟨ad, had⟩ : ∃ ad, addN (sizeS sz) (polyS sz) (startS sz) (raw ++ tallyN st) = ad := ⟨_, rfl⟩
  obtain ⟨se, hse⟩ : ∃ se, sealD raw st sz = se := ⟨_, rfl⟩
  have HSUM := Lib.hid (fun W => fdSum_any sz W (by omega))
  rw [hla] at hlast y0 HFP ⊢
  rw [hse] at hal HFP hsel ⊢
  rw [had] at hal HADD
  rw [hSS] at hS HADD HFP hsel
  rw [hKK] at HADD HSUM
  have HR := Lib.hid hr
  have HRN := Lib.hid hn
  have HAL := Lib.hid hal
  have HSEL := Lib.hid hsel
  have c0 : w.cell? ⟨g, n - 1, none⟩ = some (.int .u8 (la : Int)) := by
    obtain ⟨a, e, hc0⟩ := hr (n - 1) (.int .u8 (la : Int)) (by simp [bys, y0])
    injection e with e
    subst e
    rw [← hc0]
    unfold Addr.add
    by_cases h0 : n - 1 = 0 <;> simp [h0]
  have HC0 := Lib.hid c0
  have i1 : (n : Int) - 1 = ((n - 1 : Nat) : Int) := by omega
  clear hr hn h01 hcb y0 hal hsel hN hcl hk1 hla hSS hKK had hse c0
  go_enter Try.func46, Try.ntmps46
  go_wp2_with fail
  refine (extc_same (Tally_any st _ (by omega))).mono ?_
  rintro x _ ⟨e1, rfl, A1, c1, rfl, hrow1⟩
  have HROW1 := Lib.hid hrow1
  clear hrow1
  go_wp2_with fail
  refine (HSUM.out _).mono ?_
  rintro x _ ⟨rfl, rfl⟩
  go_wp2_with fail
  refine (concat2 e1.W (some ⟨g, 0, none⟩) A1 c c1 n 4 (n + 4) raw (tallyN st) ⟨HR.out.ext e1, fun _ h => by cases h⟩ HROW1.out.part HRN.out (tallyN_length _) rfl (by omega)).mono ?_
  rintro x w2 ⟨⟨A2, c2, rfl, hrow2⟩, hb2⟩
  have hb02 : Below w.heap.size w w2 := below_trans (below_alloc e1.below _) hb2
  obtain ⟨e2, he2⟩ : ∃ e : Ext w, e.W = w2 := ⟨⟨w2, hb02⟩, rfl⟩
  have HROW2 := Lib.hid hrow2
  subst he2
  clear hrow2 hb2 hb02
  go_wp2_with fail
  refine (extcB (HADD.out _ _ _ _ HROW2.out)).mono ?_
  rintro x _ ⟨e3, rfl, HB3, A3, c3, rfl, hrow3⟩
  have hadl : ad.length = n + 4 + S := by
    have h1 : (ad.drop n).length = 4 + S := by rw [HAL.out]; exact HSEL.out
    rw [List.length_drop] at h1
    have h2 := hrow3.cap
    have h3 : n ≤ ad.length := by omega
    omega
  obtain ⟨g3, rfl, hg3, hc3a, hc3b⟩ := row_some (n := n + 4 + S) hrow3 hadl (by omega)
  have HRD3 := Lib.hid (rd_drop (k := n) hrow3.rd)
  have y0 := fun e : Ext e3.W => Below.cell_of (e3.below) HC0.out
  have z1 : (0 : Int) ≤ (n : Int) := by omega
  have z2 : (n : Int) ≤ ((n + 4 + S : Nat) : Int) := by omega
  have z3 : ((n + 4 + S : Nat) : Int) ≤ (c3 : Int) := by omega
  have z4 : (n : Int) ≤ (c : Int) := by omega
  clear hrow3 hadl
  go_wp2_with fail
  refine wp_region_mix (fun w' => ∃ e : Ext e3.W, w' = e.W) [(true, 0), (true, 1), (true, 2), (true, 3), (true, 4), (true, 5), (true, 6), (true, 7), (true, 8), (true, 9), (false, 10), (false, 11), (true, 12), (true, 13), (true, 14), (true, 15), (true, 16)] [] (by kernel_rfl) (by kernel_rfl) (by intro _ _ d _ _ h; cases d <;> exact h) ⟨⟨e3.W.drew, (Below.refl _ _).drew⟩, rfl⟩ ?_
  simp only [pickM, pickL, List.drop_succ_cons, List.drop_zero]
  have y1 : ∀ e : Ext e3.W, e.W.cell? ⟨g, n - 1, none⟩ = some (.int .u8 (la : Int)) := fun e => Below.cell_of (below_trans e3.below e.below) HC0.out
  clear y0
  repeat (refine mix_pure (by rfl) (by rfl) ?_; intro K hK; go_big_quiet_op; go_big_quiet_on)
  refine mix_eff (by rfl) ?_
  intro K' hK
  go_simp
  refine (fdWay_any _).mono ?_
  rintro x w5 ⟨rfl, hb5⟩
  have hb35 : Below e3.W.heap.size e3.W w5 := below_trans (Below.refl _ _).drew hb5
  have HB35 := Lib.hid hb35
  refine hK _ _ ⟨⟨w5, hb35⟩, rfl⟩ ?_
  clear hK K' hb5 hb35
  refine mix_eff (by rfl) ?_
  intro K' hK
  go_simp
  rw [show n + 4 + S - n = 4 + S by omega]
  refine (HFP.out w5 (some ⟨g3, n, none⟩) (c3 - n) (by rw [← HAL.out]; exact HRD3.out.below HB35.out)).mono ?_
  rintro x w6 ⟨⟨A6, c6, rfl, hrow6⟩, hb6⟩
  have hb36 : Below e3.W.heap.size e3.W w6 := below_trans HB35.out hb6
  refine hK _ _ ⟨⟨w6, hb36⟩, rfl⟩ ?_
  clear hK K'
  repeat (refine mix_pure (by rfl) (by rfl) ?_; intro K' hK; go_big_quiet_op; go_big_quiet_on)
  refine mix_nil (wpList_nil ?_)
  have HROW6 := Lib.hid (hrow6.mono (below_trans e3.below HB35.out).size)
  have HB6 := Lib.hid (below_trans e3.below hb36)
  clear hrow6 hb6 hb36 y1
  go_wp2_with fail
  go_ret
  exact ⟨⟨A6, c6, rfl, HROW6.out⟩, HB6.out⟩
end Go.Proofs.Ytaknddanggdplaa
