/- The places of any frames, and the first one, or the error, are the document's: the law OrderRanks answers true. No condition. -/
import Derived.Test.YtbjeblffmgghgaaLaw10a
import Derived.Test.YtbjeblffmgghgaaRefRank2
namespace Go.Proofs.Ytbjeblffmgghgaa
open Go.RowKit
set_option maxRecDepth 100000 in
set_option maxHeartbeats 2000000 in
theorem FirstR_any (w : World) (A : Option Addr) (n c : Nat) (fs : List Fr) (hr : RdFs w A fs) (hw : FsIn fs) (hn : fs.length = n) (hc : n ≤ 900) :
    Calls Try.prog 24 #[.slice A n c] w fun e w' => e = .returned (.tuple #[.int .i64 (firstR fs), .int .i64 (firstN fs)]) ∧ Below w.heap.size w w' := by
  have HA := Lib.hid (RankR_any w A n c fs hr hw hn hc)
  have HN := Lib.hid hn
  clear hr hw hn
  go_enter Try.func24, Try.ntmps24
  go_wp2_with fail
  refine HA.out.mono ?_
  rintro x W1 ⟨hb1, A1, c1, rfl, hrow⟩
  have HB1 := Lib.hid hb1
  clear hb1
  cases hall : fs.all okF
  · have HF : Hid (firstR fs = 0 ∧ firstN fs = 2) := ⟨by simp [firstR, hall], by simp [firstN, hall]⟩
    simp only [errV, Bool.false_eq_true, if_false]
    clear hrow hall
    generalize (outR fs).length = m at *
    go_wp2_with fail
    go_ret2
    exact ⟨by rw [HF.out.1, HF.out.2] <;> rfl, HB1.out⟩
  · have ho : outR fs = (rkE fs).map (·.2) := by unfold outR; rw [hall, if_pos rfl]
    have hl : (outR fs).length = n := by rw [ho, List.length_map, rkE_length]; exact HN.out
    simp only [errV, if_true]
    by_cases h0 : n = 0
    · subst h0
      have HF : Hid (firstR fs = 0 ∧ firstN fs = 9) := by
        have : fs = [] := List.eq_nil_of_length_eq_zero HN.out
        subst this
        exact ⟨rfl, rfl⟩
      rw [hl]
      clear hrow hall ho hl
      go_wp2_with fail
      go_ret2
      exact ⟨by rw [HF.out.1, HF.out.2] <;> rfl, HB1.out⟩
    · have HF : Hid (firstR fs = (at_ (rkE fs) 0).2 ∧ firstN fs = 0) := ⟨by unfold firstR; rw [hall, if_pos rfl], by unfold firstN; rw [hall, if_pos rfl, if_neg (by rw [HN.out]; exact h0)]⟩
      obtain ⟨g, cu, rfl, -, -, -, -⟩ := hrow.form (by rw [ins_length, hl]; omega)
      have c0 := hrow.cell_ 0 (.int .i64 (at_ (rkE fs) 0).2) (by
        have hlr : 0 < (rkE fs).length := by rw [rkE_length, HN.out]; omega
        rw [ho, at_get hlr]
        simp [ins, hlr])
      rw [hl]
      generalize (at_ (rkE fs) 0).2 = x at *
      clear hrow hall ho hl
      go_wp2_with fail
      go_ret2
      exact ⟨by rw [HF.out.1, HF.out.2] <;> rfl, HB1.out⟩
set_option maxRecDepth 100000 in
set_option maxHeartbeats 2000000 in
theorem Ints_any (w : World) (A B : Option Addr) (n m c d : Nat) (a b : List Int) (ha : Rd w A (ins a)) (hb : Rd w B (ins b)) (hn : a.length = n) (hm : b.length = m) (hc : n ≤ 900) :
    Calls Try.prog 25 #[.slice A n c, .slice B m d] w fun e w' => e = .returned (.bool (decide (a = b))) ∧ Below w.heap.size w w' := by
  have HA := Lib.hid ha
  have HB := Lib.hid hb
  have HN := Lib.hid hn
  have HM := Lib.hid hm
  clear ha hb hn hm
  by_cases hnm : n = m
  · subst hnm
    go_enter Try.func25, Try.ntmps25
    go_wp2_with fail
    go_loopw [13] (fun iv wr => ∃ k : Nat, k ≤ n ∧ iv = .int .i64 k ∧ Hid (∀ j (h1 : j < a.length) (h2 : j < b.length), j < k → a[j] = b[j]) ∧ Hid (Below w.heap.size w wr)) (fun iv _ => n - (intOf iv).toNat)
    case atStart => exact ⟨0, by omega, rfl, fun j _ _ h => absurd h (by omega), Below.refl _ _⟩
    case round =>
      obtain ⟨k, hk, rfl, HE, HW⟩ := hrel
      by_cases hkn : k < n
      · have hka : k < a.length := by rw [HN.out]; exact hkn
        have hkb : k < b.length := by rw [HM.out]; exact hkn
        obtain ⟨ad, rfl, ca⟩ := (HA.out.below HW.out) k (.int .i64 a[k]) (by simp [ins, hka])
        obtain ⟨bd, rfl, cb⟩ := (HB.out.below HW.out) k (.int .i64 b[k]) (by simp [ins, hkb])
        obtain ⟨x, hx⟩ : ∃ x, a[k] = x := ⟨_, rfl⟩
        obtain ⟨y, hy⟩ : ∃ y, b[k] = y := ⟨_, rfl⟩
        rw [hx] at ca
        rw [hy] at cb
        have HX := Lib.hid hx
        have HY := Lib.hid hy
        clear hx hy
        by_cases hxy : x = y
        · go_wp2_with fail
          go_quiet (fail)
          go_wp2_with fail
          go_roundw
          case rel =>
            refine ⟨k + 1, by omega, by go_num, fun j h1 h2 hj => ?_, below_drewN HW.out _⟩
            by_cases hjk : j = k
            · subst hjk; rw [HX.out, HY.out, hxy]
            · exact HE.out j h1 h2 (by omega)
          case measure => simp [intOf]; omega
        · have hf : decide (a = b) = false := decide_eq_false (fun e => hxy (by rw [← HX.out, ← HY.out]; simp [e]))
          have HF := Lib.hid hf
          clear hf
          go_wp2_with fail
          go_quiet (fail)
          go_wp2_with fail
          go_ret
          exact ⟨ret_bool HF.out.symm, below_drewN HW.out _⟩
      · obtain rfl : k = n := by omega
        have hf : decide (a = b) = true := decide_eq_true (by
          refine List.ext_getElem (by rw [HN.out, HM.out]) fun j h1 h2 => HE.out j h1 h2 (by rw [← HN.out]; exact h1))
        have HF := Lib.hid hf
        clear hf
        go_wp2_with fail
        go_ret
        exact ⟨ret_bool HF.out.symm, HW.out⟩
  · have hf : decide (a = b) = false := decide_eq_false (fun e => hnm (by rw [← HN.out, ← HM.out, e]))
    rw [hf]
    go_enter Try.func25, Try.ntmps25
    go_wp2_with fail
    go_ret
    exact ⟨rfl, Below.refl _ _⟩
set_option maxRecDepth 100000 in
set_option maxHeartbeats 4000000 in
theorem ranks_walk (fs : List Fr) (A : Option Addr) (n c : Nat) (w : World) (hr : RdFs w A fs) (hw : FsIn fs) (hn : fs.length = n) (hn63 : n ≤ 9223372036854775807) :
    Calls Try.prog 6 #[.slice A n c] w fun e w' => e = .returned (.bool true) ∧ Below w.heap.size w w' := by
  have HR := Lib.hid hr
  have HW := Lib.hid hw
  have HN := Lib.hid hn
  clear hr hw hn
  by_cases hc : n ≤ 60
  · go_enter Try.func6, Try.ntmps6
    go_wp2_with fail
    refine (extc_same (alive10 _)).mono ?_
    rintro x _ ⟨e1, rfl, rfl⟩
    go_wp2_with fail
    refine (Rank_any e1.W A n c fs (HR.out.below e1.below) HW.out HN.out (by omega)).mono ?_
    rintro x w2 ⟨hb2, A2, c2, rfl, hr2⟩
    have B2 : Hid (Below w.heap.size w w2) := below_trans e1.below hb2
    have R2 := Lib.hid hr2.rd
    clear hb2 hr2
    have HRB := fun (a b : World) (ha : Rd a A2 (ins (outR fs))) (hb : Below a.heap.size a b) => ha.below hb
    simp only [errV]
    generalize hev : (if (fs.all okF) = true then (0 : Int) else 2) = ev at *
    go_wp2_with fail
    refine (RankR_any w2 A n c fs (HR.out.below B2.out) HW.out HN.out (by omega)).mono ?_
    rintro x w3 ⟨hb3, A3, c3, rfl, hr3⟩
    have B3 : Hid (Below w.heap.size w w3) := below_trans B2.out hb3
    have R23 := Lib.hid (R2.out.below hb3)
    have R3 := Lib.hid hr3.rd
    clear hb3 hr3
    simp only [errV]
    rw [hev]
    go_wp2_with fail
    refine (First_any w3 A n c fs (HR.out.below B3.out) HW.out HN.out (by omega)).mono ?_
    rintro x w4 ⟨rfl, hb4⟩
    have B4 : Hid (Below w.heap.size w w4) := below_trans B3.out hb4
    have R24 := Lib.hid (R23.out.below hb4)
    have R34 := Lib.hid (R3.out.below hb4)
    clear hb4
    go_wp2_with fail
    refine (FirstR_any w4 A n c fs (HR.out.below B4.out) HW.out HN.out (by omega)).mono ?_
    rintro x w5 ⟨rfl, hb5⟩
    have B5 : Hid (Below w.heap.size w w5) := below_trans B4.out hb5
    have R25 := Lib.hid (R24.out.below hb5)
    have R35 := Lib.hid (R34.out.below hb5)
    clear hb5
    have ho : (outR fs).length ≤ 900 := by
      unfold outR; split
      · rw [List.length_map, rkE_length, HN.out]; omega
      · simp
    generalize outR fs = o at *
    generalize hm : o.length = m at *
    go_wp2_with fail
    refine (Ints_any w5 A2 A3 m m c2 c3 o o R25.out R35.out hm hm ho).mono ?_
    rintro x w6 ⟨rfl, hb6⟩
    have B6 : Hid (Below w.heap.size w w6) := below_trans B5.out hb6
    clear hb6
    rw [decide_eq_true (rfl : o = o)]
    go_wp2_with fail
    go_ret
    exact ⟨ret_bool (by simp), B6.out⟩
  · have hc2 : 60 < n := by omega
    clear hc
    go_enter Try.func6, Try.ntmps6
    go_wp2_with fail
    refine (extc_same (alive10 _)).mono ?_
    rintro x _ ⟨e1, rfl, rfl⟩
    go_wp2_with fail
    go_ret
    exact ⟨rfl, e1.below⟩
end Go.Proofs.Ytbjeblffmgghgaa
