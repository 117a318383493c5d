/- fixed.Tally: a number of stuff bits as four bits. No condition. -/
import Derived.Test.YtaknddanggdplaaKe
namespace Go.Proofs.Ytaknddanggdplaa
open Go.RowKit
def tallyV (n : Nat) : Nat := [0, 3, 6, 5, 12, 15, 10, 9].getD (n % 8) 0
def tallyN (n : Nat) : List Nat := bitsN (tallyV n) 4
theorem tallyN_length (n : Nat) : (tallyN n).length = 4 := bitsN_length _ _
theorem bitsPut_row (w : World) (n size : Int) (N S : Nat) (eN : n = (N : Int)) (eS : size = (S : Int)) (hn : N < 18446744073709551616) (hs : S ≤ 64) (hlt : N < 2 ^ S) :
    Calls Try.prog 95 #[.int .u64 n, .int .i64 size] w fun e w' => (∃ A' c', e = .returned (.tuple #[.slice A' S c', .int .i64 0]) ∧ Row w' w.heap.size 5 A' c' (bys (bitsN N S))) ∧ Below w.heap.size w w' := by
  subst eN eS
  exact bitsPut_any w N S hn hs hlt
set_option maxHeartbeats 2000000 in
theorem Tally_any (n : Nat) (w : World) (hn : n ≤ 1000000) :
    Calls Try.prog 55 #[.int .i64 n] w fun e w' => (∃ A' c', e = .returned (.tuple #[.slice A' 4 c', .int .i64 0]) ∧ Row w' w.heap.size 5 A' c' (bys (tallyN n))) ∧ Below w.heap.size w w' := by
  have h0 : ¬ (n : Int) < 0 := by omega
  have hm : n % 8 = 0 ∨ n % 8 = 1 ∨ n % 8 = 2 ∨ n % 8 = 3 ∨ n % 8 = 4 ∨ n % 8 = 5 ∨ n % 8 = 6 ∨ n % 8 = 7 := by omega
  have ht : tallyN n = bitsN ([0, 3, 6, 5, 12, 15, 10, 9].getD (n % 8) 0) 4 := rfl
  generalize tallyN n = tl at ht ⊢
  rcases hm with hm | hm | hm | hm | hm | hm | hm | hm
  all_goals
    rw [hm] at ht
    have HT := Lib.hid ht
    clear ht
  · have e1 : (n : Int) % 8 = 0 := by omega
    have e2 : (n : Int).tmod 8 = 0 := by rw [Int.tmod_eq_emod_of_nonneg (by omega)]; omega
    have ht2 : tl = bitsN 0 4 := HT.out
    clear hm HT
    go_enter Try.func55, Try.ntmps55
    go_wp2_with fail
    refine (bitsPut_row w _ 4 0 4 ?c1 rfl (by omega) (by omega) (by omega)).mono ?_
    case c1 => kernel_rfl
    rintro x w1 ⟨⟨A1, c1, rfl, hrow⟩, hb⟩
    have HROW := Lib.hid hrow
    have HB := Lib.hid hb
    clear hrow hb
    go_wp2_with fail
    go_ret2
    exact ⟨⟨A1, c1, rfl, by rw [ht2]; exact HROW.out⟩, HB.out⟩
  · have e1 : (n : Int) % 8 = 1 := by omega
    have e2 : (n : Int).tmod 8 = 1 := by rw [Int.tmod_eq_emod_of_nonneg (by omega)]; omega
    have ht2 : tl = bitsN 3 4 := HT.out
    clear hm HT
    go_enter Try.func55, Try.ntmps55
    go_wp2_with fail
    refine (bitsPut_row w _ 4 3 4 ?c1 rfl (by omega) (by omega) (by omega)).mono ?_
    case c1 => kernel_rfl
    rintro x w1 ⟨⟨A1, c1, rfl, hrow⟩, hb⟩
    have HROW := Lib.hid hrow
    have HB := Lib.hid hb
    clear hrow hb
    go_wp2_with fail
    go_ret2
    exact ⟨⟨A1, c1, rfl, by rw [ht2]; exact HROW.out⟩, HB.out⟩
  · have e1 : (n : Int) % 8 = 2 := by omega
    have e2 : (n : Int).tmod 8 = 2 := by rw [Int.tmod_eq_emod_of_nonneg (by omega)]; omega
    have ht2 : tl = bitsN 6 4 := HT.out
    clear hm HT
    go_enter Try.func55, Try.ntmps55
    go_wp2_with fail
    refine (bitsPut_row w _ 4 6 4 ?c1 rfl (by omega) (by omega) (by omega)).mono ?_
    case c1 => kernel_rfl
    rintro x w1 ⟨⟨A1, c1, rfl, hrow⟩, hb⟩
    have HROW := Lib.hid hrow
    have HB := Lib.hid hb
    clear hrow hb
    go_wp2_with fail
    go_ret2
    exact ⟨⟨A1, c1, rfl, by rw [ht2]; exact HROW.out⟩, HB.out⟩
  · have e1 : (n : Int) % 8 = 3 := by omega
    have e2 : (n : Int).tmod 8 = 3 := by rw [Int.tmod_eq_emod_of_nonneg (by omega)]; omega
    have ht2 : tl = bitsN 5 4 := HT.out
    clear hm HT
    go_enter Try.func55, Try.ntmps55
    go_wp2_with fail
    refine (bitsPut_row w _ 4 5 4 ?c1 rfl (by omega) (by omega) (by omega)).mono ?_
    case c1 => kernel_rfl
    rintro x w1 ⟨⟨A1, c1, rfl, hrow⟩, hb⟩
    have HROW := Lib.hid hrow
    have HB := Lib.hid hb
    clear hrow hb
    go_wp2_with fail
    go_ret2
    exact ⟨⟨A1, c1, rfl, by rw [ht2]; exact HROW.out⟩, HB.out⟩
  · have e1 : (n : Int) % 8 = 4 := by omega
    have e2 : (n : Int).tmod 8 = 4 := by rw [Int.tmod_eq_emod_of_nonneg (by omega)]; omega
    have ht2 : tl = bitsN 12 4 := HT.out
    clear hm HT
    go_enter Try.func55, Try.ntmps55
    go_wp2_with fail
    refine (bitsPut_row w _ 4 12 4 ?c1 rfl (by omega) (by omega) (by omega)).mono ?_
    case c1 => kernel_rfl
    rintro x w1 ⟨⟨A1, c1, rfl, hrow⟩, hb⟩
    have HROW := Lib.hid hrow
    have HB := Lib.hid hb
    clear hrow hb
    go_wp2_with fail
    go_ret2
    exact ⟨⟨A1, c1, rfl, by rw [ht2]; exact HROW.out⟩, HB.out⟩
  · have e1 : (n : Int) % 8 = 5 := by omega
    have e2 : (n : Int).tmod 8 = 5 := by rw [Int.tmod_eq_emod_of_nonneg (by omega)]; omega
    have ht2 : tl = bitsN 15 4 := HT.out
    clear hm HT
    go_enter Try.func55, Try.ntmps55
    go_wp2_with fail
    refine (bitsPut_row w _ 4 15 4 ?c1 rfl (by omega) (by omega) (by omega)).mono ?_
    case c1 => kernel_rfl
    rintro x w1 ⟨⟨A1, c1, rfl, hrow⟩, hb⟩
    have HROW := Lib.hid hrow
    have HB := Lib.hid hb
    clear hrow hb
    go_wp2_with fail
    go_ret2
    exact ⟨⟨A1, c1, rfl, by rw [ht2]; exact HROW.out⟩, HB.out⟩
  · have e1 : (n : Int) % 8 = 6 := by omega
    have e2 : (n : Int).tmod 8 = 6 := by rw [Int.tmod_eq_emod_of_nonneg (by omega)]; omega
    have ht2 : tl = bitsN 10 4 := HT.out
    clear hm HT
    go_enter Try.func55, Try.ntmps55
    go_wp2_with fail
    refine (bitsPut_row w _ 4 10 4 ?c1 rfl (by omega) (by omega) (by omega)).mono ?_
    case c1 => kernel_rfl
    rintro x w1 ⟨⟨A1, c1, rfl, hrow⟩, hb⟩
    have HROW := Lib.hid hrow
    have HB := Lib.hid hb
    clear hrow hb
    go_wp2_with fail
    go_ret2
    exact ⟨⟨A1, c1, rfl, by rw [ht2]; exact HROW.out⟩, HB.out⟩
  · have e1 : (n : Int) % 8 = 7 := by omega
    have e2 : (n : Int).tmod 8 = 7 := by rw [Int.tmod_eq_emod_of_nonneg (by omega)]; omega
    have ht2 : tl = bitsN 9 4 := HT.out
    clear hm HT
    go_enter Try.func55, Try.ntmps55
    go_wp2_with fail
    refine (bitsPut_row w _ 4 9 4 ?c1 rfl (by omega) (by omega) (by omega)).mono ?_
    case c1 => kernel_rfl
    rintro x w1 ⟨⟨A1, c1, rfl, hrow⟩, hb⟩
    have HROW := Lib.hid hrow
    have HB := Lib.hid hb
    clear hrow hb
    go_wp2_with fail
    go_ret2
    exact ⟨⟨A1, c1, rfl, by rw [ht2]; exact HROW.out⟩, HB.out⟩
end Go.Proofs.Ytaknddanggdplaa
