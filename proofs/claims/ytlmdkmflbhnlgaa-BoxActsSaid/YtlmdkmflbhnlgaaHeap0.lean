/- cmp.Compare of ints and cmp.Or of two: which of two pairs comes first. No condition. -/
import Derived.Test.YtlmdkmflbhnlgaaKey0
import Derived.Test.YtlmdkmflbhnlgaaAppend
import Derived.Test.YtlmdkmflbhnlgaaHeapPlain
namespace Go.Proofs.Ytlmdkmflbhnlgaa
open Go.RowKit
theorem isNaN_int (n : Int) (w : World) : Calls Try.prog 94 #[.int .i64 n] w fun e w' => e = .returned (.bool false) ∧ w = w' := by
  go_enter Try.func94, Try.ntmps94
  go_wp2
  go_ret
  exact ⟨by simp, rfl⟩
set_option maxHeartbeats 400000 in
theorem cmp_int (a b : Int) (w : World) : Calls Try.prog 117 #[.int .i64 a, .int .i64 b] w fun e w' => e = .returned (.int .i64 (cmpI a b)) ∧ w = w' := by
  have hf : cmpI a b = if a < b then -1 else if b < a then 1 else 0 := rfl
  generalize cmpI a b = r at *
  have HF := Lib.hid hf
  clear hf
  go_enter Try.func117, Try.ntmps117
  go_wp2_with (go_at_call 94; refine (isNaN_int _ _).mono ?_; rintro e w' ⟨rfl, rfl⟩)
  all_goals
    go_ret
    exact ⟨ret_int (by rw [HF.out]; (repeat (first | rw [if_pos (by omega)] | rw [if_neg (by omega)]))), rfl⟩
set_option maxHeartbeats 400000 in
theorem Or_two (g : Nat) (x y : Int) (t : TypeId) (w : World) (h : w.heap[g]? = some (.cells #[.int .i64 x, .int .i64 y] t (0, 0))) :
    Calls Try.prog 115 #[.slice (some ⟨g, 0, none⟩) 2 2] w fun e w' => e = .returned (.int .i64 (if x = 0 then y else x)) ∧ w = w' := by
  have c0 : w.cell? ⟨g, 0, none⟩ = some (.int .i64 x) := by simp [World.cell?, h]
  have c1 : w.cell? ⟨g, 1, none⟩ = some (.int .i64 y) := by simp [World.cell?, h]
  obtain ⟨r, hf⟩ : ∃ r, r = if x = 0 then y else x := ⟨_, rfl⟩
  rw [← hf]
  have HF := Lib.hid hf
  clear hf h
  go_enter Try.func115, Try.ntmps115
  go_wp2
  go_loop [8] (fun iv => ∃ k : Nat, k ≤ 2 ∧ Hid (1 ≤ k → x = 0) ∧ Hid (2 ≤ k → y = 0) ∧ iv = .int .i64 k) (fun iv => 2 - (intOf iv).toNat)
  case atStart => exact ⟨0, by omega, fun h => absurd h (by omega), fun h => absurd h (by omega), rfl⟩
  case round =>
    obtain ⟨k, hk, K1, K2, rfl⟩ := hrel
    have hk' : k = 0 ∨ k = 1 ∨ k = 2 := by omega
    rcases hk' with rfl | rfl | rfl
    · by_cases hx : x = 0
      · go_wp2
        go_round
        case rel => exact ⟨1, by omega, fun _ => hx, fun h => absurd h (by omega), rfl⟩
        case measure => simp [intOf]
      · go_wp2
        go_ret
        exact ⟨ret_int (by rw [HF.out, if_neg hx]), rfl⟩
    · have hx := K1.out (by omega)
      by_cases hy : y = 0
      · go_wp2
        go_round
        case rel => exact ⟨2, by omega, fun _ => hx, fun _ => hy, rfl⟩
        case measure => simp [intOf]
      · go_wp2
        go_ret
        exact ⟨ret_int (by rw [HF.out, if_pos hx]), rfl⟩
    · have hx := K1.out (by omega)
      have hy := K2.out (by omega)
      go_wp2
      go_ret
      exact ⟨ret_int (by rw [HF.out, if_pos hx, hy]), rfl⟩
theorem ltE_cmp (k1 a1 k2 a2 : Int) : decide ((if cmpI k1 k2 = 0 then cmpI a1 a2 else cmpI k1 k2) < 0) = ltE (k1, a1) (k2, a2) := by
  unfold ltE cmpI
  rw [Bool.eq_iff_iff]
  simp only [decide_eq_true_eq, Bool.or_eq_true, Bool.and_eq_true]
  (repeat' split) <;> omega
end Go.Proofs.Ytlmdkmflbhnlgaa
