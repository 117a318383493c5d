/- The document's number of bits. No condition. -/
import Derived.Test.YtlmdkmflbhnlgaaBits
namespace Go.Proofs.Ytlmdkmflbhnlgaa
open Go.RowKit
set_option maxHeartbeats 400000 in
theorem NumR_any (A : Option Addr) (c : Nat) (l : List Nat) (w : World) (hr : Rd w A (bys l)) (hl : l.length ≤ 64) (h01 : ∀ x ∈ l, x ≤ 1) :
    Calls Try.prog 85 #[.slice A l.length c] w fun e w' => e = .returned (.int .u64 (numN l : Nat)) ∧ w = w' := by
  have HR := Lib.hid hr
  have H01 := Lib.hid h01
  clear hr h01
  go_enter Try.func85, Try.ntmps85
  go_wp2
  go_loop [3, 8] (fun u iv => ∃ k N : Nat, k ≤ l.length ∧ Hid (N = numN (l.take k)) ∧ u = .int .u64 N ∧ iv = .int .i64 k) (fun _ iv => l.length - (intOf iv).toNat)
  case atStart => exact ⟨0, 0, by omega, (rfl : (0 : Nat) = numN (l.take 0)), rfl, rfl⟩
  case round =>
    obtain ⟨k, N, hk, hN, rfl, rfl⟩ := hrel
    by_cases hlt : k < l.length
    · obtain ⟨ad, rfl, hc⟩ := HR.out.at_ k hlt
      have hx := H01.out l[k] (List.getElem_mem hlt)
      have hs : numN (l.take (k + 1)) = N * 2 + l[k] := by rw [List.take_succ_eq_append_getElem hlt, numN_snoc, ← hN.out]
      have hNb : N < 9223372036854775808 := by
        have h1 := numN_lt (l.take k) (fun x hx => H01.out x (List.mem_of_mem_take hx))
        rw [← hN.out] at h1
        have h2 : (l.take k).length ≤ 63 := by rw [List.length_take]; omega
        have h3 : 2 ^ (l.take k).length ≤ 2 ^ 63 := Nat.pow_le_pow_right (by omega) h2
        have h4 : (2 : Nat) ^ 63 = 9223372036854775808 := by decide
        omega
      generalize l[k] = x at *
      have HS := Lib.hid hs
      clear hs
      go_wp2
      go_round
      case rel => exact ⟨k + 1, N * 2 + x, by omega, HS.out.symm, by go_num, by go_num⟩
      case measure => simp [intOf]; omega
    · obtain rfl : k = l.length := by omega
      go_wp2
      go_ret
      exact ⟨ret_int (by rw [hN.out, List.take_length]), rfl⟩
end Go.Proofs.Ytlmdkmflbhnlgaa
