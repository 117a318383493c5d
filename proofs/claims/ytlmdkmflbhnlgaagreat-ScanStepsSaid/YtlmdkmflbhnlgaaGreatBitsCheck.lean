/- bits.Check: is a row bits? No condition. -/
import Derived.Test.YtlmdkmflbhnlgaaGreatBitsN
import Derived.Test.YtlmdkmflbhnlgaaGreatBlk
namespace Go.Proofs.YtlmdkmflbhnlgaaGreat
open Go.RowKit
theorem isBit_any (x : Nat) (w : World) : Calls Tryz.prog 23 #[.int .u8 x] w fun e w' => e = .returned (.bool (decide (1 < x))) ∧ w = w' := by
  go_enter Tryz.func23, Tryz.ntmps23
  go_wp2
  go_ret
  exact ⟨ret_bool (by rw [Bool.eq_iff_iff]; simp; omega), rfl⟩
set_option maxHeartbeats 1000000 in
theorem indexBits_any (A : Option Addr) (n c : Nat) (l : List Nat) (w : World) (hr : Rd w A (bys l)) (hn : l.length = n) (hc : n ≤ 100000000) :
    Calls Tryz.prog 45 #[.slice A n c, .func (.func 23) #[] #[]] w fun e w' => (∃ k : Int, e = .returned (.int .i64 k) ∧ (k < 0 ↔ ∀ x ∈ l, x ≤ 1)) ∧ w = w' := by
  have HR := Lib.hid hr
  have HN := Lib.hid hn
  clear hr hn
  go_enter Tryz.func45, Tryz.ntmps45
  go_wp2_with fail
  go_loop [8] (fun iv => ∃ k : Nat, k ≤ n ∧ Hid (∀ j (h : j < l.length), j < k → l[j] ≤ 1) ∧ iv = .int .i64 k) (fun iv => n - (intOf iv).toNat)
  case atStart => exact ⟨0, by omega, fun j _ h => absurd h (by omega), rfl⟩
  case round =>
    obtain ⟨k, hk, HK, rfl⟩ := hrel
    by_cases hkn : k < n
    · have hkl : k < l.length := by rw [HN.out]; exact hkn
      obtain ⟨ad, rfl, ca⟩ := HR.out.at_ k hkl
      have hmem : l[k] ∈ l := List.getElem_mem hkl
      obtain ⟨x, hx⟩ : ∃ x, l[k] = x := ⟨_, rfl⟩
      rw [hx] at ca hmem
      have HX := Lib.hid hx
      have HM := Lib.hid hmem
      have HB := Lib.hid (isBit_any x)
      clear hx hmem
      by_cases hx1 : x ≤ 1
      · have hd : decide (1 < x) = false := decide_eq_false (by omega)
        rw [hd] at HB
        go_wp2_with fail
        refine (HB.out _).mono ?_
        rintro e _ ⟨rfl, rfl⟩
        go_wp2_with fail
        go_round
        case rel =>
          refine ⟨k + 1, by omega, fun j h hj => ?_, by go_num⟩
          by_cases hjk : j = k
          · subst hjk; rw [HX.out]; exact hx1
          · exact HK.out j h (by omega)
        case measure => simp [intOf]; omega
      · have hd : decide (1 < x) = true := decide_eq_true (by omega)
        rw [hd] at HB
        go_wp2_with fail
        refine (HB.out _).mono ?_
        rintro e _ ⟨rfl, rfl⟩
        go_wp2_with fail
        go_ret
        exact ⟨⟨_, rfl, by constructor <;> intro h; omega; exact absurd (h x HM.out) hx1⟩, rfl⟩
    · obtain rfl : k = n := by omega
      go_wp2_with fail
      go_ret
      refine ⟨⟨_, rfl, by
        constructor
        · intro _ x hx
          obtain ⟨j, hj, rfl⟩ := List.getElem_of_mem hx
          exact HK.out j hj (by rw [← HN.out]; exact hj)
        · intro _; omega⟩, rfl⟩
set_option maxHeartbeats 1000000 in
theorem containsBits_any (A : Option Addr) (n c : Nat) (l : List Nat) (w : World) (hr : Rd w A (bys l)) (hn : l.length = n) (hc : n ≤ 100000000) :
    Calls Tryz.prog 22 #[.slice A n c, .func (.func 23) #[] #[]] w fun e w' => e = .returned (.bool (!decide (∀ x ∈ l, x ≤ 1))) ∧ w = w' := by
  have HI := Lib.hid (indexBits_any A n c l w hr hn hc)
  clear hr hn
  go_enter Tryz.func22, Tryz.ntmps22
  go_wp2_with fail
  refine HI.out.mono ?_
  rintro e _ ⟨⟨k, rfl, hk⟩, rfl⟩
  have HK := Lib.hid hk
  clear hk
  go_wp2_with fail
  go_ret
  refine ⟨ret_bool ?_, rfl⟩
  have hk := HK.out
  by_cases h : ∀ x ∈ l, x ≤ 1
  · have := hk.2 h
    rw [decide_eq_true h]
    simp
    omega
  · have : ¬ k < 0 := fun h' => h (hk.1 h')
    rw [decide_eq_false h]
    simp
    omega
/-- Is a row bits, and not too long? -/
def bitsOk (l : List Nat) : Bool := decide (l.length ≤ 65536) && decide (∀ x ∈ l, x ≤ 1)
set_option maxHeartbeats 1000000 in
theorem BitsCheck_any (A : Option Addr) (n c : Nat) (l : List Nat) (w : World) (hr : Rd w A (bys l)) (hn : l.length = n) (hc : n ≤ 9223372036854775807) :
    Calls Tryz.prog 9 #[.slice A n c] w fun e w' => e = .returned (.int .i64 (if bitsOk l then 0 else 2)) ∧ w = w' := by
  by_cases hl : n ≤ 65536
  · have HI := Lib.hid (containsBits_any A n c l w hr hn (by omega))
    obtain ⟨r, hR⟩ : ∃ r, (!decide (∀ x ∈ l, x ≤ 1)) = r := ⟨_, rfl⟩
    rw [hR] at HI
    have hv : (if bitsOk l then (0 : Int) else 2) = if r then 2 else 0 := by
      unfold bitsOk
      rw [hn, decide_eq_true hl, Bool.true_and]
      subst hR
      cases decide (∀ x ∈ l, x ≤ 1) <;> rfl
    rw [hv]
    clear hr hv hR hn
    have hg : decide ((65536 : Int) < (n : Int)) = false := decide_eq_false (by omega)
    cases r <;>
    · go_enter Tryz.func9, Tryz.ntmps9
      go_wp2_with fail
      refine HI.out.mono ?_
      rintro e _ ⟨rfl, rfl⟩
      go_wp2_with fail
      go_ret
      exact ⟨rfl, rfl⟩
  · have hv : (if bitsOk l then (0 : Int) else 2) = 2 := by unfold bitsOk; rw [hn, decide_eq_false hl]; rfl
    rw [hv]
    clear hr hv
    have hg : (65536 : Int) < (n : Int) := by omega
    go_enter Tryz.func9, Tryz.ntmps9
    go_wp2_with fail
    go_ret
    exact ⟨rfl, rfl⟩
end Go.Proofs.YtlmdkmflbhnlgaaGreat
