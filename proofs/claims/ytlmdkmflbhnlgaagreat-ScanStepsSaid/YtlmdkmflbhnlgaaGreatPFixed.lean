/- Fixed stuffing, by definition: a stuff bit behind every so many bits (and ahead of all, where the way says so). No condition. -/
import Derived.Test.YtlmdkmflbhnlgaaGreatBitsN
namespace Go.Proofs.YtlmdkmflbhnlgaaGreat
open Go.RowKit
/-- Bits with stuff bits; every: how many bits lie between two; left: how many are left ahead of the next. -/
def fixE (every : Nat) : Nat → Nat → List Nat → List Nat
  | _, _, [] => []
  | last, left, x :: l => if left = 0 then (1 - last) :: x :: fixE every x (every - 1) l else x :: fixE every x (left - 1) l
def fixN (every : Nat) (ahead : Bool) (prev : Nat) (l : List Nat) : List Nat := fixE every prev (if ahead then 0 else every) l
theorem fixE_bits (every : Nat) (l : List Nat) (h : ∀ x ∈ l, x ≤ 1) : ∀ last left, ∀ x ∈ fixE every last left l, x ≤ 1 := by
  induction l with
  | nil => intro last left x hx; simp [fixE] at hx
  | cons y l ih =>
    intro last left x hx
    have hy := h y (by simp)
    have hl := fun z hz => h z (List.mem_cons_of_mem y hz)
    unfold fixE at hx
    split at hx
    · rcases List.mem_cons.1 hx with rfl | hx
      · omega
      · rcases List.mem_cons.1 hx with rfl | hx
        · exact hy
        · exact ih hl _ _ x hx
    · rcases List.mem_cons.1 hx with rfl | hx
      · exact hy
      · exact ih hl _ _ x hx
/-- Of (left) bits none, then one behind each (every): how long it gets. -/
theorem fixE_length (every : Nat) (he : 1 ≤ every) (l : List Nat) : ∀ last left, left ≤ every → (fixE every last left l).length = l.length + (l.length + (every - left) - 1) / every - (if left = every then 0 else 0) + (if l.length = 0 then 0 else 0) ∨ l = [] := by
  induction l with
  | nil => intro last left _; exact .inr rfl
  | cons x l ih =>
    intro last left hle
    refine .inl ?_
    simp only [ite_self, Nat.sub_zero, Nat.add_zero]
    unfold fixE
    split
    · rename_i h0
      subst h0
      rcases ih x (every - 1) (by omega) with h | rfl
      · simp only [ite_self, Nat.sub_zero, Nat.add_zero] at h
        simp only [List.length_cons, h]
        have e1 : l.length + 1 + (every - 0) - 1 = l.length + every := by omega
        have e2 : l.length + (every - (every - 1)) - 1 = l.length := by omega
        rw [e1, e2, Nat.add_div_right _ (by omega)]
        omega
      · have e : 1 + (every - 0) - 1 = every := by omega
        simp [fixE, e, Nat.div_self (show 0 < every by omega)]
    · rename_i h0
      rcases ih x (left - 1) (by omega) with h | rfl
      · simp only [ite_self, Nat.sub_zero, Nat.add_zero] at h
        simp only [List.length_cons, h]
        have e1 : l.length + (every - (left - 1)) - 1 = l.length + 1 + (every - left) - 1 := by omega
        rw [e1]
        omega
      · have e : 1 + (every - left) - 1 = every - left := by omega
        simp [fixE, e, Nat.div_eq_of_lt (show every - left < every by omega)]
theorem fixN_length (every : Nat) (ahead : Bool) (prev : Nat) (l : List Nat) (he : 1 ≤ every) : (fixN every ahead prev l).length = if l.length = 0 then 0 else l.length + (l.length - 1) / every + (if ahead then 1 else 0) := by
  by_cases h0 : l = []
  · subst h0; simp [fixN, fixE]
  · have hl : l.length ≠ 0 := fun h => h0 (List.eq_nil_of_length_eq_zero h)
    rw [if_neg hl]
    unfold fixN
    rcases fixE_length every he l prev (if ahead then 0 else every) (by split <;> omega) with h | h
    · rw [h]
      cases ahead
      · simp
      · have e : l.length + every - 1 = (l.length - 1) + every := by omega
        simp [e, Nat.add_div_right _ (show 0 < every by omega)]
        omega
    · exact absurd h h0
end Go.Proofs.YtlmdkmflbhnlgaaGreat
