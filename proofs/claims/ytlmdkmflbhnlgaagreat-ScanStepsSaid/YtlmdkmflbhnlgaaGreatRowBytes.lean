/- How a law's arguments read as bytes. No condition. -/
import Derived.Test.YtlmdkmflbhnlgaaGreatRow
namespace Go.Proofs.YtlmdkmflbhnlgaaGreat
open Go.ChangeShapes Go.WideShapes Go.ChangeAt Go.RowKit
section
variable {H : Type} {enc : TypeId × Value → H} {W : World} {base : Nat} {spare : Nat → Bool} {held : Bool}
/-- A slice of bytes that reads, and what it has if it is nil. -/
theorem read_bytesZ {fuel : Nat} {v : Value} {x : DataW H × List MemPlace} (h : DataW.trod enc Tryz.prog W base spare held fuel 22 [v] = some x) :
    ∃ (A : Option Addr) (l : List Nat) (c : Nat), v = .slice A l.length c ∧ Rd W A (bys l) ∧ isBytes l ∧ l.length ≤ c ∧ c ≤ 9223372036854775807 ∧ (A = none → c = 0) := by
  rcases open_ints Tryz.underlying22 Tryz.underlying5 cells_u8 h with ⟨hcs, _⟩ | ⟨a, len, cap, zs, hcs, _, hl, hm, hz, _, hcell, hwz⟩
  · simp at hcs
    subst hcs
    exact ⟨none, [], 0, rfl, Rd.nil _ _, by intro x hx; simp at hx, by simp, by omega, fun _ => rfl⟩
  · simp at hcs
    subst hcs
    have hzl : len ≤ zs.length := by rw [hz]; split <;> omega
    have hbd : ∀ n ∈ zs, 0 ≤ n ∧ n < 256 := fun n hn => by have := bounds_u8 (hwz n hn); omega
    refine ⟨some a, (zs.take len).map Int.toNat, cap, by simp [hzl], ?_, ?_, by simp [hzl]; exact hl, by unfold maxLen at hm; omega, fun e => by cases e⟩
    · intro j u hj
      refine ⟨a, rfl, ?_⟩
      simp only [bys, List.map_map] at hj
      have hj' : j < len := by
        have := (List.getElem?_eq_some_iff.1 hj).1
        simp at this
        omega
      rw [hcell j (by omega)]
      rw [← hj]
      have hjz : j < zs.length := by omega
      simp [hj', List.getElem?_eq_getElem hjz, List.getD]
      have := hbd zs[j] (List.getElem_mem hjz)
      omega
    · intro x hx
      rw [List.mem_map] at hx
      obtain ⟨n, hn, rfl⟩ := hx
      have := hbd n (List.mem_of_mem_take hn)
      omega
set_option maxRecDepth 100000 in
theorem open_bytesZ {r : Reach} {b0 : Nat} {v : Value} {d : DataW H} {p : List MemPlace} (hv : Value.okWide Tryz.prog W r b0 22 v) (h : DataW.Trod enc Tryz.prog W base spare held 22 v d p) :
    ∃ (A : Option Addr) (l : List Nat) (c : Nat), v = .slice A l.length c ∧ Rd W A (bys l) ∧ isBytes l ∧ l.length ≤ c ∧ c ≤ 9223372036854775807 ∧ (A = none → c = 0) := by
  obtain ⟨a, len, cap, rfl⟩ := okWide_slice Tryz.underlying22 hv
  obtain ⟨fuel, hf⟩ := h
  exact read_bytesZ (v := .slice a len cap) hf
end
end Go.Proofs.YtlmdkmflbhnlgaaGreat
