/- How a frame on the wire ends. No condition. -/
import Derived.Test.YtaknddanggdplaaRunBits
import Derived.Test.YtaknddanggdplaaPRuns
namespace Go.Proofs.Ytaknddanggdplaa
open Go.RowKit
theorem run_tail (ra : List Nat) (r : Nat) (h : RunIs (ra ++ List.replicate 10 1) r) : 10 ≤ r := by
  obtain ⟨h1, h2, h3⟩ := h
  refine Classical.byContradiction fun hlt => ?_
  have e : ∀ k, k < 10 → endN (ra ++ List.replicate 10 1) k = 1 := by
    intro k hk
    unfold endN
    rw [List.getElem?_append_right (by simp; omega), List.getElem?_replicate, if_pos (by simp; omega)]; rfl
  have h4 := h3 (by simp; omega)
  rw [e r (by omega), e 0 (by omega)] at h4
  exact h4 rfl
theorem bits_of_run (ra : List Nat) (x y : Nat) (hxy : x ≠ y) (r : Nat) (h : RunIs (ra ++ [x, y]) r) : r ≤ 1 := by
  obtain ⟨h1, h2, h3⟩ := h
  refine Classical.byContradiction fun hgt => ?_
  have e := h2 1 (by omega)
  unfold endN at e
  simp at e
  exact hxy e
end Go.Proofs.Ytaknddanggdplaa
