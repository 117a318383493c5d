/- How an XL frame ends. No condition. -/
import Derived.Test.YtaknddanggdplaaPXlLaw
import Derived.Test.YtaknddanggdplaaRunTail
namespace Go.Proofs.Ytaknddanggdplaa
open Go.RowKit
theorem rawX_end (f : Fr) (r : Nat) (h : RunIs (rawX f) r) : r ≤ 2 := by
  have e : rawX f = (stuffN (headX f) ++ [1, 0, 0, 1] ++ fixN 8 false 1 (bodyX f) ++ [0, 1]) ++ [1, 0] := by unfold rawX; simp only [List.append_assoc, List.cons_append, List.nil_append]
  rw [e] at h
  have := bits_of_run _ 1 0 (by decide) r h
  omega
end Go.Proofs.Ytaknddanggdplaa
