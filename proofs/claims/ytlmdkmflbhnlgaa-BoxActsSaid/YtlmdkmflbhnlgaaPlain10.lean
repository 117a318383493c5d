/- What it means that a frame may be, and what its key tells: plain facts. No condition. -/
import Derived.Test.YtlmdkmflbhnlgaaKey0
import Derived.Test.YtlmdkmflbhnlgaaPOk
namespace Go.Proofs.Ytlmdkmflbhnlgaa
open Go.RowKit
theorem key_same (f g : Fr) (hf : OkF f) (hg : OkF g) (f0 : 0 ≤ f.id) (g0 : 0 ≤ g.id) (h : keyF f = keyF g) : f.kind = g.kind ∧ f.id = g.id ∧ f.ext = g.ext ∧ f.rtr = g.rtr := by
  obtain ⟨k1, -, k3, k4, k5, -⟩ := hf
  obtain ⟨l1, -, l3, l4, l5, -⟩ := hg
  unfold keyF at h
  cases e1 : f.ext <;> cases e2 : g.ext <;> cases r1 : f.rtr <;> cases r2 : g.rtr <;> simp [e1, e2, r1, r2] at * <;> (repeat' split at h) <;> omega
end Go.Proofs.Ytlmdkmflbhnlgaa
