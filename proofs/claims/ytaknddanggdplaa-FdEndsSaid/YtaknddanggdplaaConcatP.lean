/- slices.Concat over a row of rows that has just been laid. No condition. -/
import Derived.Test.YtaknddanggdplaaAdd
namespace Go.Proofs.Ytaknddanggdplaa
open Go.RowKit
theorem concatP {W : World} {vs : Array Value} {t n N : Nat} (ps : List Part) (g : Nat) (hg : W.heap[g]? = some (.cells vs t)) (hv : vs.toList = ps.map partV) (hn : ps.length = n) (hps : ∀ p ∈ ps, PartOk W p) (hN : (partsL ps).length = N) (hN2 : N ≤ 1000000) (hn2 : n ≤ 1000) :
    Calls Try.prog 41 #[.slice (some ⟨g, 0, none⟩) n n] W fun e w' => (∃ A' c', e = .returned (.slice A' N c') ∧ Row w' W.heap.size 5 A' c' (bys (partsL ps))) ∧ Below W.heap.size W w' :=
  concat_any _ n n N ps W (by rw [← hv]; exact Rd.blk hg) hn hps hN hN2 hn2
theorem lit_row {w : World} {l : List Nat} {n : Nat} (hn : l.length = n) (h : n ≤ 1000) : Row (w.alloc (.cells (bys l).toArray 5)) w.heap.size 5 (some ⟨w.heap.size, 0, none⟩) n (bys l) := by
  have := own_lit (w := w) (cs := bys l) (n := n) (e := 5) (Nat.le_refl _) (by rw [bys_length]; exact hn) (by unfold maxLen; omega)
  unfold Row
  rw [bys_length, hn]
  exact this
end Go.Proofs.Ytaknddanggdplaa
