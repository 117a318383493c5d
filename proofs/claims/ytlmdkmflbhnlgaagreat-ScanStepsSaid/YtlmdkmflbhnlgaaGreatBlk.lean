/- Words on blocks: their cells, and which two of them are turned. No condition. -/
import Derived.Test.YtlmdkmflbhnlgaaGreatBase
import Derived.BigRegion
import Derived.Deep.RegionLaw
namespace Go.Proofs.YtlmdkmflbhnlgaaGreat
open Go.RowKit
/-- Which of two numbers is lower, as Go tells it. -/
def cmpI (a b : Int) : Int := if a < b then -1 else if b < a then 1 else 0
theorem ret_fst {k : IntKind} {a b : Int} {v : Value} (h : a = b) : Ending.returned (.tuple #[.int k a, v]) = .returned (.tuple #[.int k b, v]) := by rw [h]
theorem cell_of_heap {w : World} {g : Nat} {cs : Array Value} {t : TypeId} {fr : Nat × Nat} (h : w.heap[g]? = some (.cells cs t fr)) (k : Nat) (v : Value) (hk : cs[k]? = some v) : w.cell? ⟨g, k, none⟩ = some v := by
  unfold World.cell?
  simp only
  rw [h]
  exact hk
theorem heap_setCell {w : World} {g : Nat} {cs : Array Value} {t : TypeId} {fr : Nat × Nat} (h : w.heap[g]? = some (.cells cs t fr)) (k : Nat) (v : Value) :
    (w.setCell ⟨g, k, none⟩ v).heap[g]? = some (.cells (cs.setIfInBounds k v) t fr) := by
  simp [World.setCell, Array.getElem?_modify, h]
/-- Only blocks b and g are turned, of what lay. -/
structure Touch (b g : Nat) (w w' : World) : Prop where
  os : w'.os = w.os
  tape : w'.tape = w.tape
  output : w'.output = w.output
  size : w.heap.size ≤ w'.heap.size
  block : ∀ k, k < w.heap.size → k ≠ b → k ≠ g → w'.heap[k]? = w.heap[k]?
theorem Touch.refl (b g : Nat) (w : World) : Touch b g w w := ⟨rfl, rfl, rfl, Nat.le_refl _, fun _ _ _ _ => rfl⟩
theorem Touch.trans {b g : Nat} {w w1 w2 : World} (h : Touch b g w w1) (k : Touch b g w1 w2) : Touch b g w w2 :=
  ⟨k.os.trans h.os, k.tape.trans h.tape, k.output.trans h.output, Nat.le_trans h.size k.size, fun i hi h1 h2 => (k.block i (Nat.lt_of_lt_of_le hi h.size) h1 h2).trans (h.block i hi h1 h2)⟩
theorem Touch.of {b g : Nat} {w w' : World} (h : Below w.heap.size w w') : Touch b g w w' := ⟨h.os, h.tape, h.output, h.size, fun k hk _ _ => h.block k hk⟩
theorem Touch.drew {b g : Nat} {w w' : World} (h : Touch b g w w') : Touch b g w w'.drew := ⟨h.os, h.tape, h.output, h.size, h.block⟩
theorem Touch.setCell {b g : Nat} {w w' : World} (h : Touch b g w w') {p : Addr} (hp : p.block = b ∨ p.block = g) (u : Value) : Touch b g w (w'.setCell p u) :=
  ⟨h.os, h.tape, h.output, by simpa [World.setCell] using h.size, fun k hk h1 h2 => by rw [Below.heap_setCell _ _ _ _ (by rcases hp with e | e <;> rw [e] <;> assumption)]; exact h.block k hk h1 h2⟩
theorem Touch.alloc {b g : Nat} {w w' : World} (h : Touch b g w w') (o : Obj) : Touch b g w (w'.alloc o) := h.trans (.of (below_alloc (Below.refl _ _) o))
theorem Touch.below {b g base : Nat} {w w' : World} (h : Touch b g w w') (hb : base ≤ b) (hg : base ≤ g) (hw : base ≤ w.heap.size) : Below base w w' :=
  ⟨h.os, h.tape, h.output, h.size, fun k hk => h.block k (by omega) (by omega) (by omega)⟩
theorem nblk (w : World) (a : Addr) (v : Value) : (w.setCell a v).heap.size = w.heap.size := by simp [World.setCell]
end Go.Proofs.YtlmdkmflbhnlgaaGreat
