/- A world in which only what lies above B, and block b, has turned. No condition. -/
import Derived.Test.YtlmdkmflbhnlgaaGreatBytes
namespace Go.Proofs.YtlmdkmflbhnlgaaGreat
open Go.RowKit
/-- A world in which of what lay below B only block b is turned. -/
structure KE (B b : Nat) (w : World) where
  W : World
  keep : Keep B b w W
theorem ke_cell {B b : Nat} {w : World} {a : Addr} {v : Value} (h : w.cell? a = some v) (h1 : a.block < B) (h2 : a.block ≠ b) (e : KE B b w) : e.W.cell? a = some v := e.keep.cell_of h h1 h2
theorem kec {P : Program} {f : FuncId} {args : Array Value} {B b : Nat} {w0 : World} {e : KE B b w0} {v : Value} {R : World → Prop} (h : Calls P f args e.W fun x w' => x = .returned v ∧ R w' ∧ Keep B b e.W w') :
    Calls P f args e.W fun x w' => ∃ e2 : KE B b w0, w' = e2.W ∧ x = .returned v ∧ R e2.W := h.mono fun _ w' ⟨hx, hr, hb⟩ => ⟨⟨w', e.keep.trans hb⟩, rfl, hx, hr⟩
theorem kec_same {P : Program} {f : FuncId} {args : Array Value} {B b : Nat} {w0 : World} {v : Value} {R : World → Prop} (h : Calls P f args w0 fun x w' => x = .returned v ∧ R w' ∧ Keep B b w0 w') :
    Calls P f args w0 fun x w' => ∃ e2 : KE B b w0, w' = e2.W ∧ x = .returned v ∧ R e2.W := h.mono fun _ w' ⟨hx, hr, hb⟩ => ⟨⟨w', hb⟩, rfl, hx, hr⟩
end Go.Proofs.YtlmdkmflbhnlgaaGreat
