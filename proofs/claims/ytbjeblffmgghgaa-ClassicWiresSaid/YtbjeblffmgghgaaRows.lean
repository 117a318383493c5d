/-
  No cell of these rows narrows 'for every input' (looked for: loops, veiled, ifaces, maps, wideKeys, modest, calm, conditions, laid).
  DERIVED. THE GIVEN ROWS OF THIS SEAT. 12 by the template 'for every input the law returns true; each argument reads behind the call as it read before'; 0 by the template 'total and deterministic' (their statements: YtbjeblffmgghgaaTotals.lean).
  GIVEN WITH THE SEED: the statements are not yours to turn. If you find one false, say at which input.
  Laid BY PROGRAM, IN A SANDBOX (cutbox-rows.mjs): the forced cells as the released guide's own fill.sh prints them over the translation 688c9e907227ddc8… (all of the seat's roots in one cut). By AI agents, Wed Nov 11 2026. No macro, syntax, notation, axiom, sorry.
-/
import Derived.Test.YtbjeblffmgghgaaChecked
import GoSem.Claim
import GoSem.ClaimJoined
import GoSem.ClaimMapViews
import Derived.JoinedTies
import Derived.KernelRfl
namespace Go.Proofs.Ytbjeblffmgghgaa
/- THE CELL 'sum', in the pinned program and in every row, IS THE sha256 OF THE DUMP (.gsa) THAT YtbjeblffmgghgaaProg.lean LOADS. Nothing in Lean hashes anything: it is a label: what it is worth is what the hold of that sum in a sandbox is worth. -/
noncomputable def Try.pinned : Pinned := { name := "ytbjeblffmgghgaa", sum := "688c9e907227ddc82f5e1eb48159b75208279f1d532b685f70284c1c5c96b656", checked := Try.checked }
namespace Rows
def none {H : Type} : Left H := { results := [], args := [] }

/-- 'omnibuslaw10.OrderKeys': WHATEVER THE INPUT: true; the input reads as it did. -/
def orderKeysSpec : ChangeSpec := { name := "orderKeys", fn := fun _ => fun
  | [d1, d2] => { results := [.lit (.bool true)], args := [d1, d2] }
  | _ => none }
def orderKeysRow : OpenClaim := { program := "ytbjeblffmgghgaa", sum := "688c9e907227ddc82f5e1eb48159b75208279f1d532b685f70284c1c5c96b656", func := "omnibus/omnibuslaw10.OrderKeys", spec := "orderKeys", unfollowed := true, recurses := true, apart := false }
def OrderKeysSaid : Prop := orderKeysRow.holds Try.pinned (OpenSpec.ofChange orderKeysSpec)

/-- ITS FALSE NEIGHBOUR: 'it returns false'. Refute it at one input. -/
def orderKeysWrong : ChangeSpec := { name := "orderKeys", fn := fun _ => fun
  | [d1, d2] => { results := [.lit (.bool false)], args := [d1, d2] }
  | _ => none }
def OrderKeysWrongFalsely : Prop := orderKeysRow.holds Try.pinned (OpenSpec.ofChange orderKeysWrong)

/-- 'omnibuslaw10.OrderTurns': WHATEVER THE INPUT: true; the input reads as it did. -/
def orderTurnsSpec : ChangeSpec := { name := "orderTurns", fn := fun _ => fun
  | [d1, d2, d3] => { results := [.lit (.bool true)], args := [d1, d2, d3] }
  | _ => none }
def orderTurnsRow : OpenClaim := { program := "ytbjeblffmgghgaa", sum := "688c9e907227ddc82f5e1eb48159b75208279f1d532b685f70284c1c5c96b656", func := "omnibus/omnibuslaw10.OrderTurns", spec := "orderTurns", unfollowed := true, recurses := true, apart := false }
def OrderTurnsSaid : Prop := orderTurnsRow.holds Try.pinned (OpenSpec.ofChange orderTurnsSpec)

/-- ITS FALSE NEIGHBOUR: 'it returns false'. Refute it at one input. -/
def orderTurnsWrong : ChangeSpec := { name := "orderTurns", fn := fun _ => fun
  | [d1, d2, d3] => { results := [.lit (.bool false)], args := [d1, d2, d3] }
  | _ => none }
def OrderTurnsWrongFalsely : Prop := orderTurnsRow.holds Try.pinned (OpenSpec.ofChange orderTurnsWrong)

/-- 'omnibuslaw10.OrderData': WHATEVER THE INPUT: true; the input reads as it did. -/
def orderDataSpec : ChangeSpec := { name := "orderData", fn := fun _ => fun
  | [d1, d2] => { results := [.lit (.bool true)], args := [d1, d2] }
  | _ => none }
def orderDataRow : OpenClaim := { program := "ytbjeblffmgghgaa", sum := "688c9e907227ddc82f5e1eb48159b75208279f1d532b685f70284c1c5c96b656", func := "omnibus/omnibuslaw10.OrderData", spec := "orderData", unfollowed := true, recurses := true, apart := false }
def OrderDataSaid : Prop := orderDataRow.holds Try.pinned (OpenSpec.ofChange orderDataSpec)

/-- ITS FALSE NEIGHBOUR: 'it returns false'. Refute it at one input. -/
def orderDataWrong : ChangeSpec := { name := "orderData", fn := fun _ => fun
  | [d1, d2] => { results := [.lit (.bool false)], args := [d1, d2] }
  | _ => none }
def OrderDataWrongFalsely : Prop := orderDataRow.holds Try.pinned (OpenSpec.ofChange orderDataWrong)

/-- 'omnibuslaw10.OrderRanks': WHATEVER THE INPUT: true; the input reads as it did. -/
def orderRanksSpec : ChangeSpec := { name := "orderRanks", fn := fun _ => fun
  | [d] => { results := [.lit (.bool true)], args := [d] }
  | _ => none }
def orderRanksRow : OpenClaim := { program := "ytbjeblffmgghgaa", sum := "688c9e907227ddc82f5e1eb48159b75208279f1d532b685f70284c1c5c96b656", func := "omnibus/omnibuslaw10.OrderRanks", spec := "orderRanks", unfollowed := true, recurses := true, apart := false }
def OrderRanksSaid : Prop := orderRanksRow.holds Try.pinned (OpenSpec.ofChange orderRanksSpec)

/-- ITS FALSE NEIGHBOUR: 'it returns false'. Refute it at one input. -/
def orderRanksWrong : ChangeSpec := { name := "orderRanks", fn := fun _ => fun
  | [d] => { results := [.lit (.bool false)], args := [d] }
  | _ => none }
def OrderRanksWrongFalsely : Prop := orderRanksRow.holds Try.pinned (OpenSpec.ofChange orderRanksWrong)

/-- 'omnibuslaw10.OrderPlaces': WHATEVER THE INPUT: true; the input reads as it did. -/
def orderPlacesSpec : ChangeSpec := { name := "orderPlaces", fn := fun _ => fun
  | [d] => { results := [.lit (.bool true)], args := [d] }
  | _ => none }
def orderPlacesRow : OpenClaim := { program := "ytbjeblffmgghgaa", sum := "688c9e907227ddc82f5e1eb48159b75208279f1d532b685f70284c1c5c96b656", func := "omnibus/omnibuslaw10.OrderPlaces", spec := "orderPlaces", unfollowed := true, recurses := true, apart := false }
def OrderPlacesSaid : Prop := orderPlacesRow.holds Try.pinned (OpenSpec.ofChange orderPlacesSpec)

/-- ITS FALSE NEIGHBOUR: 'it returns false'. Refute it at one input. -/
def orderPlacesWrong : ChangeSpec := { name := "orderPlaces", fn := fun _ => fun
  | [d] => { results := [.lit (.bool false)], args := [d] }
  | _ => none }
def OrderPlacesWrongFalsely : Prop := orderPlacesRow.holds Try.pinned (OpenSpec.ofChange orderPlacesWrong)

/-- 'omnibuslaw17.BoxFilters': WHATEVER THE INPUT: true; the input reads as it did. -/
def boxFiltersSpec : ChangeSpec := { name := "boxFilters", fn := fun _ => fun
  | [d1, d2] => { results := [.lit (.bool true)], args := [d1, d2] }
  | _ => none }
def boxFiltersRow : OpenClaim := { program := "ytbjeblffmgghgaa", sum := "688c9e907227ddc82f5e1eb48159b75208279f1d532b685f70284c1c5c96b656", func := "omnibus/omnibuslaw17.BoxFilters", spec := "boxFilters", unfollowed := true, recurses := true, apart := false }
def BoxFiltersSaid : Prop := boxFiltersRow.holds Try.pinned (OpenSpec.ofChange boxFiltersSpec)

/-- ITS FALSE NEIGHBOUR: 'it returns false'. Refute it at one input. -/
def boxFiltersWrong : ChangeSpec := { name := "boxFilters", fn := fun _ => fun
  | [d1, d2] => { results := [.lit (.bool false)], args := [d1, d2] }
  | _ => none }
def BoxFiltersWrongFalsely : Prop := boxFiltersRow.holds Try.pinned (OpenSpec.ofChange boxFiltersWrong)

/-- 'omnibuslaw06.ClassicRuns': WHATEVER THE INPUT: true; the input reads as it did. -/
def classicRunsSpec : ChangeSpec := { name := "classicRuns", fn := fun _ => fun
  | [d] => { results := [.lit (.bool true)], args := [d] }
  | _ => none }
def classicRunsRow : OpenClaim := { program := "ytbjeblffmgghgaa", sum := "688c9e907227ddc82f5e1eb48159b75208279f1d532b685f70284c1c5c96b656", func := "omnibus/omnibuslaw06.ClassicRuns", spec := "classicRuns", unfollowed := true, recurses := true, apart := false }
def ClassicRunsSaid : Prop := classicRunsRow.holds Try.pinned (OpenSpec.ofChange classicRunsSpec)

/-- ITS FALSE NEIGHBOUR: 'it returns false'. Refute it at one input. -/
def classicRunsWrong : ChangeSpec := { name := "classicRuns", fn := fun _ => fun
  | [d] => { results := [.lit (.bool false)], args := [d] }
  | _ => none }
def ClassicRunsWrongFalsely : Prop := classicRunsRow.holds Try.pinned (OpenSpec.ofChange classicRunsWrong)

/-- 'omnibuslaw06.ClassicOrders': WHATEVER THE INPUT: true; the input reads as it did. -/
def classicOrdersSpec : ChangeSpec := { name := "classicOrders", fn := fun _ => fun
  | [d1, d2] => { results := [.lit (.bool true)], args := [d1, d2] }
  | _ => none }
def classicOrdersRow : OpenClaim := { program := "ytbjeblffmgghgaa", sum := "688c9e907227ddc82f5e1eb48159b75208279f1d532b685f70284c1c5c96b656", func := "omnibus/omnibuslaw06.ClassicOrders", spec := "classicOrders", unfollowed := true, recurses := true, apart := false }
def ClassicOrdersSaid : Prop := classicOrdersRow.holds Try.pinned (OpenSpec.ofChange classicOrdersSpec)

/-- ITS FALSE NEIGHBOUR: 'it returns false'. Refute it at one input. -/
def classicOrdersWrong : ChangeSpec := { name := "classicOrders", fn := fun _ => fun
  | [d1, d2] => { results := [.lit (.bool false)], args := [d1, d2] }
  | _ => none }
def ClassicOrdersWrongFalsely : Prop := classicOrdersRow.holds Try.pinned (OpenSpec.ofChange classicOrdersWrong)

/-- 'omnibuslaw06.ClassicApart': WHATEVER THE INPUT: true; the input reads as it did. -/
def classicApartSpec : ChangeSpec := { name := "classicApart", fn := fun _ => fun
  | [d1, d2] => { results := [.lit (.bool true)], args := [d1, d2] }
  | _ => none }
def classicApartRow : OpenClaim := { program := "ytbjeblffmgghgaa", sum := "688c9e907227ddc82f5e1eb48159b75208279f1d532b685f70284c1c5c96b656", func := "omnibus/omnibuslaw06.ClassicApart", spec := "classicApart", unfollowed := true, recurses := true, apart := false }
def ClassicApartSaid : Prop := classicApartRow.holds Try.pinned (OpenSpec.ofChange classicApartSpec)

/-- ITS FALSE NEIGHBOUR: 'it returns false'. Refute it at one input. -/
def classicApartWrong : ChangeSpec := { name := "classicApart", fn := fun _ => fun
  | [d1, d2] => { results := [.lit (.bool false)], args := [d1, d2] }
  | _ => none }
def ClassicApartWrongFalsely : Prop := classicApartRow.holds Try.pinned (OpenSpec.ofChange classicApartWrong)

/-- 'omnibuslaw06.ClassicWires': WHATEVER THE INPUT: true; the input reads as it did. -/
def classicWiresSpec : ChangeSpec := { name := "classicWires", fn := fun _ => fun
  | [d1, d2] => { results := [.lit (.bool true)], args := [d1, d2] }
  | _ => none }
def classicWiresRow : OpenClaim := { program := "ytbjeblffmgghgaa", sum := "688c9e907227ddc82f5e1eb48159b75208279f1d532b685f70284c1c5c96b656", func := "omnibus/omnibuslaw06.ClassicWires", spec := "classicWires", unfollowed := true, recurses := true, apart := false }
def ClassicWiresSaid : Prop := classicWiresRow.holds Try.pinned (OpenSpec.ofChange classicWiresSpec)

/-- ITS FALSE NEIGHBOUR: 'it returns false'. Refute it at one input. -/
def classicWiresWrong : ChangeSpec := { name := "classicWires", fn := fun _ => fun
  | [d1, d2] => { results := [.lit (.bool false)], args := [d1, d2] }
  | _ => none }
def ClassicWiresWrongFalsely : Prop := classicWiresRow.holds Try.pinned (OpenSpec.ofChange classicWiresWrong)

/-- 'omnibuslaw06.ClassicSizes': WHATEVER THE INPUT: true; the input reads as it did. -/
def classicSizesSpec : ChangeSpec := { name := "classicSizes", fn := fun _ => fun
  | [d] => { results := [.lit (.bool true)], args := [d] }
  | _ => none }
def classicSizesRow : OpenClaim := { program := "ytbjeblffmgghgaa", sum := "688c9e907227ddc82f5e1eb48159b75208279f1d532b685f70284c1c5c96b656", func := "omnibus/omnibuslaw06.ClassicSizes", spec := "classicSizes", unfollowed := true, recurses := true, apart := false }
def ClassicSizesSaid : Prop := classicSizesRow.holds Try.pinned (OpenSpec.ofChange classicSizesSpec)

/-- ITS FALSE NEIGHBOUR: 'it returns false'. Refute it at one input. -/
def classicSizesWrong : ChangeSpec := { name := "classicSizes", fn := fun _ => fun
  | [d] => { results := [.lit (.bool false)], args := [d] }
  | _ => none }
def ClassicSizesWrongFalsely : Prop := classicSizesRow.holds Try.pinned (OpenSpec.ofChange classicSizesWrong)

/-- 'omnibuslaw06.ClassicEnds': WHATEVER THE INPUT: true; the input reads as it did. -/
def classicEndsSpec : ChangeSpec := { name := "classicEnds", fn := fun _ => fun
  | [d] => { results := [.lit (.bool true)], args := [d] }
  | _ => none }
def classicEndsRow : OpenClaim := { program := "ytbjeblffmgghgaa", sum := "688c9e907227ddc82f5e1eb48159b75208279f1d532b685f70284c1c5c96b656", func := "omnibus/omnibuslaw06.ClassicEnds", spec := "classicEnds", unfollowed := true, recurses := true, apart := false }
def ClassicEndsSaid : Prop := classicEndsRow.holds Try.pinned (OpenSpec.ofChange classicEndsSpec)

/-- ITS FALSE NEIGHBOUR: 'it returns false'. Refute it at one input. -/
def classicEndsWrong : ChangeSpec := { name := "classicEnds", fn := fun _ => fun
  | [d] => { results := [.lit (.bool false)], args := [d] }
  | _ => none }
def ClassicEndsWrongFalsely : Prop := classicEndsRow.holds Try.pinned (OpenSpec.ofChange classicEndsWrong)

/- THE SECOND FORM. 'bulk': how many values and letters a reading holds, each counted each time it is reached (what is shared counts as often as it is met; a slice's spare places count too). A statement '..UptoSaid' is the law's where the arguments, and the package variables that the reading takes, are together of bulk at most 1048576: NARROWER than '..Said'. Prove '..Said' where nothing that the law and all that it calls make is longer than what came in: it says more and counts as full. Else prove '..UptoSaid'. A law counts once. -/
mutual
def uptoBulk {H : Type} : DataW H → Nat
  | .lit (.string bytes) => bytes.length + 1
  | .lit _ => 1
  | .nil => 1
  | .ptr d => uptoBulk d + 1
  | .slice elems spare => uptoBulkAll elems + uptoBulkAll spare + 1
  | .agg parts => uptoBulkAll parts + 1
  | .iface _ d => uptoBulk d + 1
  | .map entries => uptoBulkEntries entries + 1
  | .held _ => 1
def uptoBulkAll {H : Type} : List (DataW H) → Nat
  | [] => 0
  | d :: r => uptoBulk d + uptoBulkAll r
def uptoBulkEntries {H : Type} : List (Lit × DataW H) → Nat
  | [] => 0
  | x :: r => uptoBulkEntry x + uptoBulkEntries r
def uptoBulkEntry {H : Type} : Lit × DataW H → Nat
  | (.string bytes, d) => bytes.length + uptoBulk d + 1
  | (_, d) => uptoBulk d + 1
 end
def uptoSmall : (H : Type) → List (DataW H) → Bool := fun _ ds => decide (uptoBulkAll ds ≤ 1048576)
def OpenSpec.upto (s : _root_.Go.ChangeSpec) : _root_.Go.OpenSpec := { _root_.Go.OpenSpec.ofChange s with cond := some uptoSmall }

/-- 'omnibuslaw10.OrderKeys', WHERE WHAT IT READS IS OF BULK AT MOST 1048576: true; the input reads as it did. -/
def orderKeysUptoRow : OpenClaim := { program := "ytbjeblffmgghgaa", sum := "688c9e907227ddc82f5e1eb48159b75208279f1d532b685f70284c1c5c96b656", func := "omnibus/omnibuslaw10.OrderKeys", spec := "orderKeys", unfollowed := true, recurses := true, apart := false, narrowed := true }
def OrderKeysUptoSaid : Prop := orderKeysUptoRow.holds Try.pinned (OpenSpec.upto orderKeysSpec)

/-- 'omnibuslaw10.OrderTurns', WHERE WHAT IT READS IS OF BULK AT MOST 1048576: true; the input reads as it did. -/
def orderTurnsUptoRow : OpenClaim := { program := "ytbjeblffmgghgaa", sum := "688c9e907227ddc82f5e1eb48159b75208279f1d532b685f70284c1c5c96b656", func := "omnibus/omnibuslaw10.OrderTurns", spec := "orderTurns", unfollowed := true, recurses := true, apart := false, narrowed := true }
def OrderTurnsUptoSaid : Prop := orderTurnsUptoRow.holds Try.pinned (OpenSpec.upto orderTurnsSpec)

/-- 'omnibuslaw10.OrderData', WHERE WHAT IT READS IS OF BULK AT MOST 1048576: true; the input reads as it did. -/
def orderDataUptoRow : OpenClaim := { program := "ytbjeblffmgghgaa", sum := "688c9e907227ddc82f5e1eb48159b75208279f1d532b685f70284c1c5c96b656", func := "omnibus/omnibuslaw10.OrderData", spec := "orderData", unfollowed := true, recurses := true, apart := false, narrowed := true }
def OrderDataUptoSaid : Prop := orderDataUptoRow.holds Try.pinned (OpenSpec.upto orderDataSpec)

/-- 'omnibuslaw10.OrderRanks', WHERE WHAT IT READS IS OF BULK AT MOST 1048576: true; the input reads as it did. -/
def orderRanksUptoRow : OpenClaim := { program := "ytbjeblffmgghgaa", sum := "688c9e907227ddc82f5e1eb48159b75208279f1d532b685f70284c1c5c96b656", func := "omnibus/omnibuslaw10.OrderRanks", spec := "orderRanks", unfollowed := true, recurses := true, apart := false, narrowed := true }
def OrderRanksUptoSaid : Prop := orderRanksUptoRow.holds Try.pinned (OpenSpec.upto orderRanksSpec)

/-- 'omnibuslaw10.OrderPlaces', WHERE WHAT IT READS IS OF BULK AT MOST 1048576: true; the input reads as it did. -/
def orderPlacesUptoRow : OpenClaim := { program := "ytbjeblffmgghgaa", sum := "688c9e907227ddc82f5e1eb48159b75208279f1d532b685f70284c1c5c96b656", func := "omnibus/omnibuslaw10.OrderPlaces", spec := "orderPlaces", unfollowed := true, recurses := true, apart := false, narrowed := true }
def OrderPlacesUptoSaid : Prop := orderPlacesUptoRow.holds Try.pinned (OpenSpec.upto orderPlacesSpec)

/-- 'omnibuslaw17.BoxFilters', WHERE WHAT IT READS IS OF BULK AT MOST 1048576: true; the input reads as it did. -/
def boxFiltersUptoRow : OpenClaim := { program := "ytbjeblffmgghgaa", sum := "688c9e907227ddc82f5e1eb48159b75208279f1d532b685f70284c1c5c96b656", func := "omnibus/omnibuslaw17.BoxFilters", spec := "boxFilters", unfollowed := true, recurses := true, apart := false, narrowed := true }
def BoxFiltersUptoSaid : Prop := boxFiltersUptoRow.holds Try.pinned (OpenSpec.upto boxFiltersSpec)

/-- 'omnibuslaw06.ClassicRuns', WHERE WHAT IT READS IS OF BULK AT MOST 1048576: true; the input reads as it did. -/
def classicRunsUptoRow : OpenClaim := { program := "ytbjeblffmgghgaa", sum := "688c9e907227ddc82f5e1eb48159b75208279f1d532b685f70284c1c5c96b656", func := "omnibus/omnibuslaw06.ClassicRuns", spec := "classicRuns", unfollowed := true, recurses := true, apart := false, narrowed := true }
def ClassicRunsUptoSaid : Prop := classicRunsUptoRow.holds Try.pinned (OpenSpec.upto classicRunsSpec)

/-- 'omnibuslaw06.ClassicOrders', WHERE WHAT IT READS IS OF BULK AT MOST 1048576: true; the input reads as it did. -/
def classicOrdersUptoRow : OpenClaim := { program := "ytbjeblffmgghgaa", sum := "688c9e907227ddc82f5e1eb48159b75208279f1d532b685f70284c1c5c96b656", func := "omnibus/omnibuslaw06.ClassicOrders", spec := "classicOrders", unfollowed := true, recurses := true, apart := false, narrowed := true }
def ClassicOrdersUptoSaid : Prop := classicOrdersUptoRow.holds Try.pinned (OpenSpec.upto classicOrdersSpec)

/-- 'omnibuslaw06.ClassicApart', WHERE WHAT IT READS IS OF BULK AT MOST 1048576: true; the input reads as it did. -/
def classicApartUptoRow : OpenClaim := { program := "ytbjeblffmgghgaa", sum := "688c9e907227ddc82f5e1eb48159b75208279f1d532b685f70284c1c5c96b656", func := "omnibus/omnibuslaw06.ClassicApart", spec := "classicApart", unfollowed := true, recurses := true, apart := false, narrowed := true }
def ClassicApartUptoSaid : Prop := classicApartUptoRow.holds Try.pinned (OpenSpec.upto classicApartSpec)

/-- 'omnibuslaw06.ClassicWires', WHERE WHAT IT READS IS OF BULK AT MOST 1048576: true; the input reads as it did. -/
def classicWiresUptoRow : OpenClaim := { program := "ytbjeblffmgghgaa", sum := "688c9e907227ddc82f5e1eb48159b75208279f1d532b685f70284c1c5c96b656", func := "omnibus/omnibuslaw06.ClassicWires", spec := "classicWires", unfollowed := true, recurses := true, apart := false, narrowed := true }
def ClassicWiresUptoSaid : Prop := classicWiresUptoRow.holds Try.pinned (OpenSpec.upto classicWiresSpec)

/-- 'omnibuslaw06.ClassicSizes', WHERE WHAT IT READS IS OF BULK AT MOST 1048576: true; the input reads as it did. -/
def classicSizesUptoRow : OpenClaim := { program := "ytbjeblffmgghgaa", sum := "688c9e907227ddc82f5e1eb48159b75208279f1d532b685f70284c1c5c96b656", func := "omnibus/omnibuslaw06.ClassicSizes", spec := "classicSizes", unfollowed := true, recurses := true, apart := false, narrowed := true }
def ClassicSizesUptoSaid : Prop := classicSizesUptoRow.holds Try.pinned (OpenSpec.upto classicSizesSpec)

/-- 'omnibuslaw06.ClassicEnds', WHERE WHAT IT READS IS OF BULK AT MOST 1048576: true; the input reads as it did. -/
def classicEndsUptoRow : OpenClaim := { program := "ytbjeblffmgghgaa", sum := "688c9e907227ddc82f5e1eb48159b75208279f1d532b685f70284c1c5c96b656", func := "omnibus/omnibuslaw06.ClassicEnds", spec := "classicEnds", unfollowed := true, recurses := true, apart := false, narrowed := true }
def ClassicEndsUptoSaid : Prop := classicEndsUptoRow.holds Try.pinned (OpenSpec.upto classicEndsSpec)

end Rows
end Go.Proofs.Ytbjeblffmgghgaa
