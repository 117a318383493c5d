/-
  No cell of these rows narrows 'for every input' (looked for: loops, veiled, ifaces, maps, wideKeys, modest, calm, conditions, laid).
  DERIVED. THE GIVEN ROWS OF THIS SEAT. 12 by the template 'for every input the law returns true; each argument reads behind the call as it read before'; 0 by the template 'total and deterministic' (their statements: YtaknddanggdplaaTotals.lean).
  GIVEN WITH THE SEED: the statements are not yours to turn. If you find one false, say at which input.
  Laid BY PROGRAM, IN A SANDBOX (cutbox-rows.mjs): the forced cells as the released guide's own fill.sh prints them over the translation f9b41f0461c2d656… (all of the seat's roots in one cut). By AI agents, Wed Nov 11 2026. No macro, syntax, notation, axiom, sorry.
-/
import Derived.Test.YtaknddanggdplaaChecked
import GoSem.Claim
import GoSem.ClaimJoined
import GoSem.ClaimMapViews
import Derived.JoinedTies
import Derived.KernelRfl
namespace Go.Proofs.Ytaknddanggdplaa
/- THE CELL 'sum', in the pinned program and in every row, IS THE sha256 OF THE DUMP (.gsa) THAT YtaknddanggdplaaProg.lean LOADS. Nothing in Lean hashes anything: it is a label: what it is worth is what the hold of that sum in a sandbox is worth. -/
noncomputable def Try.pinned : Pinned := { name := "ytaknddanggdplaa", sum := "f9b41f0461c2d6569dd4cc44088daa8de26fa355de1658270d5560ffe92e3dbc", checked := Try.checked }
namespace Rows
def none {H : Type} : Left H := { results := [], args := [] }

/-- 'omnibuslaw08.XlRuns': WHATEVER THE INPUT: true; the input reads as it did. -/
def xlRunsSpec : ChangeSpec := { name := "xlRuns", fn := fun _ => fun
  | [d] => { results := [.lit (.bool true)], args := [d] }
  | _ => none }
def xlRunsRow : OpenClaim := { program := "ytaknddanggdplaa", sum := "f9b41f0461c2d6569dd4cc44088daa8de26fa355de1658270d5560ffe92e3dbc", func := "omnibus/omnibuslaw08.XlRuns", spec := "xlRuns", unfollowed := true, recurses := true, apart := false }
def XlRunsSaid : Prop := xlRunsRow.holds Try.pinned (OpenSpec.ofChange xlRunsSpec)

/-- ITS FALSE NEIGHBOUR: 'it returns false'. Refute it at one input. -/
def xlRunsWrong : ChangeSpec := { name := "xlRuns", fn := fun _ => fun
  | [d] => { results := [.lit (.bool false)], args := [d] }
  | _ => none }
def XlRunsWrongFalsely : Prop := xlRunsRow.holds Try.pinned (OpenSpec.ofChange xlRunsWrong)

/-- 'omnibuslaw08.XlOrders': WHATEVER THE INPUT: true; the input reads as it did. -/
def xlOrdersSpec : ChangeSpec := { name := "xlOrders", fn := fun _ => fun
  | [d1, d2] => { results := [.lit (.bool true)], args := [d1, d2] }
  | _ => none }
def xlOrdersRow : OpenClaim := { program := "ytaknddanggdplaa", sum := "f9b41f0461c2d6569dd4cc44088daa8de26fa355de1658270d5560ffe92e3dbc", func := "omnibus/omnibuslaw08.XlOrders", spec := "xlOrders", unfollowed := true, recurses := true, apart := false }
def XlOrdersSaid : Prop := xlOrdersRow.holds Try.pinned (OpenSpec.ofChange xlOrdersSpec)

/-- ITS FALSE NEIGHBOUR: 'it returns false'. Refute it at one input. -/
def xlOrdersWrong : ChangeSpec := { name := "xlOrders", fn := fun _ => fun
  | [d1, d2] => { results := [.lit (.bool false)], args := [d1, d2] }
  | _ => none }
def XlOrdersWrongFalsely : Prop := xlOrdersRow.holds Try.pinned (OpenSpec.ofChange xlOrdersWrong)

/-- 'omnibuslaw08.XlApart': WHATEVER THE INPUT: true; the input reads as it did. -/
def xlApartSpec : ChangeSpec := { name := "xlApart", fn := fun _ => fun
  | [d1, d2] => { results := [.lit (.bool true)], args := [d1, d2] }
  | _ => none }
def xlApartRow : OpenClaim := { program := "ytaknddanggdplaa", sum := "f9b41f0461c2d6569dd4cc44088daa8de26fa355de1658270d5560ffe92e3dbc", func := "omnibus/omnibuslaw08.XlApart", spec := "xlApart", unfollowed := true, recurses := true, apart := false }
def XlApartSaid : Prop := xlApartRow.holds Try.pinned (OpenSpec.ofChange xlApartSpec)

/-- ITS FALSE NEIGHBOUR: 'it returns false'. Refute it at one input. -/
def xlApartWrong : ChangeSpec := { name := "xlApart", fn := fun _ => fun
  | [d1, d2] => { results := [.lit (.bool false)], args := [d1, d2] }
  | _ => none }
def XlApartWrongFalsely : Prop := xlApartRow.holds Try.pinned (OpenSpec.ofChange xlApartWrong)

/-- 'omnibuslaw07.FdRuns': WHATEVER THE INPUT: true; the input reads as it did. -/
def fdRunsSpec : ChangeSpec := { name := "fdRuns", fn := fun _ => fun
  | [d] => { results := [.lit (.bool true)], args := [d] }
  | _ => none }
def fdRunsRow : OpenClaim := { program := "ytaknddanggdplaa", sum := "f9b41f0461c2d6569dd4cc44088daa8de26fa355de1658270d5560ffe92e3dbc", func := "omnibus/omnibuslaw07.FdRuns", spec := "fdRuns", unfollowed := true, recurses := true, apart := false }
def FdRunsSaid : Prop := fdRunsRow.holds Try.pinned (OpenSpec.ofChange fdRunsSpec)

/-- ITS FALSE NEIGHBOUR: 'it returns false'. Refute it at one input. -/
def fdRunsWrong : ChangeSpec := { name := "fdRuns", fn := fun _ => fun
  | [d] => { results := [.lit (.bool false)], args := [d] }
  | _ => none }
def FdRunsWrongFalsely : Prop := fdRunsRow.holds Try.pinned (OpenSpec.ofChange fdRunsWrong)

/-- 'omnibuslaw07.FdOrders': WHATEVER THE INPUT: true; the input reads as it did. -/
def fdOrdersSpec : ChangeSpec := { name := "fdOrders", fn := fun _ => fun
  | [d1, d2] => { results := [.lit (.bool true)], args := [d1, d2] }
  | _ => none }
def fdOrdersRow : OpenClaim := { program := "ytaknddanggdplaa", sum := "f9b41f0461c2d6569dd4cc44088daa8de26fa355de1658270d5560ffe92e3dbc", func := "omnibus/omnibuslaw07.FdOrders", spec := "fdOrders", unfollowed := true, recurses := true, apart := false }
def FdOrdersSaid : Prop := fdOrdersRow.holds Try.pinned (OpenSpec.ofChange fdOrdersSpec)

/-- ITS FALSE NEIGHBOUR: 'it returns false'. Refute it at one input. -/
def fdOrdersWrong : ChangeSpec := { name := "fdOrders", fn := fun _ => fun
  | [d1, d2] => { results := [.lit (.bool false)], args := [d1, d2] }
  | _ => none }
def FdOrdersWrongFalsely : Prop := fdOrdersRow.holds Try.pinned (OpenSpec.ofChange fdOrdersWrong)

/-- 'omnibuslaw07.FdApart': WHATEVER THE INPUT: true; the input reads as it did. -/
def fdApartSpec : ChangeSpec := { name := "fdApart", fn := fun _ => fun
  | [d1, d2] => { results := [.lit (.bool true)], args := [d1, d2] }
  | _ => none }
def fdApartRow : OpenClaim := { program := "ytaknddanggdplaa", sum := "f9b41f0461c2d6569dd4cc44088daa8de26fa355de1658270d5560ffe92e3dbc", func := "omnibus/omnibuslaw07.FdApart", spec := "fdApart", unfollowed := true, recurses := true, apart := false }
def FdApartSaid : Prop := fdApartRow.holds Try.pinned (OpenSpec.ofChange fdApartSpec)

/-- ITS FALSE NEIGHBOUR: 'it returns false'. Refute it at one input. -/
def fdApartWrong : ChangeSpec := { name := "fdApart", fn := fun _ => fun
  | [d1, d2] => { results := [.lit (.bool false)], args := [d1, d2] }
  | _ => none }
def FdApartWrongFalsely : Prop := fdApartRow.holds Try.pinned (OpenSpec.ofChange fdApartWrong)

/-- 'omnibuslaw08.XlWires': WHATEVER THE INPUT: true; the input reads as it did. -/
def xlWiresSpec : ChangeSpec := { name := "xlWires", fn := fun _ => fun
  | [d1, d2] => { results := [.lit (.bool true)], args := [d1, d2] }
  | _ => none }
def xlWiresRow : OpenClaim := { program := "ytaknddanggdplaa", sum := "f9b41f0461c2d6569dd4cc44088daa8de26fa355de1658270d5560ffe92e3dbc", func := "omnibus/omnibuslaw08.XlWires", spec := "xlWires", unfollowed := true, recurses := true, apart := false }
def XlWiresSaid : Prop := xlWiresRow.holds Try.pinned (OpenSpec.ofChange xlWiresSpec)

/-- ITS FALSE NEIGHBOUR: 'it returns false'. Refute it at one input. -/
def xlWiresWrong : ChangeSpec := { name := "xlWires", fn := fun _ => fun
  | [d1, d2] => { results := [.lit (.bool false)], args := [d1, d2] }
  | _ => none }
def XlWiresWrongFalsely : Prop := xlWiresRow.holds Try.pinned (OpenSpec.ofChange xlWiresWrong)

/-- 'omnibuslaw08.XlSizes': WHATEVER THE INPUT: true; the input reads as it did. -/
def xlSizesSpec : ChangeSpec := { name := "xlSizes", fn := fun _ => fun
  | [d] => { results := [.lit (.bool true)], args := [d] }
  | _ => none }
def xlSizesRow : OpenClaim := { program := "ytaknddanggdplaa", sum := "f9b41f0461c2d6569dd4cc44088daa8de26fa355de1658270d5560ffe92e3dbc", func := "omnibus/omnibuslaw08.XlSizes", spec := "xlSizes", unfollowed := true, recurses := true, apart := false }
def XlSizesSaid : Prop := xlSizesRow.holds Try.pinned (OpenSpec.ofChange xlSizesSpec)

/-- ITS FALSE NEIGHBOUR: 'it returns false'. Refute it at one input. -/
def xlSizesWrong : ChangeSpec := { name := "xlSizes", fn := fun _ => fun
  | [d] => { results := [.lit (.bool false)], args := [d] }
  | _ => none }
def XlSizesWrongFalsely : Prop := xlSizesRow.holds Try.pinned (OpenSpec.ofChange xlSizesWrong)

/-- 'omnibuslaw07.FdWires': WHATEVER THE INPUT: true; the input reads as it did. -/
def fdWiresSpec : ChangeSpec := { name := "fdWires", fn := fun _ => fun
  | [d1, d2] => { results := [.lit (.bool true)], args := [d1, d2] }
  | _ => none }
def fdWiresRow : OpenClaim := { program := "ytaknddanggdplaa", sum := "f9b41f0461c2d6569dd4cc44088daa8de26fa355de1658270d5560ffe92e3dbc", func := "omnibus/omnibuslaw07.FdWires", spec := "fdWires", unfollowed := true, recurses := true, apart := false }
def FdWiresSaid : Prop := fdWiresRow.holds Try.pinned (OpenSpec.ofChange fdWiresSpec)

/-- ITS FALSE NEIGHBOUR: 'it returns false'. Refute it at one input. -/
def fdWiresWrong : ChangeSpec := { name := "fdWires", fn := fun _ => fun
  | [d1, d2] => { results := [.lit (.bool false)], args := [d1, d2] }
  | _ => none }
def FdWiresWrongFalsely : Prop := fdWiresRow.holds Try.pinned (OpenSpec.ofChange fdWiresWrong)

/-- 'omnibuslaw07.FdSizes': WHATEVER THE INPUT: true; the input reads as it did. -/
def fdSizesSpec : ChangeSpec := { name := "fdSizes", fn := fun _ => fun
  | [d] => { results := [.lit (.bool true)], args := [d] }
  | _ => none }
def fdSizesRow : OpenClaim := { program := "ytaknddanggdplaa", sum := "f9b41f0461c2d6569dd4cc44088daa8de26fa355de1658270d5560ffe92e3dbc", func := "omnibus/omnibuslaw07.FdSizes", spec := "fdSizes", unfollowed := true, recurses := true, apart := false }
def FdSizesSaid : Prop := fdSizesRow.holds Try.pinned (OpenSpec.ofChange fdSizesSpec)

/-- ITS FALSE NEIGHBOUR: 'it returns false'. Refute it at one input. -/
def fdSizesWrong : ChangeSpec := { name := "fdSizes", fn := fun _ => fun
  | [d] => { results := [.lit (.bool false)], args := [d] }
  | _ => none }
def FdSizesWrongFalsely : Prop := fdSizesRow.holds Try.pinned (OpenSpec.ofChange fdSizesWrong)

/-- 'omnibuslaw08.XlEnds': WHATEVER THE INPUT: true; the input reads as it did. -/
def xlEndsSpec : ChangeSpec := { name := "xlEnds", fn := fun _ => fun
  | [d] => { results := [.lit (.bool true)], args := [d] }
  | _ => none }
def xlEndsRow : OpenClaim := { program := "ytaknddanggdplaa", sum := "f9b41f0461c2d6569dd4cc44088daa8de26fa355de1658270d5560ffe92e3dbc", func := "omnibus/omnibuslaw08.XlEnds", spec := "xlEnds", unfollowed := true, recurses := true, apart := false }
def XlEndsSaid : Prop := xlEndsRow.holds Try.pinned (OpenSpec.ofChange xlEndsSpec)

/-- ITS FALSE NEIGHBOUR: 'it returns false'. Refute it at one input. -/
def xlEndsWrong : ChangeSpec := { name := "xlEnds", fn := fun _ => fun
  | [d] => { results := [.lit (.bool false)], args := [d] }
  | _ => none }
def XlEndsWrongFalsely : Prop := xlEndsRow.holds Try.pinned (OpenSpec.ofChange xlEndsWrong)

/-- 'omnibuslaw07.FdEnds': WHATEVER THE INPUT: true; the input reads as it did. -/
def fdEndsSpec : ChangeSpec := { name := "fdEnds", fn := fun _ => fun
  | [d] => { results := [.lit (.bool true)], args := [d] }
  | _ => none }
def fdEndsRow : OpenClaim := { program := "ytaknddanggdplaa", sum := "f9b41f0461c2d6569dd4cc44088daa8de26fa355de1658270d5560ffe92e3dbc", func := "omnibus/omnibuslaw07.FdEnds", spec := "fdEnds", unfollowed := true, recurses := true, apart := false }
def FdEndsSaid : Prop := fdEndsRow.holds Try.pinned (OpenSpec.ofChange fdEndsSpec)

/-- ITS FALSE NEIGHBOUR: 'it returns false'. Refute it at one input. -/
def fdEndsWrong : ChangeSpec := { name := "fdEnds", fn := fun _ => fun
  | [d] => { results := [.lit (.bool false)], args := [d] }
  | _ => none }
def FdEndsWrongFalsely : Prop := fdEndsRow.holds Try.pinned (OpenSpec.ofChange fdEndsWrong)

/- THE SECOND FORM. 'bulk': how many values and letters a reading holds, each counted each time it is reached (what is shared counts as often as it is met; a slice's spare places count too). A statement '..UptoSaid' is the law's where the arguments, and the package variables that the reading takes, are together of bulk at most 1048576: NARROWER than '..Said'. Prove '..Said' where nothing that the law and all that it calls make is longer than what came in: it says more and counts as full. Else prove '..UptoSaid'. A law counts once. -/
mutual
def uptoBulk {H : Type} : DataW H → Nat
  | .lit (.string bytes) => bytes.length + 1
  | .lit _ => 1
  | .nil => 1
  | .ptr d => uptoBulk d + 1
  | .slice elems spare => uptoBulkAll elems + uptoBulkAll spare + 1
  | .agg parts => uptoBulkAll parts + 1
  | .iface _ d => uptoBulk d + 1
  | .map entries => uptoBulkEntries entries + 1
  | .held _ => 1
def uptoBulkAll {H : Type} : List (DataW H) → Nat
  | [] => 0
  | d :: r => uptoBulk d + uptoBulkAll r
def uptoBulkEntries {H : Type} : List (Lit × DataW H) → Nat
  | [] => 0
  | x :: r => uptoBulkEntry x + uptoBulkEntries r
def uptoBulkEntry {H : Type} : Lit × DataW H → Nat
  | (.string bytes, d) => bytes.length + uptoBulk d + 1
  | (_, d) => uptoBulk d + 1
 end
def uptoSmall : (H : Type) → List (DataW H) → Bool := fun _ ds => decide (uptoBulkAll ds ≤ 1048576)
def OpenSpec.upto (s : _root_.Go.ChangeSpec) : _root_.Go.OpenSpec := { _root_.Go.OpenSpec.ofChange s with cond := some uptoSmall }

/-- 'omnibuslaw08.XlRuns', WHERE WHAT IT READS IS OF BULK AT MOST 1048576: true; the input reads as it did. -/
def xlRunsUptoRow : OpenClaim := { program := "ytaknddanggdplaa", sum := "f9b41f0461c2d6569dd4cc44088daa8de26fa355de1658270d5560ffe92e3dbc", func := "omnibus/omnibuslaw08.XlRuns", spec := "xlRuns", unfollowed := true, recurses := true, apart := false, narrowed := true }
def XlRunsUptoSaid : Prop := xlRunsUptoRow.holds Try.pinned (OpenSpec.upto xlRunsSpec)

/-- 'omnibuslaw08.XlOrders', WHERE WHAT IT READS IS OF BULK AT MOST 1048576: true; the input reads as it did. -/
def xlOrdersUptoRow : OpenClaim := { program := "ytaknddanggdplaa", sum := "f9b41f0461c2d6569dd4cc44088daa8de26fa355de1658270d5560ffe92e3dbc", func := "omnibus/omnibuslaw08.XlOrders", spec := "xlOrders", unfollowed := true, recurses := true, apart := false, narrowed := true }
def XlOrdersUptoSaid : Prop := xlOrdersUptoRow.holds Try.pinned (OpenSpec.upto xlOrdersSpec)

/-- 'omnibuslaw08.XlApart', WHERE WHAT IT READS IS OF BULK AT MOST 1048576: true; the input reads as it did. -/
def xlApartUptoRow : OpenClaim := { program := "ytaknddanggdplaa", sum := "f9b41f0461c2d6569dd4cc44088daa8de26fa355de1658270d5560ffe92e3dbc", func := "omnibus/omnibuslaw08.XlApart", spec := "xlApart", unfollowed := true, recurses := true, apart := false, narrowed := true }
def XlApartUptoSaid : Prop := xlApartUptoRow.holds Try.pinned (OpenSpec.upto xlApartSpec)

/-- 'omnibuslaw07.FdRuns', WHERE WHAT IT READS IS OF BULK AT MOST 1048576: true; the input reads as it did. -/
def fdRunsUptoRow : OpenClaim := { program := "ytaknddanggdplaa", sum := "f9b41f0461c2d6569dd4cc44088daa8de26fa355de1658270d5560ffe92e3dbc", func := "omnibus/omnibuslaw07.FdRuns", spec := "fdRuns", unfollowed := true, recurses := true, apart := false, narrowed := true }
def FdRunsUptoSaid : Prop := fdRunsUptoRow.holds Try.pinned (OpenSpec.upto fdRunsSpec)

/-- 'omnibuslaw07.FdOrders', WHERE WHAT IT READS IS OF BULK AT MOST 1048576: true; the input reads as it did. -/
def fdOrdersUptoRow : OpenClaim := { program := "ytaknddanggdplaa", sum := "f9b41f0461c2d6569dd4cc44088daa8de26fa355de1658270d5560ffe92e3dbc", func := "omnibus/omnibuslaw07.FdOrders", spec := "fdOrders", unfollowed := true, recurses := true, apart := false, narrowed := true }
def FdOrdersUptoSaid : Prop := fdOrdersUptoRow.holds Try.pinned (OpenSpec.upto fdOrdersSpec)

/-- 'omnibuslaw07.FdApart', WHERE WHAT IT READS IS OF BULK AT MOST 1048576: true; the input reads as it did. -/
def fdApartUptoRow : OpenClaim := { program := "ytaknddanggdplaa", sum := "f9b41f0461c2d6569dd4cc44088daa8de26fa355de1658270d5560ffe92e3dbc", func := "omnibus/omnibuslaw07.FdApart", spec := "fdApart", unfollowed := true, recurses := true, apart := false, narrowed := true }
def FdApartUptoSaid : Prop := fdApartUptoRow.holds Try.pinned (OpenSpec.upto fdApartSpec)

/-- 'omnibuslaw08.XlWires', WHERE WHAT IT READS IS OF BULK AT MOST 1048576: true; the input reads as it did. -/
def xlWiresUptoRow : OpenClaim := { program := "ytaknddanggdplaa", sum := "f9b41f0461c2d6569dd4cc44088daa8de26fa355de1658270d5560ffe92e3dbc", func := "omnibus/omnibuslaw08.XlWires", spec := "xlWires", unfollowed := true, recurses := true, apart := false, narrowed := true }
def XlWiresUptoSaid : Prop := xlWiresUptoRow.holds Try.pinned (OpenSpec.upto xlWiresSpec)

/-- 'omnibuslaw08.XlSizes', WHERE WHAT IT READS IS OF BULK AT MOST 1048576: true; the input reads as it did. -/
def xlSizesUptoRow : OpenClaim := { program := "ytaknddanggdplaa", sum := "f9b41f0461c2d6569dd4cc44088daa8de26fa355de1658270d5560ffe92e3dbc", func := "omnibus/omnibuslaw08.XlSizes", spec := "xlSizes", unfollowed := true, recurses := true, apart := false, narrowed := true }
def XlSizesUptoSaid : Prop := xlSizesUptoRow.holds Try.pinned (OpenSpec.upto xlSizesSpec)

/-- 'omnibuslaw07.FdWires', WHERE WHAT IT READS IS OF BULK AT MOST 1048576: true; the input reads as it did. -/
def fdWiresUptoRow : OpenClaim := { program := "ytaknddanggdplaa", sum := "f9b41f0461c2d6569dd4cc44088daa8de26fa355de1658270d5560ffe92e3dbc", func := "omnibus/omnibuslaw07.FdWires", spec := "fdWires", unfollowed := true, recurses := true, apart := false, narrowed := true }
def FdWiresUptoSaid : Prop := fdWiresUptoRow.holds Try.pinned (OpenSpec.upto fdWiresSpec)

/-- 'omnibuslaw07.FdSizes', WHERE WHAT IT READS IS OF BULK AT MOST 1048576: true; the input reads as it did. -/
def fdSizesUptoRow : OpenClaim := { program := "ytaknddanggdplaa", sum := "f9b41f0461c2d6569dd4cc44088daa8de26fa355de1658270d5560ffe92e3dbc", func := "omnibus/omnibuslaw07.FdSizes", spec := "fdSizes", unfollowed := true, recurses := true, apart := false, narrowed := true }
def FdSizesUptoSaid : Prop := fdSizesUptoRow.holds Try.pinned (OpenSpec.upto fdSizesSpec)

/-- 'omnibuslaw08.XlEnds', WHERE WHAT IT READS IS OF BULK AT MOST 1048576: true; the input reads as it did. -/
def xlEndsUptoRow : OpenClaim := { program := "ytaknddanggdplaa", sum := "f9b41f0461c2d6569dd4cc44088daa8de26fa355de1658270d5560ffe92e3dbc", func := "omnibus/omnibuslaw08.XlEnds", spec := "xlEnds", unfollowed := true, recurses := true, apart := false, narrowed := true }
def XlEndsUptoSaid : Prop := xlEndsUptoRow.holds Try.pinned (OpenSpec.upto xlEndsSpec)

/-- 'omnibuslaw07.FdEnds', WHERE WHAT IT READS IS OF BULK AT MOST 1048576: true; the input reads as it did. -/
def fdEndsUptoRow : OpenClaim := { program := "ytaknddanggdplaa", sum := "f9b41f0461c2d6569dd4cc44088daa8de26fa355de1658270d5560ffe92e3dbc", func := "omnibus/omnibuslaw07.FdEnds", spec := "fdEnds", unfollowed := true, recurses := true, apart := false, narrowed := true }
def FdEndsUptoSaid : Prop := fdEndsUptoRow.holds Try.pinned (OpenSpec.upto fdEndsSpec)

end Rows
end Go.Proofs.Ytaknddanggdplaa
