/-
  No cell of these rows narrows 'for every input' (looked for: loops, veiled, ifaces, maps, wideKeys, modest, calm, conditions, laid).
  DERIVED. THE GIVEN ROWS OF THIS SEAT. 6 by the template 'for every input the law returns true; each argument reads behind the call as it read before'; 0 by the template 'total and deterministic' (their statements: YtlmdkmflbhnlgaaTotals.lean).
  GIVEN WITH THE SEED: the statements are not yours to turn. If you find one false, say at which input.
  Laid BY PROGRAM, IN A SANDBOX (cutbox-rows.mjs): the forced cells as the released guide's own fill.sh prints them over the translation ec633c61282903f0… (all of the seat's roots in one cut). By AI agents, Wed Nov 11 2026. No macro, syntax, notation, axiom, sorry.
-/
import Derived.Test.YtlmdkmflbhnlgaaChecked
import GoSem.Claim
import GoSem.ClaimJoined
import GoSem.ClaimMapViews
import Derived.JoinedTies
import Derived.KernelRfl
namespace Go.Proofs.Ytlmdkmflbhnlgaa
/- THE CELL 'sum', in the pinned program and in every row, IS THE sha256 OF THE DUMP (.gsa) THAT YtlmdkmflbhnlgaaProg.lean LOADS. Nothing in Lean hashes anything: it is a label: what it is worth is what the hold of that sum in a sandbox is worth. -/
noncomputable def Try.pinned : Pinned := { name := "ytlmdkmflbhnlgaa", sum := "ec633c61282903f0e6311ca96d25ad4b17ee9a9269223b967cb319810f4c4e85", checked := Try.checked }
namespace Rows
def none {H : Type} : Left H := { results := [], args := [] }

/-- 'omnibuslaw17.BoxFilters': WHATEVER THE INPUT: true; the input reads as it did. -/
def boxFiltersSpec : ChangeSpec := { name := "boxFilters", fn := fun _ => fun
  | [d1, d2] => { results := [.lit (.bool true)], args := [d1, d2] }
  | _ => none }
def boxFiltersRow : OpenClaim := { program := "ytlmdkmflbhnlgaa", sum := "ec633c61282903f0e6311ca96d25ad4b17ee9a9269223b967cb319810f4c4e85", func := "omnibus/omnibuslaw17.BoxFilters", spec := "boxFilters", unfollowed := true, recurses := true, apart := false }
def BoxFiltersSaid : Prop := boxFiltersRow.holds Try.pinned (OpenSpec.ofChange boxFiltersSpec)

/-- ITS FALSE NEIGHBOUR: 'it returns false'. Refute it at one input. -/
def boxFiltersWrong : ChangeSpec := { name := "boxFilters", fn := fun _ => fun
  | [d1, d2] => { results := [.lit (.bool false)], args := [d1, d2] }
  | _ => none }
def BoxFiltersWrongFalsely : Prop := boxFiltersRow.holds Try.pinned (OpenSpec.ofChange boxFiltersWrong)

/-- 'omnibuslaw17.BoxAliens': WHATEVER THE INPUT: true; the input reads as it did. -/
def boxAliensSpec : ChangeSpec := { name := "boxAliens", fn := fun _ => fun
  | [d1, d2] => { results := [.lit (.bool true)], args := [d1, d2] }
  | _ => none }
def boxAliensRow : OpenClaim := { program := "ytlmdkmflbhnlgaa", sum := "ec633c61282903f0e6311ca96d25ad4b17ee9a9269223b967cb319810f4c4e85", func := "omnibus/omnibuslaw17.BoxAliens", spec := "boxAliens", unfollowed := true, recurses := true, apart := false }
def BoxAliensSaid : Prop := boxAliensRow.holds Try.pinned (OpenSpec.ofChange boxAliensSpec)

/-- ITS FALSE NEIGHBOUR: 'it returns false'. Refute it at one input. -/
def boxAliensWrong : ChangeSpec := { name := "boxAliens", fn := fun _ => fun
  | [d1, d2] => { results := [.lit (.bool false)], args := [d1, d2] }
  | _ => none }
def BoxAliensWrongFalsely : Prop := boxAliensRow.holds Try.pinned (OpenSpec.ofChange boxAliensWrong)

/-- 'omnibuslaw17.BoxNext': WHATEVER THE INPUT: true; the input reads as it did. -/
def boxNextSpec : ChangeSpec := { name := "boxNext", fn := fun _ => fun
  | [d] => { results := [.lit (.bool true)], args := [d] }
  | _ => none }
def boxNextRow : OpenClaim := { program := "ytlmdkmflbhnlgaa", sum := "ec633c61282903f0e6311ca96d25ad4b17ee9a9269223b967cb319810f4c4e85", func := "omnibus/omnibuslaw17.BoxNext", spec := "boxNext", unfollowed := true, recurses := true, apart := false }
def BoxNextSaid : Prop := boxNextRow.holds Try.pinned (OpenSpec.ofChange boxNextSpec)

/-- ITS FALSE NEIGHBOUR: 'it returns false'. Refute it at one input. -/
def boxNextWrong : ChangeSpec := { name := "boxNext", fn := fun _ => fun
  | [d] => { results := [.lit (.bool false)], args := [d] }
  | _ => none }
def BoxNextWrongFalsely : Prop := boxNextRow.holds Try.pinned (OpenSpec.ofChange boxNextWrong)

/-- 'omnibuslaw17.BoxActs': WHATEVER THE INPUT: true; the input reads as it did. -/
def boxActsSpec : ChangeSpec := { name := "boxActs", fn := fun _ => fun
  | [d1, d2] => { results := [.lit (.bool true)], args := [d1, d2] }
  | _ => none }
def boxActsRow : OpenClaim := { program := "ytlmdkmflbhnlgaa", sum := "ec633c61282903f0e6311ca96d25ad4b17ee9a9269223b967cb319810f4c4e85", func := "omnibus/omnibuslaw17.BoxActs", spec := "boxActs", unfollowed := true, recurses := true, apart := false }
def BoxActsSaid : Prop := boxActsRow.holds Try.pinned (OpenSpec.ofChange boxActsSpec)

/-- ITS FALSE NEIGHBOUR: 'it returns false'. Refute it at one input. -/
def boxActsWrong : ChangeSpec := { name := "boxActs", fn := fun _ => fun
  | [d1, d2] => { results := [.lit (.bool false)], args := [d1, d2] }
  | _ => none }
def BoxActsWrongFalsely : Prop := boxActsRow.holds Try.pinned (OpenSpec.ofChange boxActsWrong)

/-- 'omnibuslaw17.BoxAdds': WHATEVER THE INPUT: true; the input reads as it did. -/
def boxAddsSpec : ChangeSpec := { name := "boxAdds", fn := fun _ => fun
  | [d1, d2] => { results := [.lit (.bool true)], args := [d1, d2] }
  | _ => none }
def boxAddsRow : OpenClaim := { program := "ytlmdkmflbhnlgaa", sum := "ec633c61282903f0e6311ca96d25ad4b17ee9a9269223b967cb319810f4c4e85", func := "omnibus/omnibuslaw17.BoxAdds", spec := "boxAdds", unfollowed := true, recurses := true, apart := false }
def BoxAddsSaid : Prop := boxAddsRow.holds Try.pinned (OpenSpec.ofChange boxAddsSpec)

/-- ITS FALSE NEIGHBOUR: 'it returns false'. Refute it at one input. -/
def boxAddsWrong : ChangeSpec := { name := "boxAdds", fn := fun _ => fun
  | [d1, d2] => { results := [.lit (.bool false)], args := [d1, d2] }
  | _ => none }
def BoxAddsWrongFalsely : Prop := boxAddsRow.holds Try.pinned (OpenSpec.ofChange boxAddsWrong)

/-- 'omnibuslaw17.BoxApart': WHATEVER THE INPUT: true; the input reads as it did. -/
def boxApartSpec : ChangeSpec := { name := "boxApart", fn := fun _ => fun
  | [d1, d2] => { results := [.lit (.bool true)], args := [d1, d2] }
  | _ => none }
def boxApartRow : OpenClaim := { program := "ytlmdkmflbhnlgaa", sum := "ec633c61282903f0e6311ca96d25ad4b17ee9a9269223b967cb319810f4c4e85", func := "omnibus/omnibuslaw17.BoxApart", spec := "boxApart", unfollowed := true, recurses := true, apart := false }
def BoxApartSaid : Prop := boxApartRow.holds Try.pinned (OpenSpec.ofChange boxApartSpec)

/-- ITS FALSE NEIGHBOUR: 'it returns false'. Refute it at one input. -/
def boxApartWrong : ChangeSpec := { name := "boxApart", fn := fun _ => fun
  | [d1, d2] => { results := [.lit (.bool false)], args := [d1, d2] }
  | _ => none }
def BoxApartWrongFalsely : Prop := boxApartRow.holds Try.pinned (OpenSpec.ofChange boxApartWrong)

/- THE SECOND FORM. 'bulk': how many values and letters a reading holds, each counted each time it is reached (what is shared counts as often as it is met; a slice's spare places count too). A statement '..UptoSaid' is the law's where the arguments, and the package variables that the reading takes, are together of bulk at most 1048576: NARROWER than '..Said'. Prove '..Said' where nothing that the law and all that it calls make is longer than what came in: it says more and counts as full. Else prove '..UptoSaid'. A law counts once. -/
mutual
def uptoBulk {H : Type} : DataW H → Nat
  | .lit (.string bytes) => bytes.length + 1
  | .lit _ => 1
  | .nil => 1
  | .ptr d => uptoBulk d + 1
  | .slice elems spare => uptoBulkAll elems + uptoBulkAll spare + 1
  | .agg parts => uptoBulkAll parts + 1
  | .iface _ d => uptoBulk d + 1
  | .map entries => uptoBulkEntries entries + 1
  | .held _ => 1
def uptoBulkAll {H : Type} : List (DataW H) → Nat
  | [] => 0
  | d :: r => uptoBulk d + uptoBulkAll r
def uptoBulkEntries {H : Type} : List (Lit × DataW H) → Nat
  | [] => 0
  | x :: r => uptoBulkEntry x + uptoBulkEntries r
def uptoBulkEntry {H : Type} : Lit × DataW H → Nat
  | (.string bytes, d) => bytes.length + uptoBulk d + 1
  | (_, d) => uptoBulk d + 1
 end
def uptoSmall : (H : Type) → List (DataW H) → Bool := fun _ ds => decide (uptoBulkAll ds ≤ 1048576)
def OpenSpec.upto (s : _root_.Go.ChangeSpec) : _root_.Go.OpenSpec := { _root_.Go.OpenSpec.ofChange s with cond := some uptoSmall }

/-- 'omnibuslaw17.BoxFilters', WHERE WHAT IT READS IS OF BULK AT MOST 1048576: true; the input reads as it did. -/
def boxFiltersUptoRow : OpenClaim := { program := "ytlmdkmflbhnlgaa", sum := "ec633c61282903f0e6311ca96d25ad4b17ee9a9269223b967cb319810f4c4e85", func := "omnibus/omnibuslaw17.BoxFilters", spec := "boxFilters", unfollowed := true, recurses := true, apart := false, narrowed := true }
def BoxFiltersUptoSaid : Prop := boxFiltersUptoRow.holds Try.pinned (OpenSpec.upto boxFiltersSpec)

/-- 'omnibuslaw17.BoxAliens', WHERE WHAT IT READS IS OF BULK AT MOST 1048576: true; the input reads as it did. -/
def boxAliensUptoRow : OpenClaim := { program := "ytlmdkmflbhnlgaa", sum := "ec633c61282903f0e6311ca96d25ad4b17ee9a9269223b967cb319810f4c4e85", func := "omnibus/omnibuslaw17.BoxAliens", spec := "boxAliens", unfollowed := true, recurses := true, apart := false, narrowed := true }
def BoxAliensUptoSaid : Prop := boxAliensUptoRow.holds Try.pinned (OpenSpec.upto boxAliensSpec)

/-- 'omnibuslaw17.BoxNext', WHERE WHAT IT READS IS OF BULK AT MOST 1048576: true; the input reads as it did. -/
def boxNextUptoRow : OpenClaim := { program := "ytlmdkmflbhnlgaa", sum := "ec633c61282903f0e6311ca96d25ad4b17ee9a9269223b967cb319810f4c4e85", func := "omnibus/omnibuslaw17.BoxNext", spec := "boxNext", unfollowed := true, recurses := true, apart := false, narrowed := true }
def BoxNextUptoSaid : Prop := boxNextUptoRow.holds Try.pinned (OpenSpec.upto boxNextSpec)

/-- 'omnibuslaw17.BoxActs', WHERE WHAT IT READS IS OF BULK AT MOST 1048576: true; the input reads as it did. -/
def boxActsUptoRow : OpenClaim := { program := "ytlmdkmflbhnlgaa", sum := "ec633c61282903f0e6311ca96d25ad4b17ee9a9269223b967cb319810f4c4e85", func := "omnibus/omnibuslaw17.BoxActs", spec := "boxActs", unfollowed := true, recurses := true, apart := false, narrowed := true }
def BoxActsUptoSaid : Prop := boxActsUptoRow.holds Try.pinned (OpenSpec.upto boxActsSpec)

/-- 'omnibuslaw17.BoxAdds', WHERE WHAT IT READS IS OF BULK AT MOST 1048576: true; the input reads as it did. -/
def boxAddsUptoRow : OpenClaim := { program := "ytlmdkmflbhnlgaa", sum := "ec633c61282903f0e6311ca96d25ad4b17ee9a9269223b967cb319810f4c4e85", func := "omnibus/omnibuslaw17.BoxAdds", spec := "boxAdds", unfollowed := true, recurses := true, apart := false, narrowed := true }
def BoxAddsUptoSaid : Prop := boxAddsUptoRow.holds Try.pinned (OpenSpec.upto boxAddsSpec)

/-- 'omnibuslaw17.BoxApart', WHERE WHAT IT READS IS OF BULK AT MOST 1048576: true; the input reads as it did. -/
def boxApartUptoRow : OpenClaim := { program := "ytlmdkmflbhnlgaa", sum := "ec633c61282903f0e6311ca96d25ad4b17ee9a9269223b967cb319810f4c4e85", func := "omnibus/omnibuslaw17.BoxApart", spec := "boxApart", unfollowed := true, recurses := true, apart := false, narrowed := true }
def BoxApartUptoSaid : Prop := boxApartUptoRow.holds Try.pinned (OpenSpec.upto boxApartSpec)

end Rows
end Go.Proofs.Ytlmdkmflbhnlgaa
