/-
  No cell of these rows narrows 'for every input' (looked for: loops, veiled, ifaces, maps, wideKeys, modest, calm, conditions, laid).
  DERIVED. THE GIVEN ROWS OF THIS SEAT. 5 by the template 'for every input the law returns true; each argument reads behind the call as it read before'; 0 by the template 'total and deterministic' (their statements: YtlmdkmflbhnlgaaGreatTotals.lean).
  GIVEN WITH THE SEED: the statements are not yours to turn. If you find one false, say at which input.
  Laid BY PROGRAM, IN A SANDBOX (cutbox-rows.mjs): the forced cells as the released guide's own fill.sh prints them over the translation 9cc21a839779bb7d… (all of the seat's roots in one cut). By AI agents, Wed Nov 11 2026. No macro, syntax, notation, axiom, sorry.
-/
import Derived.Test.YtlmdkmflbhnlgaaGreatChecked
import GoSem.Claim
import GoSem.ClaimJoined
import GoSem.ClaimMapViews
import Derived.JoinedTies
import Derived.KernelRfl
namespace Go.Proofs.YtlmdkmflbhnlgaaGreat
/- THE CELL 'sum', in the pinned program and in every row, IS THE sha256 OF THE DUMP (.gsa) THAT YtlmdkmflbhnlgaaGreatProg.lean LOADS. Nothing in Lean hashes anything: it is a label: what it is worth is what the hold of that sum in a sandbox is worth. -/
noncomputable def Tryz.pinned : Pinned := { name := "ytlmdkmflbhnlgaagreat", sum := "9cc21a839779bb7de4bd0eed5de2862cd66763431d93ddacfbac660876029e82", checked := Tryz.checked }
namespace Rows
def none {H : Type} : Left H := { results := [], args := [] }

/-- 'omnibuslaw09.ScanStays': WHATEVER THE INPUT: true; the input reads as it did. -/
def scanStaysSpec : ChangeSpec := { name := "scanStays", fn := fun _ => fun
  | [d1, d2, d3] => { results := [.lit (.bool true)], args := [d1, d2, d3] }
  | _ => none }
def scanStaysRow : OpenClaim := { program := "ytlmdkmflbhnlgaagreat", sum := "9cc21a839779bb7de4bd0eed5de2862cd66763431d93ddacfbac660876029e82", func := "omnibus/omnibuslaw09.ScanStays", spec := "scanStays", unfollowed := true, recurses := true, apart := false }
def ScanStaysSaid : Prop := scanStaysRow.holds Tryz.pinned (OpenSpec.ofChange scanStaysSpec)

/-- ITS FALSE NEIGHBOUR: 'it returns false'. Refute it at one input. -/
def scanStaysWrong : ChangeSpec := { name := "scanStays", fn := fun _ => fun
  | [d1, d2, d3] => { results := [.lit (.bool false)], args := [d1, d2, d3] }
  | _ => none }
def ScanStaysWrongFalsely : Prop := scanStaysRow.holds Tryz.pinned (OpenSpec.ofChange scanStaysWrong)

/-- 'omnibuslaw09.ScanSteps': WHATEVER THE INPUT: true; the input reads as it did. -/
def scanStepsSpec : ChangeSpec := { name := "scanSteps", fn := fun _ => fun
  | [d1, d2] => { results := [.lit (.bool true)], args := [d1, d2] }
  | _ => none }
def scanStepsRow : OpenClaim := { program := "ytlmdkmflbhnlgaagreat", sum := "9cc21a839779bb7de4bd0eed5de2862cd66763431d93ddacfbac660876029e82", func := "omnibus/omnibuslaw09.ScanSteps", spec := "scanSteps", unfollowed := true, recurses := true, apart := false }
def ScanStepsSaid : Prop := scanStepsRow.holds Tryz.pinned (OpenSpec.ofChange scanStepsSpec)

/-- ITS FALSE NEIGHBOUR: 'it returns false'. Refute it at one input. -/
def scanStepsWrong : ChangeSpec := { name := "scanSteps", fn := fun _ => fun
  | [d1, d2] => { results := [.lit (.bool false)], args := [d1, d2] }
  | _ => none }
def ScanStepsWrongFalsely : Prop := scanStepsRow.holds Tryz.pinned (OpenSpec.ofChange scanStepsWrong)

/-- 'omnibuslaw09.ScanFrames': WHATEVER THE INPUT: true; the input reads as it did. -/
def scanFramesSpec : ChangeSpec := { name := "scanFrames", fn := fun _ => fun
  | [d1, d2, d3] => { results := [.lit (.bool true)], args := [d1, d2, d3] }
  | _ => none }
def scanFramesRow : OpenClaim := { program := "ytlmdkmflbhnlgaagreat", sum := "9cc21a839779bb7de4bd0eed5de2862cd66763431d93ddacfbac660876029e82", func := "omnibus/omnibuslaw09.ScanFrames", spec := "scanFrames", unfollowed := true, recurses := true, apart := false }
def ScanFramesSaid : Prop := scanFramesRow.holds Tryz.pinned (OpenSpec.ofChange scanFramesSpec)

/-- ITS FALSE NEIGHBOUR: 'it returns false'. Refute it at one input. -/
def scanFramesWrong : ChangeSpec := { name := "scanFrames", fn := fun _ => fun
  | [d1, d2, d3] => { results := [.lit (.bool false)], args := [d1, d2, d3] }
  | _ => none }
def ScanFramesWrongFalsely : Prop := scanFramesRow.holds Tryz.pinned (OpenSpec.ofChange scanFramesWrong)

/-- 'omnibuslaw09.ScanTurns': WHATEVER THE INPUT: true; the input reads as it did. -/
def scanTurnsSpec : ChangeSpec := { name := "scanTurns", fn := fun _ => fun
  | [d1, d2] => { results := [.lit (.bool true)], args := [d1, d2] }
  | _ => none }
def scanTurnsRow : OpenClaim := { program := "ytlmdkmflbhnlgaagreat", sum := "9cc21a839779bb7de4bd0eed5de2862cd66763431d93ddacfbac660876029e82", func := "omnibus/omnibuslaw09.ScanTurns", spec := "scanTurns", unfollowed := true, recurses := true, apart := false }
def ScanTurnsSaid : Prop := scanTurnsRow.holds Tryz.pinned (OpenSpec.ofChange scanTurnsSpec)

/-- ITS FALSE NEIGHBOUR: 'it returns false'. Refute it at one input. -/
def scanTurnsWrong : ChangeSpec := { name := "scanTurns", fn := fun _ => fun
  | [d1, d2] => { results := [.lit (.bool false)], args := [d1, d2] }
  | _ => none }
def ScanTurnsWrongFalsely : Prop := scanTurnsRow.holds Tryz.pinned (OpenSpec.ofChange scanTurnsWrong)

/-- 'omnibuslaw09.ScanAliens': WHATEVER THE INPUT: true; the input reads as it did. -/
def scanAliensSpec : ChangeSpec := { name := "scanAliens", fn := fun _ => fun
  | [d1, d2] => { results := [.lit (.bool true)], args := [d1, d2] }
  | _ => none }
def scanAliensRow : OpenClaim := { program := "ytlmdkmflbhnlgaagreat", sum := "9cc21a839779bb7de4bd0eed5de2862cd66763431d93ddacfbac660876029e82", func := "omnibus/omnibuslaw09.ScanAliens", spec := "scanAliens", unfollowed := true, recurses := true, apart := false }
def ScanAliensSaid : Prop := scanAliensRow.holds Tryz.pinned (OpenSpec.ofChange scanAliensSpec)

/-- ITS FALSE NEIGHBOUR: 'it returns false'. Refute it at one input. -/
def scanAliensWrong : ChangeSpec := { name := "scanAliens", fn := fun _ => fun
  | [d1, d2] => { results := [.lit (.bool false)], args := [d1, d2] }
  | _ => none }
def ScanAliensWrongFalsely : Prop := scanAliensRow.holds Tryz.pinned (OpenSpec.ofChange scanAliensWrong)

/- THE SECOND FORM. 'bulk': how many values and letters a reading holds, each counted each time it is reached (what is shared counts as often as it is met; a slice's spare places count too). A statement '..UptoSaid' is the law's where the arguments, and the package variables that the reading takes, are together of bulk at most 1048576: NARROWER than '..Said'. Prove '..Said' where nothing that the law and all that it calls make is longer than what came in: it says more and counts as full. Else prove '..UptoSaid'. A law counts once. -/
mutual
def uptoBulk {H : Type} : DataW H → Nat
  | .lit (.string bytes) => bytes.length + 1
  | .lit _ => 1
  | .nil => 1
  | .ptr d => uptoBulk d + 1
  | .slice elems spare => uptoBulkAll elems + uptoBulkAll spare + 1
  | .agg parts => uptoBulkAll parts + 1
  | .iface _ d => uptoBulk d + 1
  | .map entries => uptoBulkEntries entries + 1
  | .held _ => 1
def uptoBulkAll {H : Type} : List (DataW H) → Nat
  | [] => 0
  | d :: r => uptoBulk d + uptoBulkAll r
def uptoBulkEntries {H : Type} : List (Lit × DataW H) → Nat
  | [] => 0
  | x :: r => uptoBulkEntry x + uptoBulkEntries r
def uptoBulkEntry {H : Type} : Lit × DataW H → Nat
  | (.string bytes, d) => bytes.length + uptoBulk d + 1
  | (_, d) => uptoBulk d + 1
 end
def uptoSmall : (H : Type) → List (DataW H) → Bool := fun _ ds => decide (uptoBulkAll ds ≤ 1048576)
def OpenSpec.upto (s : _root_.Go.ChangeSpec) : _root_.Go.OpenSpec := { _root_.Go.OpenSpec.ofChange s with cond := some uptoSmall }

/-- 'omnibuslaw09.ScanStays', WHERE WHAT IT READS IS OF BULK AT MOST 1048576: true; the input reads as it did. -/
def scanStaysUptoRow : OpenClaim := { program := "ytlmdkmflbhnlgaagreat", sum := "9cc21a839779bb7de4bd0eed5de2862cd66763431d93ddacfbac660876029e82", func := "omnibus/omnibuslaw09.ScanStays", spec := "scanStays", unfollowed := true, recurses := true, apart := false, narrowed := true }
def ScanStaysUptoSaid : Prop := scanStaysUptoRow.holds Tryz.pinned (OpenSpec.upto scanStaysSpec)

/-- 'omnibuslaw09.ScanSteps', WHERE WHAT IT READS IS OF BULK AT MOST 1048576: true; the input reads as it did. -/
def scanStepsUptoRow : OpenClaim := { program := "ytlmdkmflbhnlgaagreat", sum := "9cc21a839779bb7de4bd0eed5de2862cd66763431d93ddacfbac660876029e82", func := "omnibus/omnibuslaw09.ScanSteps", spec := "scanSteps", unfollowed := true, recurses := true, apart := false, narrowed := true }
def ScanStepsUptoSaid : Prop := scanStepsUptoRow.holds Tryz.pinned (OpenSpec.upto scanStepsSpec)

/-- 'omnibuslaw09.ScanFrames', WHERE WHAT IT READS IS OF BULK AT MOST 1048576: true; the input reads as it did. -/
def scanFramesUptoRow : OpenClaim := { program := "ytlmdkmflbhnlgaagreat", sum := "9cc21a839779bb7de4bd0eed5de2862cd66763431d93ddacfbac660876029e82", func := "omnibus/omnibuslaw09.ScanFrames", spec := "scanFrames", unfollowed := true, recurses := true, apart := false, narrowed := true }
def ScanFramesUptoSaid : Prop := scanFramesUptoRow.holds Tryz.pinned (OpenSpec.upto scanFramesSpec)

/-- 'omnibuslaw09.ScanTurns', WHERE WHAT IT READS IS OF BULK AT MOST 1048576: true; the input reads as it did. -/
def scanTurnsUptoRow : OpenClaim := { program := "ytlmdkmflbhnlgaagreat", sum := "9cc21a839779bb7de4bd0eed5de2862cd66763431d93ddacfbac660876029e82", func := "omnibus/omnibuslaw09.ScanTurns", spec := "scanTurns", unfollowed := true, recurses := true, apart := false, narrowed := true }
def ScanTurnsUptoSaid : Prop := scanTurnsUptoRow.holds Tryz.pinned (OpenSpec.upto scanTurnsSpec)

/-- 'omnibuslaw09.ScanAliens', WHERE WHAT IT READS IS OF BULK AT MOST 1048576: true; the input reads as it did. -/
def scanAliensUptoRow : OpenClaim := { program := "ytlmdkmflbhnlgaagreat", sum := "9cc21a839779bb7de4bd0eed5de2862cd66763431d93ddacfbac660876029e82", func := "omnibus/omnibuslaw09.ScanAliens", spec := "scanAliens", unfollowed := true, recurses := true, apart := false, narrowed := true }
def ScanAliensUptoSaid : Prop := scanAliensUptoRow.holds Tryz.pinned (OpenSpec.upto scanAliensSpec)

end Rows
end Go.Proofs.YtlmdkmflbhnlgaaGreat
