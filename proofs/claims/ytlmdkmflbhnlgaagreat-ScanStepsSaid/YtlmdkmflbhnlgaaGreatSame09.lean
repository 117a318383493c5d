/- The document's Same of what rows are, at equal ones. No condition. -/
import Derived.Test.YtlmdkmflbhnlgaaGreatSameRef
import Derived.Test.YtlmdkmflbhnlgaaGreatScanE
namespace Go.Proofs.YtlmdkmflbhnlgaaGreat
open Go.RowKit
set_option maxRecDepth 100000 in
set_option maxHeartbeats 4000000 in
theorem Same09_any (k e : Nat) (f : Fr) (A B : Option Addr) (c d : Nat) (w : World) (ha : Rd w A (bys f.data)) (hb : Rd w B (bys f.data)) (hl : f.data.length ≤ 9223372036854775807) :
    Calls Tryz.prog 11 #[.agg (stL k e f A c).toArray, .agg (stL k e f B d).toArray] w fun e w' => e = .returned (.bool true) ∧ Below w.heap.size w w' := by
  have HS := Lib.hid (fun W hW1 hW2 => Same05_any f A B c d W hW1 hW2 hl)
  have HA := Lib.hid ha
  have HB := Lib.hid hb
  obtain ⟨fk, fi, fe, fr, f4, f5, f6, f7, f8, f9, data⟩ := f
  dsimp only [frv, stL] at *
  clear ha hb
  go_enter Tryz.func11, Tryz.ntmps11
  go_wp2_with fail
  refine (HS.out _ ((HA.out.alloc _).alloc _) ((HB.out.alloc _).alloc _)).mono ?_
  rintro e w' ⟨rfl, hb⟩
  have HBB := Lib.hid (below_trans (below_alloc (below_alloc (Below.refl _ _) _) _) hb)
  clear hb
  go_wp2_with fail
  go_ret
  exact ⟨by first | rfl | simp, HBB.out⟩
end Go.Proofs.YtlmdkmflbhnlgaaGreat
