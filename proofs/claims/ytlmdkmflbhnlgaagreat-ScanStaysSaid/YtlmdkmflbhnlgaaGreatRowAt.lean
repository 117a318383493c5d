/- Cells of a row of the call's own. No condition. -/
import Derived.Test.YtlmdkmflbhnlgaaGreatAdd
namespace Go.Proofs.YtlmdkmflbhnlgaaGreat
open Go.RowKit
theorem row_at {w W : World} {base c ga : Nat} {l : List Nat} (hrow : Row w base 5 (some ⟨ga, 0, none⟩) c (bys l)) (hW : Below w.heap.size w W) (k v : Nat) (h : l[k]? = some v) : W.cell? ⟨ga, k, none⟩ = some (.int .u8 (v : Int)) := by
  have hk : k < l.length := (List.getElem?_eq_some_iff.1 h).1
  obtain ⟨ad, e, hc⟩ := hrow.rd k (.int .u8 (v : Int)) (by rw [bys_get l k hk, (List.getElem?_eq_some_iff.1 h).2])
  injection e with e
  subst e
  refine Below.cell_of hW ?_
  rw [← hc]
  unfold Addr.add
  by_cases hk0 : k = 0 <;> simp [hk0]
theorem row_some {w : World} {base c n : Nat} {A : Option Addr} {l : List Nat} (hrow : Row w base 5 A c (bys l)) (hl : l.length = n) (hn : 0 < n) : ∃ ga, A = some ⟨ga, 0, none⟩ ∧ ga < w.heap.size ∧ n ≤ c ∧ c ≤ 9223372036854775807 := by
  obtain ⟨ga, hA⟩ := hrow.form
  rcases hA with rfl | h
  · have h0 := row_at (W := w) hrow (Below.refl _ _) 0 (l[0]'(by omega)) (by simp)
    have hcap := hrow.cap
    rw [bys_length, hl] at hcap
    exact ⟨ga, rfl, cell_lt h0, hcap, hrow.capm⟩
  · rw [bys_length] at h; omega
theorem calls_name {P : Program} {f : FuncId} {args : Array Value} {W : World} {R : Ending → World → Prop} {T : World → Prop} (hT : T W) (h : ∀ W0, T W0 → Calls P f args W0 R) : Calls P f args W R := h W hT
end Go.Proofs.YtlmdkmflbhnlgaaGreat
