/- A map of numbers that the call makes: which were met. No condition. -/
import Derived.Test.YtbjeblffmgghgaaOrderAll
import Derived.Maps.Own
import Derived.Maps.Views
namespace Go.Proofs.Ytbjeblffmgghgaa
open Go.RowKit Go.Maps
theorem lawI : Keyed Try.prog 3 := int_keyed Try.underlying3
theorem zeroB (w : World) : (zeroValue 4).run Try.prog w = .ok (.bool false) w := by kernel_rfl
set_option maxRecDepth 100000 in
theorem plainB_inv {v : Value} {r : Bool} {ps : List MemPlace} (h : plainElem (H := Unit) Try.prog 4 v = some (.lit (.bool r), ps)) : v = .bool r := by
  unfold plainElem at h
  rw [Try.underlying4] at h
  cases v <;> simp at h
  rw [h.1]
/-- Block b is a map that holds true at just the numbers S. -/
def MapB (w : World) (b n : Nat) (S : List Int) : Prop :=
  ∃ D : DataW Unit, w.ownsMap Try.prog 3 (plainElem Try.prog 4) b n D ∧ IsMap D ∧ ∀ x : Int, D.atKey (.int .i64 x) (.lit (.bool false)) = .lit (.bool (decide (x ∈ S)))
theorem MapB.made (w : World) : MapB (w.alloc (.map #[] 0)) w.heap.size 0 [] := ⟨.map [], World.ownsMap_made _ _ _ _, ⟨[], rfl⟩, fun x => by simp [DataW.atKey]⟩
theorem wf_i64 {x : Int} (h0 : 0 ≤ x) (h1 : x < 1000) : (Lit.int .i64 x).wf = true := by
  have e1 : IntKind.i64.min = -9223372036854775808 := by decide
  have e2 : IntKind.i64.max = 9223372036854775807 := by decide
  simp [Lit.wf, e1, e2]
  omega
theorem MapB.lookup {w : World} {b n : Nat} {S : List Int} (h : MapB w b n S) {x : Int} (h0 : 0 ≤ x) (h1 : x < 1000) : (Instr.lookup 43 (.map (some b)) (.int .i64 x) false).run Try.prog w = .ok (.bool (decide (x ∈ S))) w := by
  obtain ⟨D, ho, -, hD⟩ := h
  obtain ⟨v, ps, hrun, hv⟩ := ho.lookup lawI Try.underlying43 (zeroB w) (plainElem_bool Try.underlying4 false) (keyOf_int_mk Try.underlying3 (wf_i64 h0 h1))
  rw [hD] at hv
  rw [hrun, plainB_inv hv]
theorem MapB.kept {w w' : World} {b n : Nat} {S : List Int} (h : MapB w b n S) (hb : Below w.heap.size w w') : MapB w' b n S := by
  obtain ⟨D, ho, hm, hD⟩ := h
  exact ⟨D, ho.kept (row := none) ⟨hb.os, hb.tape, hb.output, hb.size, fun k hk _ => hb.block k hk⟩ (by simp), hm, hD⟩
theorem MapB.put {w' : World} {b n : Nat} {S : List Int} {D : DataW Unit} {x : Int} (hm : IsMap D) (hD : ∀ x : Int, D.atKey (.int .i64 x) (.lit (.bool false)) = .lit (.bool (decide (x ∈ S))))
    (ho : w'.ownsMap Try.prog 3 (plainElem Try.prog 4) b n (D.put (.int .i64 x) (.lit (.bool true)))) : MapB w' b n (x :: S) := by
  refine ⟨_, ho, ?_, fun y => ?_⟩
  · obtain ⟨es, rfl⟩ := hm
    exact ⟨_, rfl⟩
  · by_cases e : y = x
    · subst e
      rw [atKey_put_same hm (show WideAt.IsKeyLit (.int .i64 y) from trivial)]
      simp
    · rw [atKey_put_other (by intro h; injection h with _ h; exact e h), hD]
      simp [e]
theorem wpList_putB {w : World} {ops : Array Oper} {rest : List Oper} {o : Oper} {a : Act} {Q : Exit → Act → World → Prop} (hg : o.guard = none) (m x v : Operand) (hop : o.op = Op.mapUpdate 43 m x v)
    (b n : Nat) (S : List Int) (hm : a.eval m = .map (some b)) (h : MapB w b n S) (hn : n < 1000) (p : Int) (hx : a.eval x = .int .i64 p) (hv : a.eval v = .bool true) (h0 : 0 ≤ p) (h1 : p < 1000)
    (hK : ∀ w', MapB w' b (n + 1) (p :: S) → w.grownBy w' (some b) → wpList Try.prog ops Q rest (a.put o.dst undef) w') : wpList Try.prog ops Q (o :: rest) a w := by
  obtain ⟨D, ho, him, hD⟩ := h
  exact wpList_mapUpdate_own w hg m x v 43 hop 3 4 lawI Try.underlying43 _ b n D hm ho (by unfold maxLen; omega) _ _ _ hx hv (keyOf_int_mk Try.underlying3 (wf_i64 h0 h1)) _ [] (plainElem_bool Try.underlying4 true)
    (fun w' h1 h2 => hK w' (MapB.put him hD h1) h2)
end Go.Proofs.Ytbjeblffmgghgaa
