/- A region that draws its order, of plain operations, in a round of a loop over a function: one walk in the text's order. No condition. -/
import Derived.Test.YtaknddanggdplaaGet
import Derived.StillTailTactics
import Derived.RangeFuncNested
import Derived.RangeFuncBound
import Derived.RangeFuncCalls
import Derived.RangeFuncLeaves
import Derived.OwnWalkIn
import Derived.TacticsInMore
import Derived.LoopNIn
import Derived.LoopIn
namespace Go.Proofs.Ytaknddanggdplaa
open Go Go.RowKit
/-- An operation that calls nothing and defers nothing. -/
def plainB : Op → Bool
  | .move _ | .assign _ | .load _ _ | .store _ _ _ | .binOp _ _ _ _ _ | .convert _ _ _ | .fieldAddr _ _ _ | .indexAddr _ _ _ => true
  | _ => false
section
variable {F : Fence} {n : Nat} {P : Program} {ops : Array Oper} {md : Region.Mode}
theorem value_noenter {s : Sem Value} {w w' : World} {f : FuncId} {args : Array Value} : ((do let x ← s; pure (Next.value x)) : Sem Next).run P w ≠ .ok (.enter f args) w' := by
  rw [Sem.run_bind]
  cases s.run P w with
  | ok v w1 => simp [Result.andThen]
  | halt h w1 => simp [Result.andThen]
theorem skip_noenter {s : Sem Unit} {w w' : World} {f : FuncId} {args : Array Value} : ((do s; pure Next.skip) : Sem Next).run P w ≠ .ok (.enter f args) w' := by
  rw [Sem.run_bind]
  cases s.run P w with
  | ok v w1 => simp [Result.andThen]
  | halt h w1 => simp [Result.andThen]
theorem plain_noenter {o : Oper} (h : plainB o.op = true) (ρ : Operand → Value) (w w' : World) (f : FuncId) (args : Array Value) : (execOp ρ o).run P w ≠ .ok (.enter f args) w' := by
  unfold execOp
  cases ho : o.op <;> rw [ho] at h <;> simp only [plainB] at h <;> first | exact absurd h (by decide) | skip
  all_goals first
    | exact value_noenter
    | exact skip_noenter
    | simp
theorem plain_about {o : Oper} (h : plainB o.op = true) (w : World) (ρ : Operand → Value) : o.about P w ρ = none := by
  unfold Oper.about
  cases ho : o.op <;> rw [ho] at h <;> simp only [plainB] at h <;> first | exact absurd h (by decide) | rfl
theorem plain_defer {o : Oper} (h : plainB o.op = true) (c : Call) : o.op ≠ .defer c := by
  intro e; rw [e] at h; simp [plainB] at h
theorem wpIn_of_still {o : Oper} {a : Act} {w : World} {K : Act → Prop} {K' : Act → World → Prop} {Q' : Exit → Act → World → Prop} (hp : plainB o.op = true) (h : ∀ a, K a → K' a w) (hh : o.still P a w K) : o.wpIn F n P a w K' Q' := by
  refine ⟨fun f hf => (by rw [plain_about hp] at hf; cases hf), ?_⟩
  rw [Oper.semAt_eq _ _ _ (plain_defer hp)]
  have hne := plain_noenter (P := P) hp a.eval w
  unfold Oper.still at hh
  generalize (execOp a.eval o).run P w = r at *
  cases r with
  | ok x w' =>
    cases x <;> simp only [Oper.stillUpon] at hh <;> simp only [Oper.uponIn]
    case enter f args => exact absurd rfl (hne w' f args)
    all_goals (obtain ⟨rfl, h2⟩ := hh; exact h _ h2)
  | halt x w' => simp only [Oper.stillUpon] at hh
theorem wpOpIn_of_stOp {i : Nat} {a : Act} {w : World} {K : Act → Prop} {K' : Act → World → Prop} {Q' : Exit → Act → World → Prop} (hp : ∀ (j : Nat) (o : Oper), ops[j]? = some o → plainB o.op = true) (h : ∀ a, K a → K' a w) (hh : stOp P ops w i K a) : wpOpIn F n P ops Q' i K' a w := by
  unfold stOp at hh
  unfold wpOpIn
  split
  · rename_i ho; simp only [ho] at hh; exact h _ hh
  · rename_i o ho
    simp only [ho] at hh
    split
    · rename_i hw; simp only [hw, if_true] at hh; exact wpIn_of_still (hp i o ho) h hh
    · rename_i hw; simp only [hw] at hh
      exact ⟨fun f hf => (by rw [plain_about (hp i o ho)] at hf; cases hf), h _ hh⟩
theorem wpAnyIn_of_head {k g : Nat} {w : World} {L : Array Bool → Act → Prop} {Q' : Exit → Act → World → Prop} (hp : ∀ (j : Nat) (o : Oper), ops[j]? = some o → plainB o.op = true) (hL : ∀ listed a, L listed a → wpAnyIn F n P md ops Q' g listed a w) :
    ∀ (f : Nat) (listed : Array Bool) (a : Act), wpAnyL P md ops w k L f listed a → wpAnyIn F n P md ops Q' (f + g) listed a w
  | 0, listed, a, h => by rw [Nat.zero_add]; exact hL _ _ h
  | f + 1, listed, a, h => by
    rw [show f + 1 + g = (f + g) + 1 by omega]
    exact ⟨fun h0 => absurd h0 h.1, fun i hi => wpOpIn_of_stOp hp (fun a' h' => wpAnyIn_of_head hp hL f _ a' h') (h.2 i hi).2⟩
theorem wpOpIn_mono' {i : Nat} {a : Act} {w : World} {K K' : Act → World → Prop} {Q : Exit → Act → World → Prop} (h : ∀ a w, K a w → K' a w) (hh : wpOpIn F n P ops Q i K a w) : wpOpIn F n P ops Q i K' a w := wpOpIn_mono h hh
theorem wpAnyIn_of_seq {Q' : Exit → Act → World → Prop} : ∀ (l : List Oper) (k : Nat) (listed : Array Bool) (a : Act) (w : World), (∀ j, l[j]? = ops[k + j]?) →
    Region.seqB md ops l.length k listed = true → wpListIn F n P ops Q' l a w → wpAnyIn F n P md ops Q' l.length listed a w
  | [], _, _, _, _, _, hB, h => ⟨by simpa [Region.seqB] using hB, h⟩
  | o :: l, k, listed, a, w, hl, hB, h => by
    have h0 : ops[k]? = some o := by simpa using (hl 0).symm
    simp only [List.length_cons, Region.seqB, Bool.and_eq_true, decide_eq_true_eq] at hB
    refine ⟨fun h1 => (by rw [hB.1] at h1; cases h1), fun i hi => ?_⟩
    rw [hB.1] at hi
    have hik : i = k := by simpa using hi
    subst hik
    have hw : wpOpIn F n P ops Q' i (wpListIn F n P ops Q' l) a w := by unfold wpOpIn; simp only [h0]; exact h
    exact wpOpIn_mono (fun a' w' h' => wpAnyIn_of_seq l (i + 1) _ a' w' (fun j => by have := hl (j + 1); simpa [Nat.add_assoc, Nat.add_comm 1 j] using this) hB.2 h') hw
theorem wpIn_region_still_tail {id : Nat} {Q : Exit → Act → World → Prop} {a : Act} {w : World} {l : List Oper} (k : Nat) (hp : (l.all fun o => plainB o.op) = true) (hm : P.follows .mixedOrders = true) (hB : Region.lexTailB .any l.toArray k = true)
    (h : wpStill P l.toArray w.drew (fun a' => wpListIn F n P l.toArray Q (l.drop k) a' w.drew) (l.take k) a) : (Code.region id l.toArray true).wpIn F n P Q a w := by
  have hp' : ∀ (j : Nat) (o : Oper), l.toArray[j]? = some o → plainB o.op = true := fun j o ho => by
    have : o ∈ l := List.mem_of_getElem? (i := j) (by simpa using ho)
    exact List.all_eq_true.1 hp o this
  simp only [Region.lexTailB, Bool.and_eq_true, decide_eq_true_eq] at hB
  obtain ⟨⟨⟨⟨hsel, hn⟩, hs⟩, hc⟩, hlex⟩ := hB
  have hn' : k < l.length := by simpa using hn
  have htl : (l.take k).length = k := by simp; omega
  have hdl : (l.drop k).length = l.toArray.size - k := by simp
  have inv0 : HeadInv .any l.toArray k (Array.replicate l.toArray.size false) :=
    ⟨by simp, fun j oj _ hl => (by rw [getD_replicate_false] at hl; cases hl), fun t _ ht => getD_in (by simpa using ht) (getD_replicate_false _ _)⟩
  have H := wpAnyL_lex (md := .any) (g := l.toArray.size - k) hsel hs hc hn (l.take k) 0 _ a (fun j hj => by
    have hj' : j < k := by rw [htl] at hj; exact hj
    simp [hj']) (by simpa using htl) inv0 (by rw [htl]; exact hlex) h
  refine wpIn_region_any hm ?_
  have := wpAnyIn_of_head (F := F) (n := n) (Q' := Q) (g := l.toArray.size - k) hp' (fun listed a' hL => by
    have := wpAnyIn_of_seq (F := F) (n := n) (md := .any) (Q' := Q) (l.drop k) k listed a' w.drew (fun j => by simp [List.getElem?_drop]) (by rw [hdl]; exact hL.1) hL.2
    rwa [hdl] at this) _ _ _ H
  rw [htl, show k + (l.toArray.size - k) = l.toArray.size by omega] at this
  exact this
end
end Go.Proofs.Ytaknddanggdplaa
