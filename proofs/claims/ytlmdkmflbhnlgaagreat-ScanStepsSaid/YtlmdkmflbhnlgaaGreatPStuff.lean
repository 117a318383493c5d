/- Stuffing as a law of lists: runs, lengths, and where two rows first differ. No condition. -/
import Derived.Test.YtlmdkmflbhnlgaaGreatBitsN
namespace Go.Proofs.YtlmdkmflbhnlgaaGreat
open Go.RowKit
/-- The run behind one bit more. -/
def seeN (last run x : Nat) : Nat := if 0 < run ∧ last = x then run + 1 else 1
def stf : Nat → Nat → List Nat → List Nat
  | _, _, [] => []
  | last, run, b :: l => if run = 5 then (1 - last) :: b :: stf b (seeN (1 - last) 1 b) l else b :: stf b (seeN last run b) l
/-- The state of the raw row behind a list. -/
def stE : Nat → Nat → List Nat → Nat × Nat
  | last, run, [] => (last, run)
  | last, run, b :: l => if run = 5 then stE b (seeN (1 - last) 1 b) l else stE b (seeN last run b) l
/-- Bits with stuff bits. -/
def stuffN (l : List Nat) : List Nat := stf 0 0 l
theorem seeN_le (last run x : Nat) : seeN last run x ≤ run + 1 := by unfold seeN; split <;> omega
theorem seeN_pos (last run x : Nat) : 1 ≤ seeN last run x := by unfold seeN; split <;> omega
theorem stf_append (a b : List Nat) : ∀ last run, stf last run (a ++ b) = stf last run a ++ stf (stE last run a).1 (stE last run a).2 b := by
  induction a with
  | nil => intro last run; rfl
  | cons x a ih =>
    intro last run
    simp only [List.cons_append, stf, stE]
    split <;> rw [ih] <;> rfl
theorem stE_append (a b : List Nat) : ∀ last run, stE last run (a ++ b) = stE (stE last run a).1 (stE last run a).2 b := by
  induction a with
  | nil => intro last run; rfl
  | cons x a ih =>
    intro last run
    simp only [List.cons_append, stE]
    split <;> rw [ih]
theorem stE_le (l : List Nat) : ∀ last run, run ≤ 5 → (stE last run l).2 ≤ 5 := by
  induction l with
  | nil => intro last run h; exact h
  | cons x l ih =>
    intro last run h
    simp only [stE]
    split
    · exact ih _ _ (by have := seeN_le (1 - last) 1 x; omega)
    · exact ih _ _ (by have := seeN_le last run x; omega)
theorem stf_len (l : List Nat) : ∀ last run, run ≤ 5 → l ≠ [] → 4 * (stf last run l).length + 1 ≤ 5 * l.length + run := by
  induction l with
  | nil => intro _ _ _ h; exact absurd rfl h
  | cons x l ih =>
    intro last run h _
    simp only [stf]
    by_cases hl : l = []
    · subst hl
      split <;> simp [stf] <;> omega
    · split
      · have h1 := seeN_le (1 - last) 1 x
        have := ih x (seeN (1 - last) 1 x) (by omega) hl
        simp only [List.length_cons]; omega
      · have h1 := seeN_le last run x
        have := ih x (seeN last run x) (by omega) hl
        simp only [List.length_cons]; omega
theorem stf_ge (l : List Nat) : ∀ last run, l.length ≤ (stf last run l).length := by
  induction l with
  | nil => intro _ _; simp
  | cons x l ih =>
    intro last run
    simp only [stf]
    split
    · have := ih x (seeN (1 - last) 1 x); simp only [List.length_cons]; omega
    · have := ih x (seeN last run x); simp only [List.length_cons]; omega
theorem stuffN_len (l : List Nat) (h : l ≠ []) : (stuffN l).length ≤ l.length + (l.length - 1) / 4 := by
  have := stf_len l 0 0 (by omega) h
  unfold stuffN; omega
theorem stuffN_le (l : List Nat) : (stuffN l).length ≤ l.length + l.length / 4 := by
  by_cases h : l = []
  · subst h; simp [stuffN, stf]
  · have := stuffN_len l h; omega
theorem stuffN_ge (l : List Nat) : l.length ≤ (stuffN l).length := stf_ge l 0 0
theorem stf_bits (l : List Nat) (hl : ∀ x ∈ l, x ≤ 1) : ∀ last run, ∀ x ∈ stf last run l, x ≤ 1 := by
  induction l with
  | nil => intro _ _ x hx; simp [stf] at hx
  | cons b l ih =>
    intro last run x hx
    have hb := hl b (by simp)
    have hl' : ∀ x ∈ l, x ≤ 1 := fun x hx => hl x (by simp [hx])
    simp only [stf] at hx
    split at hx
    · simp only [List.mem_cons] at hx
      rcases hx with rfl | rfl | hx
      · omega
      · exact hb
      · exact ih hl' _ _ x hx
    · simp only [List.mem_cons] at hx
      rcases hx with rfl | hx
      · exact hb
      · exact ih hl' _ _ x hx
theorem stuffN_bits (l : List Nat) (hl : ∀ x ∈ l, x ≤ 1) : ∀ x ∈ stuffN l, x ≤ 1 := stf_bits l hl 0 0
theorem stf_diff (p a b : List Nat) (x y : Nat) : ∀ last run, ∃ q a' b', stf last run (p ++ x :: a) = q ++ x :: a' ∧ stf last run (p ++ y :: b) = q ++ y :: b' := by
  induction p with
  | nil =>
    intro last run
    simp only [List.nil_append, stf]
    split
    · exact ⟨[1 - last], _, _, rfl, rfl⟩
    · exact ⟨[], _, _, rfl, rfl⟩
  | cons z p ih =>
    intro last run
    simp only [List.cons_append, stf]
    split
    · obtain ⟨q, a', b', h1, h2⟩ := ih z (seeN (1 - last) 1 z)
      exact ⟨(1 - last) :: z :: q, a', b', by rw [h1]; rfl, by rw [h2]; rfl⟩
    · obtain ⟨q, a', b', h1, h2⟩ := ih z (seeN last run z)
      exact ⟨z :: q, a', b', by rw [h1]; rfl, by rw [h2]; rfl⟩
/-- Runs of a raw row: none is longer than five. -/
def runsB : Nat → Nat → List Nat → Bool
  | _, _, [] => true
  | last, run, b :: l => decide (seeN last run b ≤ 5) && runsB b (seeN last run b) l
theorem stf_runs (l : List Nat) : ∀ last run, run ≤ 5 → runsB last run (stf last run l) = true := by
  induction l with
  | nil => intro _ _ _; rfl
  | cons b l ih =>
    intro last run h
    simp only [stf]
    split
    · have e : seeN last run (1 - last) = 1 := by unfold seeN; rw [if_neg (by omega)]
      have h1 := seeN_le (1 - last) 1 b
      simp only [runsB, e]
      rw [ih _ _ (by omega)]
      simp; omega
    · have h1 := seeN_le last run b
      simp only [runsB]
      rw [ih _ _ (by omega)]
      simp; omega
theorem stuffN_runs (l : List Nat) : runsB 0 0 (stuffN l) = true := stf_runs l 0 0 (by omega)
/-- The state of a raw row. -/
def rawE : Nat → Nat → List Nat → Nat × Nat
  | last, run, [] => (last, run)
  | last, run, b :: l => rawE b (seeN last run b) l
theorem rawE_append (a b : List Nat) : ∀ last run, rawE last run (a ++ b) = rawE (rawE last run a).1 (rawE last run a).2 b := by
  induction a with
  | nil => intro last run; rfl
  | cons x a ih => intro last run; simp only [List.cons_append, rawE]; rw [ih]
theorem rawE_stf (l : List Nat) : ∀ last run, run ≤ 5 → rawE last run (stf last run l) = stE last run l := by
  induction l with
  | nil => intro _ _ _; rfl
  | cons b l ih =>
    intro last run h
    simp only [stf, stE]
    split
    · have e : seeN last run (1 - last) = 1 := by unfold seeN; rw [if_neg (by omega)]
      have h1 := seeN_le (1 - last) 1 b
      simp only [rawE, e]
      exact ih _ _ (by omega)
    · have h1 := seeN_le last run b
      simp only [rawE]
      exact ih _ _ (by omega)
theorem runsB_append (a b : List Nat) : ∀ last run, runsB last run (a ++ b) = (runsB last run a && runsB (rawE last run a).1 (rawE last run a).2 b) := by
  induction a with
  | nil => intro last run; simp [runsB, rawE]
  | cons x a ih => intro last run; simp only [List.cons_append, runsB, rawE]; rw [ih, Bool.and_assoc]
/-- How a raw row ends. -/
def Tails (last run : Nat) (out : List Nat) : Prop := (run = 0 ∧ out = []) ∨ (1 ≤ run ∧ ∃ pre, out = pre ++ List.replicate run last ∧ ∀ p y, pre = p ++ [y] → y ≠ last)
theorem Tails.see {last run : Nat} {out : List Nat} (h : Tails last run out) (b : Nat) : Tails b (seeN last run b) (out ++ [b]) := by
  right
  refine ⟨seeN_pos _ _ _, ?_⟩
  rcases h with ⟨rfl, rfl⟩ | ⟨h1, pre, rfl, hp⟩
  · exact ⟨[], by simp [seeN], fun p y h => by simp at h⟩
  · by_cases e : last = b
    · subst e
      refine ⟨pre, ?_, hp⟩
      have : seeN last run last = run + 1 := by unfold seeN; rw [if_pos ⟨by omega, rfl⟩]
      rw [this, List.replicate_succ', List.append_assoc]
    · have : seeN last run b = 1 := by unfold seeN; rw [if_neg (by simp [e])]
      rw [this]
      refine ⟨pre ++ List.replicate run last, by simp, fun p y h => ?_⟩
      obtain ⟨r, rfl⟩ : ∃ r, run = r + 1 := ⟨run - 1, by omega⟩
      rw [List.replicate_succ', ← List.append_assoc] at h
      have := List.append_inj_right' h rfl
      simp at this
      omega
theorem Tails.full {last run : Nat} {out : List Nat} (h : Tails last run out) (h5 : run ≤ 5) : run = 5 ↔ (5 ≤ out.length ∧ ∀ j, j < 5 → out[out.length - 1 - j]? = out[out.length - 1]?) := by
  rcases h with ⟨rfl, rfl⟩ | ⟨h1, pre, rfl, hp⟩
  · simp
  · have hlast : ∀ j, j < run → (pre ++ List.replicate run last)[(pre ++ List.replicate run last).length - 1 - j]? = some last := by
      intro j hj
      rw [List.getElem?_append_right (by simp; omega), List.getElem?_replicate, if_pos (by simp; omega)]
    constructor
    · rintro rfl
      refine ⟨by simp, fun j hj => ?_⟩
      have h0 := hlast 0 (by omega)
      rw [Nat.sub_zero] at h0
      rw [hlast j hj, h0]
    · rintro ⟨h6, h7⟩
      refine Classical.byContradiction fun hne => ?_
      have hr : run < 5 := by omega
      rcases List.eq_nil_or_concat pre with rfl | ⟨p, y, hpre⟩
      · simp at h6; omega
      · rw [List.concat_eq_append] at hpre
        subst hpre
        have h8 := h7 run hr
        have h9 := hlast 0 (by omega)
        rw [Nat.sub_zero] at h9
        rw [h9] at h8
        have hy := hp p y rfl
        rw [List.getElem?_append_left (by simp)] at h8
        have e : (p ++ [y] ++ List.replicate run last).length - 1 - run = p.length := by simp
        rw [e, List.getElem?_append_right (by omega)] at h8
        simp at h8
        exact hy h8
end Go.Proofs.YtlmdkmflbhnlgaaGreat
