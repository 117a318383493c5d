/- Runs of a raw row up to a bound; fixed stuffing's runs, and where two stuffed rows first differ: plain laws of lists. No condition. -/
import Derived.Test.YtaknddanggdplaaPFirst
namespace Go.Proofs.Ytaknddanggdplaa
open Go.RowKit
/-- No run is longer than M. -/
def runsM (M : Nat) : Nat → Nat → List Nat → Bool
  | _, _, [] => true
  | last, run, b :: l => decide (seeN last run b ≤ M) && runsM M b (seeN last run b) l
theorem runsM_append (M : Nat) (a b : List Nat) : ∀ last run, runsM M last run (a ++ b) = (runsM M last run a && runsM M (rawE last run a).1 (rawE last run a).2 b) := by
  induction a with
  | nil => intro last run; simp [runsM, rawE]
  | cons x a ih => intro last run; simp only [List.cons_append, runsM, rawE]; rw [ih, Bool.and_assoc]
theorem runsM_of (M : Nat) (h : 5 ≤ M) (l : List Nat) : ∀ last run, runsB last run l = true → runsM M last run l = true := by
  induction l with
  | nil => intro _ _ _; rfl
  | cons x l ih =>
    intro last run h1
    simp only [runsB, Bool.and_eq_true, decide_eq_true_eq] at h1
    simp only [runsM, Bool.and_eq_true, decide_eq_true_eq]
    exact ⟨by omega, ih _ _ h1.2⟩
theorem runsM_at (M : Nat) (l : List Nat) (h : runsM M 0 0 l = true) (k : Nat) (hk : k < l.length) : seeN (rawE 0 0 (l.take k)).1 (rawE 0 0 (l.take k)).2 l[k] ≤ M := by
  have e : l = l.take k ++ (l[k] :: l.drop (k + 1)) := by rw [← List.drop_eq_getElem_cons hk, List.take_append_drop]
  rw [e, runsM_append] at h
  simp only [Bool.and_eq_true, runsM, decide_eq_true_eq] at h
  exact h.2.1
/-- How many bits are left ahead of the next stuff bit, behind so many. -/
def leftE (every : Nat) : Nat → Nat → Nat
  | left, 0 => left
  | left, n + 1 => leftE every (if left = 0 then every - 1 else left - 1) n
/-- Fixed stuffing: a run has at most (every + 1) bits, less those that are left ahead of the next stuff bit. -/
theorem fix_runs (every : Nat) (he : 2 ≤ every) (l : List Nat) (h01 : ∀ x ∈ l, x ≤ 1) : ∀ last run left, last ≤ 1 → run + left ≤ every + 1 → left ≤ every →
    runsM (every + 1) last run (fixE every last left l) = true ∧ (rawE last run (fixE every last left l)).2 + leftE every left l.length ≤ every + 1 ∧ (rawE last run (fixE every last left l)).1 ≤ 1 := by
  induction l with
  | nil => intro last run left h1 h2 _; exact ⟨rfl, by simpa [fixE, rawE, leftE] using h2, by simpa [fixE, rawE] using h1⟩
  | cons x l ih =>
    intro last run left h1 h2 h3
    have hx := h01 x (by simp)
    have ih' := ih (fun z hz => h01 z (by simp [hz]))
    by_cases h0 : left = 0
    · subst h0
      have e : seeN last run (1 - last) = 1 := by unfold seeN; rw [if_neg (by omega)]
      have hs := seeN_le (1 - last) 1 x
      obtain ⟨i1, i2, i3⟩ := ih' x (seeN (1 - last) 1 x) (every - 1) hx (by omega) (by omega)
      rw [fixE, if_pos rfl]
      simp only [runsM, rawE, e, List.length_cons, leftE, if_true]
      refine ⟨?_, i2, i3⟩
      rw [i1]; simp; omega
    · have hs := seeN_le last run x
      obtain ⟨i1, i2, i3⟩ := ih' x (seeN last run x) (left - 1) hx (by omega) (by omega)
      rw [fixE, if_neg h0]
      simp only [runsM, rawE, List.length_cons, leftE, if_neg h0]
      refine ⟨?_, i2, i3⟩
      rw [i1]; simp; omega
theorem fixE_diff (every : Nat) (p a b : List Nat) (x y : Nat) : ∀ last left, ∃ q a' b', fixE every last left (p ++ x :: a) = q ++ x :: a' ∧ fixE every last left (p ++ y :: b) = q ++ y :: b' := by
  induction p with
  | nil =>
    intro last left
    simp only [List.nil_append, fixE]
    by_cases h0 : left = 0
    · rw [if_pos h0, if_pos h0]; exact ⟨[1 - last], _, _, rfl, rfl⟩
    · rw [if_neg h0, if_neg h0]; exact ⟨[], _, _, rfl, rfl⟩
  | cons z p ih =>
    intro last left
    simp only [List.cons_append, fixE]
    by_cases h0 : left = 0
    · obtain ⟨q, a', b', h1, h2⟩ := ih z (every - 1)
      rw [if_pos h0, if_pos h0, h1, h2]; exact ⟨(1 - last) :: z :: q, a', b', rfl, rfl⟩
    · obtain ⟨q, a', b', h1, h2⟩ := ih z (left - 1)
      rw [if_neg h0, if_neg h0, h1, h2]; exact ⟨z :: q, a', b', rfl, rfl⟩
theorem Diff.fixed {l m : List Nat} (h : Diff l m) (every : Nat) (ah : Bool) (prev : Nat) : Diff (fixN every ah prev l) (fixN every ah prev m) := by
  obtain ⟨p, a, b, x, y, rfl, rfl, h3⟩ := h
  obtain ⟨q, a', b', h1, h2⟩ := fixE_diff every p a b x y prev (if ah then 0 else every)
  exact ⟨q, a', b', x, y, h1, h2, h3⟩
theorem bitsN_diff (k n m : Nat) (hn : n < 2 ^ k) (hm : m < 2 ^ k) (h : n ≠ m) : Diff (bitsN n k) (bitsN m k) := by
  obtain ⟨p, a, b, x, y, h1, h2, h3, -⟩ := bitsN_first k n m hn hm h
  exact ⟨p, a, b, x, y, h1, h2, h3⟩
/-- How long the runs of a raw row get: at most M, and at most five among its first n bits. -/
def SeeOk (M n : Nat) (ra : List Nat) : Prop := ∀ k (hk : k < ra.length), seeN (rawE 0 0 (ra.take k)).1 (rawE 0 0 (ra.take k)).2 ra[k] ≤ M ∧ (k < n → seeN (rawE 0 0 (ra.take k)).1 (rawE 0 0 (ra.take k)).2 ra[k] ≤ 5)
/-- What a frame's numbers are. -/
structure FrN (f : Fr) : Prop where
  id0 : 0 ≤ f.id
  sdt : 0 ≤ f.sdt ∧ f.sdt < 256
  vcid : 0 ≤ f.vcid ∧ f.vcid < 256
  af : 0 ≤ f.af ∧ f.af < 4294967296
  data : isBytes f.data
theorem diff_apart {l m : List Nat} (h : Diff l m) : diffB l m (min l.length m.length) = true := by
  obtain ⟨j, x, y, h1, h2, h3⟩ := h.at
  have j1 := (List.getElem?_eq_some_iff.1 h1).1
  have j2 := (List.getElem?_eq_some_iff.1 h2).1
  unfold diffB
  exact List.any_eq_true.2 ⟨j, List.mem_range.2 (by omega), by rw [h1, h2]; simp [h3]⟩
theorem same_apart (l : List Nat) (k : Nat) : diffB l l k = false := by
  unfold diffB
  exact List.any_eq_false.2 (by simp)
end Go.Proofs.Ytaknddanggdplaa
