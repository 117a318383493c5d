/- Where two rows of bits first differ; runs, bit by bit: plain laws of lists. No condition. -/
import Derived.Test.YtlmdkmflbhnlgaaGreatPStuff
import Derived.Test.YtlmdkmflbhnlgaaGreatPFixed
import Derived.Test.YtlmdkmflbhnlgaaGreatBytes
import Derived.Test.YtlmdkmflbhnlgaaGreatSame
namespace Go.Proofs.YtlmdkmflbhnlgaaGreat
open Go.RowKit
theorem bitsN_mod (n k : Nat) : bitsN n k = bitsN (n % 2 ^ k) k := by
  have h : ∀ j, j ≤ k → bitsN n j = bitsN (n % 2 ^ k) j := by
    intro j
    induction j with
    | zero => intro _; rfl
    | succ j ih =>
      intro hj
      simp only [bitsN]
      rw [ih (by omega)]
      congr 1
      obtain ⟨m, rfl⟩ : ∃ m, k = j + (m + 1) := ⟨k - (j + 1), by omega⟩
      rw [Nat.pow_add, Nat.mod_mul_right_div_self, Nat.pow_succ, Nat.mul_comm (2 ^ m) 2, Nat.mod_mul_right_mod]
  exact h k (Nat.le_refl k)
/-- Where two numbers' bits first differ. -/
theorem bitsN_first (k : Nat) : ∀ n m : Nat, n < 2 ^ k → m < 2 ^ k → n ≠ m → ∃ p a b x y, bitsN n k = p ++ x :: a ∧ bitsN m k = p ++ y :: b ∧ x ≠ y ∧ (x = 0 ↔ n < m) ∧ x ≤ 1 ∧ y ≤ 1 := by
  induction k with
  | zero => intro n m hn hm hne; simp at hn hm; omega
  | succ k ih =>
    intro n m hn hm hne
    have hp : 0 < 2 ^ k := Nat.two_pow_pos _
    rw [Nat.pow_succ] at hn hm
    have hn1 : n / 2 ^ k < 2 := Nat.div_lt_of_lt_mul (by omega)
    have hm1 : m / 2 ^ k < 2 := Nat.div_lt_of_lt_mul (by omega)
    have en := Nat.div_add_mod n (2 ^ k)
    have em := Nat.div_add_mod m (2 ^ k)
    have rn := Nat.mod_lt n hp
    have rm := Nat.mod_lt m hp
    by_cases he : n / 2 ^ k = m / 2 ^ k
    · have hne2 : n % 2 ^ k ≠ m % 2 ^ k := by intro h; rw [he] at en; omega
      obtain ⟨p, a, b, x, y, h1, h2, h3, h4, h5, h6⟩ := ih (n % 2 ^ k) (m % 2 ^ k) rn rm hne2
      refine ⟨(n / 2 ^ k % 2) :: p, a, b, x, y, ?_, ?_, h3, ?_, h5, h6⟩
      · simp only [bitsN]; rw [bitsN_mod n k, h1]; rfl
      · simp only [bitsN]; rw [bitsN_mod m k, h2, he]; rfl
      · rw [h4]; rw [he] at en; omega
    · refine ⟨[], bitsN n k, bitsN m k, n / 2 ^ k % 2, m / 2 ^ k % 2, rfl, rfl, ?_, ?_, by omega, by omega⟩
      · rw [Nat.mod_eq_of_lt hn1, Nat.mod_eq_of_lt hm1]; exact he
      · rw [Nat.mod_eq_of_lt hn1]
        generalize n / 2 ^ k = u at *
        generalize m / 2 ^ k = v at *
        obtain rfl | rfl : u = 0 ∨ u = 1 := by omega
        · obtain rfl : v = 1 := by omega
          simp at en em
          constructor <;> intro <;> omega
        · obtain rfl : v = 0 := by omega
          simp at en em
          constructor <;> intro h <;> omega
theorem bitsN_inj (k n m : Nat) (hn : n < 2 ^ k) (hm : m < 2 ^ k) (h : bitsN n k = bitsN m k) : n = m := by
  refine Classical.byContradiction fun hne => ?_
  obtain ⟨p, a, b, x, y, h1, h2, h3, -⟩ := bitsN_first k n m hn hm hne
  rw [h1, h2] at h
  have := List.append_cancel_left h
  simp at this
  exact h3 this.1
/-- Two rows that differ first at one place, of which the first one has the dominant bit just if P. -/
def First (P : Prop) (l m : List Nat) : Prop := ∃ p a b x y, l = p ++ x :: a ∧ m = p ++ y :: b ∧ x ≠ y ∧ (x = 0 ↔ P) ∧ x ≤ 1 ∧ y ≤ 1
theorem First.behind {P : Prop} {l m : List Nat} (h : First P l m) (c d : List Nat) : First P (l ++ c) (m ++ d) := by
  obtain ⟨p, a, b, x, y, rfl, rfl, r⟩ := h
  exact ⟨p, a ++ c, b ++ d, x, y, by simp, by simp, r⟩
theorem First.ahead {P : Prop} {l m : List Nat} (h : First P l m) (c : List Nat) : First P (c ++ l) (c ++ m) := by
  obtain ⟨p, a, b, x, y, rfl, rfl, r⟩ := h
  exact ⟨c ++ p, a, b, x, y, by simp, by simp, r⟩
theorem First.stuffed {P : Prop} {l m : List Nat} (h : First P l m) : First P (stuffN l) (stuffN m) := by
  obtain ⟨p, a, b, x, y, rfl, rfl, r⟩ := h
  obtain ⟨q, a', b', h1, h2⟩ := stf_diff p a b x y 0 0
  exact ⟨q, a', b', x, y, h1, h2, r⟩
theorem First.iff {P Q : Prop} {l m : List Nat} (h : First P l m) (e : P ↔ Q) : First Q l m := by
  obtain ⟨p, a, b, x, y, h1, h2, h3, h4, h5, h6⟩ := h
  exact ⟨p, a, b, x, y, h1, h2, h3, h4.trans e, h5, h6⟩
/-- The place. -/
theorem First.at {P : Prop} {l m : List Nat} (h : First P l m) : ∃ j, j < l.length ∧ j < m.length ∧ (∀ i, i < j → l[i]? = m[i]?) ∧ ∃ x y, l[j]? = some x ∧ m[j]? = some y ∧ x ≠ y ∧ (x = 0 ↔ P) := by
  obtain ⟨p, a, b, x, y, rfl, rfl, h3, h4, -⟩ := h
  refine ⟨p.length, by simp, by simp, fun i hi => ?_, x, y, by simp, by simp, h3, h4⟩
  rw [List.getElem?_append_left hi, List.getElem?_append_left hi]
/-- Two rows that differ at a place within both. -/
def Diff (l m : List Nat) : Prop := ∃ p a b x y, l = p ++ x :: a ∧ m = p ++ y :: b ∧ x ≠ y
theorem First.diff {P : Prop} {l m : List Nat} (h : First P l m) : Diff l m := by
  obtain ⟨p, a, b, x, y, h1, h2, h3, -⟩ := h
  exact ⟨p, a, b, x, y, h1, h2, h3⟩
theorem Diff.behind {l m : List Nat} (h : Diff l m) (c d : List Nat) : Diff (l ++ c) (m ++ d) := by
  obtain ⟨p, a, b, x, y, rfl, rfl, r⟩ := h
  exact ⟨p, a ++ c, b ++ d, x, y, by simp, by simp, r⟩
theorem Diff.ahead {l m : List Nat} (h : Diff l m) (c : List Nat) : Diff (c ++ l) (c ++ m) := by
  obtain ⟨p, a, b, x, y, rfl, rfl, r⟩ := h
  exact ⟨c ++ p, a, b, x, y, by simp, by simp, r⟩
theorem Diff.stuffed {l m : List Nat} (h : Diff l m) : Diff (stuffN l) (stuffN m) := by
  obtain ⟨p, a, b, x, y, rfl, rfl, r⟩ := h
  obtain ⟨q, a', b', h1, h2⟩ := stf_diff p a b x y 0 0
  exact ⟨q, a', b', x, y, h1, h2, r⟩
theorem Diff.at {l m : List Nat} (h : Diff l m) : ∃ j x y : Nat, l[j]? = some x ∧ m[j]? = some y ∧ x ≠ y := by
  obtain ⟨p, a, b, x, y, rfl, rfl, h3⟩ := h
  exact ⟨p.length, x, y, by simp, by simp, h3⟩
theorem diff_of_at (j : Nat) : ∀ (l m : List Nat) (x y : Nat), l[j]? = some x → m[j]? = some y → x ≠ y → Diff l m := by
  induction j with
  | zero =>
    intro l m x y h1 h2 h3
    cases l with
    | nil => simp at h1
    | cons u l =>
      cases m with
      | nil => simp at h2
      | cons v m =>
        simp at h1 h2
        subst h1 h2
        exact ⟨[], l, m, u, v, rfl, rfl, h3⟩
  | succ j ih =>
    intro l m x y h1 h2 h3
    cases l with
    | nil => simp at h1
    | cons u l =>
      cases m with
      | nil => simp at h2
      | cons v m =>
        simp only [List.getElem?_cons_succ] at h1 h2
        by_cases e : u = v
        · subst e; exact (ih l m x y h1 h2 h3).ahead [u]
        · exact ⟨[], l, m, u, v, rfl, rfl, e⟩
theorem bytesN_diff : ∀ (l m : List Nat), l.length = m.length → (∀ x ∈ l, x < 256) → (∀ x ∈ m, x < 256) → l ≠ m → Diff (bytesN l) (bytesN m) := by
  intro l
  induction l with
  | nil => intro m h _ _ hne; cases m with
           | nil => exact absurd rfl hne
           | cons => simp at h
  | cons x l ih =>
    intro m h hl hm hne
    cases m with
    | nil => simp at h
    | cons y m =>
      have e1 : bytesN (x :: l) = bitsN x 8 ++ bytesN l := by simp [bytesN]
      have e2 : bytesN (y :: m) = bitsN y 8 ++ bytesN m := by simp [bytesN]
      rw [e1, e2]
      by_cases e : x = y
      · subst e
        exact (ih m (by simpa using h) (fun z hz => hl z (by simp [hz])) (fun z hz => hm z (by simp [hz])) (fun h => hne (by rw [h]))).ahead _
      · obtain ⟨p, a, b, u, v, h1, h2, h3, -⟩ := bitsN_first 8 x y (hl x (by simp)) (hm y (by simp)) e
        exact Diff.behind ⟨p, a, b, u, v, h1, h2, h3⟩ _ _
theorem bitB_inj {a b : Bool} (h : a ≠ b) : bitB a ≠ bitB b := by cases a <;> cases b <;> simp_all [bitB]
theorem runs_at (l : List Nat) (h : runsB 0 0 l = true) (k : Nat) (hk : k < l.length) : seeN (rawE 0 0 (l.take k)).1 (rawE 0 0 (l.take k)).2 l[k] ≤ 5 := by
  have e : l = l.take k ++ (l[k] :: l.drop (k + 1)) := by rw [← List.drop_eq_getElem_cons hk, List.take_append_drop]
  rw [e, runsB_append] at h
  simp only [Bool.and_eq_true, runsB, decide_eq_true_eq] at h
  exact h.2.1
theorem rawE_step (l : List Nat) (k : Nat) (hk : k < l.length) : rawE 0 0 (l.take (k + 1)) = (l[k], seeN (rawE 0 0 (l.take k)).1 (rawE 0 0 (l.take k)).2 l[k]) := by
  rw [List.take_succ_eq_append_getElem hk, rawE_append]
  rfl
theorem tails_raw (l : List Nat) : ∀ (last run : Nat) (out : List Nat), Tails last run out → Tails (rawE last run l).1 (rawE last run l).2 (out ++ l) := by
  induction l with
  | nil => intro last run out h; simpa [rawE] using h
  | cons x l ih =>
    intro last run out h
    have := ih x (seeN last run x) (out ++ [x]) (h.see x)
    simpa [rawE] using this
theorem rd_left {w : World} {A : Option Addr} {a b : List Nat} (h : Rd w A (bys (a ++ b))) : Rd w A (bys a) := by
  intro j u hj
  refine h j u ?_
  rw [bys_append, List.getElem?_append_left (List.getElem?_eq_some_iff.1 hj).1]
  exact hj
/-- Do two rows differ within their first k? -/
def diffB (l m : List Nat) (k : Nat) : Bool := (List.range k).any fun i => l[i]? != m[i]?
theorem diffB_succ (l m : List Nat) (k : Nat) : diffB l m (k + 1) = (diffB l m k || (l[k]? != m[k]?)) := by unfold diffB; rw [List.range_succ, List.any_append]; simp
theorem rawE_pos (l : List Nat) (k : Nat) (hk : k < l.length) (h0 : 0 < k) : (rawE 0 0 (l.take k)).1 = l[k - 1] ∧ 1 ≤ (rawE 0 0 (l.take k)).2 := by
  obtain ⟨j, rfl⟩ : ∃ j, k = j + 1 := ⟨k - 1, by omega⟩
  rw [rawE_step l j (by omega)]
  exact ⟨rfl, seeN_pos _ _ _⟩
/-- A frame with another identifier. -/
def withId (f : Fr) (id : Int) : Fr := { f with id := id }
end Go.Proofs.YtlmdkmflbhnlgaaGreat
