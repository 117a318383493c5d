/- A heap of entries, and one order alone: plain facts. No condition. -/
import Derived.WalkKit
namespace Go.Proofs.Ytlmdkmflbhnlgaa
/-- An entry: a key, and a place. -/
abbrev En := Int × Int
def ltE (a b : En) : Bool := decide (a.1 < b.1) || (decide (a.1 = b.1) && decide (a.2 < b.2))
def leE (a b : En) : Prop := a.1 < b.1 ∨ (a.1 = b.1 ∧ a.2 ≤ b.2)
theorem leE_refl (a : En) : leE a a := Or.inr ⟨rfl, Int.le_refl _⟩
theorem leE_trans {a b c : En} (h : leE a b) (k : leE b c) : leE a c := by unfold leE at *; omega
theorem leE_of_lt {a b : En} (h : ltE a b = true) : leE a b := by unfold ltE at h; unfold leE; simp at h; omega
theorem leE_of_not {a b : En} (h : ltE a b = false) : leE b a := by unfold ltE at h; unfold leE; simp at h; omega
theorem leE_anti {a b : En} (h : leE a b) (k : leE b a) : a = b := by
  unfold leE at *
  exact Prod.ext (by omega) (by omega)
def at_ (l : List En) (k : Nat) : En := l.getD k (0, 0)
theorem at_get {l : List En} {k : Nat} (h : k < l.length) : at_ l k = l[k] := by unfold at_; simp [List.getD, h]
theorem at_app_lt {l m : List En} {k : Nat} (h : k < l.length) : at_ (l ++ m) k = at_ l k := by unfold at_; simp [List.getD, List.getElem?_append_left h]
theorem at_app_eq {l : List En} {x : En} {k : Nat} (h : k = l.length) : at_ (l ++ [x]) k = x := by subst h; unfold at_; simp [List.getD]
theorem at_take {l : List En} {n k : Nat} (h : k < n) : at_ (l.take n) k = at_ l k := by unfold at_; simp [List.getD, List.getElem?_take_of_lt h]
/-- Two entries exchanged. -/
def sw (l : List En) (i j : Nat) : List En := (l.set i (at_ l j)).set j (at_ l i)
theorem sw_length (l : List En) (i j : Nat) : (sw l i j).length = l.length := by simp [sw]
theorem at_sw {l : List En} {i j : Nat} (hi : i < l.length) (hj : j < l.length) (k : Nat) : at_ (sw l i j) k = if k = j then at_ l i else if k = i then at_ l j else at_ l k := by
  unfold sw
  show ((l.set i (at_ l j)).set j (at_ l i)).getD k (0, 0) = _
  by_cases h1 : k = j
  · subst h1; simp [List.getD, hj]
  · rw [if_neg h1]
    by_cases h2 : k = i
    · subst h2; rw [if_pos rfl]; simp [List.getD, hi, Ne.symm h1]
    · rw [if_neg h2]; simp [List.getD, Ne.symm h1, Ne.symm h2, at_]
theorem sw_perm {l : List En} {i j : Nat} (hi : i < l.length) (hj : j < l.length) : (sw l i j).Perm l := by
  have h := Array.swap_perm (xs := l.toArray) (i := i) (j := j) (by simpa using hi) (by simpa using hj)
  have h2 := h.toList
  have e : (l.toArray.swap i j (by simpa using hi) (by simpa using hj)).toList = sw l i j := by
    unfold sw
    rw [at_get hi, at_get hj]
    simp [Array.swap]
  rw [e] at h2
  simpa using h2
/-- No entry wins against the one above it. -/
def IsHeapTo (l : List En) (n : Nat) : Prop := ∀ k, 0 < k → k < n → leE (at_ l ((k - 1) / 2)) (at_ l k)
def UpI (l : List En) (j : Nat) : Prop :=
  (∀ k, 0 < k → k < l.length → k ≠ j → leE (at_ l ((k - 1) / 2)) (at_ l k)) ∧ (∀ k, 0 < k → k < l.length → (k - 1) / 2 = j → 0 < j → leE (at_ l ((j - 1) / 2)) (at_ l k))
theorem up_step {l : List En} {j : Nat} (h : UpI l j) (hj : j < l.length) (h0 : 0 < j) (hl : ltE (at_ l j) (at_ l ((j - 1) / 2)) = true) : UpI (sw l ((j - 1) / 2) j) ((j - 1) / 2) := by
  obtain ⟨h1, h2⟩ := h
  have hi : (j - 1) / 2 < l.length := by omega
  have hle := leE_of_lt hl
  constructor
  · intro k k0 kn ki
    rw [sw_length] at kn
    rw [at_sw hi hj, at_sw hi hj]
    by_cases hk : k = j
    · subst hk
      rw [if_neg (by omega), if_pos rfl, if_pos rfl]; exact hle
    · rw [if_neg hk, if_neg ki]
      by_cases p1 : (k - 1) / 2 = j
      · rw [if_pos p1]; exact h2 k k0 kn p1 h0
      · rw [if_neg p1]
        by_cases p2 : (k - 1) / 2 = (j - 1) / 2
        · rw [if_pos p2]; have := h1 k k0 kn hk; rw [p2] at this; exact leE_trans hle this
        · rw [if_neg p2]; exact h1 k k0 kn hk
  · intro k k0 kn kp i0
    rw [sw_length] at kn
    rw [at_sw hi hj, at_sw hi hj, if_neg (by omega), if_neg (by omega)]
    have hb := h1 ((j - 1) / 2) i0 hi (by omega)
    by_cases hk : k = j
    · rw [if_pos hk]; exact hb
    · rw [if_neg hk, if_neg (by omega)]
      have := h1 k k0 kn hk; rw [kp] at this; exact leE_trans hb this
theorem up_stop {l : List En} {j : Nat} (h : UpI l j) (hs : j = 0 ∨ ltE (at_ l j) (at_ l ((j - 1) / 2)) = false) : IsHeapTo l l.length := by
  intro k k0 kn
  by_cases hk : k = j
  · subst hk
    rcases hs with hs | hs
    · omega
    · exact leE_of_not hs
  · exact h.1 k k0 kn hk
theorem up_start {l : List En} (h : IsHeapTo l l.length) (x : En) : UpI (l ++ [x]) l.length := by
  constructor
  · intro k k0 kn hk
    simp at kn
    rw [at_app_lt (by omega), at_app_lt (by omega)]
    exact h k k0 (by omega)
  · intro k k0 kn kp h0
    simp at kn
    omega
def DownI (l : List En) (i n : Nat) : Prop :=
  (∀ k, 0 < k → k < n → (k - 1) / 2 ≠ i → leE (at_ l ((k - 1) / 2)) (at_ l k)) ∧ (∀ k, 0 < k → k < n → (k - 1) / 2 = i → 0 < i → leE (at_ l ((i - 1) / 2)) (at_ l k))
theorem down_step {l : List En} {i j n : Nat} (h : DownI l i n) (hn : n ≤ l.length) (hj : j < n) (j0 : 0 < j) (hp : (j - 1) / 2 = i) (hc : ∀ k, 0 < k → k < n → (k - 1) / 2 = i → leE (at_ l j) (at_ l k))
    (hl : ltE (at_ l j) (at_ l i) = true) : DownI (sw l i j) j n := by
  obtain ⟨h1, h2⟩ := h
  have hi : i < l.length := by omega
  have hj' : j < l.length := by omega
  have hle := leE_of_lt hl
  constructor
  · intro k k0 kn kp
    rw [at_sw hi hj', at_sw hi hj', if_neg kp]
    by_cases p1 : (k - 1) / 2 = i
    · rw [if_pos p1]
      by_cases hk : k = j
      · rw [if_pos hk]; exact hle
      · rw [if_neg hk, if_neg (by omega)]; exact hc k k0 kn p1
    · rw [if_neg p1, if_neg (fun e : k = j => p1 (by rw [e]; exact hp))]
      by_cases hk : k = i
      · subst hk
        rw [if_pos rfl]; exact h2 j j0 hj hp k0
      · rw [if_neg hk]; exact h1 k k0 kn p1
  · intro k k0 kn kp _
    rw [at_sw hi hj', at_sw hi hj', hp, if_neg (by omega), if_pos rfl, if_neg (by omega), if_neg (by omega)]
    have := h1 k k0 kn (by omega)
    rw [kp] at this; exact this
theorem down_stop {l : List En} {i n : Nat} (h : DownI l i n) (hs : ∀ k, 0 < k → k < n → (k - 1) / 2 = i → leE (at_ l i) (at_ l k)) : IsHeapTo l n := by
  intro k k0 kn
  by_cases hp : (k - 1) / 2 = i
  · rw [hp]; exact hs k k0 kn hp
  · exact h.1 k k0 kn hp
theorem down_start {l : List En} {n : Nat} (h : IsHeapTo l l.length) (hn : l.length = n + 1) : DownI (sw l 0 n) 0 n := by
  constructor
  · intro k k0 kn kp
    rw [at_sw (by omega) (by omega), at_sw (by omega) (by omega), if_neg (by omega), if_neg kp, if_neg (by omega), if_neg (by omega)]
    exact h k k0 (by omega)
  · intro k _ _ _ h0; omega
theorem heap_min {l : List En} (h : IsHeapTo l l.length) : ∀ k, k < l.length → leE (at_ l 0) (at_ l k) := by
  intro k
  induction k using Nat.strongRecOn with
  | _ k ih =>
    intro hk
    by_cases h0 : k = 0
    · subst h0; exact leE_refl _
    · exact leE_trans (ih ((k - 1) / 2) (by omega) (by omega)) (h k (by omega) hk)
theorem heap_min_mem {l : List En} (h : IsHeapTo l l.length) : ∀ x ∈ l, leE (at_ l 0) x := by
  intro x hx
  obtain ⟨k, hk, rfl⟩ := List.getElem_of_mem hx
  rw [← at_get hk]; exact heap_min h k hk
/-- What a heap is behind one is taken. -/
theorem pop_plain {l l2 : List En} {n : Nat} (h : IsHeapTo l l.length) (hn : l.length = n + 1) (hp : l2.Perm (sw l 0 n)) (hh : IsHeapTo l2 n) (hx : at_ l2 n = at_ (sw l 0 n) n) :
    l.Perm (at_ l2 n :: l2.take n) ∧ at_ l2 n = at_ l 0 ∧ IsHeapTo (l2.take n) (l2.take n).length ∧ ∀ x ∈ l2.take n, leE (at_ l2 n) x := by
  have hl2 : l2.length = n + 1 := by rw [hp.length_eq, sw_length, hn]
  have e0 : at_ l2 n = at_ l 0 := by rw [hx, at_sw (by omega) (by omega), if_pos rfl]
  have hper : l.Perm (at_ l2 n :: l2.take n) := by
    have e1 : l2 = l2.take n ++ [at_ l2 n] := by
      have := List.take_append_drop n l2
      rw [List.drop_eq_getElem_cons (by omega), List.drop_eq_nil_of_le (by omega)] at this
      rw [at_get (by omega)]
      exact this.symm
    have e2 := (hp.trans (sw_perm (l := l) (i := 0) (j := n) (by omega) (by omega))).symm
    refine e2.trans ?_
    rw (config := {occs := .pos [1]}) [e1]
    exact List.perm_append_singleton _ _
  refine ⟨hper, e0, ?_, fun x hx => ?_⟩
  · intro k k0 kn
    have hkn : k < n := by simpa using (by simp at kn; omega : k < n)
    rw [at_take hkn, at_take (by omega)]
    exact hh k k0 hkn
  · rw [e0]
    exact heap_min_mem h x (hper.mem_iff.2 (List.mem_cons_of_mem _ hx))
/-! ### one order alone -/
theorem sorted_unique : ∀ {a b : List En}, a.Perm b → a.Pairwise leE → b.Pairwise leE → a = b
  | [], b, h, _, _ => (List.nil_perm.1 h).symm
  | x :: a, [], h, _, _ => by simp at h
  | x :: a, y :: b, h, ha, hb => by
    obtain ⟨hx, ha⟩ := List.pairwise_cons.1 ha
    have hb0 := List.pairwise_cons.1 hb
    clear hb
    obtain ⟨hy, hb⟩ := hb0
    have e : x = y := by
      have h1 : x ∈ y :: b := h.mem_iff.1 (List.mem_cons_self)
      have h2 : y ∈ x :: a := h.mem_iff.2 (List.mem_cons_self)
      rcases List.mem_cons.1 h1 with h1 | h1
      · exact h1
      · rcases List.mem_cons.1 h2 with h2 | h2
        · exact h2.symm
        · exact leE_anti (hx _ h2) (hy _ h1)
    subst e
    rw [sorted_unique ((List.perm_cons x).1 h) ha hb]
/-- The entries of the first i frames, by their keys. -/
def ents (key : Nat → Int) (i : Nat) : List En := (List.range i).map fun j => (key j, (j : Int))
theorem ents_succ (key : Nat → Int) (i : Nat) : ents key (i + 1) = ents key i ++ [(key i, (i : Int))] := by simp [ents, List.range_succ]
theorem ents_zero (key : Nat → Int) : ents key 0 = [] := rfl
theorem ents_length (key : Nat → Int) (i : Nat) : (ents key i).length = i := by simp [ents]
theorem ents_mem {key : Nat → Int} {i : Nat} {x : En} (h : x ∈ ents key i) : ∃ j : Nat, j < i ∧ x = (key j, (j : Int)) := by
  simp [ents] at h
  obtain ⟨j, h1, h2⟩ := h
  exact ⟨j, h1, h2.symm⟩
/-- The entries, as they win one after the other. -/
def Ranked (key : Nat → Int) (n : Nat) (r : List En) : Prop := r.Perm (ents key n) ∧ r.Pairwise leE
theorem Ranked.unique {key : Nat → Int} {n : Nat} {a b : List En} (h : Ranked key n a) (k : Ranked key n b) : a = b := sorted_unique (h.1.trans k.1.symm) h.2 k.2
theorem Ranked.length {key : Nat → Int} {n : Nat} {a : List En} (h : Ranked key n a) : a.length = n := by rw [h.1.length_eq, ents_length]
/-- The one on a heap's top is the first. -/
theorem Ranked.top {key : Nat → Int} {n : Nat} {a l : List En} (h : Ranked key n a) (hl : l.Perm (ents key n)) (hh : IsHeapTo l l.length) (hn : 0 < n) : at_ l 0 = at_ a 0 := by
  have la : a.length = n := h.length
  have ll : l.length = n := by rw [hl.length_eq, ents_length]
  have h1 : at_ a 0 ∈ l := by rw [at_get (by omega)]; exact hl.mem_iff.2 (h.1.mem_iff.1 (List.getElem_mem _))
  have h2 : at_ l 0 ∈ a := by rw [at_get (by omega)]; exact h.1.mem_iff.2 (hl.mem_iff.1 (List.getElem_mem _))
  refine leE_anti (heap_min_mem hh _ h1) ?_
  cases a with
  | nil => simp at la; omega
  | cons x a =>
    have : at_ (x :: a) 0 = x := rfl
    rw [this]
    rcases List.mem_cons.1 h2 with e | e
    · rw [e]; exact leE_refl _
    · exact (List.pairwise_cons.1 h.2).1 _ e
end Go.Proofs.Ytlmdkmflbhnlgaa
