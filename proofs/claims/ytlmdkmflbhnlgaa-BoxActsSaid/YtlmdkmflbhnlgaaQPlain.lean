/- A heap of any entries that have a key and a number: plain facts. No condition. -/
import Derived.Test.YtlmdkmflbhnlgaaHeapPlain
namespace Go.Proofs.Ytlmdkmflbhnlgaa
section
variable {α : Type} [Inhabited α] (ky : α → En)
def ag (l : List α) (k : Nat) : α := l.getD k default
theorem ag_get {l : List α} {k : Nat} (h : k < l.length) : ag l k = l[k] := by unfold ag; simp [List.getD, h]
theorem ag_app_lt {l m : List α} {k : Nat} (h : k < l.length) : ag (l ++ m) k = ag l k := by unfold ag; simp [List.getD, List.getElem?_append_left h]
theorem ag_app_eq {l : List α} {x : α} {k : Nat} (h : k = l.length) : ag (l ++ [x]) k = x := by subst h; unfold ag; simp [List.getD]
theorem ag_take {l : List α} {n k : Nat} (h : k < n) : ag (l.take n) k = ag l k := by unfold ag; simp [List.getD, List.getElem?_take_of_lt h]
/-- Two entries exchanged. -/
def sg (l : List α) (i j : Nat) : List α := (l.set i (ag l j)).set j (ag l i)
theorem sg_length (l : List α) (i j : Nat) : (sg l i j).length = l.length := by simp [sg]
theorem ag_sg {l : List α} {i j : Nat} (hi : i < l.length) (hj : j < l.length) (k : Nat) : ag (sg l i j) k = if k = j then ag l i else if k = i then ag l j else ag l k := by
  unfold sg
  show ((l.set i (ag l j)).set j (ag l i)).getD k default = _
  by_cases h1 : k = j
  · subst h1; simp [List.getD, hj]
  · rw [if_neg h1]
    by_cases h2 : k = i
    · subst h2; rw [if_pos rfl]; simp [List.getD, hi, Ne.symm h1]
    · rw [if_neg h2]; simp [List.getD, Ne.symm h1, Ne.symm h2, ag]
theorem sg_perm {l : List α} {i j : Nat} (hi : i < l.length) (hj : j < l.length) : (sg l i j).Perm l := by
  have h := Array.swap_perm (xs := l.toArray) (i := i) (j := j) (by simpa using hi) (by simpa using hj)
  have h2 := h.toList
  have e : (l.toArray.swap i j (by simpa using hi) (by simpa using hj)).toList = sg l i j := by
    unfold sg
    rw [ag_get hi, ag_get hj]
    simp [Array.swap]
  rw [e] at h2
  simpa using h2
/-- No entry wins against the one above it. -/
def HeapTo (l : List α) (n : Nat) : Prop := ∀ k, 0 < k → k < n → leE (ky (ag l ((k - 1) / 2))) (ky (ag l k))
/-- .. but the one at j. -/
def UpG (l : List α) (j n : Nat) : Prop :=
  (∀ k, 0 < k → k < n → k ≠ j → leE (ky (ag l ((k - 1) / 2))) (ky (ag l k))) ∧ (∀ k, 0 < k → k < n → (k - 1) / 2 = j → 0 < j → leE (ky (ag l ((j - 1) / 2))) (ky (ag l k)))
variable {ky}
theorem upg_step {l : List α} {j n : Nat} (h : UpG ky l j n) (hn : n ≤ l.length) (hj : j < n) (h0 : 0 < j) (hl : ltE (ky (ag l j)) (ky (ag l ((j - 1) / 2))) = true) : UpG ky (sg l ((j - 1) / 2) j) ((j - 1) / 2) n := by
  obtain ⟨h1, h2⟩ := h
  have hi : (j - 1) / 2 < l.length := by omega
  have hj' : j < l.length := by omega
  have hle := leE_of_lt hl
  constructor
  · intro k k0 kn ki
    rw [ag_sg hi hj', ag_sg hi hj']
    by_cases hk : k = j
    · subst hk
      rw [if_neg (by omega), if_pos rfl, if_pos rfl]; exact hle
    · rw [if_neg hk, if_neg ki]
      by_cases p1 : (k - 1) / 2 = j
      · rw [if_pos p1]; exact h2 k k0 kn p1 h0
      · rw [if_neg p1]
        by_cases p2 : (k - 1) / 2 = (j - 1) / 2
        · rw [if_pos p2]; have := h1 k k0 kn hk; rw [p2] at this; exact leE_trans hle this
        · rw [if_neg p2]; exact h1 k k0 kn hk
  · intro k k0 kn kp i0
    rw [ag_sg hi hj', ag_sg hi hj', if_neg (by omega), if_neg (by omega)]
    have hb := h1 ((j - 1) / 2) i0 (by omega) (by omega)
    by_cases hk : k = j
    · rw [if_pos hk]; exact hb
    · rw [if_neg hk, if_neg (by omega)]
      have := h1 k k0 kn hk; rw [kp] at this; exact leE_trans hb this
theorem upg_stop {l : List α} {j n : Nat} (h : UpG ky l j n) (hs : j = 0 ∨ ltE (ky (ag l j)) (ky (ag l ((j - 1) / 2))) = false) : HeapTo ky l n := by
  intro k k0 kn
  by_cases hk : k = j
  · subst hk
    rcases hs with hs | hs
    · omega
    · exact leE_of_not hs
  · exact h.1 k k0 kn hk
theorem upg_start {l : List α} (h : HeapTo ky l l.length) (x : α) : UpG ky (l ++ [x]) l.length (l.length + 1) := by
  constructor
  · intro k k0 kn hk
    rw [ag_app_lt (by omega), ag_app_lt (by omega)]
    exact h k k0 (by omega)
  · intro k k0 kn kp h0
    omega
/-- All is in order but the one at i, which has moved from i0. -/
def DownG (ky : α → En) (l : List α) (i0 i n : Nat) : Prop :=
  (∀ k, 0 < k → k < n → (k - 1) / 2 ≠ i → (i = i0 → k ≠ i) → leE (ky (ag l ((k - 1) / 2))) (ky (ag l k))) ∧ (∀ k, 0 < k → k < n → (k - 1) / 2 = i → 0 < i → leE (ky (ag l ((i - 1) / 2))) (ky (ag l k)))
theorem downg_step {l : List α} {i0 i j n : Nat} (h : DownG ky l i0 i n) (h00 : i0 ≤ i) (hn : n ≤ l.length) (hj : j < n) (j0 : 0 < j) (hp : (j - 1) / 2 = i) (hc : ∀ k, 0 < k → k < n → (k - 1) / 2 = i → leE (ky (ag l j)) (ky (ag l k)))
    (hl : ltE (ky (ag l j)) (ky (ag l i)) = true) : DownG ky (sg l i j) i0 j n := by
  obtain ⟨h1, h2⟩ := h
  have hi : i < l.length := by omega
  have hj' : j < l.length := by omega
  have hle := leE_of_lt hl
  constructor
  · intro k k0 kn kp _
    rw [ag_sg hi hj', ag_sg hi hj', if_neg kp]
    by_cases p1 : (k - 1) / 2 = i
    · rw [if_pos p1]
      by_cases hk : k = j
      · rw [if_pos hk]; exact hle
      · rw [if_neg hk, if_neg (by omega)]; exact hc k k0 kn p1
    · rw [if_neg p1, if_neg (fun e : k = j => p1 (by rw [e]; exact hp))]
      by_cases hk : k = i
      · subst hk
        rw [if_pos rfl]; exact h2 j j0 hj hp k0
      · rw [if_neg hk]; exact h1 k k0 kn p1 (fun _ => hk)
  · intro k k0 kn kp _
    rw [ag_sg hi hj', ag_sg hi hj', hp, if_neg (by omega), if_pos rfl, if_neg (by omega), if_neg (by omega)]
    have := h1 k k0 kn (by omega) (fun _ => by omega)
    rw [kp] at this; exact this
/-- Where it stops: if it has moved, all is in order; if not, only the one at i0 may win against the one above it. -/
theorem downg_stop {l : List α} {i0 i n : Nat} (h : DownG ky l i0 i n) (hs : ∀ k, 0 < k → k < n → (k - 1) / 2 = i → leE (ky (ag l i)) (ky (ag l k))) : (i ≠ i0 → HeapTo ky l n) ∧ (i = i0 → UpG ky l i n) := by
  refine ⟨fun hne k k0 kn => ?_, fun he => ⟨fun k k0 kn hk => ?_, h.2⟩⟩
  · by_cases hp : (k - 1) / 2 = i
    · rw [hp]; exact hs k k0 kn hp
    · exact h.1 k k0 kn hp (fun e => absurd e hne)
  · by_cases hp : (k - 1) / 2 = i
    · rw [hp]; exact hs k k0 kn hp
    · exact h.1 k k0 kn hp (fun _ => hk)
theorem downg_start {l : List α} {i n : Nat} (h : HeapTo ky l l.length) (hn : l.length = n + 1) (hi : i < n) : DownG ky (sg l i n) i i n := by
  constructor
  · intro k k0 kn kp kk
    rw [ag_sg (by omega) (by omega), ag_sg (by omega) (by omega), if_neg (by omega), if_neg kp, if_neg (by omega), if_neg (kk rfl)]
    exact h k k0 (by omega)
  · intro k k0 kn kp i0
    rw [ag_sg (by omega) (by omega), ag_sg (by omega) (by omega), if_neg (by omega), if_neg (by omega), if_neg (by omega), if_neg (by omega)]
    have a := h i i0 (by omega)
    have b := h k k0 (by omega)
    rw [kp] at b
    exact leE_trans a b
theorem heapg_min {l : List α} (h : HeapTo ky l l.length) : ∀ k, k < l.length → leE (ky (ag l 0)) (ky (ag l k)) := by
  intro k
  induction k using Nat.strongRecOn with
  | _ k ih =>
    intro hk
    by_cases h0 : k = 0
    · subst h0; exact leE_refl _
    · exact leE_trans (ih ((k - 1) / 2) (by omega) (by omega)) (h k (by omega) hk)
theorem heapg_min_mem {l : List α} (h : HeapTo ky l l.length) : ∀ x ∈ l, leE (ky (ag l 0)) (ky x) := by
  intro x hx
  obtain ⟨k, hk, rfl⟩ := List.getElem_of_mem hx
  rw [← ag_get hk]; exact heapg_min h k hk
theorem heapg_take {l : List α} {n : Nat} (h : HeapTo ky l n) (hn : n ≤ l.length) : HeapTo ky (l.take n) (l.take n).length := by
  intro k k0 kn
  have hkn : k < n := by simp at kn; omega
  rw [ag_take hkn, ag_take (by omega)]
  exact h k k0 hkn
theorem ag_last {l : List α} {n : Nat} (hn : l.length = n + 1) : l = l.take n ++ [ag l n] := by
  have := List.take_append_drop n l
  rw [List.drop_eq_getElem_cons (by omega), List.drop_eq_nil_of_le (by omega)] at this
  rw [ag_get (by omega)]
  exact this.symm
theorem sg_self {l : List α} {n : Nat} (hn : n < l.length) : sg l n n = l := by
  unfold sg
  rw [ag_get hn]
  simp
/-- What a heap is behind the one at i is taken. -/
theorem remove_plain {l l2 : List α} {n i : Nat} (hn : l.length = n + 1) (hi : i ≤ n) (hp : l2.Perm (sg l i n)) (hh : HeapTo ky l2 n) (hx : ag l2 n = ag (sg l i n) n) :
    l.Perm (ag l i :: l2.take n) ∧ ag l2 n = ag l i ∧ HeapTo ky (l2.take n) (l2.take n).length := by
  have hl2 : l2.length = n + 1 := by rw [hp.length_eq, sg_length, hn]
  have e0 : ag l2 n = ag l i := by rw [hx, ag_sg (by omega) (by omega), if_pos rfl]
  refine ⟨?_, e0, heapg_take hh (by omega)⟩
  have e2 := (hp.trans (sg_perm (l := l) (i := i) (j := n) (by omega) (by omega))).symm
  refine e2.trans ?_
  rw (config := {occs := .pos [1]}) [ag_last hl2]
  rw [e0]
  exact List.perm_append_singleton _ _
end
end Go.Proofs.Ytlmdkmflbhnlgaa
