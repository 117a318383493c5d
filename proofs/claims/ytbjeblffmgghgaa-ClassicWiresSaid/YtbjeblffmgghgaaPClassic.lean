/- Where two Classic frames first differ on the wire: plain laws of lists. No condition. -/
import Derived.Test.YtbjeblffmgghgaaLaw06a
namespace Go.Proofs.Ytbjeblffmgghgaa
open Go.RowKit
theorem bitsN_mod (n k : Nat) : bitsN n k = bitsN (n % 2 ^ k) k := by
  have h : ∀ j, j ≤ k → bitsN n j = bitsN (n % 2 ^ k) j := by
    intro j
    induction j with
    | zero => intro _; rfl
    | succ j ih =>
      intro hj
      simp only [bitsN]
      rw [ih (by omega)]
      congr 1
      obtain ⟨m, rfl⟩ : ∃ m, k = j + (m + 1) := ⟨k - (j + 1), by omega⟩
      rw [Nat.pow_add, Nat.mod_mul_right_div_self, Nat.pow_succ, Nat.mul_comm (2 ^ m) 2, Nat.mod_mul_right_mod]
  exact h k (Nat.le_refl k)
/-- Where two numbers' bits first differ. -/
theorem bitsN_first (k : Nat) : ∀ n m : Nat, n < 2 ^ k → m < 2 ^ k → n ≠ m → ∃ p a b x y, bitsN n k = p ++ x :: a ∧ bitsN m k = p ++ y :: b ∧ x ≠ y ∧ (x = 0 ↔ n < m) ∧ x ≤ 1 ∧ y ≤ 1 := by
  induction k with
  | zero => intro n m hn hm hne; simp at hn hm; omega
  | succ k ih =>
    intro n m hn hm hne
    have hp : 0 < 2 ^ k := Nat.two_pow_pos _
    rw [Nat.pow_succ] at hn hm
    have hn1 : n / 2 ^ k < 2 := Nat.div_lt_of_lt_mul (by omega)
    have hm1 : m / 2 ^ k < 2 := Nat.div_lt_of_lt_mul (by omega)
    have en := Nat.div_add_mod n (2 ^ k)
    have em := Nat.div_add_mod m (2 ^ k)
    have rn := Nat.mod_lt n hp
    have rm := Nat.mod_lt m hp
    by_cases he : n / 2 ^ k = m / 2 ^ k
    · have hne2 : n % 2 ^ k ≠ m % 2 ^ k := by intro h; rw [he] at en; omega
      obtain ⟨p, a, b, x, y, h1, h2, h3, h4, h5, h6⟩ := ih (n % 2 ^ k) (m % 2 ^ k) rn rm hne2
      refine ⟨(n / 2 ^ k % 2) :: p, a, b, x, y, ?_, ?_, h3, ?_, h5, h6⟩
      · simp only [bitsN]; rw [bitsN_mod n k, h1]; rfl
      · simp only [bitsN]; rw [bitsN_mod m k, h2, he]; rfl
      · rw [h4]; rw [he] at en; omega
    · refine ⟨[], bitsN n k, bitsN m k, n / 2 ^ k % 2, m / 2 ^ k % 2, rfl, rfl, ?_, ?_, by omega, by omega⟩
      · rw [Nat.mod_eq_of_lt hn1, Nat.mod_eq_of_lt hm1]; exact he
      · rw [Nat.mod_eq_of_lt hn1]
        generalize n / 2 ^ k = u at *
        generalize m / 2 ^ k = v at *
        obtain rfl | rfl : u = 0 ∨ u = 1 := by omega
        · obtain rfl : v = 1 := by omega
          simp at en em
          constructor <;> intro <;> omega
        · obtain rfl : v = 0 := by omega
          simp at en em
          constructor <;> intro h <;> omega
theorem bitsN_inj (k n m : Nat) (hn : n < 2 ^ k) (hm : m < 2 ^ k) (h : bitsN n k = bitsN m k) : n = m := by
  refine Classical.byContradiction fun hne => ?_
  obtain ⟨p, a, b, x, y, h1, h2, h3, -⟩ := bitsN_first k n m hn hm hne
  rw [h1, h2] at h
  have := List.append_cancel_left h
  simp at this
  exact h3 this.1
/-- Two rows that differ first at one place, of which the first one has the dominant bit just if P. -/
def First (P : Prop) (l m : List Nat) : Prop := ∃ p a b x y, l = p ++ x :: a ∧ m = p ++ y :: b ∧ x ≠ y ∧ (x = 0 ↔ P) ∧ x ≤ 1 ∧ y ≤ 1
theorem First.behind {P : Prop} {l m : List Nat} (h : First P l m) (c d : List Nat) : First P (l ++ c) (m ++ d) := by
  obtain ⟨p, a, b, x, y, rfl, rfl, r⟩ := h
  exact ⟨p, a ++ c, b ++ d, x, y, by simp, by simp, r⟩
theorem First.ahead {P : Prop} {l m : List Nat} (h : First P l m) (c : List Nat) : First P (c ++ l) (c ++ m) := by
  obtain ⟨p, a, b, x, y, rfl, rfl, r⟩ := h
  exact ⟨c ++ p, a, b, x, y, by simp, by simp, r⟩
theorem First.stuffed {P : Prop} {l m : List Nat} (h : First P l m) : First P (stuffN l) (stuffN m) := by
  obtain ⟨p, a, b, x, y, rfl, rfl, r⟩ := h
  obtain ⟨q, a', b', h1, h2⟩ := stf_diff p a b x y 0 0
  exact ⟨q, a', b', x, y, h1, h2, r⟩
theorem First.iff {P Q : Prop} {l m : List Nat} (h : First P l m) (e : P ↔ Q) : First Q l m := by
  obtain ⟨p, a, b, x, y, h1, h2, h3, h4, h5, h6⟩ := h
  exact ⟨p, a, b, x, y, h1, h2, h3, h4.trans e, h5, h6⟩
/-- The place. -/
theorem First.at {P : Prop} {l m : List Nat} (h : First P l m) : ∃ j, j < l.length ∧ j < m.length ∧ (∀ i, i < j → l[i]? = m[i]?) ∧ ∃ x y, l[j]? = some x ∧ m[j]? = some y ∧ x ≠ y ∧ (x = 0 ↔ P) := by
  obtain ⟨p, a, b, x, y, rfl, rfl, h3, h4, -⟩ := h
  refine ⟨p.length, by simp, by simp, fun i hi => ?_, x, y, by simp, by simp, h3, h4⟩
  rw [List.getElem?_append_left hi, List.getElem?_append_left hi]
theorem headL_first (f g : Fr) (he : f.ext = g.ext) (hr : f.rtr = g.rtr) (f0 : 0 ≤ f.id) (f1 : f.id < limF f) (g0 : 0 ≤ g.id) (g1 : g.id < limF g) (hne : f.id ≠ g.id) : First (f.id < g.id) (headL f) (headL g) := by
  unfold limF at f1 g1
  obtain ⟨n, hn⟩ := Int.eq_ofNat_of_zero_le f0
  obtain ⟨m, hm⟩ := Int.eq_ofNat_of_zero_le g0
  unfold headL
  rw [← he, ← hr]
  rw [← he] at g1
  rw [hn, hm]
  simp only [Int.toNat_natCast]
  cases hx : f.ext
  · simp only [hx, Bool.false_eq_true, if_false] at f1 g1 ⊢
    have h : First (n < m) (bitsN n 11) (bitsN m 11) := bitsN_first 11 n m (by omega) (by omega) (by omega)
    have h2 := ((((h.ahead [0]).behind [bitB f.rtr] [bitB f.rtr]).behind [0, 0] [0, 0])).iff (Q := (n : Int) < (m : Int)) (by omega)
    exact h2
  · simp only [hx, if_true] at f1 g1 ⊢
    by_cases hq : n / 262144 = m / 262144
    · have h : First (n % 262144 < m % 262144) (bitsN (n % 262144) 18) (bitsN (m % 262144) 18) := bitsN_first 18 _ _ (by omega) (by omega) (by omega)
      rw [hq]
      have h2 := (((h.ahead ([0] ++ bitsN (m / 262144) 11 ++ [1, 1])).behind [bitB f.rtr] [bitB f.rtr]).behind [0, 0] [0, 0]).iff (Q := (n : Int) < (m : Int)) (by omega)
      exact h2
    · have h : First (n / 262144 < m / 262144) (bitsN (n / 262144) 11) (bitsN (m / 262144) 11) := bitsN_first 11 _ _ (by omega) (by omega) hq
      have h2 := (((((h.ahead [0]).behind [1, 1] [1, 1]).behind (bitsN (n % 262144) 18) (bitsN (m % 262144) 18)).behind [bitB f.rtr] [bitB f.rtr]).behind [0, 0] [0, 0]).iff (Q := (n : Int) < (m : Int)) (by omega)
      exact h2
/-- What the body begins with. -/
theorem bodyC_head (f : Fr) : ∃ l, bodyC f = headL f ++ l := ⟨bitsN f.data.length 4 ++ bytesN f.data ++ bitsN (crcN 15 17817 0 (coreC f)) 15, by unfold bodyC addN coreC; simp⟩
theorem wireC_head (f : Fr) : ∃ l, wireC f = stuffN (headL f) ++ l := by
  obtain ⟨l, e⟩ := bodyC_head f
  exact ⟨stf (stE 0 0 (headL f)).1 (stE 0 0 (headL f)).2 l ++ List.replicate 10 1, by unfold wireC stuffN; rw [e, stf_append, List.append_assoc]⟩
theorem orders_plain (f g : Fr) (he : f.ext = g.ext) (hr : f.rtr = g.rtr) (f0 : 0 ≤ f.id) (f1 : f.id < limF f) (g0 : 0 ≤ g.id) (g1 : g.id < limF g) (hne : f.id ≠ g.id) :
    ∃ j, j < (stuffN (headL f)).length ∧ j < (stuffN (headL g)).length ∧ (∀ i, i < j → (wireC f)[i]? = (wireC g)[i]?) ∧ ∃ x y, (wireC f)[j]? = some x ∧ (wireC g)[j]? = some y ∧ x ≠ y ∧ (x = 0 ↔ f.id < g.id) := by
  have h := (headL_first f g he hr f0 f1 g0 g1 hne).stuffed
  obtain ⟨j, h1, h2, h3, x, y, h4, h5, h6⟩ := h.at
  obtain ⟨l, el⟩ := wireC_head f
  obtain ⟨m, em⟩ := wireC_head g
  rw [el, em]
  refine ⟨j, h1, h2, fun i hi => ?_, x, y, ?_, ?_, h6⟩
  · rw [List.getElem?_append_left (by omega), List.getElem?_append_left (by omega)]; exact h3 i hi
  · rw [List.getElem?_append_left h1]; exact h4
  · rw [List.getElem?_append_left h2]; exact h5
/-! ### two frames that aren't the same -/
/-- Two rows that differ at a place within both. -/
def Diff (l m : List Nat) : Prop := ∃ p a b x y, l = p ++ x :: a ∧ m = p ++ y :: b ∧ x ≠ y
theorem First.diff {P : Prop} {l m : List Nat} (h : First P l m) : Diff l m := by
  obtain ⟨p, a, b, x, y, h1, h2, h3, -⟩ := h
  exact ⟨p, a, b, x, y, h1, h2, h3⟩
theorem Diff.behind {l m : List Nat} (h : Diff l m) (c d : List Nat) : Diff (l ++ c) (m ++ d) := by
  obtain ⟨p, a, b, x, y, rfl, rfl, r⟩ := h
  exact ⟨p, a ++ c, b ++ d, x, y, by simp, by simp, r⟩
theorem Diff.ahead {l m : List Nat} (h : Diff l m) (c : List Nat) : Diff (c ++ l) (c ++ m) := by
  obtain ⟨p, a, b, x, y, rfl, rfl, r⟩ := h
  exact ⟨c ++ p, a, b, x, y, by simp, by simp, r⟩
theorem Diff.stuffed {l m : List Nat} (h : Diff l m) : Diff (stuffN l) (stuffN m) := by
  obtain ⟨p, a, b, x, y, rfl, rfl, r⟩ := h
  obtain ⟨q, a', b', h1, h2⟩ := stf_diff p a b x y 0 0
  exact ⟨q, a', b', x, y, h1, h2, r⟩
theorem Diff.at {l m : List Nat} (h : Diff l m) : ∃ j x y : Nat, l[j]? = some x ∧ m[j]? = some y ∧ x ≠ y := by
  obtain ⟨p, a, b, x, y, rfl, rfl, h3⟩ := h
  exact ⟨p.length, x, y, by simp, by simp, h3⟩
theorem diff_of_at (j : Nat) : ∀ (l m : List Nat) (x y : Nat), l[j]? = some x → m[j]? = some y → x ≠ y → Diff l m := by
  induction j with
  | zero =>
    intro l m x y h1 h2 h3
    cases l with
    | nil => simp at h1
    | cons u l =>
      cases m with
      | nil => simp at h2
      | cons v m =>
        simp at h1 h2
        subst h1 h2
        exact ⟨[], l, m, u, v, rfl, rfl, h3⟩
  | succ j ih =>
    intro l m x y h1 h2 h3
    cases l with
    | nil => simp at h1
    | cons u l =>
      cases m with
      | nil => simp at h2
      | cons v m =>
        simp only [List.getElem?_cons_succ] at h1 h2
        by_cases e : u = v
        · subst e; exact (ih l m x y h1 h2 h3).ahead [u]
        · exact ⟨[], l, m, u, v, rfl, rfl, e⟩
theorem bytesN_diff : ∀ (l m : List Nat), l.length = m.length → (∀ x ∈ l, x < 256) → (∀ x ∈ m, x < 256) → l ≠ m → Diff (bytesN l) (bytesN m) := by
  intro l
  induction l with
  | nil => intro m h _ _ hne; cases m with
           | nil => exact absurd rfl hne
           | cons => simp at h
  | cons x l ih =>
    intro m h hl hm hne
    cases m with
    | nil => simp at h
    | cons y m =>
      have e1 : bytesN (x :: l) = bitsN x 8 ++ bytesN l := by simp [bytesN]
      have e2 : bytesN (y :: m) = bitsN y 8 ++ bytesN m := by simp [bytesN]
      rw [e1, e2]
      by_cases e : x = y
      · subst e
        exact (ih m (by simpa using h) (fun z hz => hl z (by simp [hz])) (fun z hz => hm z (by simp [hz])) (fun h => hne (by rw [h]))).ahead _
      · obtain ⟨p, a, b, u, v, h1, h2, h3, -⟩ := bitsN_first 8 x y (hl x (by simp)) (hm y (by simp)) e
        exact Diff.behind ⟨p, a, b, u, v, h1, h2, h3⟩ _ _
theorem headL_len_eq (f g : Fr) (h : f.ext = g.ext) : (headL f).length = (headL g).length := by rw [headL_length, headL_length, h]
theorem bitB_inj {a b : Bool} (h : a ≠ b) : bitB a ≠ bitB b := by cases a <;> cases b <;> simp_all [bitB]
theorem headL_diff (f g : Fr) (f0 : 0 ≤ f.id) (f1 : f.id < limF f) (g0 : 0 ≤ g.id) (g1 : g.id < limF g) (h : ¬ (f.ext = g.ext ∧ f.rtr = g.rtr ∧ f.id = g.id)) : Diff (headL f) (headL g) := by
  by_cases he : f.ext = g.ext
  · by_cases hr : f.rtr = g.rtr
    · exact (headL_first f g he hr f0 f1 g0 g1 (fun h2 => h ⟨he, hr, h2⟩)).diff
    · have hb := bitB_inj hr
      unfold headL
      rw [← he]
      cases f.ext
      · refine diff_of_at 12 _ _ (bitB f.rtr) (bitB g.rtr) ?_ ?_ hb
        · rfl
        · rfl
      · refine diff_of_at 32 _ _ (bitB f.rtr) (bitB g.rtr) ?_ ?_ hb
        · rfl
        · rfl
  · unfold headL
    cases hf : f.ext
    · have hg : g.ext = true := by cases hg : g.ext with | true => rfl | false => exact absurd (hf.trans hg.symm) he
      rw [hg]
      exact diff_of_at 13 _ _ 0 1 rfl rfl (by omega)
    · have hg : g.ext = false := by cases hg : g.ext with | false => rfl | true => exact absurd (hf.trans hg.symm) he
      rw [hg]
      exact diff_of_at 13 _ _ 1 0 rfl rfl (by omega)
theorem coreC_diff (f g : Fr) (f0 : 0 ≤ f.id) (f1 : f.id < limF f) (g0 : 0 ≤ g.id) (g1 : g.id < limF g) (fl : f.data.length ≤ 8) (gl : g.data.length ≤ 8) (fb : isBytes f.data) (gb : isBytes g.data)
    (h : ¬ (f.ext = g.ext ∧ f.rtr = g.rtr ∧ f.id = g.id ∧ f.data = g.data)) : Diff (coreC f) (coreC g) := by
  unfold coreC
  by_cases hh : f.ext = g.ext ∧ f.rtr = g.rtr ∧ f.id = g.id
  · obtain ⟨he, hr, hi⟩ := hh
    have e : headL f = headL g := by unfold headL; rw [he, hr, hi]
    rw [e]
    by_cases hl : f.data.length = g.data.length
    · rw [hl]
      exact (bytesN_diff f.data g.data hl fb gb (fun hd => h ⟨he, hr, hi, hd⟩)).ahead _
    · obtain ⟨p, a, b, x, y, h1, h2, h3, -⟩ := bitsN_first 4 f.data.length g.data.length (by omega) (by omega) hl
      exact (Diff.ahead ⟨p, a, b, x, y, h1, h2, h3⟩ _).behind _ _
  · exact ((headL_diff f g f0 f1 g0 g1 hh).behind _ _).behind _ _
theorem wireC_diff (f g : Fr) (h : Diff (coreC f) (coreC g)) : Diff (wireC f) (wireC g) := by
  unfold wireC bodyC addN
  exact ((h.behind _ _).stuffed).behind _ _
theorem wireC_same (f g : Fr) (h : f.ext = g.ext ∧ f.rtr = g.rtr ∧ f.id = g.id ∧ f.data = g.data) : wireC f = wireC g := by
  obtain ⟨he, hr, hi, hd⟩ := h
  have e : coreC f = coreC g := by unfold coreC headL; rw [he, hr, hi, hd]
  unfold wireC bodyC
  rw [e]
end Go.Proofs.Ytbjeblffmgghgaa
