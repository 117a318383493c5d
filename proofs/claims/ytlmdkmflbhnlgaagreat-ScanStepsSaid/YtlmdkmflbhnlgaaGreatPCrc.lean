/- Check sums as folds: a table that takes four bits at once makes what bit by bit makes. No condition. -/
import Derived.Test.YtlmdkmflbhnlgaaGreatBitsN
namespace Go.Proofs.YtlmdkmflbhnlgaaGreat
open Go.RowKit
/-- A bit taken in. -/
def oneN (size poly sum b : Nat) : Nat := (sum * 2 % 2 ^ size) ^^^ (if sum / 2 ^ (size - 1) % 2 = b then 0 else poly)
/-- Bits taken in. -/
def crcN (size poly sum : Nat) (l : List Nat) : Nat := l.foldl (oneN size poly) sum
theorem crcN_append (size poly sum : Nat) (a b : List Nat) : crcN size poly sum (a ++ b) = crcN size poly (crcN size poly sum a) b := by simp [crcN]
theorem crcN_cons (size poly sum x : Nat) (l : List Nat) : crcN size poly sum (x :: l) = crcN size poly (oneN size poly sum x) l := rfl
theorem oneN_lt (size poly sum b : Nat) (hp : poly < 2 ^ size) : oneN size poly sum b < 2 ^ size := by
  unfold oneN
  refine Nat.xor_lt_two_pow (Nat.mod_lt _ (Nat.two_pow_pos _)) ?_
  split
  · exact Nat.two_pow_pos _
  · exact hp
theorem crcN_lt (size poly : Nat) (l : List Nat) (hp : poly < 2 ^ size) : ∀ sum, sum < 2 ^ size → crcN size poly sum l < 2 ^ size := by
  induction l with
  | nil => intro sum h; exact h
  | cons x l ih => intro sum _; rw [crcN_cons]; exact ih _ (oneN_lt size poly sum x hp)
theorem bit_xor (s t k : Nat) : (s ^^^ t) / 2 ^ k % 2 = (s / 2 ^ k % 2) ^^^ (t / 2 ^ k % 2) := by
  rw [← Nat.shiftRight_eq_div_pow, ← Nat.shiftRight_eq_div_pow, ← Nat.shiftRight_eq_div_pow, Nat.shiftRight_xor_distrib]
  have := Nat.xor_mod_two_pow (a := s >>> k) (b := t >>> k) (n := 1)
  simpa using this
theorem oneN_xor (size poly s t b c : Nat) (hb : b ≤ 1) (hc : c ≤ 1) : oneN size poly (s ^^^ t) (b ^^^ c) = oneN size poly s b ^^^ oneN size poly t c := by
  have h1 : (s ^^^ t) * 2 % 2 ^ size = (s * 2 % 2 ^ size) ^^^ (t * 2 % 2 ^ size) := by
    have e : ∀ x : Nat, x * 2 = x <<< 1 := fun x => by rw [Nat.shiftLeft_eq]
    rw [e, e, e, Nat.shiftLeft_xor_distrib, Nat.xor_mod_two_pow]
  unfold oneN
  rw [h1, bit_xor]
  have hs : s / 2 ^ (size - 1) % 2 < 2 := Nat.mod_lt _ (by omega)
  have ht : t / 2 ^ (size - 1) % 2 < 2 := Nat.mod_lt _ (by omega)
  generalize s / 2 ^ (size - 1) % 2 = u at *
  generalize t / 2 ^ (size - 1) % 2 = v at *
  generalize s * 2 % 2 ^ size = x at *
  generalize t * 2 % 2 ^ size = y at *
  obtain rfl | rfl : u = 0 ∨ u = 1 := by omega
  all_goals
    obtain rfl | rfl : v = 0 ∨ v = 1 := by omega
    all_goals
      obtain rfl | rfl : b = 0 ∨ b = 1 := by omega
      all_goals
        obtain rfl | rfl : c = 0 ∨ c = 1 := by omega
        all_goals
          refine Nat.eq_of_testBit_eq fun j => ?_
          simp [Nat.testBit_xor] <;> cases x.testBit j <;> cases y.testBit j <;> cases poly.testBit j <;> rfl
/-- A row bit by bit. -/
theorem crcN_xor (size poly : Nat) : ∀ (l m : List Nat) (s t : Nat), l.length = m.length → (∀ x ∈ l, x ≤ 1) → (∀ x ∈ m, x ≤ 1) → crcN size poly (s ^^^ t) (List.zipWith (· ^^^ ·) l m) = crcN size poly s l ^^^ crcN size poly t m := by
  intro l
  induction l with
  | nil => intro m s t h _ _; cases m with
           | nil => rfl
           | cons => simp at h
  | cons x l ih =>
    intro m s t h hl hm
    cases m with
    | nil => simp at h
    | cons y m =>
      simp only [List.zipWith_cons_cons, crcN_cons]
      rw [oneN_xor size poly s t x y (hl x (by simp)) (hm y (by simp))]
      exact ih m _ _ (by simpa using h) (fun x hx => hl x (by simp [hx])) (fun x hx => hm x (by simp [hx]))
theorem oneN_zero (size poly s : Nat) (h0 : 1 ≤ size) (h : s < 2 ^ (size - 1)) : oneN size poly s 0 = s * 2 := by
  unfold oneN
  rw [Nat.div_eq_of_lt h, if_pos rfl, Nat.xor_zero]
  refine Nat.mod_eq_of_lt ?_
  obtain ⟨k, rfl⟩ : ∃ k, size = k + 1 := ⟨size - 1, by omega⟩
  rw [Nat.pow_succ]
  simp at h
  omega
theorem crcN_zeros (size poly : Nat) : ∀ (k s : Nat), k ≤ size → s < 2 ^ (size - k) → crcN size poly s (List.replicate k 0) = s * 2 ^ k := by
  intro k
  induction k with
  | zero => intro s _ _; simp [crcN]
  | succ k ih =>
    intro s hk hs
    rw [List.replicate_succ, crcN_cons, oneN_zero size poly s (by omega) ?_, ih _ (by omega) ?_]
    · rw [Nat.pow_succ, Nat.mul_assoc, Nat.mul_comm 2]
    · have e : size - k = (size - (k + 1)) + 1 := by omega
      rw [e, Nat.pow_succ]; omega
    · exact Nat.lt_of_lt_of_le hs (Nat.pow_le_pow_right (by omega) (by omega))
/-- Four bits whose number is the sum's highest four. -/
theorem crcN_own (size poly : Nat) (h : 4 ≤ size) (b3 b2 b1 b0 : Nat) (h3 : b3 ≤ 1) (h2 : b2 ≤ 1) (h1 : b1 ≤ 1) (h0 : b0 ≤ 1) : crcN size poly ((b3 * 8 + b2 * 4 + b1 * 2 + b0) * 2 ^ (size - 4)) [b3, b2, b1, b0] = 0 := by
  obtain ⟨k, rfl⟩ : ∃ k, size = k + 4 := ⟨size - 4, by omega⟩
  have hp : 0 < 2 ^ k := Nat.two_pow_pos _
  have e3 : 2 ^ (k + 4 - 1) = 8 * 2 ^ k := by rw [show k + 4 - 1 = k + 3 from by omega, Nat.pow_add]; omega
  have e4 : 2 ^ (k + 4) = 16 * 2 ^ k := by rw [Nat.pow_add]; omega
  have e0 : k + 4 - 4 = k := by omega
  rw [e0]
  generalize hP : 2 ^ k = P at *
  have step : ∀ n b : Nat, n < 16 → n / 8 = b → oneN (k + 4) poly (n * P) b = (n * 2 % 16) * P := by
    intro n b hn hb
    unfold oneN
    rw [e3, e4, Nat.mul_div_mul_right _ _ hp, if_pos (by omega), Nat.xor_zero, Nat.mul_right_comm, Nat.mul_mod_mul_right]
  simp only [crcN, List.foldl_cons, List.foldl_nil]
  rw [step _ b3 (by omega) (by omega), step _ b2 (by omega) (by omega), step _ b1 (by omega) (by omega), step _ b0 (by omega) (by omega)]
  have : (((b3 * 8 + b2 * 4 + b1 * 2 + b0) * 2 % 16 * 2 % 16 * 2 % 16) * 2 % 16) = 0 := by omega
  rw [this, Nat.zero_mul]
theorem crcN_flip (size poly : Nat) (h : 4 ≤ size) (hi : Nat) (b3 b2 b1 b0 : Nat) (h3 : b3 ≤ 1) (h2 : b2 ≤ 1) (h1 : b1 ≤ 1) (h0 : b0 ≤ 1) :
    crcN size poly (hi * 2 ^ (size - 4)) [b3, b2, b1, b0] = crcN size poly ((hi ^^^ (b3 * 8 + b2 * 4 + b1 * 2 + b0)) * 2 ^ (size - 4)) [0, 0, 0, 0] := by
  have h1' := crcN_xor size poly [b3, b2, b1, b0] [b3, b2, b1, b0] (hi * 2 ^ (size - 4)) ((b3 * 8 + b2 * 4 + b1 * 2 + b0) * 2 ^ (size - 4)) rfl (by simp; omega) (by simp; omega)
  rw [crcN_own size poly h b3 b2 b1 b0 h3 h2 h1 h0, Nat.xor_zero] at h1'
  rw [← h1']
  simp only [List.zipWith_cons_cons, List.zipWith_nil_left, Nat.xor_self]
  rw [← Nat.shiftLeft_eq, ← Nat.shiftLeft_eq, ← Nat.shiftLeft_eq, ← Nat.shiftLeft_xor_distrib]
/-- The table's row. -/
def tabN (size poly i : Nat) : Nat := crcN size poly (i * 2 ^ (size - 4)) [0, 0, 0, 0]
theorem numN_four (b3 b2 b1 b0 : Nat) : numN [b3, b2, b1, b0] = b3 * 8 + b2 * 4 + b1 * 2 + b0 := by simp [numN]; omega
theorem crcN_four (size poly sum : Nat) (h : 4 ≤ size) (hs : sum < 2 ^ size) (l : List Nat) (hl : l.length = 4) (h01 : ∀ x ∈ l, x ≤ 1) :
    crcN size poly sum l = (sum * 16 % 2 ^ size) ^^^ tabN size poly ((sum / 2 ^ (size - 4)) ^^^ numN l) := by
  match l, hl with
  | [b3, b2, b1, b0], _ =>
    have h3 := h01 b3 (by simp)
    have h2 := h01 b2 (by simp)
    have h1 := h01 b1 (by simp)
    have h0 := h01 b0 (by simp)
    rw [numN_four]
    unfold tabN
    rw [← crcN_flip size poly h _ b3 b2 b1 b0 h3 h2 h1 h0]
    have hsplit : sum = (sum % 2 ^ (size - 4)) ^^^ (sum / 2 ^ (size - 4) * 2 ^ (size - 4)) := by
      refine Nat.eq_of_testBit_eq fun j => ?_
      rw [Nat.testBit_xor, Nat.testBit_mod_two_pow, Nat.testBit_mul_two_pow, Nat.testBit_div_two_pow]
      by_cases hj : j < size - 4
      · simp [hj, show ¬ size - 4 ≤ j by omega]
      · have e2 : j - (size - 4) + (size - 4) = j := by omega
        simp only [hj, decide_false, Bool.false_and, Bool.false_xor, decide_eq_true (show size - 4 ≤ j by omega), Bool.true_and, e2]
    have hz : crcN size poly (sum % 2 ^ (size - 4)) [0, 0, 0, 0] = sum * 16 % 2 ^ size := by
      have := crcN_zeros size poly 4 (sum % 2 ^ (size - 4)) h (Nat.mod_lt _ (Nat.two_pow_pos _))
      rw [show List.replicate 4 0 = [0, 0, 0, 0] from rfl] at this
      rw [this]
      obtain ⟨k, rfl⟩ : ∃ k, size = k + 4 := ⟨size - 4, by omega⟩
      rw [show k + 4 - 4 = k from by omega, Nat.pow_add, show (2 : Nat) ^ 4 = 16 from rfl, Nat.mul_mod_mul_right]
    have hx := crcN_xor size poly [0, 0, 0, 0] [b3, b2, b1, b0] (sum % 2 ^ (size - 4)) (sum / 2 ^ (size - 4) * 2 ^ (size - 4)) rfl (by simp) (by simp; omega)
    rw [← hsplit, hz] at hx
    simp only [List.zipWith_cons_cons, List.zipWith_nil_left, Nat.zero_xor] at hx
    exact hx
end Go.Proofs.YtlmdkmflbhnlgaaGreat
