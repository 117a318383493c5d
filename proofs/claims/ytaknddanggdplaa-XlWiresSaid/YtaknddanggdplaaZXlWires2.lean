/- What the law XlWires needs, part 2: words, walks and plain facts, each with its own head. No condition. -/
import Derived.Test.YtaknddanggdplaaZXlWires1
import Derived.StillTailTactics
import Derived.RangeFuncNested
import Derived.RangeFuncBound
import Derived.RangeFuncCalls
import Derived.RangeFuncLeaves
import Derived.OwnWalkIn
import Derived.TacticsInMore
import Derived.LoopNIn
import Derived.LoopIn
import Derived.Sort.QuietIn
import Derived.Shelf.Abstract
import Derived.Handy
import Derived.OrdersHeld
import Derived.Deep.Quiet
import Derived.StillTail
-- PCrc: Check sums as folds: a table that takes four bits at once makes what bit by bit makes. No condition.
namespace Go.Proofs.Ytaknddanggdplaa
open Go.RowKit
/-- A bit taken in. -/
def oneN (size poly sum b : Nat) : Nat := (sum * 2 % 2 ^ size) ^^^ (if sum / 2 ^ (size - 1) % 2 = b then 0 else poly)
/-- Bits taken in. -/
def crcN (size poly sum : Nat) (l : List Nat) : Nat := l.foldl (oneN size poly) sum
theorem crcN_append (size poly sum : Nat) (a b : List Nat) : crcN size poly sum (a ++ b) = crcN size poly (crcN size poly sum a) b := by simp [crcN]
theorem crcN_cons (size poly sum x : Nat) (l : List Nat) : crcN size poly sum (x :: l) = crcN size poly (oneN size poly sum x) l := rfl
theorem oneN_lt (size poly sum b : Nat) (hp : poly < 2 ^ size) : oneN size poly sum b < 2 ^ size := by
  unfold oneN
  refine Nat.xor_lt_two_pow (Nat.mod_lt _ (Nat.two_pow_pos _)) ?_
  split
  · exact Nat.two_pow_pos _
  · exact hp
theorem crcN_lt (size poly : Nat) (l : List Nat) (hp : poly < 2 ^ size) : ∀ sum, sum < 2 ^ size → crcN size poly sum l < 2 ^ size := by
  induction l with
  | nil => intro sum h; exact h
  | cons x l ih => intro sum _; rw [crcN_cons]; exact ih _ (oneN_lt size poly sum x hp)
theorem bit_xor (s t k : Nat) : (s ^^^ t) / 2 ^ k % 2 = (s / 2 ^ k % 2) ^^^ (t / 2 ^ k % 2) := by
  rw [← Nat.shiftRight_eq_div_pow, ← Nat.shiftRight_eq_div_pow, ← Nat.shiftRight_eq_div_pow, Nat.shiftRight_xor_distrib]
  have := Nat.xor_mod_two_pow (a := s >>> k) (b := t >>> k) (n := 1)
  simpa using this
theorem oneN_xor (size poly s t b c : Nat) (hb : b ≤ 1) (hc : c ≤ 1) : oneN size poly (s ^^^ t) (b ^^^ c) = oneN size poly s b ^^^ oneN size poly t c := by
  have h1 : (s ^^^ t) * 2 % 2 ^ size = (s * 2 % 2 ^ size) ^^^ (t * 2 % 2 ^ size) := by
    have e : ∀ x : Nat, x * 2 = x <<< 1 := fun x => by rw [Nat.shiftLeft_eq]
    rw [e, e, e, Nat.shiftLeft_xor_distrib, Nat.xor_mod_two_pow]
  unfold oneN
  rw [h1, bit_xor]
  have hs : s / 2 ^ (size - 1) % 2 < 2 := Nat.mod_lt _ (by omega)
  have ht : t / 2 ^ (size - 1) % 2 < 2 := Nat.mod_lt _ (by omega)
  generalize s / 2 ^ (size - 1) % 2 = u at *
  generalize t / 2 ^ (size - 1) % 2 = v at *
  generalize s * 2 % 2 ^ size = x at *
  generalize t * 2 % 2 ^ size = y at *
  obtain rfl | rfl : u = 0 ∨ u = 1 := by omega
  all_goals
    obtain rfl | rfl : v = 0 ∨ v = 1 := by omega
    all_goals
      obtain rfl | rfl : b = 0 ∨ b = 1 := by omega
      all_goals
        obtain rfl | rfl : c = 0 ∨ c = 1 := by omega
        all_goals
          refine Nat.eq_of_testBit_eq fun j => ?_
          simp [Nat.testBit_xor] <;> cases x.testBit j <;> cases y.testBit j <;> cases poly.testBit j <;> rfl
/-- A row bit by bit. -/
theorem crcN_xor (size poly : Nat) : ∀ (l m : List Nat) (s t : Nat), l.length = m.length → (∀ x ∈ l, x ≤ 1) → (∀ x ∈ m, x ≤ 1) → crcN size poly (s ^^^ t) (List.zipWith (· ^^^ ·) l m) = crcN size poly s l ^^^ crcN size poly t m := by
  intro l
  induction l with
  | nil => intro m s t h _ _; cases m with
           | nil => rfl
           | cons => simp at h
  | cons x l ih =>
    intro m s t h hl hm
    cases m with
    | nil => simp at h
    | cons y m =>
      simp only [List.zipWith_cons_cons, crcN_cons]
      rw [oneN_xor size poly s t x y (hl x (by simp)) (hm y (by simp))]
      exact ih m _ _ (by simpa using h) (fun x hx => hl x (by simp [hx])) (fun x hx => hm x (by simp [hx]))
theorem oneN_zero (size poly s : Nat) (h0 : 1 ≤ size) (h : s < 2 ^ (size - 1)) : oneN size poly s 0 = s * 2 := by
  unfold oneN
  rw [Nat.div_eq_of_lt h, if_pos rfl, Nat.xor_zero]
  refine Nat.mod_eq_of_lt ?_
  obtain ⟨k, rfl⟩ : ∃ k, size = k + 1 := ⟨size - 1, by omega⟩
  rw [Nat.pow_succ]
  simp at h
  omega
theorem crcN_zeros (size poly : Nat) : ∀ (k s : Nat), k ≤ size → s < 2 ^ (size - k) → crcN size poly s (List.replicate k 0) = s * 2 ^ k := by
  intro k
  induction k with
  | zero => intro s _ _; simp [crcN]
  | succ k ih =>
    intro s hk hs
    rw [List.replicate_succ, crcN_cons, oneN_zero size poly s (by omega) ?_, ih _ (by omega) ?_]
    · rw [Nat.pow_succ, Nat.mul_assoc, Nat.mul_comm 2]
    · have e : size - k = (size - (k + 1)) + 1 := by omega
      rw [e, Nat.pow_succ]; omega
    · exact Nat.lt_of_lt_of_le hs (Nat.pow_le_pow_right (by omega) (by omega))
/-- Four bits whose number is the sum's highest four. -/
theorem crcN_own (size poly : Nat) (h : 4 ≤ size) (b3 b2 b1 b0 : Nat) (h3 : b3 ≤ 1) (h2 : b2 ≤ 1) (h1 : b1 ≤ 1) (h0 : b0 ≤ 1) : crcN size poly ((b3 * 8 + b2 * 4 + b1 * 2 + b0) * 2 ^ (size - 4)) [b3, b2, b1, b0] = 0 := by
  obtain ⟨k, rfl⟩ : ∃ k, size = k + 4 := ⟨size - 4, by omega⟩
  have hp : 0 < 2 ^ k := Nat.two_pow_pos _
  have e3 : 2 ^ (k + 4 - 1) = 8 * 2 ^ k := by rw [show k + 4 - 1 = k + 3 from by omega, Nat.pow_add]; omega
  have e4 : 2 ^ (k + 4) = 16 * 2 ^ k := by rw [Nat.pow_add]; omega
  have e0 : k + 4 - 4 = k := by omega
  rw [e0]
  generalize hP : 2 ^ k = P at *
  have step : ∀ n b : Nat, n < 16 → n / 8 = b → oneN (k + 4) poly (n * P) b = (n * 2 % 16) * P := by
    intro n b hn hb
    unfold oneN
    rw [e3, e4, Nat.mul_div_mul_right _ _ hp, if_pos (by omega), Nat.xor_zero, Nat.mul_right_comm, Nat.mul_mod_mul_right]
  simp only [crcN, List.foldl_cons, List.foldl_nil]
  rw [step _ b3 (by omega) (by omega), step _ b2 (by omega) (by omega), step _ b1 (by omega) (by omega), step _ b0 (by omega) (by omega)]
  have : (((b3 * 8 + b2 * 4 + b1 * 2 + b0) * 2 % 16 * 2 % 16 * 2 % 16) * 2 % 16) = 0 := by omega
  rw [this, Nat.zero_mul]
theorem crcN_flip (size poly : Nat) (h : 4 ≤ size) (hi : Nat) (b3 b2 b1 b0 : Nat) (h3 : b3 ≤ 1) (h2 : b2 ≤ 1) (h1 : b1 ≤ 1) (h0 : b0 ≤ 1) :
    crcN size poly (hi * 2 ^ (size - 4)) [b3, b2, b1, b0] = crcN size poly ((hi ^^^ (b3 * 8 + b2 * 4 + b1 * 2 + b0)) * 2 ^ (size - 4)) [0, 0, 0, 0] := by
  have h1' := crcN_xor size poly [b3, b2, b1, b0] [b3, b2, b1, b0] (hi * 2 ^ (size - 4)) ((b3 * 8 + b2 * 4 + b1 * 2 + b0) * 2 ^ (size - 4)) rfl (by simp; omega) (by simp; omega)
  rw [crcN_own size poly h b3 b2 b1 b0 h3 h2 h1 h0, Nat.xor_zero] at h1'
  rw [← h1']
  simp only [List.zipWith_cons_cons, List.zipWith_nil_left, Nat.xor_self]
  rw [← Nat.shiftLeft_eq, ← Nat.shiftLeft_eq, ← Nat.shiftLeft_eq, ← Nat.shiftLeft_xor_distrib]
/-- The table's row. -/
def tabN (size poly i : Nat) : Nat := crcN size poly (i * 2 ^ (size - 4)) [0, 0, 0, 0]
theorem numN_four (b3 b2 b1 b0 : Nat) : numN [b3, b2, b1, b0] = b3 * 8 + b2 * 4 + b1 * 2 + b0 := by simp [numN]; omega
theorem crcN_four (size poly sum : Nat) (h : 4 ≤ size) (hs : sum < 2 ^ size) (l : List Nat) (hl : l.length = 4) (h01 : ∀ x ∈ l, x ≤ 1) :
    crcN size poly sum l = (sum * 16 % 2 ^ size) ^^^ tabN size poly ((sum / 2 ^ (size - 4)) ^^^ numN l) := by
  match l, hl with
  | [b3, b2, b1, b0], _ =>
    have h3 := h01 b3 (by simp)
    have h2 := h01 b2 (by simp)
    have h1 := h01 b1 (by simp)
    have h0 := h01 b0 (by simp)
    rw [numN_four]
    unfold tabN
    rw [← crcN_flip size poly h _ b3 b2 b1 b0 h3 h2 h1 h0]
    have hsplit : sum = (sum % 2 ^ (size - 4)) ^^^ (sum / 2 ^ (size - 4) * 2 ^ (size - 4)) := by
      refine Nat.eq_of_testBit_eq fun j => ?_
      rw [Nat.testBit_xor, Nat.testBit_mod_two_pow, Nat.testBit_mul_two_pow, Nat.testBit_div_two_pow]
      by_cases hj : j < size - 4
      · simp [hj, show ¬ size - 4 ≤ j by omega]
      · have e2 : j - (size - 4) + (size - 4) = j := by omega
        simp only [hj, decide_false, Bool.false_and, Bool.false_xor, decide_eq_true (show size - 4 ≤ j by omega), Bool.true_and, e2]
    have hz : crcN size poly (sum % 2 ^ (size - 4)) [0, 0, 0, 0] = sum * 16 % 2 ^ size := by
      have := crcN_zeros size poly 4 (sum % 2 ^ (size - 4)) h (Nat.mod_lt _ (Nat.two_pow_pos _))
      rw [show List.replicate 4 0 = [0, 0, 0, 0] from rfl] at this
      rw [this]
      obtain ⟨k, rfl⟩ : ∃ k, size = k + 4 := ⟨size - 4, by omega⟩
      rw [show k + 4 - 4 = k from by omega, Nat.pow_add, show (2 : Nat) ^ 4 = 16 from rfl, Nat.mul_mod_mul_right]
    have hx := crcN_xor size poly [0, 0, 0, 0] [b3, b2, b1, b0] (sum % 2 ^ (size - 4)) (sum / 2 ^ (size - 4) * 2 ^ (size - 4)) rfl (by simp) (by simp; omega)
    rw [← hsplit, hz] at hx
    simp only [List.zipWith_cons_cons, List.zipWith_nil_left, Nat.zero_xor] at hx
    exact hx
end Go.Proofs.Ytaknddanggdplaa
-- PStuff: Stuffing as a law of lists: runs, lengths, and where two rows first differ. No condition.
namespace Go.Proofs.Ytaknddanggdplaa
open Go.RowKit
/-- The run behind one bit more. -/
def seeN (last run x : Nat) : Nat := if 0 < run ∧ last = x then run + 1 else 1
def stf : Nat → Nat → List Nat → List Nat
  | _, _, [] => []
  | last, run, b :: l => if run = 5 then (1 - last) :: b :: stf b (seeN (1 - last) 1 b) l else b :: stf b (seeN last run b) l
/-- The state of the raw row behind a list. -/
def stE : Nat → Nat → List Nat → Nat × Nat
  | last, run, [] => (last, run)
  | last, run, b :: l => if run = 5 then stE b (seeN (1 - last) 1 b) l else stE b (seeN last run b) l
/-- Bits with stuff bits. -/
def stuffN (l : List Nat) : List Nat := stf 0 0 l
theorem seeN_le (last run x : Nat) : seeN last run x ≤ run + 1 := by unfold seeN; split <;> omega
theorem seeN_pos (last run x : Nat) : 1 ≤ seeN last run x := by unfold seeN; split <;> omega
theorem stf_append (a b : List Nat) : ∀ last run, stf last run (a ++ b) = stf last run a ++ stf (stE last run a).1 (stE last run a).2 b := by
  induction a with
  | nil => intro last run; rfl
  | cons x a ih =>
    intro last run
    simp only [List.cons_append, stf, stE]
    split <;> rw [ih] <;> rfl
theorem stE_append (a b : List Nat) : ∀ last run, stE last run (a ++ b) = stE (stE last run a).1 (stE last run a).2 b := by
  induction a with
  | nil => intro last run; rfl
  | cons x a ih =>
    intro last run
    simp only [List.cons_append, stE]
    split <;> rw [ih]
theorem stE_le (l : List Nat) : ∀ last run, run ≤ 5 → (stE last run l).2 ≤ 5 := by
  induction l with
  | nil => intro last run h; exact h
  | cons x l ih =>
    intro last run h
    simp only [stE]
    split
    · exact ih _ _ (by have := seeN_le (1 - last) 1 x; omega)
    · exact ih _ _ (by have := seeN_le last run x; omega)
theorem stf_len (l : List Nat) : ∀ last run, run ≤ 5 → l ≠ [] → 4 * (stf last run l).length + 1 ≤ 5 * l.length + run := by
  induction l with
  | nil => intro _ _ _ h; exact absurd rfl h
  | cons x l ih =>
    intro last run h _
    simp only [stf]
    by_cases hl : l = []
    · subst hl
      split <;> simp [stf] <;> omega
    · split
      · have h1 := seeN_le (1 - last) 1 x
        have := ih x (seeN (1 - last) 1 x) (by omega) hl
        simp only [List.length_cons]; omega
      · have h1 := seeN_le last run x
        have := ih x (seeN last run x) (by omega) hl
        simp only [List.length_cons]; omega
theorem stf_ge (l : List Nat) : ∀ last run, l.length ≤ (stf last run l).length := by
  induction l with
  | nil => intro _ _; simp
  | cons x l ih =>
    intro last run
    simp only [stf]
    split
    · have := ih x (seeN (1 - last) 1 x); simp only [List.length_cons]; omega
    · have := ih x (seeN last run x); simp only [List.length_cons]; omega
theorem stuffN_len (l : List Nat) (h : l ≠ []) : (stuffN l).length ≤ l.length + (l.length - 1) / 4 := by
  have := stf_len l 0 0 (by omega) h
  unfold stuffN; omega
theorem stuffN_le (l : List Nat) : (stuffN l).length ≤ l.length + l.length / 4 := by
  by_cases h : l = []
  · subst h; simp [stuffN, stf]
  · have := stuffN_len l h; omega
theorem stuffN_ge (l : List Nat) : l.length ≤ (stuffN l).length := stf_ge l 0 0
theorem stf_bits (l : List Nat) (hl : ∀ x ∈ l, x ≤ 1) : ∀ last run, ∀ x ∈ stf last run l, x ≤ 1 := by
  induction l with
  | nil => intro _ _ x hx; simp [stf] at hx
  | cons b l ih =>
    intro last run x hx
    have hb := hl b (by simp)
    have hl' : ∀ x ∈ l, x ≤ 1 := fun x hx => hl x (by simp [hx])
    simp only [stf] at hx
    split at hx
    · simp only [List.mem_cons] at hx
      rcases hx with rfl | rfl | hx
      · omega
      · exact hb
      · exact ih hl' _ _ x hx
    · simp only [List.mem_cons] at hx
      rcases hx with rfl | hx
      · exact hb
      · exact ih hl' _ _ x hx
theorem stuffN_bits (l : List Nat) (hl : ∀ x ∈ l, x ≤ 1) : ∀ x ∈ stuffN l, x ≤ 1 := stf_bits l hl 0 0
theorem stf_diff (p a b : List Nat) (x y : Nat) : ∀ last run, ∃ q a' b', stf last run (p ++ x :: a) = q ++ x :: a' ∧ stf last run (p ++ y :: b) = q ++ y :: b' := by
  induction p with
  | nil =>
    intro last run
    simp only [List.nil_append, stf]
    split
    · exact ⟨[1 - last], _, _, rfl, rfl⟩
    · exact ⟨[], _, _, rfl, rfl⟩
  | cons z p ih =>
    intro last run
    simp only [List.cons_append, stf]
    split
    · obtain ⟨q, a', b', h1, h2⟩ := ih z (seeN (1 - last) 1 z)
      exact ⟨(1 - last) :: z :: q, a', b', by rw [h1]; rfl, by rw [h2]; rfl⟩
    · obtain ⟨q, a', b', h1, h2⟩ := ih z (seeN last run z)
      exact ⟨z :: q, a', b', by rw [h1]; rfl, by rw [h2]; rfl⟩
/-- Runs of a raw row: none is longer than five. -/
def runsB : Nat → Nat → List Nat → Bool
  | _, _, [] => true
  | last, run, b :: l => decide (seeN last run b ≤ 5) && runsB b (seeN last run b) l
theorem stf_runs (l : List Nat) : ∀ last run, run ≤ 5 → runsB last run (stf last run l) = true := by
  induction l with
  | nil => intro _ _ _; rfl
  | cons b l ih =>
    intro last run h
    simp only [stf]
    split
    · have e : seeN last run (1 - last) = 1 := by unfold seeN; rw [if_neg (by omega)]
      have h1 := seeN_le (1 - last) 1 b
      simp only [runsB, e]
      rw [ih _ _ (by omega)]
      simp; omega
    · have h1 := seeN_le last run b
      simp only [runsB]
      rw [ih _ _ (by omega)]
      simp; omega
theorem stuffN_runs (l : List Nat) : runsB 0 0 (stuffN l) = true := stf_runs l 0 0 (by omega)
/-- The state of a raw row. -/
def rawE : Nat → Nat → List Nat → Nat × Nat
  | last, run, [] => (last, run)
  | last, run, b :: l => rawE b (seeN last run b) l
theorem rawE_append (a b : List Nat) : ∀ last run, rawE last run (a ++ b) = rawE (rawE last run a).1 (rawE last run a).2 b := by
  induction a with
  | nil => intro last run; rfl
  | cons x a ih => intro last run; simp only [List.cons_append, rawE]; rw [ih]
theorem rawE_stf (l : List Nat) : ∀ last run, run ≤ 5 → rawE last run (stf last run l) = stE last run l := by
  induction l with
  | nil => intro _ _ _; rfl
  | cons b l ih =>
    intro last run h
    simp only [stf, stE]
    split
    · have e : seeN last run (1 - last) = 1 := by unfold seeN; rw [if_neg (by omega)]
      have h1 := seeN_le (1 - last) 1 b
      simp only [rawE, e]
      exact ih _ _ (by omega)
    · have h1 := seeN_le last run b
      simp only [rawE]
      exact ih _ _ (by omega)
theorem runsB_append (a b : List Nat) : ∀ last run, runsB last run (a ++ b) = (runsB last run a && runsB (rawE last run a).1 (rawE last run a).2 b) := by
  induction a with
  | nil => intro last run; simp [runsB, rawE]
  | cons x a ih => intro last run; simp only [List.cons_append, runsB, rawE]; rw [ih, Bool.and_assoc]
/-- How a raw row ends. -/
def Tails (last run : Nat) (out : List Nat) : Prop := (run = 0 ∧ out = []) ∨ (1 ≤ run ∧ ∃ pre, out = pre ++ List.replicate run last ∧ ∀ p y, pre = p ++ [y] → y ≠ last)
theorem Tails.see {last run : Nat} {out : List Nat} (h : Tails last run out) (b : Nat) : Tails b (seeN last run b) (out ++ [b]) := by
  right
  refine ⟨seeN_pos _ _ _, ?_⟩
  rcases h with ⟨rfl, rfl⟩ | ⟨h1, pre, rfl, hp⟩
  · exact ⟨[], by simp [seeN], fun p y h => by simp at h⟩
  · by_cases e : last = b
    · subst e
      refine ⟨pre, ?_, hp⟩
      have : seeN last run last = run + 1 := by unfold seeN; rw [if_pos ⟨by omega, rfl⟩]
      rw [this, List.replicate_succ', List.append_assoc]
    · have : seeN last run b = 1 := by unfold seeN; rw [if_neg (by simp [e])]
      rw [this]
      refine ⟨pre ++ List.replicate run last, by simp, fun p y h => ?_⟩
      obtain ⟨r, rfl⟩ : ∃ r, run = r + 1 := ⟨run - 1, by omega⟩
      rw [List.replicate_succ', ← List.append_assoc] at h
      have := List.append_inj_right' h rfl
      simp at this
      omega
theorem Tails.full {last run : Nat} {out : List Nat} (h : Tails last run out) (h5 : run ≤ 5) : run = 5 ↔ (5 ≤ out.length ∧ ∀ j, j < 5 → out[out.length - 1 - j]? = out[out.length - 1]?) := by
  rcases h with ⟨rfl, rfl⟩ | ⟨h1, pre, rfl, hp⟩
  · simp
  · have hlast : ∀ j, j < run → (pre ++ List.replicate run last)[(pre ++ List.replicate run last).length - 1 - j]? = some last := by
      intro j hj
      rw [List.getElem?_append_right (by simp; omega), List.getElem?_replicate, if_pos (by simp; omega)]
    constructor
    · rintro rfl
      refine ⟨by simp, fun j hj => ?_⟩
      have h0 := hlast 0 (by omega)
      rw [Nat.sub_zero] at h0
      rw [hlast j hj, h0]
    · rintro ⟨h6, h7⟩
      refine Classical.byContradiction fun hne => ?_
      have hr : run < 5 := by omega
      rcases List.eq_nil_or_concat pre with rfl | ⟨p, y, hpre⟩
      · simp at h6; omega
      · rw [List.concat_eq_append] at hpre
        subst hpre
        have h8 := h7 run hr
        have h9 := hlast 0 (by omega)
        rw [Nat.sub_zero] at h9
        rw [h9] at h8
        have hy := hp p y rfl
        rw [List.getElem?_append_left (by simp)] at h8
        have e : (p ++ [y] ++ List.replicate run last).length - 1 - run = p.length := by simp
        rw [e, List.getElem?_append_right (by omega)] at h8
        simp at h8
        exact hy h8
end Go.Proofs.Ytaknddanggdplaa
-- PXl: An XL frame's data part, by definition. No condition.
namespace Go.Proofs.Ytaknddanggdplaa
open Go.RowKit
def codeX (f : Fr) : Nat := ((codeF f.kind f.data.length).getD 0).toNat
/-- Ahead of the first sum: SDT, SEC, the code of the size, the tally of the head's stuff bits. -/
def part1X (f : Fr) : List Nat := bitsN f.sdt.toNat 8 ++ bitsN (bitB f.sec) 1 ++ bitsN (codeX f) 11 ++ tallyN ((stuffN (headX f)).length - 17)
def part2X (f : Fr) : List Nat := part1X f ++ bitsN (crcN 13 6631 1 (headX f ++ part1X f)) 13
def part3X (f : Fr) : List Nat := part2X f ++ bitsN f.vcid.toNat 8 ++ bitsN f.af.toNat 32 ++ bytesN f.data
def bodyX (f : Fr) : List Nat := part3X f ++ bitsN (crcN 32 4104977171 1 ([] ++ part3X f)) 32
theorem part1X_length (f : Fr) : (part1X f).length = 24 := by simp [part1X, bitsN_length, tallyN_length]
theorem part2X_length (f : Fr) : (part2X f).length = 37 := by simp [part2X, part1X_length, bitsN_length]
theorem part3X_length (f : Fr) : (part3X f).length = 77 + 8 * f.data.length := by simp [part3X, part2X_length, bitsN_length, bytesN_length]; omega
theorem bodyX_length (f : Fr) : (bodyX f).length = 109 + 8 * f.data.length := by simp [bodyX, part3X_length, bitsN_length]; omega
theorem headX_bits (f : Fr) : ∀ x ∈ headX f, x ≤ 1 := by
  intro x hx
  unfold headX at hx
  simp only [List.mem_append] at hx
  rcases hx with (h | h) | h <;> exact bitsN_bit _ _ x h
theorem part1X_bits (f : Fr) : ∀ x ∈ part1X f, x ≤ 1 := by
  intro x hx
  unfold part1X tallyN at hx
  simp only [List.mem_append] at hx
  rcases hx with ((h | h) | h) | h <;> exact bitsN_bit _ _ x h
theorem part2X_bits (f : Fr) : ∀ x ∈ part2X f, x ≤ 1 := by
  intro x hx
  unfold part2X at hx
  rcases List.mem_append.1 hx with h | h
  · exact part1X_bits f x h
  · exact bitsN_bit _ _ x h
theorem part3X_bits (f : Fr) : ∀ x ∈ part3X f, x ≤ 1 := by
  intro x hx
  unfold part3X at hx
  simp only [List.mem_append] at hx
  rcases hx with ((h | h) | h) | h
  · exact part2X_bits f x h
  · exact bitsN_bit _ _ x h
  · exact bitsN_bit _ _ x h
  · exact bytesN_bits _ x h
theorem bodyX_bits (f : Fr) : ∀ x ∈ bodyX f, x ≤ 1 := by
  intro x hx
  unfold bodyX at hx
  rcases List.mem_append.1 hx with h | h
  · exact part3X_bits f x h
  · exact bitsN_bit _ _ x h
end Go.Proofs.Ytaknddanggdplaa
-- Crc: Check sums bit by bit, and the table's rows. No condition.
namespace Go.Proofs.Ytaknddanggdplaa
open Go.RowKit
abbrev kindV (size poly start : Nat) : Value := .agg #[.int .i64 size, .int .u64 poly, .int .u64 start]
theorem pow32 {size : Nat} (h32 : size ≤ 32) : 2 ^ size ≤ 4294967296 := by
  have h1 : 2 ^ size ≤ 2 ^ 32 := Nat.pow_le_pow_right (by omega) h32
  have h2 : (2 : Nat) ^ 32 = 4294967296 := by decide
  omega
theorem mask_u64 (size x : Nat) (h32 : size ≤ 32) (hx : x < 18446744073709551616) : bits .and .u64 (x : Int) (IntKind.u64.wrap (IntKind.u64.wrap (2 ^ size) - 1)) = ((x % 2 ^ size : Nat) : Int) := by
  have hp := pow32 h32
  have hp1 : 0 < 2 ^ size := Nat.two_pow_pos _
  have e1 : ((2 : Int) ^ size) = ((2 ^ size : Nat) : Int) := by simp
  have e2 : IntKind.u64.wrap ((2 ^ size : Nat) : Int) = ((2 ^ size : Nat) : Int) := IntWalk.u64_in _ ⟨by omega, by omega⟩
  have e3 : IntKind.u64.wrap (((2 ^ size : Nat) : Int) - 1) = ((2 ^ size - 1 : Nat) : Int) := by
    rw [IntWalk.u64_in _ ⟨by omega, by omega⟩]; omega
  rw [e1, e2, e3, u64_and_nat _ _ hx (by omega), Nat.and_two_pow_sub_one_eq_mod]
theorem top_u64 (k sum : Nat) (hs : sum < 18446744073709551616) : bits .and .u64 ((sum : Int) / 2 ^ k) 1 = ((sum / 2 ^ k % 2 : Nat) : Int) := by
  have e : ((sum : Int) / 2 ^ k) = ((sum / 2 ^ k : Nat) : Int) := by simp
  have hle : sum / 2 ^ k ≤ sum := Nat.div_le_self _ _
  rw [e, and_one_u64 _ (Int.natCast_nonneg _) (by omega)]; simp
set_option maxRecDepth 100000 in
set_option maxHeartbeats 1000000 in
theorem one_any (size poly start sum b : Nat) (w : World) (h4 : 4 ≤ size) (h32 : size ≤ 32) (hp : poly < 2 ^ size) (hs : sum < 2 ^ size) :
    Calls Try.prog 123 #[kindV size poly start, .int .u64 sum, .int .u8 b] w fun e w' => e = .returned (.int .u64 (oneN size poly sum b : Nat)) ∧ Below w.heap.size w w' := by
  have hpw := pow32 h32
  have hand := top_u64 (size - 1) sum (by omega)
  have hmask : bits .and .u64 (IntKind.u64.wrap ((sum : Int) * 2)) (IntKind.u64.wrap (IntKind.u64.wrap (2 ^ size) - 1)) = ((sum * 2 % 2 ^ size : Nat) : Int) := by
    have e : IntKind.u64.wrap ((sum : Int) * 2) = ((sum * 2 : Nat) : Int) := by rw [IntWalk.u64_in _ ⟨by omega, by omega⟩]; omega
    rw [e, mask_u64 size _ h32 (by omega)]
  have hlt : sum * 2 % 2 ^ size < 2 ^ size := Nat.mod_lt _ (Nat.two_pow_pos _)
  have hxor : bits .xor .u64 ((sum * 2 % 2 ^ size : Nat) : Int) (poly : Int) = ((sum * 2 % 2 ^ size ^^^ poly : Nat) : Int) := u64_xor_nat _ _ (by omega) (by omega)
  have hh : sum / 2 ^ (size - 1) % 2 ≤ 1 := by omega
  have hone : oneN size poly sum b = (sum * 2 % 2 ^ size) ^^^ (if sum / 2 ^ (size - 1) % 2 = b then 0 else poly) := rfl
  generalize oneN size poly sum b = r at *
  generalize sum / 2 ^ (size - 1) % 2 = h at *
  generalize sum * 2 % 2 ^ size = s2 at *
  have hmod : (h : Int) % 256 = h := by omega
  have HO := Lib.hid hone
  clear hone hlt hpw hs hp
  by_cases e : h = b
  · have hd : ((h : Int) != (b : Int)) = false := by rw [e]; simp
    have HE := Lib.hid e
    clear e
    go_enter Try.func123, Try.ntmps123
    go_wp2_with fail
    go_ret
    exact ⟨ret_int (by rw [HO.out, if_pos HE.out, Nat.xor_zero]), below_alloc (Below.refl _ _) _⟩
  · have hd : ((h : Int) != (b : Int)) = true := by rw [bne_iff_ne]; omega
    have HE := Lib.hid e
    clear e
    go_enter Try.func123, Try.ntmps123
    go_wp2_with fail
    go_ret
    exact ⟨ret_int (by rw [HO.out, if_neg HE.out]), below_alloc (Below.refl _ _) _⟩

set_option maxHeartbeats 1000000 in
theorem all_any (size poly start sum : Nat) (A : Option Addr) (n c : Nat) (l : List Nat) (w : World) (h4 : 4 ≤ size) (h32 : size ≤ 32) (hp : poly < 2 ^ size) (hs : sum < 2 ^ size) (hr : Rd w A (bys l)) (hn : l.length = n) (hn2 : n ≤ 1000000) (hb : ∀ x ∈ l, x ≤ 1) :
    Calls Try.prog 122 #[.int .u64 sum, .slice A n c, .func (.func 123) #[kindV size poly start] #[]] w fun e w' => e = .returned (.int .u64 (crcN size poly sum l : Nat)) ∧ Below w.heap.size w w' := by
  have HR := Lib.hid hr
  have HN := Lib.hid hn
  have HB := Lib.hid hb
  have HP := Lib.hid hp
  have HS := Lib.hid hs
  clear hr hn hb hp hs
  go_enter Try.func122, Try.ntmps122
  go_wp2_with fail
  go_loopw [0, 11] (fun sv iv wr => ∃ k s : Nat, k ≤ n ∧ Hid (s < 2 ^ size) ∧ Hid (s = crcN size poly sum (l.take k)) ∧ sv = .int .u64 s ∧ iv = .int .i64 k ∧ Hid (Below w.heap.size w wr)) (fun _ iv _ => n - (intOf iv).toNat)
  case atStart => exact ⟨0, sum, by omega, HS, rfl, rfl, rfl, Below.refl _ _⟩
  case round =>
    obtain ⟨k, s, hk, hs, HC, rfl, rfl, HW⟩ := hrel
    by_cases hkn : k < n
    · have hkl : k < l.length := by rw [HN.out]; exact hkn
      obtain ⟨ad, rfl, ca⟩ := (HR.out.below HW.out).at_ k hkl
      have hx := HB.out l[k] (List.getElem_mem hkl)
      have hnext : oneN size poly s l[k] = crcN size poly sum (l.take (k + 1)) := by
        rw [List.take_succ_eq_append_getElem hkl, crcN_append, ← HC.out]; rfl
      obtain ⟨x, hxe⟩ : ∃ x, l[k] = x := ⟨_, rfl⟩
      rw [hxe] at ca hx hnext
      have HX := Lib.hid hnext
      clear hnext hxe
      go_wp2_with fail
      refine (one_any size poly start s x _ h4 h32 HP.out hs.out).mono ?_
      rintro e w2 ⟨rfl, hb2⟩
      have HB2 := Lib.hid hb2
      clear hb2
      go_wp2_with fail
      go_roundw
      case rel => exact ⟨k + 1, _, by omega, oneN_lt size poly s x HP.out, HX.out, rfl, by go_num, below_trans HW.out HB2.out⟩
      case measure => simp [intOf]; omega
    · obtain rfl : n = k := by omega
      go_wp2_with fail
      go_ret
      have h1 := HC.out
      rw [← HN.out, List.take_length] at h1
      exact ⟨ret_int (by rw [h1]), HW.out⟩
end Go.Proofs.Ytaknddanggdplaa
-- Table: The check sums' table. No condition.
namespace Go.Proofs.Ytaknddanggdplaa
open Go.RowKit
def tabV (size poly k : Nat) : List Value := (List.range 16).map fun i => .int .u64 ((if i < k then tabN size poly i else 0 : Nat) : Int)
theorem tabV_length (size poly k : Nat) : (tabV size poly k).length = 16 := by simp [tabV]
theorem tabV_set (size poly k : Nat) (_hk : k < 16) : (tabV size poly k).set k (.int .u64 (tabN size poly k : Nat)) = tabV size poly (k + 1) := by
  refine List.ext_getElem? fun i => ?_
  unfold tabV
  rw [List.getElem?_set]
  by_cases hi : i < 16
  · by_cases e : k = i
    · subst e; simp [hi]
    · simp [hi, e, show (i < k + 1) ↔ i < k by omega]
  · simp [hi]; omega
set_option maxRecDepth 100000 in
set_option maxHeartbeats 2000000 in
theorem table_any (size poly start : Nat) (w : World) (h4 : 4 ≤ size) (h32 : size ≤ 32) (hp : poly < 2 ^ size) :
    Calls Try.prog 120 #[kindV size poly start] w fun e w' => e = .returned (.agg (tabV size poly 16).toArray) ∧ Below w.heap.size w w' := by
  have HP := Lib.hid hp
  clear hp
  have hz : tabV size poly 0 = List.replicate 16 (.int .u64 0) := by simp [tabV]; rfl
  have HZ := Lib.hid hz
  clear hz
  go_enter Try.func120, Try.ntmps120
  go_wp2_with fail
  obtain ⟨g, hg⟩ : ∃ g, w.heap.size = g := ⟨_, rfl⟩
  go_loopw [4] (fun iv wr => ∃ k : Nat, k ≤ 16 ∧ iv = .int .i64 k ∧ Hid (wr.heap[g]? = some (.cells #[.int .i64 size, .int .u64 poly, .int .u64 start] 118)) ∧ Hid (wr.heap[g + 1]? = some (.cells (tabV size poly k).toArray 140)) ∧ Hid (Below g w wr)) (fun iv _ => 16 - (intOf iv).toNat)
  case atStart =>
    refine ⟨0, by omega, rfl, ?_, ?_, ?_⟩
    · exact heap_push (heap_new_at hg.symm)
    · rw [HZ.out]; exact heap_new_at (by simp [hg])
    · subst hg; exact below_alloc (below_alloc (Below.refl _ _) _) _
  case round =>
    obtain ⟨k, hk, rfl, HK, HT, HW⟩ := hrel
    by_cases hk16 : k < 16
    · obtain ⟨a0, a1, a2⟩ : wr.cell? ⟨g, 0, none⟩ = some (.int .i64 size) ∧ wr.cell? ⟨g, 1, none⟩ = some (.int .u64 poly) ∧ wr.cell? ⟨g, 2, none⟩ = some (.int .u64 start) := ⟨cell_of_heap HK.out 0 _ rfl, cell_of_heap HK.out 1 _ rfl, cell_of_heap HK.out 2 _ rfl⟩
      obtain ⟨u, hu⟩ : ∃ u, wr.cell? ⟨g + 1, k, none⟩ = some u := ⟨_, cell_of_heap HT.out k ((tabV size poly k)[k]'(by rw [tabV_length]; exact hk16)) (by simp)⟩
      have hf : wr.frozen? ⟨g + 1, k, none⟩ = false := by simp [World.frozen?, HT.out]
      subst hg
      have hpw := pow32 h32
      obtain ⟨p, hp4⟩ : ∃ p, size - 4 = p := ⟨_, rfl⟩
      have hlt : k * 2 ^ p < 2 ^ size := by
        obtain rfl : size = p + 4 := by omega
        rw [Nat.pow_add]
        have h0 : 0 < 2 ^ p := Nat.two_pow_pos _
        have := Nat.mul_lt_mul_of_pos_right hk16 h0
        omega
      have hwk : IntKind.u64.wrap (k : Int) = k := IntWalk.u64_in _ ⟨by omega, by omega⟩
      have hs4 : IntKind.i64.wrap ((size : Int) - 4) = (p : Int) := by rw [IntWalk.i64_in _ (by omega)]; omega
      have hsh : IntKind.u64.wrap ((k : Int) * 2 ^ p) = ((k * 2 ^ p : Nat) : Int) := by
        have e : ((k : Int) * 2 ^ p) = ((k * 2 ^ p : Nat) : Int) := by simp
        rw [e, IntWalk.u64_in _ ⟨by omega, by omega⟩]
      have hpb : p ≤ 32 := by omega
      have hdec : decide ((k : Int) < 16) = true := by simp; omega
      have hall := fun W (hW : Rd W (some ⟨wr.heap.size, 0, none⟩) (bys [0, 0, 0, 0])) => all_any size poly start (k * 2 ^ p) (some ⟨wr.heap.size, 0, none⟩) 4 4 [0, 0, 0, 0] W h4 h32 HP.out hlt hW rfl (by omega) (by simp)
      have hset := tabV_set size poly k hk16
      have htab : tabN size poly k = crcN size poly (k * 2 ^ p) [0, 0, 0, 0] := by rw [← hp4]; rfl
      rw [← htab] at hall
      generalize tabN size poly k = r at *
      generalize k * 2 ^ p = q at *
      have hmk : ∀ W : World, Sem.run Try.prog (Instr.makeSlice 23 (.int .i64 4) (.int .i64 4)) W = .ok (.slice (some ⟨W.heap.size, 0, none⟩) 4 4) (W.alloc (.cells #[.int .u8 0, .int .u8 0, .int .u8 0, .int .u8 0] 5)) := fun _ => by kernel_rfl
      have hk16i : (k : Int) < 16 := by omega
      have hk0 : (0 : Int) ≤ (k : Int) := by omega
      have hu2 : (wr.alloc (.cells #[.int .u8 0, .int .u8 0, .int .u8 0, .int .u8 0] 5)).drew.cell? ⟨w.heap.size + 1, k, none⟩ = some u := Below.cell_of (below_alloc (Below.refl _ _) _).drew hu
      have hlt1 : w.heap.size + 1 < wr.heap.size := heap_lt HT.out
      have hbl : w.heap.size + 1 < (wr.alloc (.cells #[.int .u8 0, .int .u8 0, .int .u8 0, .int .u8 0] 5)).drew.heap.size := Nat.lt_of_lt_of_le hlt1 (below_alloc (Below.refl _ _) _).drew.size
      have hf2 : (wr.alloc (.cells #[.int .u8 0, .int .u8 0, .int .u8 0, .int .u8 0] 5)).drew.frozen? ⟨w.heap.size + 1, k, none⟩ = false := ((below_alloc (Below.refl _ _) _).drew.frozen (p := ⟨w.heap.size + 1, k, none⟩) hlt1).trans hf
      have HALL := Lib.hid hall
      have HTAB := Lib.hid htab
      have HSET := Lib.hid hset
      clear hall htab hlt hpw hp4 hset
      go_wp2_with fail
      go_region_held3 (fun w' => w'.cell? ⟨w.heap.size, 0, none⟩ = some (.int .i64 size) ∧ w'.cell? ⟨w.heap.size, 1, none⟩ = some (.int .u64 poly) ∧ w'.cell? ⟨w.heap.size, 2, none⟩ = some (.int .u64 start))
        (first
          | go_keep
          | exact ⟨a0, a1, a2⟩
          | (refine ⟨Below.cell_of hb2 (by assumption), Below.cell_of hb2 (by assumption), Below.cell_of hb2 (by assumption)⟩)
          | (refine ⟨Below.cell_of hb2 ?_, Below.cell_of hb2 ?_, Below.cell_of hb2 ?_⟩ <;> simp [*]))
        (first
          | (go_at_call 122; refine (HALL.out _ (Rd.drew (Rd.blk (heap_new_at rfl)))).mono ?_; rintro x w2 ⟨rfl, hb2⟩; have hs2 : w2.cell? ⟨w.heap.size + 1, k, none⟩ = some u := Below.cell_of hb2 hu2; have hz2 : w2.frozen? ⟨w.heap.size + 1, k, none⟩ = false := (hb2.frozen hbl).trans hf2))
      all_goals
        go_wp2_with fail
        go_roundw
        case rel =>
          refine ⟨k + 1, by omega, by go_num, ?_, ?_, ?_⟩
          · show _ = _
            rw [Below.heap_setCell _ _ _ _ (by show w.heap.size ≠ w.heap.size + 1; omega)]
            exact heap_below hb2 (heap_below (below_alloc (Below.refl _ _) _).drew HK.out)
          · show _ = _
            rw [heap_setCell (heap_below hb2 (heap_below (below_alloc (Below.refl _ _) _).drew HT.out)) k _, ← HSET.out]
            simp
          · show Below _ _ _
            exact (below_trans HW.out (below_trans (below_alloc (Below.refl _ _) _).drew hb2)).setCell (p := ⟨w.heap.size + 1, k, none⟩) (by show w.heap.size ≤ w.heap.size + 1; omega) _
        case measure => simp [intOf]; omega
    · obtain rfl : k = 16 := by omega
      subst hg
      have hT := HT.out
      have hu : Try.prog.underlying 140 = some (.array 16 67) := Try.underlying140
      have hi : (Try.prog.info? 140).map (·.size) = some (tabV size poly 16).toArray.size := by
        have : (Try.prog.info? 140).map (·.size) = some 16 := by kernel_rfl
        rw [this]; simp [tabV_length]
      have h1 : (tabV size poly 16).toArray.all (·.oneCell') = true := by simp [tabV]; intros; rfl
      obtain ⟨cs, hcs⟩ : ∃ cs, (tabV size poly 16).toArray = cs := ⟨_, rfl⟩
      rw [hcs] at hT hi h1
      have HCS := Lib.hid hcs
      clear hcs
      have HT2 := Lib.hid hT
      have HI := Lib.hid hi
      have HU := Lib.hid hu
      have H1 := Lib.hid h1
      clear hT hi hu h1 HT HK
      go_wp2_with (first
        | (with_reducible refine wpList_load_row rfl 140 (.tmp 2) rfl (w.heap.size + 1) rfl 140 cs (0, 0) _ HT2.out HU.out rfl HI.out ?_)
        | (with_reducible refine wpList_store_row rfl 140 (.tmp 2) (.tmp 20) rfl (w.heap.size + 1) cs rfl rfl 140 cs HT2.out HI.out rfl H1.out ?_))
      refine bodyPost_ret (v := .agg cs) (results_cell_row rfl _ _ (w.heap.size + 1) _ cs _ _ rfl (setRow_heap _ _ _ _ _ _ HT2.out) HU.out rfl HI.out) rfl ⟨by rw [HCS.out], ?_⟩
      have hw := HW.out
      exact ⟨hw.os, hw.tape, hw.output, by rw [setRow_size]; exact hw.size, fun j hj => by rw [setRow_other _ _ _ _ (by omega)]; exact hw.block j hj⟩
end Go.Proofs.Ytaknddanggdplaa
-- Get: bits.Get: bits' number. No condition.
namespace Go.Proofs.Ytaknddanggdplaa
open Go.RowKit
set_option maxHeartbeats 400000 in
theorem add_any (b N x t : Nat) (w : World) (h : w.heap[b]? = some (.cells #[.int .u64 N] t)) (hN : N < 9223372036854775808) (hx : x ≤ 1) :
    Calls Try.prog 126 #[.pointer (some ⟨b, 0, none⟩), .int .u8 x] w fun e w' => e = .returned (.tuple #[]) ∧ w'.heap[b]? = some (.cells #[.int .u64 (N * 2 + x : Nat)] t) ∧ Keep w.heap.size b w w' := by
  have c0 := cell_of_heap h 0 _ rfl
  have z0 : w.frozen? ⟨b, 0, none⟩ = false := by simp [World.frozen?, h]
  have hor : bits .or .u64 ((N : Int) * 2) (x : Int) = ((N * 2 + x : Nat) : Int) := by
    have e : ((N : Int) * 2) = ((N * 2 : Nat) : Int) := by omega
    rw [e, u64_or_nat _ _ (by omega) (by omega), nat_join 1 _ _ (by omega) (by omega)]
  have hw2 : IntKind.u64.wrap ((N : Int) * 2) = (N : Int) * 2 := IntWalk.u64_in _ ⟨by omega, by omega⟩
  have HH := Lib.hid h
  clear h
  go_enter Try.func126, Try.ntmps126
  go_wp2_with fail
  go_end0
  refine ⟨rfl, ?_, (Keep.refl _ _ _).setCell (p := ⟨b, 0, none⟩) (.inl rfl) _⟩
  rw [heap_setCell HH.out 0 _]
  rfl
set_option maxHeartbeats 1000000 in
theorem eachAdd_any (w : World) (b t : Nat) (A2 : Option Addr) (c2 n : Nat) (src : List Nat) (h : w.heap[b]? = some (.cells #[.int .u64 0] t)) (hr : Rd w A2 (bys src)) (ha : ∀ ad, A2 = some ad → bys src ≠ [] → ad.block < w.heap.size ∧ ad.block ≠ b) (hn : src.length = n) (h8 : n ≤ 64) (hb : ∀ x ∈ src, x ≤ 1) :
    Calls Try.prog 97 #[.slice A2 n c2, .func (.func 126) #[.pointer (some ⟨b, 0, none⟩)] #[]] w fun e w' => e = .returned (.tuple #[]) ∧ w'.heap[b]? = some (.cells #[.int .u64 (numN src : Nat)] t) ∧ Keep w.heap.size b w w' := by
  have HP := Lib.hid h
  have HR := Lib.hid hr
  have HA := Lib.hid ha
  have HN := Lib.hid hn
  have HB := Lib.hid hb
  clear h hr ha hn hb
  go_enter Try.func97, Try.ntmps97
  go_wp2_with fail
  go_loopw [8] (fun iv wr => ∃ (k N : Nat), k ≤ n ∧ iv = .int .i64 k ∧ Hid (N = numN (src.take k)) ∧ Hid (wr.heap[b]? = some (.cells #[.int .u64 N] t)) ∧ Hid (Keep w.heap.size b w wr)) (fun iv _ => n - (intOf iv).toNat)
  case atStart => exact ⟨0, 0, by omega, rfl, rfl, HP, Keep.refl _ _ _⟩
  case round =>
    obtain ⟨k, N, hk, rfl, HNum, HQ, HK⟩ := hrel
    by_cases hkn : k < n
    · have hkl : k < src.length := by rw [HN.out]; exact hkn
      obtain ⟨ad, rfl, ca⟩ := (HR.out.keep HK.out HA.out).at_ k hkl
      have hx := HB.out src[k] (List.getElem_mem hkl)
      have hs : N * 2 + src[k] = numN (src.take (k + 1)) := by rw [List.take_succ_eq_append_getElem hkl, numN_snoc, ← HNum.out]
      have hNb : N < 9223372036854775808 := by
        have h1 := numN_lt (src.take k) (fun x hx => HB.out x (List.mem_of_mem_take hx))
        rw [← HNum.out] at h1
        have h2 : (src.take k).length ≤ 63 := by rw [List.length_take]; omega
        have h3 : 2 ^ (src.take k).length ≤ 2 ^ 63 := Nat.pow_le_pow_right (by omega) h2
        have h4 : (2 : Nat) ^ 63 = 9223372036854775808 := by decide
        omega
      obtain ⟨x, hxe⟩ : ∃ x, src[k] = x := ⟨_, rfl⟩
      rw [hxe] at ca hx hs
      have HS := Lib.hid hs
      clear hs hxe
      go_wp2_with fail
      refine (add_any b N x t wr HQ.out hNb hx).mono ?_
      rintro e w2 ⟨rfl, h1, h2⟩
      have H1 := Lib.hid h1
      have H2 := Lib.hid h2
      clear h1 h2
      go_wp2_with fail
      go_roundw
      case rel => exact ⟨k + 1, N * 2 + x, by omega, by go_num, HS.out, H1, HK.out.trans (H2.out.mono HK.out.size)⟩
      case measure => simp [intOf]; omega
    · obtain rfl : n = k := by omega
      go_wp2_with fail
      go_end0
      have h1 := HNum.out
      rw [← HN.out, List.take_length] at h1
      subst h1
      exact ⟨rfl, HQ.out, HK.out⟩
theorem ret_fst2 {k : IntKind} {a b : Int} {v : Value} (h : a = b) : Ending.returned (.tuple #[.int k a, v]) = .returned (.tuple #[.int k b, v]) := by rw [h]
set_option maxHeartbeats 1000000 in
theorem Get_any (w : World) (A2 : Option Addr) (c2 n : Nat) (src : List Nat) (hr : Rd w A2 (bys src)) (hn : src.length = n) (h8 : n ≤ 64) (hb : ∀ x ∈ src, x ≤ 1) :
    Calls Try.prog 124 #[.slice A2 n c2] w fun e w' => e = .returned (.tuple #[.int .u64 (numN src : Nat), .int .i64 0]) ∧ Below w.heap.size w w' := by
  have hok : bitsOk src = true := by unfold bitsOk; rw [decide_eq_true (by omega : src.length ≤ 65536), decide_eq_true hb]; rfl
  have hC := BitsCheck_any A2 n c2 src w hr hn (by omega)
  rw [hok, if_pos rfl] at hC
  have HC := Lib.hid hC
  have HE := Lib.hid (eachAdd_any (w.alloc (.cells #[.int .u64 0] 148)) w.heap.size 148 A2 c2 n src (heap_new_at rfl) (hr.alloc _) (fun ad e hne => by have := hr.lt ad e hne; simp; omega) hn h8 hb)
  clear hr hn hb hok hC
  go_enter Try.func124, Try.ntmps124
  go_wp2_with fail
  refine HC.out.mono ?_
  rintro e _ ⟨rfl, rfl⟩
  go_wp2_with fail
  refine HE.out.mono ?_
  rintro e w' ⟨rfl, h1, h2⟩
  have hc := cell_of_heap h1 0 _ rfl
  have H2 := Lib.hid h2
  clear h1 h2
  go_wp2_with fail
  go_ret2
  exact ⟨rfl, (below_alloc (Below.refl _ _) _).trans (H2.out.below (by omega) (by simp))⟩
end Go.Proofs.Ytaknddanggdplaa
-- Fence: A region that draws its order, of plain operations, in a round of a loop over a function: one walk in the text's order. No condition.
namespace Go.Proofs.Ytaknddanggdplaa
open Go Go.RowKit
/-- An operation that calls nothing and defers nothing. -/
def plainB : Op → Bool
  | .move _ | .assign _ | .load _ _ | .store _ _ _ | .binOp _ _ _ _ _ | .convert _ _ _ | .fieldAddr _ _ _ | .indexAddr _ _ _ => true
  | _ => false
section
variable {F : Fence} {n : Nat} {P : Program} {ops : Array Oper} {md : Region.Mode}
theorem value_noenter {s : Sem Value} {w w' : World} {f : FuncId} {args : Array Value} : ((do let x ← s; pure (Next.value x)) : Sem Next).run P w ≠ .ok (.enter f args) w' := by
  rw [Sem.run_bind]
  cases s.run P w with
  | ok v w1 => simp [Result.andThen]
  | halt h w1 => simp [Result.andThen]
theorem skip_noenter {s : Sem Unit} {w w' : World} {f : FuncId} {args : Array Value} : ((do s; pure Next.skip) : Sem Next).run P w ≠ .ok (.enter f args) w' := by
  rw [Sem.run_bind]
  cases s.run P w with
  | ok v w1 => simp [Result.andThen]
  | halt h w1 => simp [Result.andThen]
theorem plain_noenter {o : Oper} (h : plainB o.op = true) (ρ : Operand → Value) (w w' : World) (f : FuncId) (args : Array Value) : (execOp ρ o).run P w ≠ .ok (.enter f args) w' := by
  unfold execOp
  cases ho : o.op <;> rw [ho] at h <;> simp only [plainB] at h <;> first | exact absurd h (by decide) | skip
  all_goals first
    | exact value_noenter
    | exact skip_noenter
    | simp
theorem plain_about {o : Oper} (h : plainB o.op = true) (w : World) (ρ : Operand → Value) : o.about P w ρ = none := by
  unfold Oper.about
  cases ho : o.op <;> rw [ho] at h <;> simp only [plainB] at h <;> first | exact absurd h (by decide) | rfl
theorem plain_defer {o : Oper} (h : plainB o.op = true) (c : Call) : o.op ≠ .defer c := by
  intro e; rw [e] at h; simp [plainB] at h
theorem wpIn_of_still {o : Oper} {a : Act} {w : World} {K : Act → Prop} {K' : Act → World → Prop} {Q' : Exit → Act → World → Prop} (hp : plainB o.op = true) (h : ∀ a, K a → K' a w) (hh : o.still P a w K) : o.wpIn F n P a w K' Q' := by
  refine ⟨fun f hf => (by rw [plain_about hp] at hf; cases hf), ?_⟩
  rw [Oper.semAt_eq _ _ _ (plain_defer hp)]
  have hne := plain_noenter (P := P) hp a.eval w
  unfold Oper.still at hh
  generalize (execOp a.eval o).run P w = r at *
  cases r with
  | ok x w' =>
    cases x <;> simp only [Oper.stillUpon] at hh <;> simp only [Oper.uponIn]
    case enter f args => exact absurd rfl (hne w' f args)
    all_goals (obtain ⟨rfl, h2⟩ := hh; exact h _ h2)
  | halt x w' => simp only [Oper.stillUpon] at hh
theorem wpOpIn_of_stOp {i : Nat} {a : Act} {w : World} {K : Act → Prop} {K' : Act → World → Prop} {Q' : Exit → Act → World → Prop} (hp : ∀ (j : Nat) (o : Oper), ops[j]? = some o → plainB o.op = true) (h : ∀ a, K a → K' a w) (hh : stOp P ops w i K a) : wpOpIn F n P ops Q' i K' a w := by
  unfold stOp at hh
  unfold wpOpIn
  split
  · rename_i ho; simp only [ho] at hh; exact h _ hh
  · rename_i o ho
    simp only [ho] at hh
    split
    · rename_i hw; simp only [hw, if_true] at hh; exact wpIn_of_still (hp i o ho) h hh
    · rename_i hw; simp only [hw] at hh
      exact ⟨fun f hf => (by rw [plain_about (hp i o ho)] at hf; cases hf), h _ hh⟩
theorem wpAnyIn_of_head {k g : Nat} {w : World} {L : Array Bool → Act → Prop} {Q' : Exit → Act → World → Prop} (hp : ∀ (j : Nat) (o : Oper), ops[j]? = some o → plainB o.op = true) (hL : ∀ listed a, L listed a → wpAnyIn F n P md ops Q' g listed a w) :
    ∀ (f : Nat) (listed : Array Bool) (a : Act), wpAnyL P md ops w k L f listed a → wpAnyIn F n P md ops Q' (f + g) listed a w
  | 0, listed, a, h => by rw [Nat.zero_add]; exact hL _ _ h
  | f + 1, listed, a, h => by
    rw [show f + 1 + g = (f + g) + 1 by omega]
    exact ⟨fun h0 => absurd h0 h.1, fun i hi => wpOpIn_of_stOp hp (fun a' h' => wpAnyIn_of_head hp hL f _ a' h') (h.2 i hi).2⟩
theorem wpOpIn_mono' {i : Nat} {a : Act} {w : World} {K K' : Act → World → Prop} {Q : Exit → Act → World → Prop} (h : ∀ a w, K a w → K' a w) (hh : wpOpIn F n P ops Q i K a w) : wpOpIn F n P ops Q i K' a w := wpOpIn_mono h hh
theorem wpAnyIn_of_seq {Q' : Exit → Act → World → Prop} : ∀ (l : List Oper) (k : Nat) (listed : Array Bool) (a : Act) (w : World), (∀ j, l[j]? = ops[k + j]?) →
    Region.seqB md ops l.length k listed = true → wpListIn F n P ops Q' l a w → wpAnyIn F n P md ops Q' l.length listed a w
  | [], _, _, _, _, _, hB, h => ⟨by simpa [Region.seqB] using hB, h⟩
  | o :: l, k, listed, a, w, hl, hB, h => by
    have h0 : ops[k]? = some o := by simpa using (hl 0).symm
    simp only [List.length_cons, Region.seqB, Bool.and_eq_true, decide_eq_true_eq] at hB
    refine ⟨fun h1 => (by rw [hB.1] at h1; cases h1), fun i hi => ?_⟩
    rw [hB.1] at hi
    have hik : i = k := by simpa using hi
    subst hik
    have hw : wpOpIn F n P ops Q' i (wpListIn F n P ops Q' l) a w := by unfold wpOpIn; simp only [h0]; exact h
    exact wpOpIn_mono (fun a' w' h' => wpAnyIn_of_seq l (i + 1) _ a' w' (fun j => by have := hl (j + 1); simpa [Nat.add_assoc, Nat.add_comm 1 j] using this) hB.2 h') hw
theorem wpIn_region_still_tail {id : Nat} {Q : Exit → Act → World → Prop} {a : Act} {w : World} {l : List Oper} (k : Nat) (hp : (l.all fun o => plainB o.op) = true) (hm : P.follows .mixedOrders = true) (hB : Region.lexTailB .any l.toArray k = true)
    (h : wpStill P l.toArray w.drew (fun a' => wpListIn F n P l.toArray Q (l.drop k) a' w.drew) (l.take k) a) : (Code.region id l.toArray true).wpIn F n P Q a w := by
  have hp' : ∀ (j : Nat) (o : Oper), l.toArray[j]? = some o → plainB o.op = true := fun j o ho => by
    have : o ∈ l := List.mem_of_getElem? (i := j) (by simpa using ho)
    exact List.all_eq_true.1 hp o this
  simp only [Region.lexTailB, Bool.and_eq_true, decide_eq_true_eq] at hB
  obtain ⟨⟨⟨⟨hsel, hn⟩, hs⟩, hc⟩, hlex⟩ := hB
  have hn' : k < l.length := by simpa using hn
  have htl : (l.take k).length = k := by simp; omega
  have hdl : (l.drop k).length = l.toArray.size - k := by simp
  have inv0 : HeadInv .any l.toArray k (Array.replicate l.toArray.size false) :=
    ⟨by simp, fun j oj _ hl => (by rw [getD_replicate_false] at hl; cases hl), fun t _ ht => getD_in (by simpa using ht) (getD_replicate_false _ _)⟩
  have H := wpAnyL_lex (md := .any) (g := l.toArray.size - k) hsel hs hc hn (l.take k) 0 _ a (fun j hj => by
    have hj' : j < k := by rw [htl] at hj; exact hj
    simp [hj']) (by simpa using htl) inv0 (by rw [htl]; exact hlex) h
  refine wpIn_region_any hm ?_
  have := wpAnyIn_of_head (F := F) (n := n) (Q' := Q) (g := l.toArray.size - k) hp' (fun listed a' hL => by
    have := wpAnyIn_of_seq (F := F) (n := n) (md := .any) (Q' := Q) (l.drop k) k listed a' w.drew (fun j => by simp [List.getElem?_drop]) (by rw [hdl]; exact hL.1) hL.2
    rwa [hdl] at this) _ _ _ H
  rw [htl, show k + (l.toArray.size - k) = l.toArray.size by omega] at this
  exact this
end
end Go.Proofs.Ytaknddanggdplaa
-- Chunk: slices.Chunk over rows of bytes: its contract as an iterator. No condition.
namespace Go.Proofs.Ytaknddanggdplaa
open Go.RowKit
attribute [local go_sem] Oper.semAt_some
/-- The k-th piece's value. -/
abbrev chunkV (b off len sz k : Nat) : Value := .slice (some ⟨b, off + sz * k, none⟩) (min sz (len - sz * k)) (min sz (len - sz * k))
theorem chunk_lt {sz nch len : Nat} (h1 : sz * nch < len + sz) (h2 : len ≤ sz * nch) (k : Nat) : k < nch ↔ sz * k < len := by
  constructor
  · intro h
    have := Nat.mul_le_mul_left sz (show k + 1 ≤ nch by omega)
    rw [Nat.mul_add] at this
    omega
  · intro h
    refine Nat.lt_of_not_le fun hle => ?_
    have := Nat.mul_le_mul_left sz hle
    omega
set_option maxRecDepth 100000 in
set_option maxHeartbeats 2000000 in
theorem chunk1_in (n : Nat) (hn : 1 ≤ n) (l Bs Bn n₀ b off len cap sz nch : Nat) (hsz : 1 ≤ sz) (hszb : sz ≤ 1000) (hlen : len ≤ 1000000) (hlc : len ≤ cap) (hcap : cap ≤ 9223372036854775807)
    (hn1 : sz * nch < len + sz) (hn2 : len ≤ sz * nch) (x₀ : Nat) (hBsn : Bs < n₀ ∧ Bs ≠ x₀) (hBnn : Bn < n₀ ∧ Bn ≠ x₀) (J Jx : List Nat → World → Prop)
    (hY : ∀ pre x W, J pre W → pre.length < nch → YieldAt Fence.wide (n - 1) Try.prog l #[chunkV b off len sz x] W fun e W' =>
      (e = .returned (.bool true) ∧ J (pre ++ [x]) W' ∧ Keep n₀ x₀ W W') ∨ (e = .returned (.bool false) ∧ Jx (pre ++ [x]) W'))
    (hJd : ∀ pre W k, J pre W → J pre (World.drewN W k)) (W : World) (hBs : W.cell? ⟨Bs, 0, none⟩ = some (.slice (some ⟨b, off, none⟩) len cap)) (hBn : W.cell? ⟨Bn, 0, none⟩ = some (.int .i64 sz)) (h0 : J [] W) :
    CallsIn Fence.wide n Try.prog 125 #[.func (.yield l) #[] #[], .pointer (some ⟨Bs, 0, none⟩), .pointer (some ⟨Bn, 0, none⟩)] W fun e W' => (∃ v, e = .returned v) ∧
      ((∃ ys, ys = List.range nch ∧ J ys W') ∨ (∃ pre, (∃ k, k ≤ nch ∧ pre = List.range k) ∧ Jx pre W')) := by
  refine callsIn_of_wp Try.func125 rfl trivial ?_ rfl
  simp only [Try.ntmps125, List.size_toArray, List.length_cons, List.length_nil, Nat.reduceAdd, Nat.reduceSub, Array.replicate_succ, Array.replicate_zero, List.push_toArray, List.append_toArray, List.nil_append, List.cons_append]
  have HN := Lib.hid (chunk_lt hn1 hn2)
  have H1 := Lib.hid hn1
  have H2 := Lib.hid hn2
  have H0 := Lib.hid h0
  clear hn1 hn2 h0
  gi_wp2
  gi_loopw [4] (fun i wr => ∃ k : Nat, k ≤ nch ∧ i = .int .i64 (sz * k : Nat) ∧ Hid (J (List.range k) wr) ∧ Hid (Keep n₀ x₀ W wr)) (fun i _ => len + sz - (intOf i).toNat)
  case atStart => exact ⟨0, Nat.zero_le _, rfl, H0.out, Keep.refl _ _ _⟩
  case round =>
    obtain ⟨k, hk, rfl, hJs, hnx⟩ := hrel
    have c1 : wr.cell? ⟨Bs, 0, none⟩ = some (.slice (some ⟨b, off, none⟩) len cap) := hnx.out.cell_of hBs hBsn.1 hBsn.2
    have c2 : wr.cell? ⟨Bn, 0, none⟩ = some (.int .i64 sz) := hnx.out.cell_of hBn hBnn.1 hBnn.2
    obtain ⟨q, hq⟩ : ∃ q, sz * k = q := ⟨_, rfl⟩
    rw [hq]
    have HQ := Lib.hid hq
    by_cases hlt : q < len
    · have hkn : k < nch := (HN.out k).2 (by rw [hq]; exact hlt)
      have hqc : (q : Int) ≤ (cap : Int) := by omega
      have hql : (q : Int) ≤ (len : Int) := by omega
      have hlc' : (len : Int) ≤ (cap : Int) := by omega
      clear hq hBs hBn
      by_cases hm : len - q < sz
      · have HM := Lib.hid hm
        gi_wp2
        gi_quiet (fail)
        obtain ⟨fn, tmps, assign, body, hy, hR⟩ := hY _ k (wr.drewN nq) (hJd _ _ _ hJs.out) (by rw [List.length_range]; exact hkn)
        dsimp only [chunkV] at hy
        rw [HQ.out, Nat.min_eq_right (by have := HM.out; omega)] at hy
        gi_wp2
        refine hR.mono ?_
        rintro e W3 (⟨rfl, hJ3, hk3⟩ | ⟨rfl, hJx3⟩)
        · have HJ3 := Lib.hid hJ3
          have HK3 := Lib.hid hk3
          clear hJ3 hk3
          have c2' : W3.cell? ⟨Bn, 0, none⟩ = some (.int .i64 sz) := HK3.out.cell_of (Below.cell_of (below_drewN (Below.refl _ _) _) c2) hBnn.1 hBnn.2
          gi_wp2
          go_roundw
          case rel => exact ⟨k + 1, by omega, by rw [Nat.mul_add, HQ.out]; go_num, by show J _ _; rw [List.range_succ]; exact HJ3.out, hnx.out.trans ((Keep.of (below_drewN (Below.refl n₀ _) nq) (Nat.le_refl _)).trans HK3.out)⟩
          case measure => simp [intOf]; omega
        · have HJX := Lib.hid hJx3
          clear hJx3
          gi_wp2
          refine bodyPost_ret (results_none rfl _ _ _) rfl ?_
          exact ⟨⟨_, rfl⟩, .inr ⟨_, ⟨k + 1, by omega, rfl⟩, by rw [List.range_succ]; exact HJX.out⟩⟩
      · have HM := Lib.hid hm
        gi_wp2
        gi_quiet (fail)
        obtain ⟨fn, tmps, assign, body, hy, hR⟩ := hY _ k (wr.drewN nq) (hJd _ _ _ hJs.out) (by rw [List.length_range]; exact hkn)
        dsimp only [chunkV] at hy
        rw [HQ.out, Nat.min_eq_left (by have := HM.out; omega)] at hy
        gi_wp2
        refine hR.mono ?_
        rintro e W3 (⟨rfl, hJ3, hk3⟩ | ⟨rfl, hJx3⟩)
        · have HJ3 := Lib.hid hJ3
          have HK3 := Lib.hid hk3
          clear hJ3 hk3
          have c2' : W3.cell? ⟨Bn, 0, none⟩ = some (.int .i64 sz) := HK3.out.cell_of (Below.cell_of (below_drewN (Below.refl _ _) _) c2) hBnn.1 hBnn.2
          gi_wp2
          go_roundw
          case rel => exact ⟨k + 1, by omega, by rw [Nat.mul_add, HQ.out]; go_num, by show J _ _; rw [List.range_succ]; exact HJ3.out, hnx.out.trans ((Keep.of (below_drewN (Below.refl n₀ _) nq) (Nat.le_refl _)).trans HK3.out)⟩
          case measure => simp [intOf]; omega
        · have HJX := Lib.hid hJx3
          clear hJx3
          gi_wp2
          refine bodyPost_ret (results_none rfl _ _ _) rfl ?_
          exact ⟨⟨_, rfl⟩, .inr ⟨_, ⟨k + 1, by omega, rfl⟩, by rw [List.range_succ]; exact HJX.out⟩⟩
    · have hkn : k = nch := by
        have h1 : ¬ k < nch := fun h => hlt (by rw [← hq]; exact (HN.out k).1 h)
        omega
      have HK := Lib.hid hkn
      clear hq hBs hBn hkn
      have hle : (len : Int) ≤ (q : Int) := by omega
      gi_wp2
      go_end0
      exact ⟨⟨_, rfl⟩, .inl ⟨_, rfl, by rw [← HK.out]; exact hJs.out⟩⟩
set_option maxRecDepth 100000 in
set_option maxHeartbeats 1000000 in
theorem chunk1_nil_in (n : Nat) (l Bs Bn : Nat) (A : Option Addr) (cap : Nat) (J : List Nat → World → Prop) (W : World) (hBs : W.cell? ⟨Bs, 0, none⟩ = some (.slice A 0 cap)) (h0 : J [] W) :
    CallsIn Fence.wide n Try.prog 125 #[.func (.yield l) #[] #[], .pointer (some ⟨Bs, 0, none⟩), .pointer (some ⟨Bn, 0, none⟩)] W fun e W' => (∃ v, e = .returned v) ∧ J [] W' := by
  refine callsIn_of_wp Try.func125 rfl trivial ?_ rfl
  simp only [Try.ntmps125, List.size_toArray, List.length_cons, List.length_nil, Nat.reduceAdd, Nat.reduceSub, Array.replicate_succ, Array.replicate_zero, List.push_toArray, List.append_toArray, List.nil_append, List.cons_append]
  have H0 := Lib.hid h0
  clear h0
  gi_wp2
  gi_loopw [4] (fun i wr => i = .int .i64 0 ∧ wr = W) (fun _ _ => 0)
  case atStart => exact ⟨rfl, rfl⟩
  case round =>
    obtain ⟨rfl, rfl⟩ := hrel
    gi_wp2
    go_end0
    exact ⟨⟨_, rfl⟩, H0.out⟩
theorem Chunk_any (A : Option Addr) (len cap sz : Nat) (w : World) (hsz : 1 ≤ sz) (hszb : sz ≤ 1000) :
    Calls Try.prog 121 #[.slice A len cap, .int .i64 sz] w fun e w' => e = .returned (.func (.func 125) #[] #[.pointer (some ⟨w.heap.size, 0, none⟩), .pointer (some ⟨w.heap.size + 1, 0, none⟩)]) ∧ (w.alloc (.cells #[.slice A len cap] 23)).alloc (.cells #[.int .i64 sz] 3) = w' := by
  have h1 : ¬ (sz : Int) < 1 := by omega
  go_enter Try.func121, Try.ntmps121
  go_wp2_with fail
  go_ret
  exact ⟨rfl, rfl⟩
/-- How many pieces there are. -/
def nchN (len sz : Nat) : Nat := (len + sz - 1) / sz
theorem nchN_spec (len sz : Nat) (h : 1 ≤ sz) : sz * nchN len sz < len + sz ∧ len ≤ sz * nchN len sz := by
  unfold nchN
  have h1 := Nat.div_add_mod (len + sz - 1) sz
  have h2 := Nat.mod_lt (len + sz - 1) (show sz > 0 by omega)
  omega
theorem abides_drewN {β : Type} {B : Nat} {J : β → World → Prop} (h : AbidesFrom B J) {s : β} {W : World} (k : Nat) (hs : J s W) : J s (W.drewN k) :=
  h s W _ none hs ⟨rfl, rfl, rfl, Nat.le_refl _, fun _ _ _ => rfl⟩ (fun r e => by cases e)
theorem chunk_stops (n : Nat) (hn : 1 ≤ n) (Bs Bn n₀ x₀ b off len cap sz : Nat) (A : Option Addr) (hA : A = some ⟨b, off, none⟩ ∨ len = 0) (hsz : 1 ≤ sz) (hszb : sz ≤ 1000) (hlen : len ≤ 1000000) (hlc : len ≤ cap) (hcap : cap ≤ 9223372036854775807)
    (hBsn : Bs < n₀ ∧ Bs ≠ x₀) (hBnn : Bn < n₀ ∧ Bn ≠ x₀) (w : World) (hBs : w.cell? ⟨Bs, 0, none⟩ = some (.slice A len cap)) (hBn : w.cell? ⟨Bn, 0, none⟩ = some (.int .i64 sz)) :
    SeqStopsK Fence.wide n Try.prog 125 #[.pointer (some ⟨Bs, 0, none⟩), .pointer (some ⟨Bn, 0, none⟩)] (fun x : Nat => #[chunkV b off len sz x]) (Keep n₀ x₀) (fun ys => ys = List.range (nchN len sz))
      (fun pre => ∃ k, k ≤ nchN len sz ∧ pre = List.range k) (nchN len sz) w := fun l J Jx W hW hJ _ hY h0 => by
  have c1 := Below.cell_of hW hBs
  have c2 := Below.cell_of hW hBn
  obtain ⟨s1, s2⟩ := nchN_spec len sz hsz
  rcases hA with rfl | rfl
  · exact chunk1_in n hn l Bs Bn n₀ b off len cap sz (nchN len sz) hsz hszb hlen hlc hcap s1 s2 x₀ hBsn hBnn J Jx hY (fun pre W k h => abides_drewN hJ k h) W c1 c2 h0
  · have h0' : nchN 0 sz = 0 := by unfold nchN; exact Nat.div_eq_of_lt (by omega)
    rw [h0']
    exact (chunk1_nil_in n l Bs Bn A cap J W c1 h0).mono fun e W' ⟨he, hj⟩ => ⟨he, .inl ⟨[], rfl, hj⟩⟩
end Go.Proofs.Ytaknddanggdplaa
-- Run: crc's kind.run: check sums by the table. No condition.
namespace Go.Proofs.Ytaknddanggdplaa
open Go.RowKit
attribute [local go_sem] Oper.semAt_some
theorem wpListIn_store_row {F : Fence} {n : Nat} {P : Program} {ops : Array Oper} {rest : List Oper} {o : Oper} {a : Act} {w : World} {Q : Exit → Act → World → Prop} (hgd : o.guard = none) (ty : TypeId) (x y : Operand) (ho : o.op = .store ty x y)
    (g : Nat) (cells : Array Value) (hx : a.eval x = .pointer (some ⟨g, 0, none⟩)) (hy : a.eval y = .agg cells)
    (t : TypeId) (old : Array Value) (hg : w.heap[g]? = some (.cells old t (0, 0))) (hi : (P.info? ty).map (·.size) = some cells.size)
    (hold : old.size = cells.size) (h1 : cells.all (·.oneCell') = true)
    (h : wpListIn F n P ops Q rest (a.put o.dst undef) (w.setRow g cells)) : wpListIn F n P ops Q (o :: rest) a w := by
  refine wpListIn_plain hgd fun K hK => ?_
  unfold Oper.wpIn
  refine ⟨?_, ?_⟩
  · simp [Oper.about, ho]
  · rw [Oper.semAt_plain F _ _ (by rw [ho]; intro c hc'; cases hc')]
    unfold execOp
    simp only [ho, hx, hy, Instr.storeAt, Instr.sureAddr, Sem.run_bind, Sem.run_pure, Result.andThen_ok, run_storeVar_row w g t ty old cells hg hi hold h1]
    exact hK _ _ h
/-- The x-th piece's bits. -/
def chunkL (l : List Nat) (sz x : Nat) : List Nat := (l.drop (sz * x)).take sz
theorem chunkL_length (l : List Nat) (sz x : Nat) : (chunkL l sz x).length = min sz (l.length - sz * x) := by simp [chunkL]
theorem chunkL_all (l : List Nat) (sz : Nat) : ∀ k, (List.range k).flatMap (chunkL l sz) = l.take (sz * k) := by
  intro k
  induction k with
  | zero => simp
  | succ k ih =>
    rw [List.range_succ, List.flatMap_append, ih, List.flatMap_singleton, Nat.mul_succ, List.take_add]
    rfl
theorem chunkL_mem (l : List Nat) (sz x : Nat) : ∀ y ∈ chunkL l sz x, y ∈ l := fun _ h => List.mem_of_mem_drop (List.mem_of_mem_take h)
theorem chunkL_rd {w : World} {b off : Nat} {l : List Nat} (h : Rd w (some ⟨b, off, none⟩) (bys l)) (sz x : Nat) : Rd w (some ⟨b, off + sz * x, none⟩) (bys (chunkL l sz x)) := by
  intro j u hj
  refine ⟨_, rfl, ?_⟩
  have hl : j < (chunkL l sz x).length := by have := (List.getElem?_eq_some_iff.1 hj).1; rwa [bys_length] at this
  have h2 : (bys l)[sz * x + j]? = some u := by
    rw [← hj]
    unfold bys chunkL
    rw [chunkL_length] at hl
    simp [List.getElem?_map, List.getElem?_drop, show j < sz by omega]
  obtain ⟨ad, e, hc⟩ := h _ _ h2
  injection e with e
  subst e
  rw [← hc]
  congr 1
  unfold Addr.add
  by_cases h0 : j = 0
  · subst h0
    by_cases h1 : sz * x = 0 <;> simp [h1]
  · simp [h0, Nat.add_assoc]
theorem name_world {F : Fence} {n : Nat} {P : Program} {cd : Code} {Q : Exit → Act → World → Prop} {a : Act} {W : World} {T : World → Prop} (hT : T W) (h : ∀ W0, T W0 → cd.wpIn F n P Q a W0) : cd.wpIn F n P Q a W := h W hT
theorem grown_keep {B b : Nat} {W W' : World} {row : Option Nat} (hg : W.grownBy W' row) (hB : B ≤ W.heap.size) (hr : ∀ r, row = some r → B ≤ r) : Keep B b W W' :=
  ⟨hg.os, hg.tape, hg.output, hg.size, fun k hk _ => hg.block k (by omega) (fun e => by have := hr k e.symm; omega)⟩
theorem ownFrom_keep {β : Type} {B b : Nat} {w0 : World} (h : B ≤ w0.heap.size) : OwnFrom B (fun (_ : β) W => Keep B b w0 W) :=
  fun _ _ _ _ hs hg hr => hs.trans (grown_keep hg (Nat.le_trans h hs.size) (fun r e => (hr r e).1))
theorem ownFrom_heap {β : Type} {B g : Nat} (f : β → Obj) (hg : g < B) : OwnFrom B (fun s W => W.heap[g]? = some (f s)) :=
  fun _ _ _ _ hs hgr hr => (hgr.block g (heap_lt hs) (fun e => by have := (hr g e.symm).1; omega)).trans hs
theorem ownFrom_fact {β : Type} {B : Nat} (p : β → Prop) : OwnFrom B (fun s _ => p s) := fun _ _ _ _ hs _ _ => hs
theorem keepsFrom_below {B : Nat} {W W' : World} (h : Below W.heap.size W W') : KeepsFrom B W W' :=
  ⟨h.size, fun k _ _ hk _ => (h.block k (heap_lt hk)).trans hk⟩
theorem Keep.setRow {B b : Nat} {w w' : World} (h : Keep B b w w') (g : Nat) (hB : B ≤ g) (cs : Array Value) : Keep B b w (w'.setRow g cs) :=
  ⟨h.os, h.tape, h.output, by rw [setRow_size]; exact h.size, fun k hk h1 => by rw [setRow_other _ _ _ _ (by omega)]; exact h.block k hk h1⟩
theorem below_setRow {B : Nat} {w w' : World} (h : Below B w w') (g : Nat) (hB : B ≤ g) (cs : Array Value) : Below B w (w'.setRow g cs) :=
  ⟨h.os, h.tape, h.output, by rw [setRow_size]; exact h.size, fun k hk => by rw [setRow_other _ _ _ _ (by omega)]; exact h.block k hk⟩
set_option maxRecDepth 100000 in
set_option maxHeartbeats 4000000 in
theorem run_any (size poly start sum : Nat) (b off n c : Nat) (A : Option Addr) (hA : A = some ⟨b, off, none⟩ ∨ n = 0) (l : List Nat) (w : World) (h4 : 4 ≤ size) (h32 : size ≤ 32) (hp : poly < 2 ^ size) (hs : sum < 2 ^ size) (hr : Rd w A (bys l)) (hn : l.length = n) (hn2 : n ≤ 1000000) (hc1 : n ≤ c) (hc2 : c ≤ 9223372036854775807) (h01 : ∀ x ∈ l, x ≤ 1) :
    Calls Try.prog 116 #[kindV size poly start, .int .u64 sum, .slice A n c] w fun e w' => e = .returned (.int .u64 (crcN size poly sum l : Nat)) ∧ Below w.heap.size w w' := by
  have HT := Lib.hid (fun W => table_any size poly start W h4 h32 hp)
  obtain ⟨cs, hcs⟩ : ∃ cs, (tabV size poly 16).toArray = cs := ⟨_, rfl⟩
  rw [hcs] at HT
  have hi : (Try.prog.info? 140).map (·.size) = some cs.size := by
    have : (Try.prog.info? 140).map (·.size) = some 16 := by kernel_rfl
    rw [this, ← hcs]; simp [tabV_length]
  have hcz : (#[Value.int IntKind.u64 0, Value.int IntKind.u64 0, Value.int IntKind.u64 0, Value.int IntKind.u64 0, Value.int IntKind.u64 0, Value.int IntKind.u64 0, Value.int IntKind.u64 0, Value.int IntKind.u64 0, Value.int IntKind.u64 0, Value.int IntKind.u64 0, Value.int IntKind.u64 0, Value.int IntKind.u64 0, Value.int IntKind.u64 0, Value.int IntKind.u64 0, Value.int IntKind.u64 0, Value.int IntKind.u64 0] : Array Value).size = cs.size := by rw [← hcs]; simp [tabV_length]
  have h1 : cs.all (·.oneCell') = true := by rw [← hcs]; simp [tabV]; intros; rfl
  have HCS := Lib.hid hcs
  have HI := Lib.hid hi
  have HCZ := Lib.hid hcz
  have H1 := Lib.hid h1
  have HP := Lib.hid hp
  have HS := Lib.hid hs
  have HR := Lib.hid hr
  have HN := Lib.hid hn
  have H01 := Lib.hid h01
  have HA := Lib.hid hA
  clear hcs hi hcz h1 hp hs hr hn h01 hA
  refine (callsIn_wide (n := 5)).1 ?_
  refine callsIn_of_wp_marks Try.func116 rfl trivial ?_ rfl
  simp only [Try.ntmps116, List.size_toArray, List.length_cons, List.length_nil, Nat.reduceAdd, Nat.reduceSub, Array.replicate_succ, Array.replicate_zero, List.push_toArray, List.append_toArray, List.nil_append, List.cons_append]
  gi_wp2_with (first
    | (refine ⟨trivial, ?_⟩; gi_at_call 120; refine (callsIn_wide.2 (HT.out _)).mono ?_; rintro e w1 ⟨rfl, hb1⟩; have HB1 := Lib.hid hb1; clear hb1)
    | (with_reducible refine wpListIn_store_row rfl 140 (.tmp 7) (.tmp 13) rfl w1.heap.size cs rfl rfl 140 #[Value.int IntKind.u64 0, Value.int IntKind.u64 0, Value.int IntKind.u64 0, Value.int IntKind.u64 0, Value.int IntKind.u64 0, Value.int IntKind.u64 0, Value.int IntKind.u64 0, Value.int IntKind.u64 0, Value.int IntKind.u64 0, Value.int IntKind.u64 0, Value.int IntKind.u64 0, Value.int IntKind.u64 0, Value.int IntKind.u64 0, Value.int IntKind.u64 0, Value.int IntKind.u64 0, Value.int IntKind.u64 0] (heap_new_at rfl) HI.out HCZ.out H1.out ?_)
    | (refine ⟨trivial, ?_⟩; gi_at_call 121; refine (callsIn_wide.2 (Chunk_any A n c 4 _ (by omega) (by omega))).mono ?_; rintro e _ ⟨rfl, rfl⟩))
  obtain ⟨g, hg⟩ : ∃ g, w.heap.size = g := ⟨_, rfl⟩
  obtain ⟨q, hq⟩ : ∃ q, w1.heap.size = q := ⟨_, rfl⟩
  have HG := Lib.hid hg
  have HQ := Lib.hid hq
  have hgq : g + 1 + 1 < q := by
    have h1 := HB1.out.size
    simp at h1
    omega
  refine name_world (T := fun W0 => W0.heap[g]? = some (.cells #[.int .i64 size, .int .u64 poly, .int .u64 start] 118) ∧ W0.heap[g + 1]? = some (.cells #[.int .u64 sum] 67) ∧ W0.heap[g + 1 + 1]? = some (.cells #[.int .u64 0] 67) ∧ W0.heap[q]? = some (.cells cs 140) ∧
    W0.heap[q + 1]? = some (.cells #[.slice A n c] 23) ∧ W0.heap[q + 1 + 1]? = some (.cells #[.int .i64 4] 3) ∧ W0.heap.size = q + 1 + 1 + 1 ∧ Below g w W0) ?_ ?_
  · have e1 : ((w.alloc (.cells #[.int .i64 size, .int .u64 poly, .int .u64 start] 118)).alloc (.cells #[.int .u64 sum] 67)).heap.size = g + 1 + 1 := by simp [hg]
    have k0 := heap_below HB1.out (heap_push (heap_push (heap_new_at (w := w) (o := .cells #[.int .i64 size, .int .u64 poly, .int .u64 start] 118) hg.symm)))
    have k1 := heap_below HB1.out (heap_push (heap_new_at (g := g + 1) (w := w.alloc (.cells #[.int .i64 size, .int .u64 poly, .int .u64 start] 118)) (o := .cells #[.int .u64 sum] 67) (by simp [hg])))
    have k2 := heap_below HB1.out (heap_new_at (g := g + 1 + 1) (w := (w.alloc (.cells #[.int .i64 size, .int .u64 poly, .int .u64 start] 118)).alloc (.cells #[.int .u64 sum] 67)) (o := .cells #[.int .u64 0] 67) (by rw [e1]))
    refine ⟨?_, ?_, ?_, ?_, ?_, ?_, ?_, ?_⟩
    · refine heap_push (heap_push ?_)
      rw [setRow_other _ _ _ _ (by omega)]
      exact heap_push k0
    · refine heap_push (heap_push ?_)
      rw [setRow_other _ _ _ _ (by omega)]
      exact heap_push k1
    · refine heap_push (heap_push ?_)
      rw [setRow_other _ _ _ _ (by omega)]
      exact heap_push k2
    · refine heap_push (heap_push ?_)
      rw [hq]
      exact setRow_heap _ _ _ _ _ _ (heap_new_at hq.symm)
    · exact heap_push (heap_new_at (by simp [hq]))
    · exact heap_new_at (by simp [hq])
    · simp [hq]
    · have b1 : Below g w w1 := ((((Below.refl g w).alloc (by omega) _).alloc (by simp; omega) _).alloc (by simp; omega) _).trans (HB1.out.mono (by simp; omega))
      exact ((below_setRow (b1.alloc (by omega) _) _ (by omega) _).alloc (by simp; omega) _).alloc (by simp; omega) _
  rw [hg, hq]
  clear hg hq HB1
  rintro W0 ⟨f0, f1, f2, f3, f4, f5, fs, fb⟩
  have F0 := Lib.hid f0
  have F1 := Lib.hid f1
  have F2 := Lib.hid f2
  have F3 := Lib.hid f3
  have FS := Lib.hid fs
  have FB := Lib.hid fb
  refine wpIn_rangeFunc_ownG rfl (by omega) (gf := 125) (lb := #[.pointer (some ⟨q + 1, 0, none⟩), .pointer (some ⟨q + 1 + 1, 0, none⟩)]) rfl trivial (enters_of Try.func125 (by kernel_rfl) rfl)
    (chunk_stops (5 - 1) (by omega) (q + 1) (q + 1 + 1) W0.heap.size (g + 1) b off n c 4 A HA.out (by omega) (by omega) hn2 hc1 hc2 (by omega) (by omega) W0 (cell_of_heap f4 0 _ rfl) (cell_of_heap f5 0 _ rfl))
    (fun h k => h.trans k) (fun W j o o' hj ho _ _ => grown_keep (grownBy_putObj' W j o') (by have := heap_lt ho; omega) (fun r e => by cases e; exact hj)) (Below.refl _ _) (fun _ => rfl)
    (fun pre W => Keep W0.heap.size (g + 1) W0 W ∧ W.heap[g + 1]? = some (.cells #[.int .u64 (crcN size poly sum (pre.flatMap (chunkL l 4)) : Nat)] 67))
    (fun cd pre W => (cd = .ret ∧ ∃ ini x, pre = ini ++ [x] ∧ n - 4 * x < 4) ∧ W.heap[g + 1 + 1]? = some (.cells #[.int .u64 (crcN size poly sum (pre.flatMap (chunkL l 4)) : Nat)] 67) ∧ Below g w W)
    (OwnFrom.and (ownFrom_keep (Nat.le_refl _)) (ownFrom_heap _ (by omega)))
    (fun cd => OwnFrom.and (ownFrom_fact _) (OwnFrom.and (ownFrom_heap _ (by omega)) (ownFrom_below (by rw [HG.out]; exact Nat.le_refl _) (by omega))))
    ⟨Keep.refl _ _ _, f1⟩
    (fun x => { tmps := #[kindV size poly start, .int .u64 sum, .slice A n c, .pointer (some ⟨g, 0, none⟩), .pointer (some ⟨g + 1, 0, none⟩), undef, .pointer (some ⟨g + 1 + 1, 0, none⟩), .pointer (some ⟨q, 0, none⟩), chunkV b off n 4 x, undef, undef, undef, .agg #[.int .i64 size, .int .u64 poly, .int .u64 start], .agg cs, .slice A n c,
      .func (.func 125) #[] #[.pointer (some ⟨q + 1, 0, none⟩), .pointer (some ⟨q + 1 + 1, 0, none⟩)], chunkV b off n 4 x, undef, undef, undef, undef, undef, undef, undef, undef, undef, undef, undef, undef, undef, undef, undef, undef, undef, undef, undef, undef, undef, undef, undef, undef, undef, undef, undef, undef, undef, undef, undef, undef], defers := [] }) ?assign ?body ?done ?stop
  case assign =>
    intro j x W K hK
    gi_wp2
    exact hK
  case body =>
    rintro lp pre x W ⟨hKp, hsum⟩ _
    have a0 : W.cell? ⟨g, 0, none⟩ = some (.int .i64 size) := cell_of_heap (hKp.heap F0.out (by omega) (by omega)) 0 _ rfl
    have a1 : W.cell? ⟨g, 1, none⟩ = some (.int .u64 poly) := cell_of_heap (hKp.heap F0.out (by omega) (by omega)) 1 _ rfl
    have a2 : W.cell? ⟨g, 2, none⟩ = some (.int .u64 start) := cell_of_heap (hKp.heap F0.out (by omega) (by omega)) 2 _ rfl
    have hres := hKp.heap F2.out (by omega) (by omega)
    have htab := hKp.heap F3.out (by omega) (by omega)
    have hbel : Below g w W := FB.out.trans (hKp.below (by omega) (by omega))
    have hsz : q + 1 + 1 + 1 ≤ W.heap.size := by rw [← FS.out]; exact hKp.size
    obtain ⟨s, hsv⟩ : ∃ s, crcN size poly sum (pre.flatMap (chunkL l 4)) = s := ⟨_, rfl⟩
    have hslt : s < 2 ^ size := by rw [← hsv]; exact crcN_lt size poly _ HP.out sum HS.out
    have hnext : crcN size poly sum ((pre ++ [x]).flatMap (chunkL l 4)) = crcN size poly s (chunkL l 4 x) := by
      rw [List.flatMap_append, crcN_append, hsv, List.flatMap_singleton]
    rw [hsv] at hsum
    have b0 : W.cell? ⟨g + 1, 0, none⟩ = some (.int .u64 s) := cell_of_heap hsum 0 _ rfl
    have hlenc : (chunkL l 4 x).length = min 4 (n - 4 * x) := by rw [chunkL_length, HN.out]
    have hrd : ∀ W2, Below W.heap.size W W2 → 0 < min 4 (n - 4 * x) → Rd W2 (some ⟨b, off + 4 * x, none⟩) (bys (chunkL l 4 x)) := by
      intro W2 hW2 hpos
      have hA2 : A = some ⟨b, off, none⟩ := by
        rcases HA.out with e | e
        · exact e
        · omega
      have h1 := HR.out.below (w' := W) (by rw [HG.out]; exact hbel)
      rw [hA2] at h1
      exact (chunkL_rd h1 4 x).below hW2
    have h01c : ∀ y ∈ chunkL l 4 x, y ≤ 1 := fun y hy => H01.out y (chunkL_mem l 4 x y hy)
    have HSV := Lib.hid hsv
    have HNX := Lib.hid hnext
    have HKP := Lib.hid hKp
    have HSUM := Lib.hid hsum
    have HRES := Lib.hid hres
    have HTAB := Lib.hid htab
    have HBEL := Lib.hid hbel
    have HLC := Lib.hid hlenc
    have HRD := Lib.hid hrd
    have H01C := Lib.hid h01c
    have HSLT := Lib.hid hslt
    clear hsv hnext hKp hsum hres htab hbel hlenc hrd h01c f1 f2 f3 f4 f5 fs fb f0 hslt
    by_cases hm : n - 4 * x < 4
    · have hmin : min 4 (n - 4 * x) = n - 4 * x := Nat.min_eq_right (by omega)
      have hall : ∀ W2, W2 = W → Calls Try.prog 122 #[.int .u64 s, .slice (some ⟨b, off + 4 * x, none⟩) (n - 4 * x) (n - 4 * x), .func (.func 123) #[kindV size poly start] #[]] W2 fun e w' => e = .returned (.int .u64 (crcN size poly s (chunkL l 4 x) : Nat)) ∧ Below W2.heap.size W2 w' := by
        rintro W2 rfl
        by_cases h0 : 0 < n - 4 * x
        · exact all_any size poly start s _ _ _ (chunkL l 4 x) W2 h4 h32 HP.out HSLT.out (HRD.out W2 (Below.refl _ _) (by omega)) (by rw [HLC.out]; omega) (by omega) H01C.out
        · have e0 : chunkL l 4 x = [] := List.eq_nil_of_length_eq_zero (by rw [HLC.out]; omega)
          exact all_any size poly start s _ _ _ (chunkL l 4 x) W2 h4 h32 HP.out HSLT.out (by rw [e0]; exact Rd.nil _ _) (by rw [e0]; simp; omega) (by omega) H01C.out
      have HALL := Lib.hid (hall W rfl)
      have HM := Lib.hid hmin
      have hlt4 : ((n - 4 * x : Nat) : Int) < 4 := by omega
      clear hall hmin
      dsimp only [chunkV]
      rw [HM.out]
      gi_wp2_with (refine ⟨trivial, ?_⟩; gi_at_call 122; refine (CallsIn.inRound lp (callsIn_wide.2 HALL.out)).mono ?_; rintro e w2 ⟨rfl, hb2⟩; have r0 : w2.cell? ⟨g + 1 + 1, 0, none⟩ = some (.int .u64 0) := Below.cell_of hb2 (cell_of_heap HRES.out 0 _ rfl); have z0 : w2.frozen? ⟨g + 1 + 1, 0, none⟩ = false := (by simp [World.frozen?, heap_below hb2 HRES.out]); have HB2 := Lib.hid hb2; clear hb2)
      refine ⟨(keepsFrom_below HB2.out).trans ((KeepsOthers.setCell _ _ _).from _), ⟨rfl, pre, x, rfl, hm⟩, ?_, (HBEL.out.trans (HB2.out.mono (by omega))).setCell (p := ⟨g + 1 + 1, 0, none⟩) (by show g ≤ g + 1 + 1; omega) _⟩
      rw [heap_setCell (heap_below HB2.out HRES.out) 0 _, HNX.out]
      rfl
    · have hmin : min 4 (n - 4 * x) = 4 := Nat.min_eq_left (by omega)
      have hl4 : (chunkL l 4 x).length = 4 := by rw [HLC.out]; exact hmin
      have hget := Get_any W (some ⟨b, off + 4 * x, none⟩) 4 4 (chunkL l 4 x) (HRD.out W (Below.refl _ _) (by omega)) hl4 (by omega) H01C.out
      have hN := numN_lt (chunkL l 4 x) H01C.out
      rw [hl4] at hN
      have hcr := crcN_four size poly s h4 HSLT.out (chunkL l 4 x) hl4 H01C.out
      have hpw := pow32 h32
      have hslt' := HSLT.out
      obtain ⟨p4, hp4⟩ : ∃ p4, size - 4 = p4 := ⟨_, rfl⟩
      have hhi : s / 2 ^ p4 < 16 := by
        refine Nat.div_lt_of_lt_mul ?_
        obtain rfl : size = p4 + 4 := by omega
        rw [Nat.pow_add] at hslt'
        exact hslt'
      have hxlt : (s / 2 ^ p4) ^^^ numN (chunkL l 4 x) < 16 := Nat.xor_lt_two_pow (n := 4) hhi hN
      have hxor1 : bits .xor .u64 ((s : Int) / 2 ^ p4) ((numN (chunkL l 4 x) : Nat) : Int) = (((s / 2 ^ p4) ^^^ numN (chunkL l 4 x) : Nat) : Int) := by
        have e : ((s : Int) / 2 ^ p4) = ((s / 2 ^ p4 : Nat) : Int) := by simp
        rw [e]; exact u64_xor_nat _ _ (by omega) (by omega)
      have hmin64 : min p4 64 = p4 := Nat.min_eq_left (by omega)
      have hs4 : IntKind.i64.wrap ((size : Int) - 4) = (p4 : Int) := by rw [IntWalk.i64_in _ (by omega)]; omega
      have hmask : bits .and .u64 (IntKind.u64.wrap ((s : Int) * 16)) (IntKind.u64.wrap (IntKind.u64.wrap (2 ^ size) - 1)) = ((s * 16 % 2 ^ size : Nat) : Int) := by
        have e : IntKind.u64.wrap ((s : Int) * 16) = ((s * 16 : Nat) : Int) := by rw [IntWalk.u64_in _ ⟨by omega, by omega⟩]; omega
        rw [e, mask_u64 size _ h32 (by omega)]
      have htlt : tabN size poly ((s / 2 ^ p4) ^^^ numN (chunkL l 4 x)) < 2 ^ size := by
        refine crcN_lt size poly _ HP.out _ ?_
        rw [hp4]
        obtain rfl : size = p4 + 4 := by omega
        rw [Nat.pow_add]
        have h0 : 0 < 2 ^ p4 := Nat.two_pow_pos _
        have := Nat.mul_lt_mul_of_pos_right hxlt h0
        omega
      have hmlt : s * 16 % 2 ^ size < 2 ^ size := Nat.mod_lt _ (Nat.two_pow_pos _)
      have hxor2 : bits .xor .u64 ((s * 16 % 2 ^ size : Nat) : Int) ((tabN size poly ((s / 2 ^ p4) ^^^ numN (chunkL l 4 x)) : Nat) : Int) = ((s * 16 % 2 ^ size ^^^ tabN size poly ((s / 2 ^ p4) ^^^ numN (chunkL l 4 x)) : Nat) : Int) := u64_xor_nat _ _ (by omega) (by omega)
      rw [hp4] at hcr
      have hcell : cs[(s / 2 ^ p4) ^^^ numN (chunkL l 4 x)]? = some (.int .u64 (tabN size poly ((s / 2 ^ p4) ^^^ numN (chunkL l 4 x)) : Nat)) := by
        rw [← HCS.out]; simp [tabV, hxlt]
      obtain ⟨N, hNe⟩ : ∃ N, numN (chunkL l 4 x) = N := ⟨_, rfl⟩
      rw [hNe] at hget hN hcr hxlt hxor1 htlt hxor2 hcell
      obtain ⟨hi, hhie⟩ : ∃ hi, (s / 2 ^ p4) ^^^ N = hi := ⟨_, rfl⟩
      rw [hhie] at hcr hxlt hxor1 htlt hxor2 hcell
      obtain ⟨T, hTe⟩ : ∃ T, tabN size poly hi = T := ⟨_, rfl⟩
      rw [hTe] at hcr htlt hxor2 hcell
      obtain ⟨M, hMe⟩ : ∃ M, s * 16 % 2 ^ size = M := ⟨_, rfl⟩
      rw [hMe] at hmask hmlt hcr hxor2
      have HGET := Lib.hid hget
      have HM := Lib.hid hmin
      have HCR := Lib.hid hcr
      have HCELL := Lib.hid hcell
      have HFACT : Hid (hs4 = hs4) := rfl
      clear hget hmin hcr hNe hhie hTe hMe hslt' htlt hmlt hpw hhi hN hl4 hcell hp4 HFACT
      have hi16 : (hi : Int) < 16 := by omega
      have hi0 : (0 : Int) ≤ (hi : Int) := by omega
      have hm4 : ¬ (4 : Int) < 4 := by omega
      dsimp only [chunkV]
      rw [HM.out]
      gi_wp2_with (refine ⟨trivial, ?_⟩; gi_at_call 124; refine (CallsIn.inRound lp (callsIn_wide.2 HGET.out)).mono ?_; rintro e w2 ⟨rfl, hb2⟩; have a0' := Below.cell_of hb2 a0; have b0' := Below.cell_of hb2 b0; have z0 : w2.frozen? ⟨g + 1, 0, none⟩ = false := (by simp [World.frozen?, heap_below hb2 HSUM.out]); have t0 : w2.cell? ⟨q, hi, none⟩ = some (.int .u64 T) := Below.cell_of hb2 (cell_of_heap HTAB.out hi _ HCELL.out); have HB2 := Lib.hid hb2; clear hb2)
      refine wpIn_region_still_tail 11 (by kernel_rfl) (by kernel_rfl) (by kernel_rfl) ?_
      simp only [List.take_succ_cons, List.take_zero, List.drop_succ_cons, List.drop_zero]
      repeat still_step
      refine wpStill_nil ?_
      gi_wp2
      have hk1 : Keep W0.heap.size (g + 1) W ((w2.setCell ⟨g + 1, 0, none⟩ (.int .u64 ((M ^^^ T : Nat) : Int))).drew) := ((Keep.of HB2.out HKP.out.size).setCell (p := ⟨g + 1, 0, none⟩) (.inl rfl) _).drew
      refine ⟨((keepsFrom_below HB2.out).trans ((KeepsOthers.setCell _ _ _).from _)).trans ((KeepsOthers.drew _).from _), hk1, HKP.out.trans hk1, ?_⟩
      rw [HNX.out, HCR.out]
      show (w2.setCell _ _).heap[g + 1]? = _
      rw [heap_setCell (heap_below HB2.out HSUM.out) 0 _]
      rfl
  case done =>
    rintro D ys W hD rfl ⟨hKp, hsum⟩ hKd
    have hall : crcN size poly sum ((List.range (nchN n 4)).flatMap (chunkL l 4)) = crcN size poly sum l := by
      rw [chunkL_all, List.take_of_length_le]
      rw [HN.out]; exact (nchN_spec n 4 (by omega)).2
    rw [hall] at hsum
    have HALL := Lib.hid hall
    obtain ⟨r, hr⟩ : ∃ r, crcN size poly sum l = r := ⟨_, rfl⟩
    rw [hr] at hsum
    have HRV := Lib.hid hr
    have b0 : W.cell? ⟨g + 1, 0, none⟩ = some (.int .u64 r) := cell_of_heap hsum 0 _ rfl
    have hres := hKp.heap F2.out (by omega) (by omega)
    have r0 : W.cell? ⟨g + 1 + 1, 0, none⟩ = some (.int .u64 0) := cell_of_heap hres 0 _ rfl
    have z0 : W.frozen? ⟨g + 1 + 1, 0, none⟩ = false := by simp [World.frozen?, hres]
    have hbel : Below g w W := FB.out.trans (hKp.below (by omega) (by omega))
    have HRES := Lib.hid hres
    have HBEL := Lib.hid hbel
    have HKD := Lib.hid hKd
    clear hall hr hsum hres hbel hKd f0 f1 f2 f3 f4 f5 fs fb
    gi_wp2
    have hK' := (KeepsOthers.setCell W ⟨g + 1 + 1, 0, none⟩ (.int .u64 r)).same D _ HKD.out rfl
    refine ⟨by simp, .inl ⟨_, _, rfl, run_takeDeferred hK', ?_⟩⟩
    have hc5 := cell_kept (World.cell?_setCell_same' W ⟨g + 1 + 1, 0, none⟩ (.int .u64 r) (by rw [r0]; rfl)) (grownBy_putObj' _ D (.deferred none)) (fun r e => by cases e; exact ⟨_, hK', rfl⟩)
    refine ⟨.int .u64 r, by simp [results, Try.f116, go_sem, hc5], ⟨by rw [HRV.out], ?_⟩⟩
    rw [HG.out]
    exact (HBEL.out.setCell (p := ⟨g + 1 + 1, 0, none⟩) (by show g ≤ g + 1 + 1; omega) _).trans (belowK_b (w := W0) (by rw [FS.out]; omega) _ D _ _ hD hK' rfl rfl)
  case stop =>
    rintro D cd pre W hD ⟨k, hk, rfl⟩ ⟨⟨rfl, ini, x, e1, e2⟩, hres, hB⟩ hKd
    have hall : crcN size poly sum ((List.range k).flatMap (chunkL l 4)) = crcN size poly sum l := by
      rw [chunkL_all, List.take_of_length_le]
      rw [HN.out]
      cases k with
      | zero => simp at e1
      | succ k =>
        rw [List.range_succ] at e1
        have e3 := List.append_inj_right' e1 rfl
        simp at e3
        omega
    rw [hall] at hres
    obtain ⟨r, hr⟩ : ∃ r, crcN size poly sum l = r := ⟨_, rfl⟩
    rw [hr] at hres
    have HRV := Lib.hid hr
    have r0 : W.cell? ⟨g + 1 + 1, 0, none⟩ = some (.int .u64 r) := cell_of_heap hres 0 _ rfl
    have HBEL := Lib.hid hB
    have HKD := Lib.hid hKd
    clear hall hr hres hB hKd f0 f1 f2 f3 f4 f5 fs fb e1
    gi_wp2
    have hK' := HKD.out
    refine ⟨by simp, .inl ⟨_, _, rfl, run_takeDeferred hK', ?_⟩⟩
    have hc5 := cell_kept r0 (grownBy_putObj' _ D (.deferred none)) (fun r e => by cases e; exact ⟨_, hK', rfl⟩)
    refine ⟨.int .u64 r, by simp [results, Try.f116, go_sem, hc5], ⟨by rw [HRV.out], ?_⟩⟩
    rw [HG.out]
    exact HBEL.out.trans (belowK_b (w := W0) (by rw [FS.out]; omega) _ D _ _ hD hK' rfl rfl)
end Go.Proofs.Ytaknddanggdplaa
-- Add: crc.More, crc.Sum, crc.Size, crc.Add. No condition.
namespace Go.Proofs.Ytaknddanggdplaa
open Go.RowKit
/-- A kind of sums: its size, its polynomial, its start. -/
structure OfK (k : Int) (size poly start : Nat) : Prop where
  call : ∀ W : World, Calls Try.prog 104 #[.int .i64 k] W fun e w' => e = .returned (kindV size poly start) ∧ Below W.heap.size W w'
  h4 : 4 ≤ size
  h32 : size ≤ 32
  poly : poly < 2 ^ size
  start : start < 2 ^ size
set_option maxRecDepth 100000 in
theorem of_1 : OfK 1 15 17817 0 := by
  refine ⟨fun W => ?_, by decide, by decide, by decide, by decide⟩
  go_enter Try.func104, Try.ntmps104
  go_wp2
  exact bodyPost_ret (v := .agg #[.int .i64 15, .int .u64 17817, .int .u64 0]) (by simp [results, Try.results104, go_sem]) rfl ⟨rfl, below_alloc (below_alloc (Below.refl _ _) _) _⟩
theorem field_kind (size poly start : Nat) (w : World) : Sem.run Try.prog (Instr.field 118 (kindV size poly start) 0) w = .ok (.int .i64 size) w := by kernel_rfl
theorem field_kind2 (size poly start : Nat) (w : World) : Sem.run Try.prog (Instr.field 118 (kindV size poly start) 2) w = .ok (.int .u64 start) w := by kernel_rfl
theorem Size_any {k : Int} {size poly start : Nat} (h : OfK k size poly start) (w : World) : Calls Try.prog 74 #[.int .i64 k] w fun e w' => e = .returned (.int .i64 size) ∧ Below w.heap.size w w' := by
  have HO := Lib.hid h.call
  have hf := field_kind size poly start
  clear h
  go_enter Try.func74, Try.ntmps74
  go_wp2_with fail
  refine (HO.out _).mono ?_
  rintro e w1 ⟨rfl, hb⟩
  have HB := Lib.hid hb
  clear hb
  go_wp2_with fail
  go_ret
  exact ⟨rfl, HB.out⟩
set_option maxRecDepth 100000 in
set_option maxHeartbeats 1000000 in
theorem More_any {k : Int} {size poly start : Nat} (h : OfK k size poly start) (sum b off n c : Nat) (A : Option Addr) (hA : A = some ⟨b, off, none⟩ ∨ n = 0) (l : List Nat) (w : World) (hs : sum < 2 ^ size) (hr : Rd w A (bys l)) (hn : l.length = n) (hn2 : n ≤ 65536) (hc1 : n ≤ c) (hc2 : c ≤ 9223372036854775807) (h01 : ∀ x ∈ l, x ≤ 1) :
    Calls Try.prog 112 #[.int .i64 k, .int .u64 sum, .slice A n c] w fun e w' => e = .returned (.tuple #[.int .u64 (crcN size poly sum l : Nat), .int .i64 0]) ∧ Below w.heap.size w w' := by
  have hok : bitsOk l = true := by unfold bitsOk; rw [decide_eq_true (by omega : l.length ≤ 65536), decide_eq_true h01]; rfl
  have hC := fun (W : World) (hW : Rd W A (bys l)) => BitsCheck_any A n c l W hW hn (by omega)
  simp only [hok, if_true] at hC
  have hrun := fun (W : World) (hW : Rd W A (bys l)) => run_any size poly start sum b off n c A hA l W h.h4 h.h32 h.poly hs hW hn (by omega) hc1 hc2 h01
  have HC := Lib.hid hC
  have HRUN := Lib.hid hrun
  have HO := Lib.hid h.call
  have HR := Lib.hid hr
  obtain ⟨r, hre⟩ : ∃ r, crcN size poly sum l = r := ⟨_, rfl⟩
  rw [hre] at HRUN ⊢
  have hz : ((size : Int) == 0) = false := by have := h.h4; rw [beq_eq_false_iff_ne]; omega
  have hdiv : (sum : Int) / 2 ^ min size 64 = 0 := by
    rw [Nat.min_eq_left (by have := h.h32; omega)]
    have e : (sum : Int) / 2 ^ size = ((sum / 2 ^ size : Nat) : Int) := by simp
    rw [e, Nat.div_eq_of_lt hs]; rfl
  have hdiv2 : (sum : Int) / 2 ^ size = 0 := by
    have e : (sum : Int) / 2 ^ size = ((sum / 2 ^ size : Nat) : Int) := by simp
    rw [e, Nat.div_eq_of_lt hs]; rfl
  have hs32 : size ≤ 32 := h.h32
  clear hok hC hrun hr hre h01 hA hs h
  go_enter Try.func112, Try.ntmps112
  go_wp2_with fail
  refine (HO.out _).mono ?_
  rintro e w1 ⟨rfl, hb⟩
  have HB := Lib.hid hb
  clear hb
  go_wp2_with fail
  refine (HC.out _ ((HR.out.below HB.out).alloc _)).mono ?_
  rintro e _ ⟨rfl, rfl⟩
  go_wp2_with fail
  refine (HRUN.out _ ((HR.out.below HB.out).alloc _)).mono ?_
  rintro e w2 ⟨rfl, hb2⟩
  have HB2 := Lib.hid hb2
  clear hb2
  go_wp2_with fail
  go_ret2
  exact ⟨rfl, below_trans (below_alloc HB.out _) HB2.out⟩
set_option maxHeartbeats 1000000 in
theorem Sum_any {k : Int} {size poly start : Nat} (h : OfK k size poly start) (b off n c : Nat) (A : Option Addr) (hA : A = some ⟨b, off, none⟩ ∨ n = 0) (l : List Nat) (w : World) (hr : Rd w A (bys l)) (hn : l.length = n) (hn2 : n ≤ 65536) (hc1 : n ≤ c) (hc2 : c ≤ 9223372036854775807) (h01 : ∀ x ∈ l, x ≤ 1) :
    Calls Try.prog 96 #[.int .i64 k, .slice A n c] w fun e w' => e = .returned (.tuple #[.int .u64 (crcN size poly start l : Nat), .int .i64 0]) ∧ Below w.heap.size w w' := by
  have hM := fun (W : World) (hW : Rd W A (bys l)) => More_any h start b off n c A hA l W h.start hW hn hn2 hc1 hc2 h01
  obtain ⟨r, hre⟩ : ∃ r, crcN size poly start l = r := ⟨_, rfl⟩
  rw [hre]
  simp only [hre] at hM
  have HM := Lib.hid hM
  have HO := Lib.hid h.call
  have HR := Lib.hid hr
  have hf := field_kind2 size poly start
  clear hr hM hA h01 h hre
  go_enter Try.func96, Try.ntmps96
  go_wp2_with fail
  refine (HO.out _).mono ?_
  rintro e w1 ⟨rfl, hb⟩
  have HB := Lib.hid hb
  clear hb
  go_wp2_with fail
  refine (HM.out _ (HR.out.below HB.out)).mono ?_
  rintro e w2 ⟨rfl, hb2⟩
  have HB2 := Lib.hid hb2
  clear hb2
  go_wp2_with fail
  go_ret2
  exact ⟨rfl, below_trans HB.out HB2.out⟩
/-- Bits with their sum behind. -/
def addN (size poly start : Nat) (l : List Nat) : List Nat := l ++ bitsN (crcN size poly start l) size
set_option maxRecDepth 100000 in
set_option maxHeartbeats 2000000 in
theorem Add_any {k : Int} {size poly start : Nat} (h : OfK k size poly start) (b off n c N : Nat) (A : Option Addr) (hA : A = some ⟨b, off, none⟩ ∨ n = 0) (l : List Nat) (w : World) (hr : Rd w A (bys l)) (hnil : A = none → c = 0) (hn : l.length = n) (hn2 : n ≤ 65536) (hc1 : n ≤ c) (hc2 : c ≤ 9223372036854775807) (h01 : ∀ x ∈ l, x ≤ 1) (hN : n + size = N) :
    Calls Try.prog 91 #[.int .i64 k, .slice A n c] w fun e w' => (∃ A' c', e = .returned (.tuple #[.slice A' N c', .int .i64 0]) ∧ Row w' w.heap.size 5 A' c' (bys (addN size poly start l))) ∧ Below w.heap.size w w' := by
  have hS := Sum_any h b off n c A hA l w hr hn hn2 hc1 hc2 h01
  have hlt : crcN size poly start l < 2 ^ size := crcN_lt size poly l h.poly start h.start
  have hpw := pow32 h.h32
  have hadd : addN size poly start l = l ++ bitsN (crcN size poly start l) size := rfl
  obtain ⟨r, hre⟩ : ∃ r, crcN size poly start l = r := ⟨_, rfl⟩
  rw [hre] at hS hlt hadd
  have hput := fun W => bitsPut_any W r size (by omega) (by have := h.h32; omega) hlt
  have HS := Lib.hid hS
  have HPUT := Lib.hid hput
  have HSZ := Lib.hid (Size_any h)
  have HR := Lib.hid hr
  have HNIL := Lib.hid hnil
  have HN := Lib.hid hn
  have HADD := Lib.hid hadd
  have HN2 := Lib.hid hN
  have hsz := h.h32
  obtain ⟨al, hal⟩ : ∃ al, addN size poly start l = al := ⟨_, rfl⟩
  rw [hal] at HADD ⊢
  clear hS hput hr hnil hn hadd h hA h01 hlt hpw hre hal hN
  go_enter Try.func91, Try.ntmps91
  go_wp2_with fail
  refine HS.out.mono ?_
  rintro e w1 ⟨rfl, hb1⟩
  have HB1 := Lib.hid hb1
  clear hb1
  go_wp2_with fail
  refine (HSZ.out _).mono ?_
  rintro e w2 ⟨rfl, hb2⟩
  have HB2 := Lib.hid hb2
  clear hb2
  go_wp2_with fail
  refine (HPUT.out _).mono ?_
  rintro e w3 ⟨⟨A3, c3, rfl, hrow⟩, hb3⟩
  have HB3 := Lib.hid hb3
  have HROW := Lib.hid hrow
  clear hb3 hrow
  go_wp2_with fail
  have hcat := concat_any (some ⟨w3.heap.size, 0, none⟩) 2 2 N [(A, c, l), (A3, c3, bitsN r size)] (w3.alloc (.cells #[.slice A n c, .slice A3 size c3] 23))
    (by have := Rd.blk (w := w3.alloc (.cells #[.slice A n c, .slice A3 size c3] 23)) (heap_new_at rfl); simpa [partV, HN.out, bitsN_length] using this) rfl
    (by
      intro p hp
      simp only [List.mem_cons, List.not_mem_nil, or_false] at hp
      rcases hp with rfl | rfl
      · exact ⟨(HR.out.below (below_trans (below_trans HB1.out HB2.out) HB3.out)).alloc _, fun _ e => HNIL.out e⟩
      · exact ⟨HROW.out.rd.alloc _, fun _ e => HROW.out.none_ e⟩) (by simp [partsL, bitsN_length, HN.out, HN2.out]) (by rw [← HN2.out]; omega) (by omega)
  refine hcat.mono ?_
  rintro e w4 ⟨⟨A4, c4, rfl, hrow4⟩, hb4⟩
  have HROW4 := Lib.hid hrow4
  have HB4 := Lib.hid hb4
  clear hrow4 hb4 hcat
  go_wp2_with fail
  go_ret2
  have hb : Below w.heap.size w w3 := below_trans (below_trans HB1.out HB2.out) HB3.out
  refine ⟨⟨A4, c4, rfl, ?_⟩, below_trans (below_alloc hb _) HB4.out⟩
  have h4 := HROW4.out
  have e4 : partsL [(A, c, l), (A3, c3, bitsN r size)] = al := by rw [HADD.out]; simp [partsL]
  rw [e4] at h4
  exact h4.mono (Nat.le_trans hb.size (by simp))
theorem Row.form {w : World} {base t c : Nat} {A : Option Addr} {xs : List Value} (h : Row w base t A c xs) : ∃ b, A = some ⟨b, 0, none⟩ ∨ xs.length = 0 := by
  rcases h.2 with ⟨hv, hx⟩ | ⟨g, cap, cur, hv, _⟩
  · injection hv with e1 e2 _
    exact ⟨0, .inr e2⟩
  · injection hv with e
    exact ⟨g, .inl e⟩
theorem Row.capm {w : World} {base t c : Nat} {A : Option Addr} {xs : List Value} (h : Row w base t A c xs) : c ≤ 9223372036854775807 := by
  rcases h.2 with ⟨hv, hx⟩ | ⟨g, cap, cur, hv, _, _, _, hm, _⟩
  · injection hv with _ _ e3; omega
  · injection hv with _ _ e3
    unfold maxLen at hm
    omega
theorem Add_row {k : Int} {size poly start : Nat} (h : OfK k size poly start) (n c N base : Nat) (A : Option Addr) (l : List Nat) (w : World) (hrow : Row w base 5 A c (bys l)) (hn : l.length = n) (hn2 : n ≤ 65536) (h01 : ∀ x ∈ l, x ≤ 1) (hN : n + size = N) :
    Calls Try.prog 91 #[.int .i64 k, .slice A n c] w fun e w' => (∃ A' c', e = .returned (.tuple #[.slice A' N c', .int .i64 0]) ∧ Row w' w.heap.size 5 A' c' (bys (addN size poly start l))) ∧ Below w.heap.size w w' := by
  obtain ⟨b, hA⟩ := hrow.form
  rw [bys_length, hn] at hA
  have hcap := hrow.cap
  rw [bys_length, hn] at hcap
  exact Add_any h b 0 n c N A hA l w hrow.rd (fun e => hrow.none_ e) hn hn2 hcap hrow.capm h01 hN
theorem Sum_row {k : Int} {size poly start : Nat} (h : OfK k size poly start) (n c base : Nat) (A : Option Addr) (l : List Nat) (w : World) (hrow : Row w base 5 A c (bys l)) (hn : l.length = n) (hn2 : n ≤ 65536) (h01 : ∀ x ∈ l, x ≤ 1) :
    Calls Try.prog 96 #[.int .i64 k, .slice A n c] w fun e w' => e = .returned (.tuple #[.int .u64 (crcN size poly start l : Nat), .int .i64 0]) ∧ Below w.heap.size w w' := by
  obtain ⟨b, hA⟩ := hrow.form
  rw [bys_length, hn] at hA
  have hcap := hrow.cap
  rw [bys_length, hn] at hcap
  exact Sum_any h b 0 n c A hA l w hrow.rd hn hn2 hcap hrow.capm h01
/-- Two rows joined, whose slices lie in one block. -/
theorem concat2 (W : World) (A1 A2 : Option Addr) (c1 c2 n1 n2 N : Nat) (l1 l2 : List Nat) (h1 : PartOk W (A1, c1, l1)) (h2 : PartOk W (A2, c2, l2)) (e1 : l1.length = n1) (e2 : l2.length = n2) (hN : n1 + n2 = N) (hN2 : N ≤ 1000000) :
    Calls Try.prog 41 #[.slice (some ⟨W.heap.size, 0, none⟩) 2 2] (W.alloc (.cells #[.slice A1 n1 c1, .slice A2 n2 c2] 23)) fun e w' => (∃ A' c', e = .returned (.slice A' N c') ∧ Row w' (W.alloc (.cells #[.slice A1 n1 c1, .slice A2 n2 c2] 23)).heap.size 5 A' c' (bys (l1 ++ l2))) ∧ Below (W.alloc (.cells #[.slice A1 n1 c1, .slice A2 n2 c2] 23)).heap.size (W.alloc (.cells #[.slice A1 n1 c1, .slice A2 n2 c2] 23)) w' := by
  have hL : partsL [(A1, c1, l1), (A2, c2, l2)] = l1 ++ l2 := by simp [partsL]
  rw [← hL]
  refine concat_any _ 2 2 N [(A1, c1, l1), (A2, c2, l2)] _ ?_ rfl ?_ ?_ hN2 (by omega)
  · have := Rd.blk (w := W.alloc (.cells #[.slice A1 n1 c1, .slice A2 n2 c2] 23)) (heap_new_at rfl)
    simpa [partV, e1, e2] using this
  · intro p hp
    simp only [List.mem_cons, List.not_mem_nil, or_false] at hp
    rcases hp with rfl | rfl
    · exact h1.below (below_alloc (Below.refl _ _) _)
    · exact h2.below (below_alloc (Below.refl _ _) _)
  · rw [hL, List.length_append, e1, e2, hN]
theorem Row.part {w : World} {base t c : Nat} {A : Option Addr} {l : List Nat} (h : Row w base t A c (bys l)) : PartOk w (A, c, l) := ⟨h.rd, fun _ e => h.none_ e⟩
end Go.Proofs.Ytaknddanggdplaa
-- XlSeal: xl's seal: a sum of what is ahead, and of what has grown. The kinds of sums. No condition.
namespace Go.Proofs.Ytaknddanggdplaa
open Go.RowKit
set_option maxRecDepth 100000 in
theorem of_4 : OfK 4 13 6631 1 := by
  refine ⟨fun W => ?_, by decide, by decide, by decide, by decide⟩
  go_enter Try.func104, Try.ntmps104
  go_wp2
  exact bodyPost_ret (v := .agg #[.int .i64 13, .int .u64 6631, .int .u64 1]) (by simp [results, Try.results104, go_sem]) rfl ⟨rfl, below_alloc (below_alloc (Below.refl _ _) _) _⟩
set_option maxRecDepth 100000 in
theorem of_5 : OfK 5 32 4104977171 1 := by
  refine ⟨fun W => ?_, by decide, by decide, by decide, by decide⟩
  go_enter Try.func104, Try.ntmps104
  go_wp2
  exact bodyPost_ret (v := .agg #[.int .i64 32, .int .u64 4104977171, .int .u64 1]) (by simp [results, Try.results104, go_sem]) rfl ⟨rfl, below_alloc (below_alloc (Below.refl _ _) _) _⟩
set_option maxRecDepth 100000 in
set_option maxHeartbeats 2000000 in
theorem xlSeal_any {k : Int} {size poly start : Nat} (hO : OfK k size poly start) (w : World) (B b t : Nat) (A A2 : Option Addr) (c c2 n2 : Nat) (l l2 : List Nat) (h : Pot w B b t A c l) (hp2 : PartOk w (A2, c2, l2)) (hn2 : l2.length = n2) (hl : n2 + l.length ≤ 50000) (h01 : ∀ x ∈ l2 ++ l, x ≤ 1) :
    Calls Try.prog 57 #[.pointer (some ⟨b, 0, none⟩), .int .i64 k, .slice A2 n2 c2] w fun e w' => e = .returned (.tuple #[]) ∧ (∃ A' c', Pot w' B b t A' c' (l ++ bitsN (crcN size poly start (l2 ++ l)) size)) ∧ Keep B b w w' := by
  have hlt : crcN size poly start (l2 ++ l) < 2 ^ size := crcN_lt size poly (l2 ++ l) hO.poly start hO.start
  have h32 := hO.h32
  have hpw := pow32 h32
  obtain ⟨q, hq⟩ : ∃ q, l.length = q := ⟨_, rfl⟩
  rw [hq] at hl
  have c0 : w.cell? ⟨b, 0, none⟩ = some (.slice A q c) := by rw [← hq]; exact h.cell
  have HP := Lib.hid h
  have hcc := concat2 w A2 A c2 c n2 q (n2 + q) l2 l hp2 h.row.part hn2 hq rfl (by omega)
  have HCC := Lib.hid hcc
  have hlen : (l2 ++ l).length = n2 + q := by rw [List.length_append, hn2, hq]
  have HLEN := Lib.hid hlen
  have HSUM := Lib.hid (fun (W : World) (base : Nat) (A3 : Option Addr) (c3 : Nat) (hW : Row W base 5 A3 c3 (bys (l2 ++ l))) => Sum_row hO (n2 + q) c3 base A3 (l2 ++ l) W hW hlen (by omega) h01)
  have HSZ := Lib.hid (fun W => Size_any hO W)
  have HQ := Lib.hid hq
  obtain ⟨r, hre⟩ : ∃ r, crcN size poly start (l2 ++ l) = r := ⟨_, rfl⟩
  rw [hre] at hlt HSUM ⊢
  have sb : b < w.heap.size := heap_lt h.box
  clear h hcc hlen hq hre h01 hp2 hn2 hO
  go_enter Try.func57, Try.ntmps57
  go_wp2_with fail
  refine HCC.out.mono ?_
  rintro x w1 ⟨⟨A3, c3, rfl, hrow3⟩, hb1⟩
  have HROW3 := Lib.hid hrow3
  have HB1 := Lib.hid ((below_alloc (Below.refl w.heap.size w) (.cells #[.slice A2 n2 c2, .slice A q c] 23)).trans (hb1.mono (by simp)))
  clear hrow3 hb1
  go_wp2_with fail
  refine (HSUM.out _ _ _ _ HROW3.out).mono ?_
  rintro x w2 ⟨rfl, hb2⟩
  have HB2 := Lib.hid (below_trans HB1.out hb2)
  clear hb2
  go_wp2_with fail
  refine (HSZ.out _).mono ?_
  rintro x w3 ⟨rfl, hb3⟩
  have HB3 := Lib.hid (below_trans HB2.out hb3)
  clear hb3
  go_wp2_with fail
  refine (xlPut_any w3 B b t A c r size l (HP.out.below HB3.out) (by omega) (by omega) hlt (by rw [HQ.out]; omega)).mono ?_
  rintro x w4 ⟨rfl, hpot, hk⟩
  have HPOT := Lib.hid hpot
  have HK := Lib.hid hk
  clear hpot hk
  go_wp2_with fail
  go_end0
  exact ⟨rfl, HPOT.out, (Keep.of HB3.out HP.out.size).trans HK.out⟩
end Go.Proofs.Ytaknddanggdplaa
-- Stuff0: stuff's state: how a row of raw bits ends. No condition.
namespace Go.Proofs.Ytaknddanggdplaa
open Go.RowKit
def seeL (last run x : Nat) : Nat := if 0 < run ∧ last = x then last else x
theorem full_any (b : Nat) (last run : Nat) (t : TypeId) (w : World) (h : w.heap[b]? = some (.cells #[.int .u8 last, .int .i64 run] t)) :
    Calls Try.prog 82 #[.pointer (some ⟨b, 0, none⟩)] w fun e w' => e = .returned (.bool (decide (run = 5))) ∧ w = w' := by
  have c0 := cell_of_heap h 0 _ rfl
  have c1 : w.cell? ⟨b, 1, none⟩ = some (.int .i64 run) := cell_of_heap h 1 _ rfl
  go_enter Try.func82, Try.ntmps82
  go_wp2
  go_ret
  exact ⟨ret_bool (by rw [Bool.eq_iff_iff]; simp; omega), rfl⟩
set_option maxHeartbeats 1000000 in
theorem see_any (b : Nat) (last run x : Nat) (t : TypeId) (w : World) (h : w.heap[b]? = some (.cells #[.int .u8 last, .int .i64 run] t)) (hr : run ≤ 1000000) :
    Calls Try.prog 83 #[.pointer (some ⟨b, 0, none⟩), .int .u8 x] w fun e w' => e = .returned (.tuple #[]) ∧ w'.heap[b]? = some (.cells #[.int .u8 (seeL last run x : Nat), .int .i64 (seeN last run x : Nat)] t) ∧ Touch b b w w' := by
  have c0 := cell_of_heap h 0 _ rfl
  have c1 : w.cell? ⟨b, 1, none⟩ = some (.int .i64 run) := cell_of_heap h 1 _ rfl
  have z0 : w.frozen? ⟨b, 0, none⟩ = false := by simp [World.frozen?, h]
  have z1 : w.frozen? ⟨b, 1, none⟩ = false := by simp [World.frozen?, h]
  have HH := Lib.hid h
  clear h
  by_cases hr0 : run = 0
  · subst hr0
    go_enter Try.func83, Try.ntmps83
    go_wp2
    go_end0
    refine ⟨rfl, ?_, ((Touch.refl b b w).setCell (p := ⟨b, 0, none⟩) (.inl rfl) _).setCell (p := ⟨b, 1, none⟩) (.inl rfl) _⟩
    rw [heap_setCell (heap_setCell HH.out 0 _) 1 _]
    simp [seeN, seeL]
  · by_cases he : last = x
    · have hei : ((run : Int) > 0) := by omega
      subst he
      go_enter Try.func83, Try.ntmps83
      go_wp2
      (first | go_returns | go_ret)
      refine ⟨rfl, ?_, (Touch.refl b b w).setCell (p := ⟨b, 1, none⟩) (.inl rfl) _⟩
      rw [heap_setCell HH.out 1 _]
      simp [seeN, seeL, show 0 < run by omega]
    · have hne : ¬ (last : Int) = (x : Int) := by omega
      go_enter Try.func83, Try.ntmps83
      go_wp2
      go_end0
      refine ⟨rfl, ?_, ((Touch.refl b b w).setCell (p := ⟨b, 0, none⟩) (.inl rfl) _).setCell (p := ⟨b, 1, none⟩) (.inl rfl) _⟩
      rw [heap_setCell (heap_setCell HH.out 0 _) 1 _]
      simp [seeN, seeL, he]
end Go.Proofs.Ytaknddanggdplaa
-- StuffPut: stuff.Put: bits with stuff bits. No condition.
namespace Go.Proofs.Ytaknddanggdplaa
open Go.RowKit
theorem seeL_eq (last run x : Nat) : seeL last run x = x := by unfold seeL; split <;> simp_all
/-- Of what lay below B only blocks b and d are turned. -/
structure Keep2 (B b d : Nat) (w w' : World) : Prop where
  os : w'.os = w.os
  tape : w'.tape = w.tape
  output : w'.output = w.output
  size : w.heap.size ≤ w'.heap.size
  block : ∀ k, k < B → k ≠ b → k ≠ d → w'.heap[k]? = w.heap[k]?
theorem Keep2.refl (B b d : Nat) (w : World) : Keep2 B b d w w := ⟨rfl, rfl, rfl, Nat.le_refl _, fun _ _ _ _ => rfl⟩
theorem Keep2.trans {B b d : Nat} {w w1 w2 : World} (h : Keep2 B b d w w1) (k : Keep2 B b d w1 w2) : Keep2 B b d w w2 :=
  ⟨k.os.trans h.os, k.tape.trans h.tape, k.output.trans h.output, Nat.le_trans h.size k.size, fun i hi h1 h2 => (k.block i hi h1 h2).trans (h.block i hi h1 h2)⟩
theorem Keep2.ofTouch {B b d : Nat} {w w' : World} (h : Touch b b w w') (hB : B ≤ w.heap.size) : Keep2 B b d w w' := ⟨h.os, h.tape, h.output, h.size, fun k hk h1 _ => h.block k (by omega) h1 h1⟩
theorem Keep2.ofKeep {B b d : Nat} {w w' : World} (h : Keep B d w w') : Keep2 B b d w w' := ⟨h.os, h.tape, h.output, h.size, fun k hk _ h2 => h.block k hk h2⟩
theorem Keep2.below {B b d C : Nat} {w w' : World} (h : Keep2 B b d w w') (hb : C ≤ b) (hd : C ≤ d) (hB : C ≤ B) : Below C w w' := ⟨h.os, h.tape, h.output, h.size, fun k hk => h.block k (by omega) (by omega) (by omega)⟩
theorem Keep2.cell_of {B b d : Nat} {w w' : World} (h : Keep2 B b d w w') {a : Addr} {v : Value} (hc : w.cell? a = some v) (h1 : a.block < B) (h2 : a.block ≠ b) (h3 : a.block ≠ d) : w'.cell? a = some v := cell_same (h.block _ h1 h2 h3) hc
/-- A row of stuffed bits under way: block bs holds how it ends, block bo the row. -/
structure Stf (w : World) (B bs bo : Nat) (A : Option Addr) (c last run : Nat) (out : List Nat) : Prop where
  pot : Pot w B bo 23 A c out
  st : w.heap[bs]? = some (.cells #[.int .u8 last, .int .i64 run] 85)
  ne : bs ≠ bo
  ns : ∀ ad, A = some ad → ad.block ≠ bs
  lt : bs < B
theorem Row.touch {w w' : World} {base t c b : Nat} {A : Option Addr} {xs : List Value} (h : Row w base t A c xs) (ht : Touch b b w w') (hb : ∀ ad, A = some ad → ad.block ≠ b) : Row w' base t A c xs := by
  refine ⟨h.1, h.2.imp id fun ⟨g, cap, cur, hv, hg, hh, r⟩ => ⟨g, cap, cur, hv, hg, ?_, r⟩⟩
  have hne : g ≠ b := by injection hv with e _ _; exact hb _ e
  rw [ht.block g (heap_lt hh) hne hne]; exact hh
theorem Row.ge {w : World} {base t c : Nat} {A : Option Addr} {xs : List Value} (h : Row w base t A c xs) : ∀ ad, A = some ad → base ≤ ad.block := by
  intro ad e
  subst e
  rcases h.2 with ⟨hv, _⟩ | ⟨g, cap, cur, hv, hg, _⟩
  · cases hv
  · injection hv with e; injection e with e; rw [e]; exact hg
set_option maxRecDepth 100000 in
set_option maxHeartbeats 1000000 in
theorem put1_any (w : World) (B bs bo : Nat) (A : Option Addr) (c last run x : Nat) (out : List Nat) (h : Stf w B bs bo A c last run out) (hrun : run ≤ 1000) (hl : out.length + 1 ≤ 1000000) :
    Calls Try.prog 81 #[.func (.func 83) #[.pointer (some ⟨bs, 0, none⟩)] #[], .int .u8 x, .pointer (some ⟨bo, 0, none⟩)] w fun e w' => e = .returned (.tuple #[]) ∧ (∃ A' c', Stf w' B bs bo A' c' x (seeN last run x) (out ++ [x])) ∧ Keep2 B bs bo w w' := by
  obtain ⟨i0, hi, hz0, hz1, hz2⟩ := info_parts info_u8
  have HH := Lib.hid h
  have HSEE := Lib.hid (see_any bs last run x 85 w h.st (by omega))
  clear h
  go_enter Try.func81, Try.ntmps81
  go_wp2_with fail
  refine HSEE.out.mono ?_
  rintro e w1 ⟨rfl, hst, ht⟩
  rw [seeL_eq] at hst
  have hbo : w1.heap[bo]? = some (.cells #[.slice A out.length c] 23) := by
    rw [ht.block bo (heap_lt HH.out.pot.box) (Ne.symm HH.out.ne) (Ne.symm HH.out.ne)]; exact HH.out.pot.box
  have hpot : Pot w1 B bo 23 A c out := ⟨hbo, HH.out.pot.ne, Nat.le_trans HH.out.pot.size ht.size, HH.out.pot.row.touch ht HH.out.ns⟩
  obtain ⟨q, hq⟩ : ∃ q, out.length = q := ⟨_, rfl⟩
  have hq2 : q + 1 ≤ 1000000 := by omega
  have c0 : w1.cell? ⟨bo, 0, none⟩ = some (.slice A q c) := by rw [← hq]; exact hpot.cell
  have z0 : w1.frozen? ⟨bo, 0, none⟩ = false := hpot.frozen
  have sb : bo < w1.heap.size := heap_lt hpot.box
  have HPOT := Lib.hid hpot
  have HST := Lib.hid hst
  have HT := Lib.hid ht
  have HL := Lib.hid hq
  clear hpot hst ht hq hl hbo
  go_wp2_with (at_builtin; refine wpList_pot (W0 := w1) (HPOT.out.alloc _) (.of (below_alloc (Below.refl _ _) _) HPOT.out.size) rfl (.tmp 8) (.tmp 10) 23 rfl i0 _ 1 Try.underlying23 hi hz0 hz1 hz2 rfl q HL.out rfl _ 1 1 [x] rfl rfl (Rd.blk (heap_new_at rfl)) (by intro h; cases h) (q + 1) rfl (by unfold maxLen; omega) (by omega) ?_; intro w3 A3 c3 HP3 c03 z03)
  go_end0
  obtain ⟨p1, p2⟩ := HP3.out.store (n := q + 1) (by rw [List.length_append, HL.out]; rfl)
  refine ⟨rfl, ⟨A3, c3, p1, ?_, HH.out.ne, fun ad e => by have := p1.row.ge ad e; have := HH.out.lt; omega, HH.out.lt⟩, (Keep2.ofTouch HT.out HH.out.pot.size).trans (.ofKeep p2)⟩
  rw [p2.block bs HH.out.lt HH.out.ne]
  exact HST.out
theorem put1_row (w : World) (B bs bo : Nat) (A : Option Addr) (c last run X : Nat) (x : Int) (out : List Nat) (eX : x = (X : Int)) (h : Stf w B bs bo A c last run out) (hrun : run ≤ 1000) (hl : out.length + 1 ≤ 1000000) :
    Calls Try.prog 81 #[.func (.func 83) #[.pointer (some ⟨bs, 0, none⟩)] #[], .int .u8 x, .pointer (some ⟨bo, 0, none⟩)] w fun e w' => e = .returned (.tuple #[]) ∧ (∃ A' c', Stf w' B bs bo A' c' X (seeN last run X) (out ++ [X])) ∧ Keep2 B bs bo w w' := by
  subst eX
  exact put1_any w B bs bo A c last run X out h hrun hl
theorem drop_cons (l : List Nat) (k : Nat) (h : k < l.length) : l.drop k = l[k] :: l.drop (k + 1) := List.drop_eq_getElem_cons h
theorem below_of_grown {w w' : World} (h : w.grownBy w' none) : Below w.heap.size w w' := (Below.refl _ w).grown h (Nat.le_refl _) (by simp)
set_option maxRecDepth 100000 in
set_option maxHeartbeats 2000000 in
theorem StuffPut_any (w : World) (A : Option Addr) (c n N : Nat) (l : List Nat) (hr : Rd w A (bys l)) (hn : l.length = n) (hn2 : n ≤ 50000) (h01 : ∀ x ∈ l, x ≤ 1) (hN : (stuffN l).length = N) :
    Calls Try.prog 36 #[.slice A n c] w fun e w' => (∃ A' c', e = .returned (.tuple #[.slice A' N c', .int .i64 0]) ∧ Row w' w.heap.size 5 A' c' (bys (stuffN l))) ∧ Below w.heap.size w w' := by
  obtain ⟨i0, hi, hz0, hz1, hz2⟩ := info_parts info_u8
  have hok : bitsOk l = true := by unfold bitsOk; rw [decide_eq_true (by omega : l.length ≤ 65536), decide_eq_true h01]; rfl
  have hC := BitsCheck_any A n c l w hr hn (by omega)
  rw [hok, if_pos rfl] at hC
  have hN2 : N ≤ 65536 := by have := stuffN_le l; omega
  have HC := Lib.hid hC
  have HR := Lib.hid hr
  have HN := Lib.hid hn
  have H01 := Lib.hid h01
  have HNN := Lib.hid hN
  clear hok hC hr hn h01 hN
  go_enter Try.func36, Try.ntmps36
  go_wp2_with fail
  refine HC.out.mono ?_
  rintro e _ ⟨rfl, rfl⟩
  go_wp2_with (refine wpList_make_own _ rfl _ (.tmp 20) 23 rfl (w.heap.size + 1) 5 i0 (.int .u8 0) 1 Try.underlying23 hi hz0 hz1 .i64 .i64 _ (n + n / 4) rfl rfl (by omega) (by rw [hz2]; omega) (by unfold maxLen; omega) (by simp) ?_; intro w1 hown hgr)
  obtain ⟨g, hg⟩ : ∃ g, w.heap.size = g := ⟨_, rfl⟩
  have hst : w1.heap[g]? = some (.cells #[.int .u8 ((0 : Nat) : Int), .int .i64 ((0 : Nat) : Int)] 85) := heap_below (below_of_grown hgr) (heap_new_at hg.symm)
  have hsz : g + 1 ≤ w1.heap.size := by have := heap_lt hst; omega
  rw [World.size_alloc, hg] at hown
  have hbw : Below g w w1 := by rw [← hg]; exact below_trans (below_alloc (Below.refl _ _) _) (below_of_grown hgr)
  have hstf : Stf (w1.alloc (.cells #[.slice (some ⟨g + 1, 0, none⟩) 0 (n + n / 4)] 23)) (g + 1) g w1.heap.size (some ⟨g + 1, 0, none⟩) (n + n / 4) 0 0 [] :=
    ⟨⟨heap_new_at rfl, fun ad e => by
        injection e with e
        subst e
        rcases hown.2 with ⟨hv, _⟩ | ⟨g', cap, cur, hv, _, hh, _⟩
        · cases hv
        · injection hv with e; injection e with e; injection e with e
          have := heap_lt hh
          show g + 1 ≠ _
          omega, by simp; omega, World.ownsRow.alloc hown _⟩, heap_push hst, by have := heap_lt hst; omega, fun ad e => by injection e with e; subst e; show g + 1 ≠ g; omega, by omega⟩
  obtain ⟨bo, hbo⟩ : ∃ bo, w1.heap.size = bo := ⟨_, rfl⟩
  rw [hbo] at hstf
  have hk0 : Keep2 (g + 1) g bo w (w1.alloc (.cells #[.slice (some ⟨g + 1, 0, none⟩) 0 (n + n / 4)] 23)) := by
    have hb := hbw.alloc (by omega) (.cells #[.slice (some ⟨g + 1, 0, none⟩) 0 (n + n / 4)] 23)
    exact ⟨hb.os, hb.tape, hb.output, hb.size, fun k hk h1 _ => hb.block k (by omega)⟩
  have HSTF := Lib.hid hstf
  have HK0 := Lib.hid hk0
  have HG := Lib.hid hg
  have HBO := Lib.hid hbo
  have hgb : g ≤ bo := by omega
  rw [hg, hbo]
  clear hst hsz hown hbw hstf hk0 hg hbo hgr hi hz0 hz1 hz2
  go_loopw [25] (fun iv wr => ∃ (k last run : Nat) (A' : Option Addr) (c' : Nat) (out : List Nat), k ≤ n ∧ iv = .int .i64 k ∧ run ≤ 5 ∧ last ≤ 1 ∧ Hid (out ++ stf last run (l.drop k) = stuffN l) ∧ Hid (Stf wr (g + 1) g bo A' c' last run out) ∧ Hid (Keep2 (g + 1) g bo w wr)) (fun iv _ => n - (intOf iv).toNat)
  case atStart => exact ⟨0, 0, 0, _, _, [], by omega, rfl, by omega, by omega, rfl, HSTF, HK0⟩
  case round =>
    obtain ⟨k, last, run, A', c', out, hk, rfl, hr5, hl1, HM, HQ, HK⟩ := hrel
    have hol : out.length ≤ 65536 := by have := congrArg List.length HM.out; rw [List.length_append, HNN.out] at this; omega
    by_cases hkn : k < n
    · have hkl : k < l.length := by rw [HN.out]; exact hkn
      have hrd : Rd wr A (bys l) := by
        intro j u hj
        obtain ⟨ad, e, hc⟩ := HR.out j u hj
        have hlt := cell_lt hc
        exact ⟨ad, e, HK.out.cell_of hc (by rw [HG.out] at hlt; omega) (by rw [HG.out] at hlt; omega) (by rw [HG.out] at hlt; omega)⟩
      obtain ⟨ad, rfl, ca⟩ := hrd.at_ k hkl
      have hx := H01.out l[k] (List.getElem_mem hkl)
      have hd := drop_cons l k hkl
      obtain ⟨x, hxe⟩ : ∃ x, l[k] = x := ⟨_, rfl⟩
      rw [hxe] at ca hx hd
      have HD := Lib.hid hd
      have hfull := full_any g last run 85 wr HQ.out.st
      clear hd hxe hrd
      by_cases h5 : run = 5
      · rw [decide_eq_true h5] at hfull
        subst h5
        have HF := Lib.hid hfull
        have b0 : wr.cell? ⟨g, 0, none⟩ = some (.int .u8 last) := cell_of_heap HQ.out.st 0 _ rfl
        clear hfull
        go_wp2_with fail
        refine HF.out.mono ?_
        rintro e _ ⟨rfl, rfl⟩
        go_wp2_with fail
        refine (put1_row wr (g + 1) g bo A' c' last 5 (1 - last) _ out ?e1 HQ.out (by omega) (by omega)).mono ?_
        case e1 => first | rfl | omega
        rintro e w2 ⟨rfl, ⟨A2, c2, hs2⟩, hk2⟩
        have HS2 := Lib.hid hs2
        have HK2 := Lib.hid hk2
        clear hs2 hk2
        go_wp2_with fail
        refine (put1_any w2 (g + 1) g bo A2 c2 (1 - last) (seeN last 5 (1 - last)) x (out ++ [1 - last]) HS2.out (by have := seeN_le last 5 (1 - last); omega) (by simp; omega)).mono ?_
        rintro e w3 ⟨rfl, ⟨A3, c3, hs3⟩, hk3⟩
        have HS3 := Lib.hid hs3
        have HK3 := Lib.hid hk3
        clear hs3 hk3
        go_wp2_with fail
        go_roundw
        case rel =>
          have e1 : seeN last 5 (1 - last) = 1 := by unfold seeN; rw [if_neg (by omega)]
          have h3 := HS3.out
          rw [e1] at h3
          refine ⟨k + 1, x, seeN (1 - last) 1 x, A3, c3, (out ++ [1 - last]) ++ [x], by omega, by go_num, by have := seeN_le (1 - last) 1 x; omega, hx, ?_, h3, HK.out.trans (HK2.out.trans HK3.out)⟩
          show _ = _
          rw [← HM.out, HD.out, stf, if_pos rfl, List.append_assoc, List.append_assoc]
          rfl
        case measure => simp [intOf]; omega
      · rw [decide_eq_false h5] at hfull
        have HF := Lib.hid hfull
        have H5 := Lib.hid h5
        clear hfull h5
        go_wp2_with fail
        refine HF.out.mono ?_
        rintro e _ ⟨rfl, rfl⟩
        go_wp2_with fail
        refine (put1_any wr (g + 1) g bo A' c' last run x out HQ.out (by omega) (by omega)).mono ?_
        rintro e w3 ⟨rfl, ⟨A3, c3, hs3⟩, hk3⟩
        have HS3 := Lib.hid hs3
        have HK3 := Lib.hid hk3
        clear hs3 hk3
        go_wp2_with fail
        go_roundw
        case rel =>
          refine ⟨k + 1, x, seeN last run x, A3, c3, out ++ [x], by omega, by go_num, by have := seeN_le last run x; have := H5.out; omega, hx, ?_, HS3.out, HK.out.trans HK3.out⟩
          show _ = _
          rw [← HM.out, HD.out, stf, if_neg H5.out, List.append_assoc]
          rfl
        case measure => simp [intOf]; omega
    · obtain rfl : n = k := by omega
      have hm := HM.out
      rw [← HN.out, List.drop_length, stf, List.append_nil] at hm
      subst hm
      have c0 : wr.cell? ⟨bo, 0, none⟩ = some (.slice A' N c') := by rw [← HNN.out]; exact HQ.out.pot.cell
      have hnl : ¬ (65536 : Int) < (N : Int) := by omega
      clear hol
      go_wp2_with fail
      go_ret2
      refine ⟨⟨A', c', rfl, ?_⟩, ?_⟩
      · rw [HG.out]; exact HQ.out.pot.row.mono (by omega)
      · rw [HG.out]; exact HK.out.below (Nat.le_refl _) hgb (by omega)
end Go.Proofs.Ytaknddanggdplaa
-- XlBody: xl.Body: an XL frame's data part. No condition.
namespace Go.Proofs.Ytaknddanggdplaa
open Go.RowKit
theorem okX (f : Fr) (hk : f.kind = 3) (h : okF f = true) : f.id < 2048 ∧ 1 ≤ f.data.length ∧ f.data.length ≤ 2048 ∧ codeF f.kind f.data.length = some ((f.data.length : Int) - 1) := by
  unfold okF at h
  simp only [Bool.and_eq_true, decide_eq_true_eq] at h
  obtain ⟨⟨⟨h1, h2⟩, -⟩, h3⟩ := h
  have he : f.ext = false := by
    unfold sameF bareF zeroF at h3
    simp only [decide_eq_true_eq, hk] at h3
    have := h3.2.2.1
    simp at this
    exact this.1
  unfold limF at h2
  rw [he] at h2
  have hc : codeF f.kind f.data.length = some ((f.data.length : Int) - 1) ∧ 1 ≤ (f.data.length : Int) ∧ (f.data.length : Int) ≤ 2048 := by
    rw [hk] at h1 ⊢
    unfold codeF at h1 ⊢
    rw [if_neg (by decide)] at h1 ⊢
    by_cases hb : loOf 3 ≤ (f.data.length : Int) ∧ (f.data.length : Int) ≤ hiOf 3
    · rw [if_pos hb]
      have a : loOf 3 = 1 := rfl
      have b : hiOf 3 = 2048 := rfl
      rw [a, b] at hb
      rw [a]
      exact ⟨rfl, hb.1, hb.2⟩
    · rw [if_neg hb] at h1
      cases h1
  exact ⟨by simpa using h2, by omega, by omega, hc.1⟩
theorem XlBody_no (f : Fr) (A : Option Addr) (c : Nat) (w : World) (hl : f.data.length ≤ 9223372036854775807) (hno : ¬ (f.kind = 3 ∧ okF f = true)) :
    Calls Try.prog 23 #[frv f (.slice A f.data.length c)] w fun e w' => e = .returned (.tuple #[.slice none 0 0, .int .i64 2]) ∧ Below w.heap.size w w' := by
  have HC := Lib.hid (fun W => Check_any f A c W hl)
  by_cases hk : f.kind = 3
  · have hok : okF f = false := by cases h : okF f with | false => rfl | true => exact absurd ⟨hk, h⟩ hno
    rw [hok] at HC
    have he : errV false = .int .i64 2 := rfl
    rw [he] at HC
    obtain ⟨kind, id, ext, rtr, brs, esi, sec, sdt, vcid, af, data⟩ := f
    dsimp only [frv] at *
    generalize data.length = n at *
    subst hk
    clear hno hok he
    go_enter Try.func23, Try.ntmps23
    go_wp2_with fail
    refine (HC.out _).mono ?_
    rintro e w1 ⟨rfl, hb⟩
    have HB := Lib.hid hb
    clear hb
    go_wp2_with fail
    go_ret2
    exact ⟨rfl, (below_alloc (Below.refl _ _) _).trans (HB.out.mono (by simp))⟩
  · obtain ⟨kind, id, ext, rtr, brs, esi, sec, sdt, vcid, af, data⟩ := f
    dsimp only [frv] at *
    generalize data.length = n at *
    have hkb : (kind != 3) = true := by rw [bne_iff_ne]; exact hk
    clear hno hk HC
    go_enter Try.func23, Try.ntmps23
    go_wp2_with fail
    go_ret2
    exact ⟨rfl, below_alloc (Below.refl _ _) _⟩
end Go.Proofs.Ytaknddanggdplaa
-- RowAt: Cells of a row of the call's own. No condition.
namespace Go.Proofs.Ytaknddanggdplaa
open Go.RowKit
theorem row_at {w W : World} {base c ga : Nat} {l : List Nat} (hrow : Row w base 5 (some ⟨ga, 0, none⟩) c (bys l)) (hW : Below w.heap.size w W) (k v : Nat) (h : l[k]? = some v) : W.cell? ⟨ga, k, none⟩ = some (.int .u8 (v : Int)) := by
  have hk : k < l.length := (List.getElem?_eq_some_iff.1 h).1
  obtain ⟨ad, e, hc⟩ := hrow.rd k (.int .u8 (v : Int)) (by rw [bys_get l k hk, (List.getElem?_eq_some_iff.1 h).2])
  injection e with e
  subst e
  refine Below.cell_of hW ?_
  rw [← hc]
  unfold Addr.add
  by_cases hk0 : k = 0 <;> simp [hk0]
theorem row_some {w : World} {base c n : Nat} {A : Option Addr} {l : List Nat} (hrow : Row w base 5 A c (bys l)) (hl : l.length = n) (hn : 0 < n) : ∃ ga, A = some ⟨ga, 0, none⟩ ∧ ga < w.heap.size ∧ n ≤ c ∧ c ≤ 9223372036854775807 := by
  obtain ⟨ga, hA⟩ := hrow.form
  rcases hA with rfl | h
  · have h0 := row_at (W := w) hrow (Below.refl _ _) 0 (l[0]'(by omega)) (by simp)
    have hcap := hrow.cap
    rw [bys_length, hl] at hcap
    exact ⟨ga, rfl, cell_lt h0, hcap, hrow.capm⟩
  · rw [bys_length] at h; omega
theorem calls_name {P : Program} {f : FuncId} {args : Array Value} {W : World} {R : Ending → World → Prop} {T : World → Prop} (hT : T W) (h : ∀ W0, T W0 → Calls P f args W0 R) : Calls P f args W R := h W hT
end Go.Proofs.Ytaknddanggdplaa
-- Mix: A region that draws its order: what only reads goes first, whatever calls or writes goes one behind the other, what waits for all goes last: one walk. No condition.
namespace Go.Proofs.Ytaknddanggdplaa
open Go Go.RowKit
/-- An operation that yields a value, if it comes to an end, and calls nothing. -/
def valB : Op → Bool
  | .move _ | .assign _ | .load _ _ | .binOp _ _ _ _ _ | .unOp _ _ _ | .convert _ _ _ | .fieldAddr _ _ _ | .field _ _ _ | .indexAddr _ _ _ | .index _ _ _ | .slice _ _ _ _ _ | .extract _ _ | .makeInterface _ _ | .build _ _ | .pick _ _ _ | .typeAssert _ _ _ _ | .makeFunc _ _ _ => true
  | .call { callee := .builtin .len, .. } | .call { callee := .builtin .cap, .. } => true
  | _ => false
section
variable {P : Program} {ops : Array Oper} {Q : Exit → Act → World → Prop} {md : Region.Mode} {S : World → Prop}
theorem value_only {s : Sem Value} {w w' : World} {n : Next} (h : ((do let x ← s; pure (Next.value x)) : Sem Next).run P w = .ok n w') : ∃ v, n = .value v := by
  rw [Sem.run_bind] at h
  cases hs : s.run P w with
  | ok v w1 => rw [hs] at h; simp [Result.andThen] at h; exact ⟨v, h.1.symm⟩
  | halt x w1 => rw [hs] at h; simp [Result.andThen] at h
theorem val_only {o : Oper} (hp : valB o.op = true) {ρ : Operand → Value} {w w' : World} {n : Next} (h : (execOp ρ o).run P w = .ok n w') : ∃ v, n = .value v := by
  unfold execOp at h
  cases ho : o.op <;> rw [ho] at hp h <;> simp only [valB] at hp <;> first | exact absurd hp (by decide) | skip
  all_goals first
    | exact value_only h
    | (simp at h; exact ⟨_, h.1.symm⟩)
    | skip
  case pick c x y =>
    simp only [Sem.run_bind] at h
    cases hs : (asBool (ρ c)).run P w with
    | ok v w1 => rw [hs] at h; simp [Result.andThen] at h; exact ⟨_, h.1.symm⟩
    | halt x w1 => rw [hs] at h; simp [Result.andThen] at h
  case call c =>
    obtain ⟨callee, args, argTypes⟩ := c
    cases callee with
    | builtin b =>
      cases b <;> simp only at hp <;> first | exact absurd hp (by decide) | skip
      all_goals
        simp only [resolve, invoke, builtin, Sem.run_bind, Sem.run_pure, Result.andThen_ok] at h
        exact value_only (P := P) (w := w) (w' := w') (by rw [Sem.run_bind]; simpa only [Sem.run_pure] using h)
    | value f => simp only at hp; exact absurd hp (by decide)
    | invoke r s => simp only at hp; exact absurd hp (by decide)
theorem yieldsIf_quiet {o : Oper} {a : Act} {K : Act → Prop} (hp : valB o.op = true) (hw : Region.wanted o (yielded ops a.tmps) = true) (h : o.quiet P a S K) : ∃ v, YieldsIf P ops S o v a ∧ K (a.put o.dst v) := by
  obtain ⟨v, h1, h2⟩ := h
  refine ⟨v, .inl ⟨hw, fun w hS => ?_⟩, h2⟩
  have h3 := h1 w hS
  unfold Oper.quietAt at h3
  generalize hr : (execOp a.eval o).run P w = r at *
  cases r with
  | ok n w' =>
    obtain ⟨u, rfl⟩ := val_only hp hr
    simp only [Oper.quietUpon] at h3
    rw [h3.1, h3.2]
  | halt x w' => simp only [Oper.quietUpon] at h3
/-! ### the structure -/
def waits1 (md : Region.Mode) (ops : Array Oper) (j i : Nat) : Bool := Region.waitsFor md ops j i
/-- Each of these is waited for by one behind it, or by t. -/
def sinkL (md : Region.Mode) (ops : Array Oper) (t : Nat) : List Nat → Bool
  | [] => true
  | i :: r => (waits1 md ops t i || r.any fun j => waits1 md ops j i) && sinkL md ops t r
/-- Each waits for one ahead of it. -/
def chainL (md : Region.Mode) (ops : Array Oper) : List Nat → List Nat → Bool
  | _, [] => true
  | p, t :: r => (p.any fun i => waits1 md ops t i) && chainL md ops (t :: p) r
def tailB (md : Region.Mode) (ops : Array Oper) (π : List Nat) : List Nat → Bool
  | [] => true
  | t :: r => sinkL md ops t π && chainL md ops [t] r
def seqI (md : Region.Mode) (ops : Array Oper) : List Nat → Array Bool → Bool
  | [], listed => (Region.ready md ops listed).isEmpty
  | t :: r, listed => decide (Region.ready md ops listed = [t]) && seqI md ops r (listed.setIfInBounds t true)
def mixB (md : Region.Mode) (ops : Array Oper) (τ : List Nat) : List (Bool × Nat) → Array Bool → Bool
  | [], listed => seqI md ops τ listed
  | (true, i) :: r, listed => (Region.ready md ops listed).contains i && Region.free md ops listed i && mixB md ops τ r (listed.setIfInBounds i true)
  | (false, i) :: r, listed => decide (Region.ready md ops listed = [i]) && mixB md ops τ r (listed.setIfInBounds i true)
def disj (π τ : List Nat) : Bool := τ.all fun t => !π.contains t
structure MInv (md : Region.Mode) (ops : Array Oper) (τ : List Nat) (listed : Array Bool) : Prop where
  closed : ∀ j oj, ops[j]? = some oj → listed.getD j false = true → ∀ e ∈ oj.after, Region.binds md e = true → listed.getD e.on false = true
  tail : ∀ t ∈ τ, listed.getD t false = false
theorem MInv.set {τ : List Nat} {i : Nat} {listed : Array Bool} (inv : MInv md ops τ listed) (hi : i ∈ Region.ready md ops listed) (hin : ∀ t ∈ τ, i ≠ t) : MInv md ops τ (listed.setIfInBounds i true) := by
  obtain ⟨_, oi, hoi, hall⟩ := mem_ready.1 hi
  refine ⟨fun j oj hj hl e he hb => ?_, fun t ht => by rw [getD_set_ne false (hin t ht)]; exact inv.tail t ht⟩
  by_cases hij : i = j
  · subst hij
    have : oj = oi := Option.some.inj (hj.symm.trans hoi)
    subst this
    exact getD_set_true (hall e he hb)
  · rw [getD_set_ne false hij] at hl
    exact getD_set_true (inv.closed j oj hj hl e he hb)
theorem closed_waits {τ : List Nat} {listed : Array Bool} {j i : Nat} (inv : MInv md ops τ listed) (h : waits1 md ops j i = true) (hj : listed.getD j false = true) : listed.getD i false = true := by
  obtain ⟨oj, hoj, e, he, hb, hon⟩ := Region.waitsFor_spec h
  rw [← hon]
  exact inv.closed j oj hoj hj e he hb
theorem ready_waits {listed : Array Bool} {j i : Nat} (hr : j ∈ Region.ready md ops listed) (h : waits1 md ops j i = true) : listed.getD i false = true := by
  obtain ⟨oj, hoj, e, he, hb, hon⟩ := Region.waitsFor_spec h
  obtain ⟨_, o, ho, hall⟩ := mem_ready.1 hr
  have : oj = o := Option.some.inj (hoj.symm.trans ho)
  subst this
  rw [← hon]
  exact hall e he hb
theorem sink_all {τ : List Nat} {listed : Array Bool} {t : Nat} (inv : MInv md ops τ listed) (hr : t ∈ Region.ready md ops listed) : ∀ π : List Nat, sinkL md ops t π = true → ∀ i ∈ π, listed.getD i false = true
  | [], _, i, hi => by cases hi
  | k :: r, h, i, hi => by
    simp only [sinkL, Bool.and_eq_true, Bool.or_eq_true] at h
    have ih := sink_all inv hr r h.2
    rcases List.mem_cons.1 hi with rfl | hi
    · rcases h.1 with h1 | h1
      · exact ready_waits hr h1
      · obtain ⟨j, hj, hw⟩ := List.any_eq_true.1 h1
        exact closed_waits inv hw (ih j hj)
    · exact ih i hi
theorem chain_none {τ : List Nat} {listed : Array Bool} (inv : MInv md ops τ listed) : ∀ (r p : List Nat), (∀ i ∈ p, i ∈ τ) → (∀ i ∈ r, i ∈ τ) → chainL md ops p r = true → ∀ t ∈ r, t ∉ Region.ready md ops listed
  | [], _, _, _, _, t, ht => by cases ht
  | k :: r, p, hp, hr, h, t, ht => by
    simp only [chainL, Bool.and_eq_true] at h
    rcases List.mem_cons.1 ht with rfl | ht
    · intro hready
      obtain ⟨i, hi, hw⟩ := List.any_eq_true.1 h.1
      have h1 := ready_waits hready hw
      rw [inv.tail i (hp i hi)] at h1
      cases h1
    · exact chain_none inv r (k :: p) (fun i hi => by rcases List.mem_cons.1 hi with rfl | hi; exact hr _ (by simp); exact hp i hi) (fun i hi => hr i (by simp [hi])) h.2 t ht
theorem tail_wait {π τ : List Nat} {listed : Array Bool} (inv : MInv md ops τ listed) (h : tailB md ops π τ = true) {i : Nat} (hi : i ∈ π) (hun : listed.getD i false = false) : ∀ t ∈ τ, t ∉ Region.ready md ops listed := by
  cases τ with
  | nil => intro t ht; cases ht
  | cons t0 r =>
    simp only [tailB, Bool.and_eq_true] at h
    intro t ht
    rcases List.mem_cons.1 ht with rfl | ht
    · intro hr
      have := sink_all inv hr π h.1 i hi
      rw [hun] at this
      cases this
    · exact chain_none inv r [t0] (by simp) (fun i hi => by simp [hi]) h.2 t ht
/-! ### the walk -/
def wpHL (P : Program) (md : Region.Mode) (ops : Array Oper) (Q : Exit → Act → World → Prop) (S : World → Prop) (τ : List Nat) (L : Array Bool → Act → World → Prop) : Nat → Array Bool → Act → World → Prop
  | 0, listed, a, w => L listed a w
  | f + 1, listed, a, w => Region.ready md ops listed ≠ [] ∧ ∀ i ∈ Region.ready md ops listed, i ∉ τ ∧ wpOp P ops Q i (fun a' w' => S w' ∧ wpHL P md ops Q S τ L f (listed.setIfInBounds i true) a' w') a w
theorem wpAny_of_hl {τ : List Nat} {g : Nat} {L : Array Bool → Act → World → Prop} (hL : ∀ listed a w, L listed a w → wpAny P md ops Q g listed a w) :
    ∀ (f : Nat) (listed : Array Bool) (a : Act) (w : World), wpHL P md ops Q S τ L f listed a w → wpAny P md ops Q (f + g) listed a w
  | 0, listed, a, w, h => by rw [Nat.zero_add]; exact hL _ _ _ h
  | f + 1, listed, a, w, h => by
    rw [show f + 1 + g = (f + g) + 1 by omega]
    exact ⟨fun h0 => absurd h0 h.1, fun i hi => wpOp_mono (fun a' w' h' => wpAny_of_hl hL f _ a' w' h'.2) (h.2 i hi).2⟩
theorem wpHL_first {π τ : List Nat} {i : Nat} {oi : Oper} {v : Value} {L : Array Bool → Act → World → Prop} (hi : ops[i]? = some oi) (hsel : ∀ (j : Nat) (o : Oper) cs b, ops[j]? = some o → o.op ≠ .select cs b)
    (hQ : ∀ c a w, Q (.panic c) (a.put oi.dst v) w → Q (.panic c) a w) (hT : tailB md ops π τ = true) (hiπ : i ∈ π) (hdone : ∀ listed a w, L listed a w → ∀ j ∈ Region.ready md ops listed, j ∈ τ) :
    ∀ (f : Nat) (listed : Array Bool) (a : Act) (w : World), MInv md ops τ listed →
      (∀ j oj, ops[j]? = some oj → j ≠ i → listed.getD j true = false → (∀ e ∈ oj.after, Region.binds md e = true → e.on ≠ i) → oi.apart ops oj = true) →
      i ∈ Region.ready md ops listed → YieldsIf P ops S oi v a → S w →
      wpHL P md ops Q S τ L f (listed.setIfInBounds i true) (a.put oi.dst v) w → wpHL P md ops Q S τ L (f + 1) listed a w := by
  intro f
  induction f with
  | zero =>
    intro listed a w inv _ hr hy hS H
    have hun := getD_both (mem_ready.1 hr).1
    refine ⟨fun h => (by rw [h] at hr; cases hr), fun j hj => ?_⟩
    have hjn : j ∉ τ := fun h => tail_wait inv hT hiπ hun j h hj
    refine ⟨hjn, ?_⟩
    by_cases hji : j = i
    · subst hji; exact hy.wpOp hi hS ⟨hS, H⟩
    · exact absurd (hdone _ _ _ H j (ready_mono hj hji)) hjn
  | succ f ih =>
    intro listed a w inv hfree hr hy hS H
    have hun := getD_both (mem_ready.1 hr).1
    refine ⟨fun h => (by rw [h] at hr; cases hr), fun j hj => ?_⟩
    have hjn : j ∉ τ := fun h => tail_wait inv hT hiπ hun j h hj
    refine ⟨hjn, ?_⟩
    by_cases hji : j = i
    · subst hji; exact hy.wpOp hi hS ⟨hS, H⟩
    · have h1 := (H.2 j (ready_mono hj hji)).2
      obtain ⟨hjun, oj, hoj, hall⟩ := mem_ready.1 hj
      have hnot : ∀ e ∈ oj.after, Region.binds md e = true → e.on ≠ i := fun e he hb heq => by
        have h1 := hall e he hb
        rw [heq, hun] at h1
        cases h1
      have h2 := wpOp_putIf hoj (hfree j oj hoj hji hjun hnot) (fun cs b => hsel i oi cs b hi) (fun cs b => hsel j oj cs b hoj) hQ hy h1
      have hfree' : ∀ k ok, ops[k]? = some ok → k ≠ i → (listed.setIfInBounds j true).getD k true = false →
          (∀ e ∈ ok.after, Region.binds md e = true → e.on ≠ i) → oi.apart ops ok = true := fun k ok hk hki hun hno => by
        refine hfree k ok hk hki ?_ hno
        by_cases hjk : j = k
        · subst hjk; exact hjun
        · rw [getD_set_ne true hjk] at hun; exact hun
      refine wpOp_mono (fun a' w' h3 => ⟨h3.2.1, ih (listed.setIfInBounds j true) a' w' (inv.set hj (fun t ht e => hjn (e ▸ ht))) hfree' (ready_mono hr (Ne.symm hji)) h3.1 h3.2.1 ?_⟩) h2
      rw [Array.setIfInBounds_comm _ _ hji]
      exact h3.2.2
/-- The walk: (true, i): operation i only reads; (false, i): it is carried out. -/
def wpMix (P : Program) (ops : Array Oper) (Q : Exit → Act → World → Prop) (S : World → Prop) (T : Act → World → Prop) : List (Bool × Nat) → Act → World → Prop
  | [], a, w => T a w
  | (true, i) :: r, a, w => ∃ o v, ops[i]? = some o ∧ YieldsIf P ops S o v a ∧ wpMix P ops Q S T r (a.put o.dst v) w
  | (false, i) :: r, a, w => wpOp P ops Q i (fun a' w' => S w' ∧ wpMix P ops Q S T r a' w') a w
theorem wpHL_of_mix {τ πs : List Nat} {T : Act → World → Prop} (hsel : Region.noSelect ops = true) (hQ : ∀ c a d v w, Q (.panic c) (a.put d v) w → Q (.panic c) a w) (hT : tailB md ops πs τ = true) (hD : disj πs τ = true) :
    ∀ (π : List (Bool × Nat)) (listed : Array Bool) (a : Act) (w : World), (∀ x ∈ π, x.2 ∈ πs) → MInv md ops τ listed → mixB md ops τ π listed = true → S w → wpMix P ops Q S T π a w →
      wpHL P md ops Q S τ (fun listed a w => seqI md ops τ listed = true ∧ T a w) π.length listed a w
  | [], listed, a, w, _, _, hB, _, h => ⟨hB, h⟩
  | (true, i) :: r, listed, a, w, hπ, inv, hB, hS, h => by
    obtain ⟨o, v, ho, hy, hn⟩ := h
    simp only [mixB, Bool.and_eq_true] at hB
    obtain ⟨⟨hr, hf⟩, hB'⟩ := hB
    have hr' : i ∈ Region.ready md ops listed := by simpa using hr
    have hiπs : i ∈ πs := hπ (true, i) (by simp)
    have hne : ∀ t ∈ τ, i ≠ t := fun t ht e => by
      have := List.all_eq_true.1 hD t ht
      subst e
      simp [hiπs] at this
    refine wpHL_first ho (Region.noSelect_spec hsel) (fun c a w => hQ c a _ _ w) hT hiπs ?_ r.length listed a w inv (Region.free_spec ho hf) hr' hy hS
      (wpHL_of_mix hsel hQ hT hD r _ _ w (fun x hx => hπ x (by simp [hx])) (inv.set hr' hne) hB' hS hn)
    intro listed a w hL j hj
    cases τ with
    | nil => have := hL.1; simp only [seqI, List.isEmpty_iff] at this; rw [this] at hj; cases hj
    | cons t r => have := hL.1; simp only [seqI, Bool.and_eq_true, decide_eq_true_eq] at this; rw [this.1] at hj; simp at hj; simp [hj]
  | (false, i) :: r, listed, a, w, hπ, inv, hB, hS, h => by
    simp only [mixB, Bool.and_eq_true, decide_eq_true_eq] at hB
    obtain ⟨hr, hB'⟩ := hB
    have hiπs : i ∈ πs := hπ (false, i) (by simp)
    have hne : ∀ t ∈ τ, i ≠ t := fun t ht e => by
      have := List.all_eq_true.1 hD t ht
      subst e
      simp [hiπs] at this
    refine ⟨by rw [hr]; simp, fun j hj => ?_⟩
    have hji : j = i := by rw [hr] at hj; simpa using hj
    subst hji
    exact ⟨fun h => hne j h rfl, wpOp_mono (fun a' w' h' => ⟨h'.1, wpHL_of_mix hsel hQ hT hD r _ a' w' (fun x hx => hπ x (by simp [hx])) (inv.set hj hne) hB' h'.1 h'.2⟩) h⟩
theorem wpAny_of_seqI : ∀ (τ : List Nat) (listed : Array Bool) (a : Act) (w : World), seqI md ops τ listed = true → wpOps P ops Q τ a w → wpAny P md ops Q τ.length listed a w
  | [], _, _, _, hB, h => ⟨by simpa [seqI] using hB, h⟩
  | t :: r, listed, a, w, hB, h => by
    simp only [seqI, Bool.and_eq_true, decide_eq_true_eq] at hB
    refine ⟨fun h1 => (by rw [hB.1] at h1; cases h1), fun i hi => ?_⟩
    rw [hB.1] at hi
    have hit : i = t := by simpa using hi
    subst hit
    rw [wpOps_cons] at h
    exact wpOp_mono (fun a' w' h' => wpAny_of_seqI r _ a' w' hB.2 h') h
/-- The operations of these numbers. -/
def pickL (l : List Oper) : List Nat → List Oper
  | [] => []
  | i :: r => match l.drop i with | o :: _ => o :: pickL l r | [] => pickL l r
theorem wpOps_pick {l : List Oper} : ∀ (τ : List Nat) (a : Act) (w : World), (τ.all fun t => decide (t < l.length)) = true → wpList P l.toArray Q (pickL l τ) a w → wpOps P l.toArray Q τ a w
  | [], a, w, _, h => h
  | t :: r, a, w, ht, h => by
    simp only [List.all_cons, Bool.and_eq_true, decide_eq_true_eq] at ht
    obtain ⟨ht1, ht2⟩ := ht
    rw [wpOps_cons]
    have hd : l.drop t = l[t] :: l.drop (t + 1) := List.drop_eq_getElem_cons ht1
    simp only [pickL, hd] at h
    unfold wpList at h
    unfold wpOp
    have ho : l.toArray[t]? = some l[t] := by simp [ht1]
    rw [ho]
    simp only []
    split
    · rename_i hw
      simp only [hw, if_true] at h
      exact h.imp (Oper.wp_mono fun a w h => wpOps_pick r a w ht2 h) id
    · rename_i hw
      simp only [hw] at h
      exact wpOps_pick r _ w ht2 h
/-- The walk, its operations written out. -/
def wpMixL (P : Program) (ops : Array Oper) (Q : Exit → Act → World → Prop) (S : World → Prop) (T : Act → World → Prop) : List (Bool × Oper) → Act → World → Prop
  | [], a, w => T a w
  | (true, o) :: r, a, w => ∃ v, YieldsIf P ops S o v a ∧ wpMixL P ops Q S T r (a.put o.dst v) w
  | (false, o) :: r, a, w => if Region.wanted o (yielded ops a.tmps) then o.wp P a w (fun a' w' => S w' ∧ wpMixL P ops Q S T r a' w') Q else S w ∧ wpMixL P ops Q S T r (a.put o.dst undef) w
def pickM (l : List Oper) : List (Bool × Nat) → List (Bool × Oper)
  | [] => []
  | (b, i) :: r => match l.drop i with | o :: _ => (b, o) :: pickM l r | [] => pickM l r
theorem mix_pick {T : Act → World → Prop} {l : List Oper} : ∀ (π : List (Bool × Nat)) (a : Act) (w : World), (π.all fun t => decide (t.2 < l.length)) = true → wpMixL P l.toArray Q S T (pickM l π) a w → wpMix P l.toArray Q S T π a w
  | [], a, w, _, h => h
  | (b, t) :: r, a, w, ht, h => by
    simp only [List.all_cons, Bool.and_eq_true, decide_eq_true_eq] at ht
    obtain ⟨ht1, ht2⟩ := ht
    have hd : l.drop t = l[t] :: l.drop (t + 1) := List.drop_eq_getElem_cons ht1
    have ho : l.toArray[t]? = some l[t] := by simp [ht1]
    simp only [pickM, hd] at h
    cases b
    · show wpOp P l.toArray Q t _ a w
      unfold wpMixL at h
      unfold wpOp
      rw [ho]
      simp only []
      split
      · rename_i hw
        simp only [hw, if_true] at h
        exact .inl (Oper.wp_mono (fun a w h => ⟨h.1, mix_pick r a w ht2 h.2⟩) h)
      · rename_i hw
        simp only [hw] at h
        exact ⟨h.1, mix_pick r _ w ht2 h.2⟩
    · obtain ⟨v, hy, hn⟩ := h
      exact ⟨l[t], v, ho, hy, mix_pick r _ w ht2 hn⟩
/-- **One walk serves every order.** -/
theorem wp_region_mix {id : Nat} {a : Act} {w : World} {l : List Oper} (S : World → Prop) (π : List (Bool × Nat)) (τ : List Nat) (hm : P.follows .mixedOrders = true)
    (hB : (Region.noSelect l.toArray && tailB .any l.toArray (π.map (·.2)) τ && disj (π.map (·.2)) τ && mixB .any l.toArray τ π (Array.replicate l.toArray.size false) && decide (π.length + τ.length = l.length) && (τ.all fun t => decide (t < l.length)) && (π.all fun t => decide (t.2 < l.length))) = true)
    (hQ : ∀ c a d v w, Q (.panic c) (a.put d v) w → Q (.panic c) a w) (hS : S w.drew)
    (h : wpMixL P l.toArray Q S (wpList P l.toArray Q (pickL l τ)) (pickM l π) a w.drew) : (Code.region id l.toArray true).wp P Q a w := by
  simp only [Bool.and_eq_true, decide_eq_true_eq] at hB
  obtain ⟨⟨⟨⟨⟨⟨hsel, hT⟩, hD⟩, hM⟩, hlen⟩, hlt⟩, hlt2⟩ := hB
  refine wp_region_any hm ?_
  have inv0 : MInv .any l.toArray τ (Array.replicate l.toArray.size false) := ⟨fun j oj _ hl => (by rw [getD_replicate_false] at hl; cases hl), fun t _ => getD_replicate_false _ _⟩
  have H := wpHL_of_mix (Q := Q) (P := P) (S := S) hsel hQ hT hD π _ a w.drew (fun x hx => List.mem_map_of_mem hx) inv0 hM hS (mix_pick π a _ hlt2 h)
  have := wpAny_of_hl (g := τ.length) (fun listed a w hL => wpAny_of_seqI τ listed a w hL.1 (wpOps_pick τ a w hlt hL.2)) _ _ _ _ H
  rw [hlen] at this
  simpa using this
/-! ### the steps -/
theorem mix_pure {T : Act → World → Prop} {r : List (Bool × Oper)} {a : Act} {w : World} {o : Oper} (hw : Region.wanted o (yielded ops a.tmps) = true) (hp : valB o.op = true)
    (h : ∀ K : Act → Prop, (∀ a, wpMixL P ops Q S T r a w → K a) → o.quiet P a S K) : wpMixL P ops Q S T ((true, o) :: r) a w :=
  yieldsIf_quiet hp hw (h (fun a => wpMixL P ops Q S T r a w) (fun _ h => h))
theorem mix_skip {T : Act → World → Prop} {r : List (Bool × Oper)} {a : Act} {w : World} {o : Oper} (hw : Region.wanted o (yielded ops a.tmps) = false)
    (h : wpMixL P ops Q S T r (a.put o.dst undef) w) : wpMixL P ops Q S T ((true, o) :: r) a w := ⟨undef, .inr ⟨hw, rfl⟩, h⟩
theorem mix_eff {T : Act → World → Prop} {r : List (Bool × Oper)} {a : Act} {w : World} {o : Oper} (hw : Region.wanted o (yielded ops a.tmps) = true)
    (h : ∀ K : Act → World → Prop, (∀ a w, S w → wpMixL P ops Q S T r a w → K a w) → o.wp P a w K Q) : wpMixL P ops Q S T ((false, o) :: r) a w := by
  unfold wpMixL
  rw [if_pos hw]
  exact h _ fun a w h1 h2 => ⟨h1, h2⟩
theorem mix_nil {T : Act → World → Prop} {a : Act} {w : World} (h : T a w) : wpMixL P ops Q S T [] a w := h
/-- The post of a panic does not hang on the slots. -/
theorem panic_then {K : Act → World → Prop} {fn : Func} {R : Ending → World → Prop} (c : List PanicEntry) (a : Act) (d : Option Tmp) (v : Value) (w : World) (h : Exit.then K (bodyPost P fn R) (.panic c) (a.put d v) w) : Exit.then K (bodyPost P fn R) (.panic c) a w := by cases d <;> exact h
end
end Go.Proofs.Ytaknddanggdplaa
