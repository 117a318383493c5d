/- Numbers' bits, and bits' number. No condition. -/
import Derived.Test.YtlmdkmflbhnlgaaGreatProg
import Derived.Test.YtlmdkmflbhnlgaaGreatBase
namespace Go.Proofs.YtlmdkmflbhnlgaaGreat
open Go.RowKit

/-- A number's low bits, the highest of them first. -/
def bitsN (n : Nat) : Nat → List Nat
  | 0 => []
  | k + 1 => (n / 2 ^ k % 2) :: bitsN n k
theorem bitsN_length (n k : Nat) : (bitsN n k).length = k := by induction k <;> simp [bitsN, *]
theorem bitsN_bit (n k : Nat) : ∀ x ∈ bitsN n k, x ≤ 1 := by
  induction k with
  | zero => intro x hx; simp [bitsN] at hx
  | succ k ih => intro x hx; simp only [bitsN, List.mem_cons] at hx; rcases hx with rfl | hx
                 · omega
                 · exact ih x hx
theorem info_u8 : (Tryz.prog.info? 5).map (fun i => (i.zero, i.size, i.bytes)) = some (some (.int .u8 0), 1, 1) := by kernel_rfl
theorem set_mid (k x : Nat) (l : List Nat) : (List.replicate (k + 1) 0 ++ l).set k x = List.replicate k 0 ++ (x :: l) := by
  induction k with
  | zero => simp
  | succ k ih => rw [List.replicate_succ, List.cons_append, List.set_cons_succ, ih]; rfl
theorem bys_set (l : List Nat) (k x : Nat) : (bys l).set k (.int .u8 (x : Int)) = bys (l.set k x) := by simp [bys, List.map_set]
/-- A bool as a bit. -/
def bitB (b : Bool) : Nat := if b then 1 else 0
/-- Bits' number. -/
def numN (l : List Nat) : Nat := l.foldl (fun n b => n * 2 + b) 0
theorem numN_snoc (l : List Nat) (b : Nat) : numN (l ++ [b]) = numN l * 2 + b := by simp [numN]
theorem numN_from (l : List Nat) (h : ∀ x ∈ l, x ≤ 1) : ∀ n, l.foldl (fun n b => n * 2 + b) n < (n + 1) * 2 ^ l.length := by
  induction l with
  | nil => intro n; simp
  | cons b l ih =>
    intro n
    have h2 := h b (by simp)
    have h1 := ih (fun x hx => h x (by simp [hx])) (n * 2 + b)
    rw [List.foldl_cons, List.length_cons, Nat.pow_succ]
    refine Nat.lt_of_lt_of_le h1 ?_
    rw [← Nat.mul_assoc, Nat.mul_right_comm]
    exact Nat.mul_le_mul_right _ (by omega)
theorem numN_lt (l : List Nat) (h : ∀ x ∈ l, x ≤ 1) : numN l < 2 ^ l.length := by have := numN_from l h 0; simpa [numN] using this
end Go.Proofs.YtlmdkmflbhnlgaaGreat
