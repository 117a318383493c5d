/- A frame's key by the document's answer: the same as the program's. No condition. -/
import Derived.Test.YtbjeblffmgghgaaRefCheck
import Derived.Test.YtbjeblffmgghgaaBits
namespace Go.Proofs.Ytbjeblffmgghgaa
open Go.RowKit

theorem numN_append (a b : List Nat) : numN (a ++ b) = numN a * 2 ^ b.length + numN b := by
  induction b generalizing a with
  | nil => simp [numN]
  | cons x b ih =>
    rw [show a ++ x :: b = (a ++ [x]) ++ b from by simp, ih (a ++ [x]), show x :: b = [x] ++ b from rfl, ih [x], numN_snoc]
    simp only [List.length_append, List.length_singleton]
    have : numN [x] = x := by simp [numN]
    rw [this, Nat.pow_add, Nat.pow_one, Nat.add_mul, Nat.mul_assoc]
    omega
theorem numN_bits (n k : Nat) : numN (bitsN n k) = n % 2 ^ k := by
  induction k with
  | zero => simp [bitsN, numN, Nat.mod_one]
  | succ k ih =>
    rw [bitsN, show (n / 2 ^ k % 2) :: bitsN n k = [n / 2 ^ k % 2] ++ bitsN n k from rfl, numN_append, ih, bitsN_length]
    have : numN [n / 2 ^ k % 2] = n / 2 ^ k % 2 := by simp [numN]
    rw [this, Nat.pow_succ, Nat.mod_mul]
    rw [Nat.mul_comm, Nat.add_comm]
/-- The bits of a key. -/
def keyL (f : Fr) : List Nat :=
  if f.ext then bitsN (f.id.toNat / 262144) 11 ++ [1, 1] ++ bitsN (f.id.toNat % 262144) 18 ++ [bitB f.rtr, 0, 0]
  else bitsN f.id.toNat 11 ++ [bitB f.rtr, 0, bitB (f.kind != 1), bitB (f.kind == 3)] ++ List.replicate 19 0
theorem keyL_num (f : Fr) (h0 : 0 ≤ f.id) (h1 : f.id < limF f) : ((numN (keyL f) : Nat) : Int) = keyF f := by
  unfold keyL keyF limF at *
  cases hx : f.ext
  · simp only [hx, Bool.false_eq_true, if_false] at *
    rw [numN_append, numN_append, numN_bits]
    have e1 : numN (List.replicate 19 0) = 0 := by decide
    have e2 : numN [bitB f.rtr, 0, bitB (f.kind != 1), bitB (f.kind == 3)] = bitB f.rtr * 8 + bitB (f.kind != 1) * 2 + bitB (f.kind == 3) := by simp [numN]; omega
    rw [e1, e2, List.length_replicate]
    have hb1 : (bitB f.rtr : Int) * 4194304 = if f.rtr then 4194304 else 0 := by cases f.rtr <;> rfl
    have hb2 : (bitB (f.kind != 1) : Int) * 1048576 = if f.kind = 1 then 0 else 1048576 := by by_cases h : f.kind = 1 <;> simp [h, bitB]
    have hb3 : (bitB (f.kind == 3) : Int) * 524288 = if f.kind = 3 then 524288 else 0 := by by_cases h : f.kind = 3 <;> simp [h, bitB]
    rw [← hb1, ← hb2, ← hb3]
    simp only [List.length_cons, List.length_nil]
    omega
  · simp only [hx, if_true] at *
    rw [numN_append, numN_append, numN_append, numN_bits, numN_bits]
    have e1 : numN [1, 1] = 3 := by decide
    have e2 : numN [bitB f.rtr, 0, 0] = bitB f.rtr * 4 := by simp [numN]; omega
    rw [e1, e2, bitsN_length]
    have hb1 : (bitB f.rtr : Int) * 4 = if f.rtr then 4 else 0 := by cases f.rtr <;> rfl
    rw [← hb1]
    simp only [List.length_cons, List.length_nil]
    omega
end Go.Proofs.Ytbjeblffmgghgaa
