/- What the document's answer for layer 1 makes of numbers: their bits, and bits' number. No condition. -/
import Derived.Test.YtlmdkmflbhnlgaaProg
import Derived.Test.YtlmdkmflbhnlgaaAppend
namespace Go.Proofs.Ytlmdkmflbhnlgaa
open Go.RowKit

/-- A number's low bits, the highest of them first. -/
def bitsN (n : Nat) : Nat → List Nat
  | 0 => []
  | k + 1 => (n / 2 ^ k % 2) :: bitsN n k
theorem bitsN_length (n k : Nat) : (bitsN n k).length = k := by induction k <;> simp [bitsN, *]
theorem bitsN_bit (n k : Nat) : ∀ x ∈ bitsN n k, x ≤ 1 := by
  induction k with
  | zero => intro x hx; simp [bitsN] at hx
  | succ k ih => intro x hx; simp only [bitsN, List.mem_cons] at hx; rcases hx with rfl | hx
                 · omega
                 · exact ih x hx
theorem info_u8 : (Try.prog.info? 5).map (fun i => (i.zero, i.size, i.bytes)) = some (some (.int .u8 0), 1, 1) := by kernel_rfl
theorem set_mid (k x : Nat) (l : List Nat) : (List.replicate (k + 1) 0 ++ l).set k x = List.replicate k 0 ++ (x :: l) := by
  induction k with
  | zero => simp
  | succ k ih => rw [List.replicate_succ, List.cons_append, List.set_cons_succ, ih]; rfl
theorem bys_set (l : List Nat) (k x : Nat) : (bys l).set k (.int .u8 (x : Int)) = bys (l.set k x) := by simp [bys, List.map_set]
set_option maxHeartbeats 400000 in
theorem BitsR_any (n size : Nat) (w : World) (h1 : 1 ≤ size) (h2 : size ≤ 64) (hn : n < 18446744073709551616) :
    Calls Try.prog 83 #[.int .u64 n, .int .i64 size] w fun e w' => ∃ v, e = .returned v ∧ w'.ownsRow w.heap.size 5 1 v size (bys (bitsN n size)) ∧ Below w.heap.size w w' := by
  obtain ⟨i0, hi, hz0, hz1, hz2⟩ := info_parts info_u8
  go_enter Try.func83, Try.ntmps83
  go_wp2_with (refine wpList_make_full _ rfl (.tmp 7) (.tmp 7) 40 rfl w.heap.size 5 i0 (.int .u8 0) 1 Try.underlying40 hi hz0 hz1 .i64 .i64 size size size rfl rfl rfl rfl (by rw [hz2]; omega) (by unfold maxLen; omega) (Nat.le_refl _) ?_; intro w1 hown hgr)
  have hb1 : Below w.heap.size w w1 := (Below.refl _ _).grown hgr (Nat.le_refl _) (by simp)
  have hx : (madeCells (Value.int IntKind.u8 0).cells (size * 1)).toList = bys (List.replicate size 0) := by
    rw [Nat.mul_one]
    show (madeCells #[Value.int IntKind.u8 0] size).toList = _
    rw [toList_madeCells_one]; simp [bys]
  rw [hx] at hown
  generalize hgg : w.heap.size = g at *
  have HG := Lib.hid hgg
  clear hgr hx hi hz0 hz1 hz2 hgg
  go_loopw [0, 6] (fun u iv wr => ∃ r N : Nat, r ≤ size ∧ Hid (N = n / 2 ^ (size - r)) ∧ N < 18446744073709551616 ∧ u = .int .u64 N ∧ iv = .int .i64 ((r : Int) - 1) ∧
      Hid (wr.ownsRow g 5 1 (.slice (some ⟨g, 0, none⟩) size size) size (bys (List.replicate r 0 ++ bitsN n (size - r)))) ∧ Hid (Below g w wr)) (fun _ iv _ => (intOf iv + 1).toNat)
  case atStart => exact ⟨size, n, by omega, (by simp : n = n / 2 ^ (size - size)), hn, rfl, rfl, Lib.hid (by simpa [bitsN] using hown), hb1⟩
  case round =>
    obtain ⟨r, N, hr, hN, hN2, rfl, rfl, HO, HB⟩ := hrel
    cases r with
    | zero =>
      go_wp2
      go_ret
      exact ⟨_, rfl, by rw [HG.out]; simpa using HO.out, by rw [HG.out]; exact HB.out⟩
    | succ k =>
      rw [show (((k + 1 : Nat) : Int) - 1) = (k : Int) from by omega]
      have hc : wr.cell? ⟨g, k, none⟩ = some (.int .u8 0) := by
        rw [HO.out.cellAt k (by omega)]
        simp [bys, List.replicate_succ']
      have hf : wr.frozen? ⟨g, k, none⟩ = false := HO.out.frozenAt k
      go_wp2
      go_roundw
      case rel =>
        refine ⟨k, N / 2, by omega, ?_, by omega, by go_num, by go_num, ?_, HB.out.setCell (p := ⟨g, k, none⟩) (Nat.le_refl _) _⟩
        · show N / 2 = n / 2 ^ (size - k)
          rw [hN.out, Nat.div_div_eq_div_mul, ← Nat.pow_succ]
          congr 2; omega
        · have h := (HO.out.stored k (.int .u8 ((N % 2 : Nat) : Int))).1
          rw [bys_set, set_mid] at h
          have e : bitsN n (size - k) = (N % 2) :: bitsN n (size - (k + 1)) := by
            obtain ⟨m, hm⟩ : ∃ m, size - (k + 1) = m := ⟨_, rfl⟩
            rw [show size - k = m + 1 from by omega, hm, bitsN, hN.out, hm]
          show World.ownsRow _ _ _ _ _ _ _
          rw [e]
          exact h
      case measure => simp [intOf]

theorem BitsR_row (n size : Int) (N S : Nat) (w : World) (eN : n = (N : Int)) (eS : size = (S : Int)) (h1 : 1 ≤ S) (h2 : S ≤ 64) (hn : N < 18446744073709551616) :
    Calls Try.prog 83 #[.int .u64 n, .int .i64 size] w fun e w' => (∃ A c, e = .returned (.slice A S c) ∧ Row w' w.heap.size 5 A c (bys (bitsN N S))) ∧ Below w.heap.size w w' := by
  subst eN eS
  refine (BitsR_any N S w h1 h2 hn).mono ?_
  rintro e w' ⟨v, rfl, ho, hb⟩
  obtain ⟨A, c, rfl, hr⟩ := Row.of ho (by rw [bys_length, bitsN_length])
  refine ⟨⟨A, c, ?_, hr⟩, hb⟩
  rw [bys_length, bitsN_length]
/-- A bool as a bit. -/
def bitB (b : Bool) : Nat := if b then 1 else 0
theorem BitR_any (b : Bool) (w : World) : Calls Try.prog 84 #[.bool b] w fun e w' => e = .returned (.int .u8 (bitB b : Nat)) ∧ w = w' := by
  cases b
  all_goals
    go_enter Try.func84, Try.ntmps84
    go_wp2
    go_ret
    exact ⟨rfl, rfl⟩
/-- Bits' number. -/
def numN (l : List Nat) : Nat := l.foldl (fun n b => n * 2 + b) 0
theorem numN_snoc (l : List Nat) (b : Nat) : numN (l ++ [b]) = numN l * 2 + b := by simp [numN]
theorem numN_from (l : List Nat) (h : ∀ x ∈ l, x ≤ 1) : ∀ n, l.foldl (fun n b => n * 2 + b) n < (n + 1) * 2 ^ l.length := by
  induction l with
  | nil => intro n; simp
  | cons b l ih =>
    intro n
    have h2 := h b (by simp)
    have h1 := ih (fun x hx => h x (by simp [hx])) (n * 2 + b)
    rw [List.foldl_cons, List.length_cons, Nat.pow_succ]
    refine Nat.lt_of_lt_of_le h1 ?_
    rw [← Nat.mul_assoc, Nat.mul_right_comm]
    exact Nat.mul_le_mul_right _ (by omega)
theorem numN_lt (l : List Nat) (h : ∀ x ∈ l, x ≤ 1) : numN l < 2 ^ l.length := by have := numN_from l h 0; simpa [numN] using this
end Go.Proofs.Ytlmdkmflbhnlgaa
