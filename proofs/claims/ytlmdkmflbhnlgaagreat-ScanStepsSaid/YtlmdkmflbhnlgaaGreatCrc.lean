/- Check sums bit by bit, and the table's rows. No condition. -/
import Derived.Test.YtlmdkmflbhnlgaaGreatPCrc
import Derived.Test.YtlmdkmflbhnlgaaGreatKe
import Derived.Test.YtlmdkmflbhnlgaaGreatBitsCheck
namespace Go.Proofs.YtlmdkmflbhnlgaaGreat
open Go.RowKit
abbrev kindV (size poly start : Nat) : Value := .agg #[.int .i64 size, .int .u64 poly, .int .u64 start]
theorem pow32 {size : Nat} (h32 : size ≤ 32) : 2 ^ size ≤ 4294967296 := by
  have h1 : 2 ^ size ≤ 2 ^ 32 := Nat.pow_le_pow_right (by omega) h32
  have h2 : (2 : Nat) ^ 32 = 4294967296 := by decide
  omega
theorem mask_u64 (size x : Nat) (h32 : size ≤ 32) (hx : x < 18446744073709551616) : bits .and .u64 (x : Int) (IntKind.u64.wrap (IntKind.u64.wrap (2 ^ size) - 1)) = ((x % 2 ^ size : Nat) : Int) := by
  have hp := pow32 h32
  have hp1 : 0 < 2 ^ size := Nat.two_pow_pos _
  have e1 : ((2 : Int) ^ size) = ((2 ^ size : Nat) : Int) := by simp
  have e2 : IntKind.u64.wrap ((2 ^ size : Nat) : Int) = ((2 ^ size : Nat) : Int) := IntWalk.u64_in _ ⟨by omega, by omega⟩
  have e3 : IntKind.u64.wrap (((2 ^ size : Nat) : Int) - 1) = ((2 ^ size - 1 : Nat) : Int) := by
    rw [IntWalk.u64_in _ ⟨by omega, by omega⟩]; omega
  rw [e1, e2, e3, u64_and_nat _ _ hx (by omega), Nat.and_two_pow_sub_one_eq_mod]
theorem top_u64 (k sum : Nat) (hs : sum < 18446744073709551616) : bits .and .u64 ((sum : Int) / 2 ^ k) 1 = ((sum / 2 ^ k % 2 : Nat) : Int) := by
  have e : ((sum : Int) / 2 ^ k) = ((sum / 2 ^ k : Nat) : Int) := by simp
  have hle : sum / 2 ^ k ≤ sum := Nat.div_le_self _ _
  rw [e, and_one_u64 _ (Int.natCast_nonneg _) (by omega)]; simp
set_option maxRecDepth 100000 in
set_option maxHeartbeats 1000000 in
theorem one_any (size poly start sum b : Nat) (w : World) (h4 : 4 ≤ size) (h32 : size ≤ 32) (hp : poly < 2 ^ size) (hs : sum < 2 ^ size) :
    Calls Tryz.prog 124 #[kindV size poly start, .int .u64 sum, .int .u8 b] w fun e w' => e = .returned (.int .u64 (oneN size poly sum b : Nat)) ∧ Below w.heap.size w w' := by
  have hpw := pow32 h32
  have hand := top_u64 (size - 1) sum (by omega)
  have hmask : bits .and .u64 (IntKind.u64.wrap ((sum : Int) * 2)) (IntKind.u64.wrap (IntKind.u64.wrap (2 ^ size) - 1)) = ((sum * 2 % 2 ^ size : Nat) : Int) := by
    have e : IntKind.u64.wrap ((sum : Int) * 2) = ((sum * 2 : Nat) : Int) := by rw [IntWalk.u64_in _ ⟨by omega, by omega⟩]; omega
    rw [e, mask_u64 size _ h32 (by omega)]
  have hlt : sum * 2 % 2 ^ size < 2 ^ size := Nat.mod_lt _ (Nat.two_pow_pos _)
  have hxor : bits .xor .u64 ((sum * 2 % 2 ^ size : Nat) : Int) (poly : Int) = ((sum * 2 % 2 ^ size ^^^ poly : Nat) : Int) := u64_xor_nat _ _ (by omega) (by omega)
  have hh : sum / 2 ^ (size - 1) % 2 ≤ 1 := by omega
  have hone : oneN size poly sum b = (sum * 2 % 2 ^ size) ^^^ (if sum / 2 ^ (size - 1) % 2 = b then 0 else poly) := rfl
  generalize oneN size poly sum b = r at *
  generalize sum / 2 ^ (size - 1) % 2 = h at *
  generalize sum * 2 % 2 ^ size = s2 at *
  have hmod : (h : Int) % 256 = h := by omega
  have HO := Lib.hid hone
  clear hone hlt hpw hs hp
  by_cases e : h = b
  · have hd : ((h : Int) != (b : Int)) = false := by rw [e]; simp
    have HE := Lib.hid e
    clear e
    go_enter Tryz.func124, Tryz.ntmps124
    go_wp2_with fail
    go_ret
    exact ⟨ret_int (by rw [HO.out, if_pos HE.out, Nat.xor_zero]), below_alloc (Below.refl _ _) _⟩
  · have hd : ((h : Int) != (b : Int)) = true := by rw [bne_iff_ne]; omega
    have HE := Lib.hid e
    clear e
    go_enter Tryz.func124, Tryz.ntmps124
    go_wp2_with fail
    go_ret
    exact ⟨ret_int (by rw [HO.out, if_neg HE.out]), below_alloc (Below.refl _ _) _⟩

set_option maxHeartbeats 1000000 in
theorem all_any (size poly start sum : Nat) (A : Option Addr) (n c : Nat) (l : List Nat) (w : World) (h4 : 4 ≤ size) (h32 : size ≤ 32) (hp : poly < 2 ^ size) (hs : sum < 2 ^ size) (hr : Rd w A (bys l)) (hn : l.length = n) (hn2 : n ≤ 1000000) (hb : ∀ x ∈ l, x ≤ 1) :
    Calls Tryz.prog 123 #[.int .u64 sum, .slice A n c, .func (.func 124) #[kindV size poly start] #[]] w fun e w' => e = .returned (.int .u64 (crcN size poly sum l : Nat)) ∧ Below w.heap.size w w' := by
  have HR := Lib.hid hr
  have HN := Lib.hid hn
  have HB := Lib.hid hb
  have HP := Lib.hid hp
  have HS := Lib.hid hs
  clear hr hn hb hp hs
  go_enter Tryz.func123, Tryz.ntmps123
  go_wp2_with fail
  go_loopw [0, 11] (fun sv iv wr => ∃ k s : Nat, k ≤ n ∧ Hid (s < 2 ^ size) ∧ Hid (s = crcN size poly sum (l.take k)) ∧ sv = .int .u64 s ∧ iv = .int .i64 k ∧ Hid (Below w.heap.size w wr)) (fun _ iv _ => n - (intOf iv).toNat)
  case atStart => exact ⟨0, sum, by omega, HS, rfl, rfl, rfl, Below.refl _ _⟩
  case round =>
    obtain ⟨k, s, hk, hs, HC, rfl, rfl, HW⟩ := hrel
    by_cases hkn : k < n
    · have hkl : k < l.length := by rw [HN.out]; exact hkn
      obtain ⟨ad, rfl, ca⟩ := (HR.out.below HW.out).at_ k hkl
      have hx := HB.out l[k] (List.getElem_mem hkl)
      have hnext : oneN size poly s l[k] = crcN size poly sum (l.take (k + 1)) := by
        rw [List.take_succ_eq_append_getElem hkl, crcN_append, ← HC.out]; rfl
      obtain ⟨x, hxe⟩ : ∃ x, l[k] = x := ⟨_, rfl⟩
      rw [hxe] at ca hx hnext
      have HX := Lib.hid hnext
      clear hnext hxe
      go_wp2_with fail
      refine (one_any size poly start s x _ h4 h32 HP.out hs.out).mono ?_
      rintro e w2 ⟨rfl, hb2⟩
      have HB2 := Lib.hid hb2
      clear hb2
      go_wp2_with fail
      go_roundw
      case rel => exact ⟨k + 1, _, by omega, oneN_lt size poly s x HP.out, HX.out, rfl, by go_num, below_trans HW.out HB2.out⟩
      case measure => simp [intOf]; omega
    · obtain rfl : n = k := by omega
      go_wp2_with fail
      go_ret
      have h1 := HC.out
      rw [← HN.out, List.take_length] at h1
      exact ⟨ret_int (by rw [h1]), HW.out⟩
end Go.Proofs.YtlmdkmflbhnlgaaGreat
