/- order.Key: the key of any frame. No condition. -/
import Derived.Test.YtlmdkmflbhnlgaaCheck2
import Derived.Test.YtlmdkmflbhnlgaaBlk
namespace Go.Proofs.Ytlmdkmflbhnlgaa
open Go.RowKit

theorem isNaN_u64 (n : Int) (w : World) : Calls Try.prog 118 #[.int .u64 n] w fun e w' => e = .returned (.bool false) ∧ w = w' := by
  go_enter Try.func118, Try.ntmps118
  go_wp2
  go_ret
  exact ⟨by simp, rfl⟩
set_option maxHeartbeats 400000 in
theorem cmp_u64 (a b : Int) (w : World) : Calls Try.prog 116 #[.int .u64 a, .int .u64 b] w fun e w' => e = .returned (.int .i64 (cmpI a b)) ∧ w = w' := by
  have hf : cmpI a b = if a < b then -1 else if b < a then 1 else 0 := rfl
  generalize cmpI a b = r at *
  have HF := Lib.hid hf
  clear hf
  go_enter Try.func116, Try.ntmps116
  go_wp2_with (go_at_call 118; refine (isNaN_u64 _ _).mono ?_; rintro e w' ⟨rfl, rfl⟩)
  all_goals
    go_ret
    exact ⟨ret_int (by rw [HF.out]; (repeat (first | rw [if_pos (by omega)] | rw [if_neg (by omega)]))), rfl⟩
theorem bit_true (k : Nat) (w : World) (h : k ≤ 40) : Calls Try.prog 78 #[.bool true, .int .i64 k] w fun e w' => e = .returned (.int .u64 (2 ^ k : Nat)) ∧ w = w' := by
  have hw : IntKind.u64.wrap (2 ^ k) = ((2 ^ k : Nat) : Int) := by
    have h1 : 2 ^ k ≤ 2 ^ 40 := Nat.pow_le_pow_right (by omega) h
    have h2 : ((2 : Int) ^ k) = ((2 ^ k : Nat) : Int) := by simp
    rw [h2]
    have h3 : (2 : Nat) ^ 40 = 1099511627776 := by decide
    exact IntWalk.u64_in _ ⟨Int.natCast_nonneg _, by omega⟩
  have HW := Lib.hid hw
  clear hw
  go_enter Try.func78, Try.ntmps78
  go_wp2
  go_ret
  exact ⟨ret_int HW.out, rfl⟩
theorem bit_false (k : Int) (w : World) : Calls Try.prog 78 #[.bool false, .int .i64 k] w fun e w' => e = .returned (.int .u64 0) ∧ w = w' := by
  go_enter Try.func78, Try.ntmps78
  go_wp2
  go_ret
  exact ⟨rfl, rfl⟩

theorem u64_join (i : Nat) (x y : Int) (h0 : 0 ≤ x) (h1 : x < 18446744073709551616) (hx : x % (2 ^ i : Nat) = 0) (hy0 : 0 ≤ y) (hy : y < (2 ^ i : Nat)) (hi : i ≤ 60) : bits .or .u64 x y = x + y := by
  have h2 : 2 ^ i ≤ 2 ^ 60 := Nat.pow_le_pow_right (by omega) hi
  have h3 : (2 : Nat) ^ 60 = 1152921504606846976 := by decide
  generalize hp : 2 ^ i = p at *
  have hm : x.toNat % p = 0 := by
    have : ((x.toNat % p : Nat) : Int) = x % (p : Int) := by rw [Int.natCast_emod, Int.toNat_of_nonneg h0]
    omega
  rw [u64_or x y h0 h1 hy0 (by omega), nat_join i x.toNat y.toNat (by rw [hp]; exact hm) (by omega)]
  omega
/-- A bool's bit at a place. -/
def bitV (b : Bool) (k : Int) : Int := if b then ((2 ^ k.toNat : Nat) : Int) else 0
theorem bit_any (b : Bool) (k : Int) (w : World) (h0 : 0 ≤ k) (h : k ≤ 40) : Calls Try.prog 78 #[.bool b, .int .i64 k] w fun e w' => e = .returned (.int .u64 (bitV b k)) ∧ w = w' := by
  cases b
  · exact bit_false k w
  · obtain ⟨n, rfl⟩ := Int.eq_ofNat_of_zero_le h0
    exact bit_true n w (by omega)
theorem key_long (id : Int) (rtr : Bool) (h0 : 0 ≤ id) (h1 : id < 536870912) :
    bits .or .u64 (bits .or .u64 (bits .or .u64 (id / 262144 * 8388608) 6291456) (id % 262144 * 8)) (bitV rtr 2) = id / 262144 * 8388608 + 6291456 + id % 262144 * 8 + (if rtr then 4 else 0) := by
  have e1 : bitV rtr 2 = if rtr then 4 else 0 := by cases rtr <;> rfl
  rw [e1]
  generalize hr : (if rtr = true then (4 : Int) else 0) = r
  have hr' : r = 0 ∨ r = 4 := by rw [← hr]; split <;> simp
  rw [u64_join 23 _ 6291456 (by omega) (by omega) (by simp) (by omega) (by simp) (by omega),
    u64_join 21 _ (id % 262144 * 8) (by omega) (by omega) (by simp; omega) (by omega) (by simp; omega) (by omega),
    u64_join 3 _ r (by omega) (by omega) (by simp; omega) (by omega) (by simp; omega) (by omega)]
theorem and18 (id : Int) (h0 : 0 ≤ id) (h1 : id < 536870912) : bits .and .u32 id 262143 = id % 262144 := by
  rw [u32_and id 262143 h0 (by omega) (by omega) (by omega)]
  have : id.toNat &&& (262143 : Int).toNat = id.toNat % 2 ^ 18 := Nat.and_two_pow_sub_one_eq_mod id.toNat 18
  rw [this]
  omega
/-- A frame's key among all that arbitrate. -/
def keyF (f : Fr) : Int :=
  if f.ext then f.id / 262144 * 8388608 + 6291456 + f.id % 262144 * 8 + (if f.rtr then 4 else 0)
  else f.id * 8388608 + (if f.rtr then 4194304 else 0) + (if f.kind = 1 then 0 else 1048576) + (if f.kind = 3 then 524288 else 0)
theorem bitV_range (b : Bool) (k : Int) (n : Nat) (hn : k.toNat = n) : bitV b k = 0 ∨ bitV b k = (2 ^ n : Nat) := by subst hn; unfold bitV; cases b <;> simp
theorem key_short (id : Int) (rtr : Bool) (kind : Int) (h0 : 0 ≤ id) (h1 : id < 2048) :
    bits .or .u64 (bits .or .u64 (bits .or .u64 (id * 8388608) (bitV rtr 22)) (bitV (kind != 1) 20)) (bitV (kind == 3) 19) =
      id * 8388608 + (if rtr then 4194304 else 0) + (if kind = 1 then 0 else 1048576) + (if kind = 3 then 524288 else 0) := by
  have e1 : bitV rtr 22 = if rtr then 4194304 else 0 := by cases rtr <;> rfl
  have e2 : bitV (kind != 1) 20 = if kind = 1 then 0 else 1048576 := by by_cases h : kind = 1 <;> simp [h, bitV]
  have e3 : bitV (kind == 3) 19 = if kind = 3 then 524288 else 0 := by by_cases h : kind = 3 <;> simp [h, bitV]
  rw [e1, e2, e3]
  generalize hr : (if rtr = true then (4194304 : Int) else 0) = r
  have hr' : r = 0 ∨ r = 4194304 := by rw [← hr]; split <;> simp
  generalize hf : (if kind = 1 then (0 : Int) else 1048576) = f
  have hf' : f = 0 ∨ f = 1048576 := by rw [← hf]; split <;> simp
  generalize hx : (if kind = 3 then (524288 : Int) else 0) = x
  have hx' : x = 0 ∨ x = 524288 := by rw [← hx]; split <;> simp
  rw [u64_join 23 (id * 8388608) r (by omega) (by omega) (by simp) (by omega) (by simp; omega) (by omega),
    u64_join 22 _ f (by omega) (by omega) (by simp; omega) (by omega) (by simp; omega) (by omega),
    u64_join 20 _ x (by omega) (by omega) (by simp; omega) (by omega) (by simp; omega) (by omega)]
set_option maxRecDepth 100000 in
set_option maxHeartbeats 1000000 in
theorem Key_any (f : Fr) (A : Option Addr) (c : Nat) (w : World) (hl : f.data.length ≤ 9223372036854775807) (h0 : 0 ≤ f.id) :
    Calls Try.prog 63 #[frv f (.slice A f.data.length c)] w fun e w' => e = .returned (.tuple #[.int .u64 (if okF f then keyF f else 0), errV (okF f)]) ∧ Below w.heap.size w w' := by
  have hc := fun W => Check_any f A c W hl
  have hid : okF f = true → f.id < limF f := by
    unfold okF; intro h; simp at h; exact h.1.1.2
  have hkey : keyF f = keyF f := rfl
  have hlim : limF f = limF f := rfl
  conv at hkey => rhs; unfold keyF
  conv at hlim => rhs; unfold limF
  generalize keyF f = k at *
  generalize limF f = lim at *
  generalize okF f = ok at *
  obtain ⟨kind, id, ext, rtr, brs, esi, sec, sdt, vcid, af, data⟩ := f
  dsimp only [frv] at *
  generalize data.length = n at *
  have HC := Lib.hid hc
  have HK := Lib.hid hkey
  clear hc hkey
  cases ok with
  | false =>
    clear hid hlim
    go_enter Try.func63, Try.ntmps63
    go_wp2_with fail
    refine (HC.out _).mono ?_
    rintro e w1 ⟨rfl, hb⟩
    have HB := Lib.hid hb
    clear hb
    simp only [errV]
    go_wp2_with fail
    go_ret2
    exact ⟨rfl, below_trans (below_alloc (Below.refl _ _) _) HB.out⟩
  | true =>
    have hi := hid rfl
    clear hid
    cases ext
    · simp only [Bool.false_eq_true, if_false] at hlim HK
      subst hlim
      go_enter Try.func63, Try.ntmps63
      go_wp2_with fail
      refine (HC.out _).mono ?_
      rintro e w1 ⟨rfl, hb⟩
      obtain ⟨hce, hfe⟩ := bcell hb
      have HB := Lib.hid hb
      clear hb
      simp only [errV]
      go_wp2_with fail
      go_quiet ((go_at_call 78; exact qcall (bit_any _ _ _ (by omega) (by omega))))
      go_wp2_with fail
      go_ret2
      exact ⟨ret_fst (by rw [key_short id rtr kind h0 hi, HK.out]), below_drewN (below_trans (below_alloc (Below.refl _ _) _) HB.out) _⟩
    · simp only [if_true] at hlim HK
      subst hlim
      have hm := and18 id h0 hi
      go_enter Try.func63, Try.ntmps63
      go_wp2_with fail
      refine (HC.out _).mono ?_
      rintro e w1 ⟨rfl, hb⟩
      obtain ⟨hce, hfe⟩ := bcell hb
      have HB := Lib.hid hb
      clear hb
      simp only [errV]
      go_wp2_with fail
      go_quiet (fail)
      go_wp2_with (go_at_call 78; refine (bit_any _ _ _ (by omega) (by omega)).mono ?_; rintro e w' ⟨rfl, rfl⟩)
      go_ret2
      exact ⟨ret_fst (by rw [key_long id rtr h0 hi, HK.out]), below_drewN (below_trans (below_alloc (Below.refl _ _) _) HB.out) _⟩
/-- Which of two frames wins. -/
def cmpF (a b : Fr) : Int := cmpI (keyF a) (keyF b)
end Go.Proofs.Ytlmdkmflbhnlgaa
