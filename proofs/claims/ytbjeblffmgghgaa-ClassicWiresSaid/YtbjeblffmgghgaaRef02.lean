/- The document's answer for layer 2: check sums, bit by bit. No condition. -/
import Derived.Test.YtbjeblffmgghgaaRef01b
import Derived.Test.YtbjeblffmgghgaaAdd
namespace Go.Proofs.Ytbjeblffmgghgaa
open Go.RowKit
/-- A kind of sums, by the document. -/
structure OfRK (k : Int) (size poly start : Nat) : Prop where
  call : ∀ W : World, Calls Try.prog 110 #[.int .i64 k] W fun e w' => e = .returned (.tuple #[.int .i64 size, .int .u64 poly, .int .u64 start]) ∧ W = w'
  h4 : 4 ≤ size
  h32 : size ≤ 32
  poly : poly < 2 ^ size
  start : start < 2 ^ size
theorem ofR_1 : OfRK 1 15 17817 0 := by
  refine ⟨fun W => ?_, by decide, by decide, by decide, by decide⟩
  go_enter Try.func110, Try.ntmps110
  go_wp2
  go_ret3
  exact ⟨rfl, rfl⟩
set_option maxRecDepth 100000 in
set_option maxHeartbeats 2000000 in
theorem runR_any {k : Int} {size poly start : Nat} (h : OfRK k size poly start) (sum : Nat) (A : Option Addr) (n c : Nat) (l : List Nat) (w : World) (hs : sum < 2 ^ size) (hr : Rd w A (bys l)) (hn : l.length = n) (hn2 : n ≤ 1000000) (hb : ∀ x ∈ l, x ≤ 1) :
    Calls Try.prog 133 #[.int .i64 k, .int .u64 sum, .slice A n c] w fun e w' => e = .returned (.int .u64 (crcN size poly sum l : Nat)) ∧ w = w' := by
  have HO := Lib.hid h.call
  have h4 := h.h4
  have h32 := h.h32
  have hpw := pow32 h32
  have hp2 : IntKind.u64.wrap ((2 : Int) ^ size) = ((2 ^ size : Nat) : Int) := by
    have e : ((2 : Int) ^ size) = ((2 ^ size : Nat) : Int) := by simp
    rw [e, IntWalk.u64_in _ ⟨by omega, by omega⟩]
  have hu1 : IntKind.u64.wrap ((size : Int) - 1) = ((size - 1 : Nat) : Int) := by rw [IntWalk.u64_in _ ⟨by omega, by omega⟩]; omega
  have hu0 : IntKind.u64.wrap (size : Int) = (size : Int) := IntWalk.u64_in _ ⟨by omega, by omega⟩
  have HP := Lib.hid h.poly
  have HS := Lib.hid hs
  have HR := Lib.hid hr
  have HN := Lib.hid hn
  have HB := Lib.hid hb
  clear h hs hr hn hb
  go_enter Try.func133, Try.ntmps133
  go_wp2_with fail
  refine (HO.out _).mono ?_
  rintro e _ ⟨rfl, rfl⟩
  go_wp2_with fail
  go_loop [1, 21] (fun sv iv => ∃ k s : Nat, k ≤ n ∧ Hid (s < 2 ^ size) ∧ Hid (s = crcN size poly sum (l.take k)) ∧ sv = .int .u64 s ∧ iv = .int .i64 k) (fun _ iv => n - (intOf iv).toNat)
  case atStart => exact ⟨0, sum, by omega, HS, rfl, rfl, rfl⟩
  case round =>
    obtain ⟨k, s, hk, hs, HC, rfl, rfl⟩ := hrel
    by_cases hkn : k < n
    · have hkl : k < l.length := by rw [HN.out]; exact hkn
      obtain ⟨ad, rfl, ca⟩ := HR.out.at_ k hkl
      have hx := HB.out l[k] (List.getElem_mem hkl)
      have hnext : oneN size poly s l[k] = crcN size poly sum (l.take (k + 1)) := by
        rw [List.take_succ_eq_append_getElem hkl, crcN_append, ← HC.out]; rfl
      obtain ⟨x, hxe⟩ : ∃ x, l[k] = x := ⟨_, rfl⟩
      rw [hxe] at ca hx hnext
      have hs1 := hs.out
      have hs2 : IntKind.u64.wrap ((s : Int) * 2) = (s : Int) * 2 := IntWalk.u64_in _ ⟨by omega, by omega⟩
      have hmod : ((s : Int) * 2) % ((2 ^ size : Nat) : Int) = ((s * 2 % 2 ^ size : Nat) : Int) := by simp
      have htop : ((s : Int) / 2 ^ (size - 1)) % 2 = ((s / 2 ^ (size - 1) % 2 : Nat) : Int) := by simp
      have hmlt : s * 2 % 2 ^ size < 2 ^ size := Nat.mod_lt _ (Nat.two_pow_pos _)
      have hxor : bits .xor .u64 ((s * 2 % 2 ^ size : Nat) : Int) (poly : Int) = ((s * 2 % 2 ^ size ^^^ poly : Nat) : Int) := u64_xor_nat _ _ (by omega) (by have := HP.out; omega)
      have hone : oneN size poly s x = (s * 2 % 2 ^ size) ^^^ (if s / 2 ^ (size - 1) % 2 = x then 0 else poly) := rfl
      have hlt := oneN_lt size poly s x HP.out
      obtain ⟨h, hh⟩ : ∃ h, s / 2 ^ (size - 1) % 2 = h := ⟨_, rfl⟩
      obtain ⟨m, hm⟩ : ∃ m, s * 2 % 2 ^ size = m := ⟨_, rfl⟩
      rw [hh] at hone htop
      rw [hm] at hone hmod hxor
      have hxw : IntKind.u64.wrap (x : Int) = (x : Int) := IntWalk.u64_in _ ⟨by omega, by omega⟩
      have HX := Lib.hid hnext
      have HO1 := Lib.hid hone
      have HLT := Lib.hid hlt
      clear hnext hxe hh hm hone hlt hmlt hs1
      have hbit : ((s : Int) / 2 ^ (size - 1)).tmod 2 = (h : Int) := by
        rw [Int.tmod_eq_emod_of_nonneg (Int.ediv_nonneg (by omega) (Int.le_of_lt (Int.pow_pos (by decide)))), htop]
      have hme : (s : Int) * 2 % 2 ^ size = (m : Int) := by rw [← hmod]; simp
      have hpz : ¬ (2 : Int) ^ size = 0 := Int.ne_of_gt (Int.pow_pos (by decide))
      have hpz2 : ((2 : Int) ^ size == 0) = false := by rw [beq_eq_false_iff_ne]; exact hpz
      have HBIT := Lib.hid hbit
      have HME := Lib.hid hme
      have HXOR := Lib.hid hxor
      clear hbit hme hxor htop hmod
      go_wp2_with fail
      all_goals rename_i hcond
      · rw [HBIT.out] at hcond
        have hne : h ≠ x := by intro e; rw [e] at hcond; simp at hcond
        refine ⟨⟨k + 1, oneN size poly s x, by omega, HLT, HX.out, ?_, by go_num⟩, by simp [intOf]; omega⟩
        rw [HME.out, HXOR.out, HO1.out, if_neg hne]
      · rw [HBIT.out] at hcond
        have hne : h = x := by simp at hcond; omega
        refine ⟨⟨k + 1, oneN size poly s x, by omega, HLT, HX.out, ?_, by go_num⟩, by simp [intOf]; omega⟩
        rw [HME.out, HO1.out, if_pos hne, Nat.xor_zero]
    · obtain rfl : n = k := by omega
      go_wp2_with fail
      go_ret
      have h1 := HC.out
      rw [← HN.out, List.take_length] at h1
      exact ⟨ret_int (by rw [h1]), rfl⟩
theorem MoreR_any {k : Int} {size poly start : Nat} (h : OfRK k size poly start) (sum n c : Nat) (A : Option Addr) (l : List Nat) (w : World) (hs : sum < 2 ^ size) (hr : Rd w A (bys l)) (hn : l.length = n) (hn2 : n ≤ 65536) (hb : ∀ x ∈ l, x ≤ 1) :
    Calls Try.prog 125 #[.int .i64 k, .int .u64 sum, .slice A n c] w fun e w' => e = .returned (.tuple #[.int .u64 (crcN size poly sum l : Nat), .int .i64 0]) ∧ w = w' := by
  have hC := Check01_ok w A c n l hr hn hn2 hb
  have hrun := runR_any h sum A n c l w hs hr hn (by omega) hb
  obtain ⟨r, hre⟩ : ∃ r, crcN size poly sum l = r := ⟨_, rfl⟩
  rw [hre] at hrun ⊢
  have HC := Lib.hid hC
  have HRUN := Lib.hid hrun
  have HO := Lib.hid h.call
  have h4 := h.h4
  have h32 := h.h32
  have hz : ((size : Int) == 0) = false := by rw [beq_eq_false_iff_ne]; omega
  have hpw := pow32 h32
  have hge : ¬ ((2 : Int) ^ size ≤ (sum : Int)) := by
    have e : ((2 : Int) ^ size) = ((2 ^ size : Nat) : Int) := by simp
    rw [e]; omega
  have hp2 : IntKind.u64.wrap ((2 : Int) ^ size) = (2 : Int) ^ size := by
    have e : ((2 : Int) ^ size) = ((2 ^ size : Nat) : Int) := by simp
    rw [e, IntWalk.u64_in _ ⟨by omega, by omega⟩]
  have hlt2 : (sum : Int) < (2 : Int) ^ size := by omega
  clear hC hrun hr hre hb hs h hn
  go_enter Try.func125, Try.ntmps125
  go_wp2_with fail
  refine (HO.out _).mono ?_
  rintro e _ ⟨rfl, rfl⟩
  go_wp2_with fail
  refine HC.out.mono ?_
  rintro e _ ⟨rfl, rfl⟩
  go_wp2_with fail
  refine HRUN.out.mono ?_
  rintro e _ ⟨rfl, rfl⟩
  go_wp2_with fail
  go_ret2
  exact ⟨rfl, rfl⟩
theorem SumR_any {k : Int} {size poly start : Nat} (h : OfRK k size poly start) (n c : Nat) (A : Option Addr) (l : List Nat) (w : World) (hr : Rd w A (bys l)) (hn : l.length = n) (hn2 : n ≤ 65536) (hb : ∀ x ∈ l, x ≤ 1) :
    Calls Try.prog 109 #[.int .i64 k, .slice A n c] w fun e w' => e = .returned (.tuple #[.int .u64 (crcN size poly start l : Nat), .int .i64 0]) ∧ w = w' := by
  have hM := MoreR_any h start n c A l w h.start hr hn hn2 hb
  obtain ⟨r, hre⟩ : ∃ r, crcN size poly start l = r := ⟨_, rfl⟩
  rw [hre] at hM ⊢
  have HM := Lib.hid hM
  have HO := Lib.hid h.call
  clear hM hr hre hb h hn
  go_enter Try.func109, Try.ntmps109
  go_wp2_with fail
  refine (HO.out _).mono ?_
  rintro e _ ⟨rfl, rfl⟩
  go_wp2_with fail
  refine HM.out.mono ?_
  rintro e _ ⟨rfl, rfl⟩
  go_wp2_with fail
  go_ret2
  exact ⟨rfl, rfl⟩
set_option maxRecDepth 100000 in
set_option maxHeartbeats 1000000 in
theorem AddR_any {k : Int} {size poly start : Nat} (h : OfRK k size poly start) (n c : Nat) (A : Option Addr) (l : List Nat) (w : World) (hr : Rd w A (bys l)) (hn : l.length = n) (hn2 : n ≤ 65000) (hcap : A = none → c = 0) (hb : ∀ x ∈ l, x ≤ 1) :
    Calls Try.prog 77 #[.int .i64 k, .slice A n c] w fun e w' => (∃ A' c', e = .returned (.tuple #[.slice A' (n + size : Nat) c', .int .i64 0]) ∧ Row w' w.heap.size 5 A' c' (bys (addN size poly start l))) ∧ Below w.heap.size w w' := by
  obtain ⟨i0, hi, hz0, hz1, hz2⟩ := info_parts info_u8
  have hS := SumR_any h n c A l w hr hn (by omega) hb
  have hlt : crcN size poly start l < 2 ^ size := crcN_lt size poly l h.poly start h.start
  have hadd : addN size poly start l = l ++ bitsN (crcN size poly start l) size := rfl
  rw [hadd]
  obtain ⟨r, hre⟩ : ∃ r, crcN size poly start l = r := ⟨_, rfl⟩
  rw [hre] at hS hlt ⊢
  have h32 := h.h32
  have h4 := h.h4
  have hpw := pow32 h32
  have HS := Lib.hid hS
  have HO := Lib.hid h.call
  have HR := Lib.hid hr
  have HN := Lib.hid hn
  clear hS hr hre hb h hn hadd
  go_enter Try.func77, Try.ntmps77
  go_wp2_with fail
  refine HS.out.mono ?_
  rintro e _ ⟨rfl, rfl⟩
  go_wp2_with fail
  refine (HO.out _).mono ?_
  rintro e _ ⟨rfl, rfl⟩
  go_wp2_with (at_builtin; refine wpList_appE (w0 := w) ((Below.refl _ _).alloc (Nat.le_refl _) _) rfl (.tmp 26) (.tmp 27) 23 rfl w.heap.size 5 i0 _ 1 Try.underlying23 hi hz0 hz1 hz2 rfl (some ⟨w.heap.size, 0, none⟩) 0 0 (bys []) rfl rfl (Row.lit (cs := []) (Nat.le_refl _) (by simp)) A n c (bys l) rfl (by rw [bys_length]; exact HN.out) (HR.out.alloc _) (bys_one _) (fun _ => hcap) n (by omega) (by unfold maxLen; omega) (by omega) (Nat.le_refl _) (by simp) ?_; intro e3 A3 c3 HO3)
  refine (extcB (BitsR_row r size r size e3.W rfl rfl (by omega) (by omega) (by omega))).mono ?_
  rintro e _ ⟨e4, rfl, HB4, A4, c4, rfl, hrow4⟩
  have HQ4 := Lib.hid (HO3.out.below HB4.out)
  have HROW4 := Lib.hid hrow4
  clear hrow4
  go_wp2_with (at_builtin; refine wpList_appE (w0 := w) e4.below rfl (.tmp 28) (.tmp 31) 23 rfl w.heap.size 5 i0 _ 1 Try.underlying23 hi hz0 hz1 hz2 rfl A3 n c3 (bys [] ++ bys l) rfl (by rw [← bys_append, bys_length]; exact HN.out) HQ4.out A4 size c4 (bys (bitsN r size)) rfl (by rw [bys_length, bitsN_length]) HROW4.out.rd (bys_one _) (fun _ e => HROW4.out.none_ e) (n + size) rfl (by unfold maxLen; omega) (by omega) (Nat.le_refl _) e4.below.size ?_; intro e5 A5 c5 HO5)
  go_ret2
  have h5 := HO5.out
  rw [← bys_append, ← bys_append, List.nil_append] at h5
  exact ⟨⟨A5, c5, rfl, h5⟩, e5.below⟩
end Go.Proofs.Ytbjeblffmgghgaa
