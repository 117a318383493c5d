/- The document's answers for layer 1: bytes' bits, whether a row is bits, whether two rows are the same. No condition. -/
import Derived.Test.YtbjeblffmgghgaaFields
import Derived.Test.YtbjeblffmgghgaaBitsCheck
namespace Go.Proofs.Ytbjeblffmgghgaa
open Go.RowKit
theorem Row.lit {w : World} {cs : List Value} {base : Nat} {t : TypeId} (hb : base ≤ w.heap.size) (hm : cs.length ≤ maxLen) : Row (w.alloc (.cells cs.toArray t)) base t (some ⟨w.heap.size, 0, none⟩) cs.length cs := own_lit hb rfl hm
set_option maxRecDepth 100000 in
set_option maxHeartbeats 1000000 in
theorem BytesR_any (w : World) (A : Option Addr) (c n : Nat) (src : List Nat) (hr : Rd w A (bys src)) (hn : src.length = n) (h8 : n ≤ 100000) (hb : ∀ x ∈ src, x < 256) :
    Calls Try.prog 76 #[.slice A n c] w fun e w' => (∃ A' c', e = .returned (.slice A' (8 * n) c') ∧ Row w' w.heap.size 5 A' c' (bys (bytesN src))) ∧ Below w.heap.size w w' := by
  obtain ⟨i0, hi, hz0, hz1, hz2⟩ := info_parts info_u8
  have HR := Lib.hid hr
  have HN := Lib.hid hn
  have HB := Lib.hid hb
  clear hr hn hb
  go_enter Try.func76, Try.ntmps76
  go_wp2_with fail
  go_loopw [3, 8] (fun v iv wr => ∃ (k N : Nat) (A' : Option Addr) (c' : Nat), k ≤ n ∧ Hid (N = 8 * k) ∧ N ≤ 800000 ∧ v = .slice A' N c' ∧ iv = .int .i64 k ∧ Hid (Row wr w.heap.size 5 A' c' (bys (bytesN (src.take k)))) ∧ Hid (Below w.heap.size w wr)) (fun _ iv _ => n - (intOf iv).toNat)
  case atStart => exact ⟨0, 0, none, 0, by omega, rfl, by omega, rfl, rfl, Row.nil _ _ _, Below.refl _ _⟩
  case round =>
    obtain ⟨k, N, A', c', hk, hN, hN2, rfl, rfl, HQ, HW⟩ := hrel
    by_cases hkn : k < n
    · have hkl : k < src.length := by rw [HN.out]; exact hkn
      obtain ⟨ad, rfl, ca⟩ := (HR.out.below HW.out).at_ k hkl
      have hx := HB.out src[k] (List.getElem_mem hkl)
      have hlen : (bytesN (src.take k)).length = N := by rw [bytesN_length, List.length_take, hN.out]; omega
      have htk := bytesN_take src k hkl
      have hN8 : N + 8 ≤ 800000 := by have := hN.out; omega
      obtain ⟨x, hxe⟩ : ∃ x, src[k] = x := ⟨_, rfl⟩
      rw [hxe] at ca hx htk
      have HT := Lib.hid htk
      have HL := Lib.hid hlen
      clear htk hlen hxe
      go_wp2_with fail
      refine (BitsR_row _ 8 x 8 wr rfl rfl (by omega) (by omega) (by omega)).mono ?_
      rintro e w2 ⟨⟨A2, c2, rfl, hrow2⟩, hb2⟩
      have HROW2 := Lib.hid hrow2
      have HQ2 := Lib.hid (HQ.out.below hb2)
      have HB2 := Lib.hid (below_trans HW.out hb2)
      clear hrow2 hb2
      go_wp2_with (at_builtin; refine wpList_appE (w0 := w) HB2.out rfl (.tmp 12) (.tmp 15) 23 rfl w.heap.size 5 i0 _ 1 Try.underlying23 hi hz0 hz1 hz2 rfl A' N c' (bys (bytesN (src.take k))) rfl (by rw [bys_length]; exact HL.out) HQ2.out A2 8 c2 (bys (bitsN x 8)) rfl (by rw [bys_length, bitsN_length]) HROW2.out.rd (bys_one _) (fun _ e => HROW2.out.none_ e) (N + 8) rfl (by unfold maxLen; omega) (by omega) (Nat.le_refl _) HB2.out.size ?_; intro e3 A3 c3 HO3)
      go_roundw
      case rel => exact ⟨k + 1, N + 8, A3, c3, by omega, by show _ = _; have := hN.out; omega, by omega, rfl, by go_num, by rw [HT.out, bys_append]; exact HO3, e3.below⟩
      case measure => simp [intOf]; omega
    · obtain rfl : n = k := by omega
      go_wp2_with fail
      go_ret
      have h1 := HQ.out
      rw [← HN.out, List.take_length] at h1
      have h2 := hN.out
      subst h2
      exact ⟨⟨A', c', rfl, h1⟩, HW.out⟩
set_option maxHeartbeats 1000000 in
theorem SameR_refl (w : World) (A B : Option Addr) (c d n : Nat) (l : List Nat) (ha : Rd w A (bys l)) (hb : Rd w B (bys l)) (hn : l.length = n) (hn2 : n ≤ 100000000) :
    Calls Try.prog 41 #[.slice A n c, .slice B n d] w fun e w' => e = .returned (.bool true) ∧ Below w.heap.size w w' := by
  have HA := Lib.hid ha
  have HB := Lib.hid hb
  have HN := Lib.hid hn
  clear ha hb hn
  go_enter Try.func41, Try.ntmps41
  go_wp2_with fail
  go_loopw [13] (fun iv wr => ∃ k : Nat, k ≤ n ∧ iv = .int .i64 k ∧ Hid (Below w.heap.size w wr)) (fun iv _ => n - (intOf iv).toNat)
  case atStart => exact ⟨0, by omega, rfl, Below.refl _ _⟩
  case round =>
    obtain ⟨k, hk, rfl, HW⟩ := hrel
    by_cases hkn : k < n
    · have hkl : k < l.length := by rw [HN.out]; exact hkn
      obtain ⟨ad, rfl, ca⟩ := (HA.out.below HW.out).at_ k hkl
      obtain ⟨bd, rfl, cb⟩ := (HB.out.below HW.out).at_ k hkl
      obtain ⟨x, hx⟩ : ∃ x, l[k] = x := ⟨_, rfl⟩
      rw [hx] at ca cb
      have hki : (k : Int) < (n : Int) := by omega
      clear hx
      go_wp2_with fail
      go_quiet (fail)
      go_wp2_with fail
      go_roundw
      case rel => exact ⟨k + 1, by omega, by go_num, below_drewN HW.out _⟩
      case measure => simp [intOf]; omega
    · obtain rfl : n = k := by omega
      go_wp2_with fail
      go_ret
      exact ⟨rfl, HW.out⟩
set_option maxHeartbeats 1000000 in
theorem Check01_ok (w : World) (A : Option Addr) (c n : Nat) (l : List Nat) (ha : Rd w A (bys l)) (hn : l.length = n) (hn2 : n ≤ 65536) (h01 : ∀ x ∈ l, x ≤ 1) :
    Calls Try.prog 132 #[.slice A n c] w fun e w' => e = .returned (.int .i64 0) ∧ w = w' := by
  have HA := Lib.hid ha
  have HN := Lib.hid hn
  have H01 := Lib.hid h01
  have hg : ¬ (65536 : Int) < (n : Int) := by omega
  clear ha hn h01
  go_enter Try.func132, Try.ntmps132
  go_wp2_with fail
  go_loop [10] (fun iv => ∃ k : Nat, k ≤ n ∧ iv = .int .i64 k) (fun iv => n - (intOf iv).toNat)
  case atStart => exact ⟨0, by omega, rfl⟩
  case round =>
    obtain ⟨k, hk, rfl⟩ := hrel
    by_cases hkn : k < n
    · have hkl : k < l.length := by rw [HN.out]; exact hkn
      obtain ⟨ad, rfl, ca⟩ := HA.out.at_ k hkl
      have hx := H01.out l[k] (List.getElem_mem hkl)
      obtain ⟨x, hxe⟩ : ∃ x, l[k] = x := ⟨_, rfl⟩
      rw [hxe] at ca hx
      have hx1 : ¬ (1 : Int) < (x : Int) := by omega
      clear hxe
      go_wp2_with fail
      go_round
      case rel => exact ⟨k + 1, by omega, by go_num⟩
      case measure => simp [intOf]; omega
    · obtain rfl : n = k := by omega
      go_wp2_with fail
      go_ret
      exact ⟨rfl, rfl⟩
end Go.Proofs.Ytbjeblffmgghgaa
