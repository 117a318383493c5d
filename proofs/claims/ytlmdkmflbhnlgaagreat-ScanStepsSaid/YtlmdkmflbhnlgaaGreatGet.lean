/- bits.Get: bits' number. No condition. -/
import Derived.Test.YtlmdkmflbhnlgaaGreatTable
namespace Go.Proofs.YtlmdkmflbhnlgaaGreat
open Go.RowKit
set_option maxHeartbeats 400000 in
theorem add_any (b N x t : Nat) (w : World) (h : w.heap[b]? = some (.cells #[.int .u64 N] t)) (hN : N < 9223372036854775808) (hx : x ≤ 1) :
    Calls Tryz.prog 104 #[.pointer (some ⟨b, 0, none⟩), .int .u8 x] w fun e w' => e = .returned (.tuple #[]) ∧ w'.heap[b]? = some (.cells #[.int .u64 (N * 2 + x : Nat)] t) ∧ Keep w.heap.size b w w' := by
  have c0 := cell_of_heap h 0 _ rfl
  have z0 : w.frozen? ⟨b, 0, none⟩ = false := by simp [World.frozen?, h]
  have hor : bits .or .u64 ((N : Int) * 2) (x : Int) = ((N * 2 + x : Nat) : Int) := by
    have e : ((N : Int) * 2) = ((N * 2 : Nat) : Int) := by omega
    rw [e, u64_or_nat _ _ (by omega) (by omega), nat_join 1 _ _ (by omega) (by omega)]
  have hw2 : IntKind.u64.wrap ((N : Int) * 2) = (N : Int) * 2 := IntWalk.u64_in _ ⟨by omega, by omega⟩
  have HH := Lib.hid h
  clear h
  go_enter Tryz.func104, Tryz.ntmps104
  go_wp2_with fail
  go_end0
  refine ⟨rfl, ?_, (Keep.refl _ _ _).setCell (p := ⟨b, 0, none⟩) (.inl rfl) _⟩
  rw [heap_setCell HH.out 0 _]
  rfl
set_option maxHeartbeats 1000000 in
theorem eachAdd_any (w : World) (b t : Nat) (A2 : Option Addr) (c2 n : Nat) (src : List Nat) (h : w.heap[b]? = some (.cells #[.int .u64 0] t)) (hr : Rd w A2 (bys src)) (ha : ∀ ad, A2 = some ad → bys src ≠ [] → ad.block < w.heap.size ∧ ad.block ≠ b) (hn : src.length = n) (h8 : n ≤ 64) (hb : ∀ x ∈ src, x ≤ 1) :
    Calls Tryz.prog 65 #[.slice A2 n c2, .func (.func 104) #[.pointer (some ⟨b, 0, none⟩)] #[]] w fun e w' => e = .returned (.tuple #[]) ∧ w'.heap[b]? = some (.cells #[.int .u64 (numN src : Nat)] t) ∧ Keep w.heap.size b w w' := by
  have HP := Lib.hid h
  have HR := Lib.hid hr
  have HA := Lib.hid ha
  have HN := Lib.hid hn
  have HB := Lib.hid hb
  clear h hr ha hn hb
  go_enter Tryz.func65, Tryz.ntmps65
  go_wp2_with fail
  go_loopw [8] (fun iv wr => ∃ (k N : Nat), k ≤ n ∧ iv = .int .i64 k ∧ Hid (N = numN (src.take k)) ∧ Hid (wr.heap[b]? = some (.cells #[.int .u64 N] t)) ∧ Hid (Keep w.heap.size b w wr)) (fun iv _ => n - (intOf iv).toNat)
  case atStart => exact ⟨0, 0, by omega, rfl, rfl, HP, Keep.refl _ _ _⟩
  case round =>
    obtain ⟨k, N, hk, rfl, HNum, HQ, HK⟩ := hrel
    by_cases hkn : k < n
    · have hkl : k < src.length := by rw [HN.out]; exact hkn
      obtain ⟨ad, rfl, ca⟩ := (HR.out.keep HK.out HA.out).at_ k hkl
      have hx := HB.out src[k] (List.getElem_mem hkl)
      have hs : N * 2 + src[k] = numN (src.take (k + 1)) := by rw [List.take_succ_eq_append_getElem hkl, numN_snoc, ← HNum.out]
      have hNb : N < 9223372036854775808 := by
        have h1 := numN_lt (src.take k) (fun x hx => HB.out x (List.mem_of_mem_take hx))
        rw [← HNum.out] at h1
        have h2 : (src.take k).length ≤ 63 := by rw [List.length_take]; omega
        have h3 : 2 ^ (src.take k).length ≤ 2 ^ 63 := Nat.pow_le_pow_right (by omega) h2
        have h4 : (2 : Nat) ^ 63 = 9223372036854775808 := by decide
        omega
      obtain ⟨x, hxe⟩ : ∃ x, src[k] = x := ⟨_, rfl⟩
      rw [hxe] at ca hx hs
      have HS := Lib.hid hs
      clear hs hxe
      go_wp2_with fail
      refine (add_any b N x t wr HQ.out hNb hx).mono ?_
      rintro e w2 ⟨rfl, h1, h2⟩
      have H1 := Lib.hid h1
      have H2 := Lib.hid h2
      clear h1 h2
      go_wp2_with fail
      go_roundw
      case rel => exact ⟨k + 1, N * 2 + x, by omega, by go_num, HS.out, H1, HK.out.trans (H2.out.mono HK.out.size)⟩
      case measure => simp [intOf]; omega
    · obtain rfl : n = k := by omega
      go_wp2_with fail
      go_end0
      have h1 := HNum.out
      rw [← HN.out, List.take_length] at h1
      subst h1
      exact ⟨rfl, HQ.out, HK.out⟩
theorem ret_fst2 {k : IntKind} {a b : Int} {v : Value} (h : a = b) : Ending.returned (.tuple #[.int k a, v]) = .returned (.tuple #[.int k b, v]) := by rw [h]
set_option maxHeartbeats 1000000 in
theorem Get_any (w : World) (A2 : Option Addr) (c2 n : Nat) (src : List Nat) (hr : Rd w A2 (bys src)) (hn : src.length = n) (h8 : n ≤ 64) (hb : ∀ x ∈ src, x ≤ 1) :
    Calls Tryz.prog 95 #[.slice A2 n c2] w fun e w' => e = .returned (.tuple #[.int .u64 (numN src : Nat), .int .i64 0]) ∧ Below w.heap.size w w' := by
  have hok : bitsOk src = true := by unfold bitsOk; rw [decide_eq_true (by omega : src.length ≤ 65536), decide_eq_true hb]; rfl
  have hC := BitsCheck_any A2 n c2 src w hr hn (by omega)
  rw [hok, if_pos rfl] at hC
  have HC := Lib.hid hC
  have HE := Lib.hid (eachAdd_any (w.alloc (.cells #[.int .u64 0] 149)) w.heap.size 149 A2 c2 n src (heap_new_at rfl) (hr.alloc _) (fun ad e hne => by have := hr.lt ad e hne; simp; omega) hn h8 hb)
  clear hr hn hb hok hC
  go_enter Tryz.func95, Tryz.ntmps95
  go_wp2_with fail
  refine HC.out.mono ?_
  rintro e _ ⟨rfl, rfl⟩
  go_wp2_with fail
  refine HE.out.mono ?_
  rintro e w' ⟨rfl, h1, h2⟩
  have hc := cell_of_heap h1 0 _ rfl
  have H2 := Lib.hid h2
  clear h1 h2
  go_wp2_with fail
  go_ret2
  exact ⟨rfl, (below_alloc (Below.refl _ _) _).trans (H2.out.below (by omega) (by simp))⟩
end Go.Proofs.YtlmdkmflbhnlgaaGreat
