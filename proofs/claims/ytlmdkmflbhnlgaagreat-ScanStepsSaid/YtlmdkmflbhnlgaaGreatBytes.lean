/- bits.Bytes: what a row of bytes has as bits. No condition. -/
import Derived.Test.YtlmdkmflbhnlgaaGreatConcat
namespace Go.Proofs.YtlmdkmflbhnlgaaGreat
open Go.RowKit
theorem cell_same {w w' : World} {a : Addr} {v : Value} (h : w'.heap[a.block]? = w.heap[a.block]?) (hc : w.cell? a = some v) : w'.cell? a = some v := by
  unfold World.cell? at hc ⊢
  rw [h]
  exact hc
theorem Keep.cell_of {B b : Nat} {w w' : World} (h : Keep B b w w') {a : Addr} {v : Value} (hc : w.cell? a = some v) (h1 : a.block < B) (h2 : a.block ≠ b) : w'.cell? a = some v := cell_same (h.block _ h1 h2) hc
theorem Rd.keep {B b : Nat} {w w' : World} {A : Option Addr} {vs : List Value} (h : Rd w A vs) (hk : Keep B b w w') (ha : ∀ ad, A = some ad → vs ≠ [] → ad.block < B ∧ ad.block ≠ b) : Rd w' A vs := by
  intro j u hj
  obtain ⟨ad, e, hc⟩ := h j u hj
  obtain ⟨h1, h2⟩ := ha ad e (by intro e; subst e; simp at hj)
  exact ⟨ad, e, hk.cell_of hc (by rw [block_of_add]; exact h1) (by rw [block_of_add]; exact h2)⟩
theorem Rd.lt {w : World} {A : Option Addr} {vs : List Value} (h : Rd w A vs) : ∀ ad, A = some ad → vs ≠ [] → ad.block < w.heap.size := by
  intro ad e hne
  cases vs with
  | nil => exact absurd rfl hne
  | cons v vs =>
    obtain ⟨ad', e', hc⟩ := h 0 v rfl
    rw [e] at e'
    injection e' with e'
    subst e'
    have := cell_lt hc
    rw [block_of_add] at this
    exact this
/-- Bytes' bits. -/
def bytesN (l : List Nat) : List Nat := l.flatMap fun x => bitsN x 8
theorem bytesN_take (l : List Nat) (k : Nat) (h : k < l.length) : bytesN (l.take (k + 1)) = bytesN (l.take k) ++ bitsN l[k] 8 := by
  rw [List.take_succ_eq_append_getElem h, bytesN, List.flatMap_append, List.flatMap_singleton]; rfl
theorem bytesN_length (l : List Nat) : (bytesN l).length = 8 * l.length := by
  induction l with
  | nil => rfl
  | cons x l ih => simp only [bytesN, List.flatMap_cons, List.length_append, bitsN_length, List.length_cons] at ih ⊢; omega
theorem bytesN_bits (l : List Nat) : ∀ x ∈ bytesN l, x ≤ 1 := by
  intro x hx
  simp only [bytesN, List.mem_flatMap] at hx
  obtain ⟨y, _, hx⟩ := hx
  exact bitsN_bit _ _ x hx
theorem rowByte_any (w : World) (B b t : Nat) (A : Option Addr) (c x : Nat) (l : List Nat) (h : Pot w B b t A c l) (hx : x < 256) (hl : l.length + 8 ≤ 1000000) :
    Calls Tryz.prog 66 #[.pointer (some ⟨b, 0, none⟩), .int .u8 x] w fun e w' => e = .returned (.tuple #[]) ∧ (∃ A' c', Pot w' B b t A' c' (l ++ bitsN x 8)) ∧ Keep B b w w' := by
  have HP := Lib.hid (rowPut_any w B b t A c x 8 l h (by omega) (by omega) (by omega))
  clear h
  go_enter Tryz.func66, Tryz.ntmps66
  go_wp2_with fail
  refine HP.out.mono ?_
  rintro e w' ⟨rfl, h1, h2⟩
  have H1 := Lib.hid h1
  have H2 := Lib.hid h2
  clear h1 h2
  go_wp2_with fail
  go_end0
  exact ⟨rfl, H1.out, H2.out⟩
set_option maxHeartbeats 1000000 in
theorem eachByte_any (w : World) (B b t : Nat) (A A2 : Option Addr) (c c2 n : Nat) (src : List Nat) (h : Pot w B b t A c []) (hr : Rd w A2 (bys src)) (ha : ∀ ad, A2 = some ad → bys src ≠ [] → ad.block < B ∧ ad.block ≠ b) (hn : src.length = n) (h8 : n ≤ 100000) (hb : ∀ x ∈ src, x < 256) :
    Calls Tryz.prog 65 #[.slice A2 n c2, .func (.func 66) #[.pointer (some ⟨b, 0, none⟩)] #[]] w fun e w' => e = .returned (.tuple #[]) ∧ (∃ A' c', Pot w' B b t A' c' (bytesN src)) ∧ Keep B b w w' := by
  have HP := Lib.hid h
  have HR := Lib.hid hr
  have HA := Lib.hid ha
  have HN := Lib.hid hn
  have HB := Lib.hid hb
  clear h hr ha hn hb
  go_enter Tryz.func65, Tryz.ntmps65
  go_wp2_with fail
  go_loopw [8] (fun iv wr => ∃ (k : Nat) (A' : Option Addr) (c' : Nat), k ≤ n ∧ iv = .int .i64 k ∧ Hid (Pot wr B b t A' c' (bytesN (src.take k))) ∧ Hid (Keep B b w wr)) (fun iv _ => n - (intOf iv).toNat)
  case atStart => exact ⟨0, A, c, by omega, rfl, HP, Keep.refl _ _ _⟩
  case round =>
    obtain ⟨k, A', c', hk, rfl, HQ, HK⟩ := hrel
    by_cases hkn : k < n
    · have hkl : k < src.length := by rw [HN.out]; exact hkn
      obtain ⟨ad, rfl, ca⟩ := (HR.out.keep HK.out HA.out).at_ k hkl
      have hx := HB.out src[k] (List.getElem_mem hkl)
      have hlen : (bytesN (src.take k)).length + 8 ≤ 1000000 := by rw [bytesN_length, List.length_take]; omega
      have htk := bytesN_take src k hkl
      obtain ⟨x, hxe⟩ : ∃ x, src[k] = x := ⟨_, rfl⟩
      rw [hxe] at ca hx htk
      have HT := Lib.hid htk
      have HL := Lib.hid hlen
      clear htk hlen hxe
      go_wp2_with fail
      refine (rowByte_any wr B b t A' c' x _ HQ.out hx HL.out).mono ?_
      rintro e w2 ⟨rfl, ⟨A3, c3, h1⟩, h2⟩
      rw [← HT.out] at h1
      have H1 := Lib.hid h1
      have H2 := Lib.hid h2
      clear h1 h2
      go_wp2_with fail
      go_roundw
      case rel => exact ⟨k + 1, A3, c3, by omega, by go_num, H1, HK.out.trans H2.out⟩
      case measure => simp [intOf]; omega
    · obtain rfl : n = k := by omega
      go_wp2_with fail
      go_end0
      have h1 := HQ.out
      rw [← HN.out, List.take_length] at h1
      exact ⟨rfl, ⟨A', c', h1⟩, HK.out⟩
set_option maxHeartbeats 1000000 in
theorem Bytes_any (w : World) (A2 : Option Addr) (c2 n : Nat) (src : List Nat) (hr : Rd w A2 (bys src)) (hn : src.length = n) (h8 : n ≤ 100000) (hb : ∀ x ∈ src, x < 256) :
    Calls Tryz.prog 38 #[.slice A2 n c2] w fun e w' => (∃ A c, e = .returned (.slice A (8 * n) c) ∧ Row w' w.heap.size 5 A c (bys (bytesN src))) ∧ Below w.heap.size w w' := by
  have HE := Lib.hid (eachByte_any (w.alloc (.cells #[.slice none 0 0] 107)) (w.heap.size + 1) w.heap.size 107 none A2 0 c2 n src (Pot.new w _) (hr.alloc _) (fun ad e hne => by have := hr.lt ad e hne; omega) hn h8 hb)
  have HN := Lib.hid hn
  clear hr hn hb
  go_enter Tryz.func38, Tryz.ntmps38
  go_wp2_with fail
  refine HE.out.mono ?_
  rintro e w' ⟨rfl, ⟨A, c, hp⟩, hk⟩
  have hc := hp.cell
  rw [bytesN_length, HN.out] at hc
  have HP := Lib.hid hp
  have HK := Lib.hid hk
  clear hp hk
  go_wp2_with fail
  go_ret
  exact ⟨⟨A, c, rfl, HP.out.row.mono (by omega)⟩, (below_alloc (Below.refl _ _) _).trans (HK.out.below (by omega) (by omega))⟩
end Go.Proofs.YtlmdkmflbhnlgaaGreat
