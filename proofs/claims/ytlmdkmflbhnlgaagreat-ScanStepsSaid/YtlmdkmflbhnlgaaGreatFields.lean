/- Bits of bytes, of numbers, and fields that grow. No condition. -/
import Derived.Test.YtlmdkmflbhnlgaaGreatBytes
import Derived.Test.YtlmdkmflbhnlgaaGreatCheck2
namespace Go.Proofs.YtlmdkmflbhnlgaaGreat
open Go.RowKit
set_option maxRecDepth 100000 in
set_option maxHeartbeats 1000000 in
theorem fieldsPut_any (w : World) (B b t : Nat) (A : Option Addr) (c n size : Nat) (l : List Nat) (h : Pot w B b t A c l) (hn : n < 18446744073709551616) (hs : size ≤ 64) (hlt : n < 2 ^ size) (hl : l.length + size ≤ 1000000) :
    Calls Tryz.prog 67 #[.pointer (some ⟨b, 0, none⟩), .int .u64 n, .int .i64 size] w fun e w' => e = .returned (.tuple #[]) ∧ (∃ A' c', Pot w' B b t A' c' (l ++ bitsN n size)) ∧ Keep B b w w' := by
  obtain ⟨i0, hi, hz0, hz1, hz2⟩ := info_parts info_u8
  have HB := Lib.hid (bitsPut_any w n size hn hs hlt)
  have HP := Lib.hid h
  clear h hlt
  go_enter Tryz.func67, Tryz.ntmps67
  go_wp2_with fail
  refine HB.out.mono ?_
  rintro e w1 ⟨⟨A2, c2, rfl, hrow⟩, hb⟩
  have HQ := Lib.hid (HP.out.below hb)
  have HRow := Lib.hid hrow
  have HB1 := Lib.hid hb
  clear hrow hb
  obtain ⟨q, hq⟩ : ∃ q, l.length = q := ⟨_, rfl⟩
  have hq2 : q + size ≤ 1000000 := by omega
  have c0 : w1.cell? ⟨b, 0, none⟩ = some (.slice A q c) := by rw [← hq]; exact HQ.out.cell
  have z0 : w1.frozen? ⟨b, 0, none⟩ = false := HQ.out.frozen
  have sb : b < w1.heap.size := heap_lt HQ.out.box
  have HL := Lib.hid hq
  clear hq hl
  go_wp2_with (at_builtin; refine wpList_pot (W0 := w) HQ.out (.of HB1.out HP.out.size) rfl (.tmp 18) (.tmp 19) 22 rfl i0 _ 1 Tryz.underlying22 hi hz0 hz1 hz2 rfl q HL.out rfl A2 size c2 (bitsN n size) rfl (bitsN_length _ _) HRow.out.rd (fun _ e => HRow.out.none_ e) (q + size) rfl (by unfold maxLen; omega) (by omega) ?_; intro w3 A3 c3 HP3 c03 z03)
  go_end0
  obtain ⟨p1, p2⟩ := HP3.out.store (n := q + size) (by rw [List.length_append, HL.out, bitsN_length])
  exact ⟨rfl, ⟨_, _, p1⟩, p2⟩
theorem fieldsFlag_any (w : World) (B b t : Nat) (A : Option Addr) (c : Nat) (x : Bool) (l : List Nat) (h : Pot w B b t A c l) (hl : l.length + 1 ≤ 1000000) :
    Calls Tryz.prog 69 #[.pointer (some ⟨b, 0, none⟩), .bool x] w fun e w' => e = .returned (.tuple #[]) ∧ (∃ A' c', Pot w' B b t A' c' (l ++ [bitB x])) ∧ Keep B b w w' := by
  cases x
  · have HP := Lib.hid (fieldsPut_any w B b t A c 0 1 l h (by omega) (by omega) (by omega) (by omega))
    clear h
    go_enter Tryz.func69, Tryz.ntmps69
    go_wp2_with fail
    refine HP.out.mono ?_
    rintro e w' ⟨rfl, h1, h2⟩
    have H1 := Lib.hid h1
    have H2 := Lib.hid h2
    clear h1 h2
    go_wp2_with fail
    go_end0
    exact ⟨rfl, H1.out, H2.out⟩
  · have HP := Lib.hid (fieldsPut_any w B b t A c 1 1 l h (by omega) (by omega) (by omega) (by omega))
    clear h
    go_enter Tryz.func69, Tryz.ntmps69
    go_wp2_with fail
    refine HP.out.mono ?_
    rintro e w' ⟨rfl, h1, h2⟩
    have H1 := Lib.hid h1
    have H2 := Lib.hid h2
    clear h1 h2
    go_wp2_with fail
    go_end0
    exact ⟨rfl, H1.out, H2.out⟩
/-- A frame's bits, up to the last one that arbitrates. -/
def headL (f : Fr) : List Nat :=
  if f.ext then [0] ++ bitsN (f.id.toNat / 262144) 11 ++ [1, 1] ++ bitsN (f.id.toNat % 262144) 18 ++ [bitB f.rtr] ++ [0, 0]
  else [0] ++ bitsN f.id.toNat 11 ++ [bitB f.rtr] ++ [0, 0]
end Go.Proofs.YtlmdkmflbhnlgaaGreat
