/- xl.head: an XL frame's bits up to the last one that arbitrates. No condition. -/
import Derived.Test.YtaknddanggdplaaKe
import Derived.Test.YtaknddanggdplaaCheck2
namespace Go.Proofs.Ytaknddanggdplaa
open Go.RowKit
set_option maxRecDepth 100000 in
set_option maxHeartbeats 1000000 in
theorem xlPut_any (w : World) (B b t : Nat) (A : Option Addr) (c n size : Nat) (l : List Nat) (h : Pot w B b t A c l) (hn : n < 18446744073709551616) (hs : size ≤ 64) (hlt : n < 2 ^ size) (hl : l.length + size ≤ 1000000) :
    Calls Try.prog 56 #[.pointer (some ⟨b, 0, none⟩), .int .u64 n, .int .i64 size] w fun e w' => e = .returned (.tuple #[]) ∧ (∃ A' c', Pot w' B b t A' c' (l ++ bitsN n size)) ∧ Keep B b w w' := by
  obtain ⟨i0, hi, hz0, hz1, hz2⟩ := info_parts info_u8
  have HB := Lib.hid (bitsPut_any w n size hn hs hlt)
  have HP := Lib.hid h
  clear h hlt
  go_enter Try.func56, Try.ntmps56
  go_wp2_with fail
  refine HB.out.mono ?_
  rintro e w1 ⟨⟨A2, c2, rfl, hrow⟩, hb⟩
  have HQ := Lib.hid (HP.out.below hb)
  have HRow := Lib.hid hrow
  have HB1 := Lib.hid hb
  clear hrow hb
  obtain ⟨q, hq⟩ : ∃ q, l.length = q := ⟨_, rfl⟩
  have hq2 : q + size ≤ 1000000 := by omega
  have c0 : w1.cell? ⟨b, 0, none⟩ = some (.slice A q c) := by rw [← hq]; exact HQ.out.cell
  have z0 : w1.frozen? ⟨b, 0, none⟩ = false := HQ.out.frozen
  have sb : b < w1.heap.size := heap_lt HQ.out.box
  have HL := Lib.hid hq
  clear hq hl
  go_wp2_with (at_builtin; refine wpList_pot (W0 := w) HQ.out (.of HB1.out HP.out.size) rfl (.tmp 18) (.tmp 19) 23 rfl i0 _ 1 Try.underlying23 hi hz0 hz1 hz2 rfl q HL.out rfl A2 size c2 (bitsN n size) rfl (bitsN_length _ _) HRow.out.rd (fun _ e => HRow.out.none_ e) (q + size) rfl (by unfold maxLen; omega) (by omega) ?_; intro w3 A3 c3 HP3 c03 z03)
  go_end0
  obtain ⟨p1, p2⟩ := HP3.out.store (n := q + size) (by rw [List.length_append, HL.out, bitsN_length])
  exact ⟨rfl, ⟨_, _, p1⟩, p2⟩
theorem xlPut_row (w : World) (B b t : Nat) (A : Option Addr) (c : Nat) (n size : Int) (N S : Nat) (l : List Nat) (eN : n = (N : Int)) (eS : size = (S : Int)) (h : Pot w B b t A c l) (hn : N < 18446744073709551616) (hs : S ≤ 64) (hlt : N < 2 ^ S) (hl : l.length + S ≤ 1000000) :
    Calls Try.prog 56 #[.pointer (some ⟨b, 0, none⟩), .int .u64 n, .int .i64 size] w fun e w' => e = .returned (.tuple #[]) ∧ (∃ A' c', Pot w' B b t A' c' (l ++ bitsN N S)) ∧ Keep B b w w' := by
  subst eN eS
  exact xlPut_any w B b t A c N S l h hn hs hlt hl
/-- What arbitrates: a dominant bit, the identifier, 00110. -/
def headX (f : Fr) : List Nat := bitsN 0 1 ++ bitsN f.id.toNat 11 ++ bitsN 6 5
theorem headX_length (f : Fr) : (headX f).length = 17 := by simp [headX, bitsN_length]
set_option maxRecDepth 100000 in
set_option maxHeartbeats 2000000 in
theorem headX_any (f : Fr) (A : Option Addr) (n c : Nat) (w : World) (h0 : 0 ≤ f.id) (h1 : f.id < 2048) :
    Calls Try.prog 37 #[frv f (.slice A n c)] w fun e w' => (∃ A' c', e = .returned (.slice A' 17 c') ∧ Row w' w.heap.size 5 A' c' (bys (headX f))) ∧ Below w.heap.size w w' := by
  have hl : headX f = bitsN 0 1 ++ bitsN f.id.toNat 11 ++ bitsN 6 5 := rfl
  have hlen := headX_length f
  generalize headX f = l at *
  obtain ⟨kind, id, ext, rtr, brs, esi, sec, sdt, vcid, af, data⟩ := f
  dsimp only [frv] at *
  obtain ⟨m, rfl⟩ := Int.eq_ofNat_of_zero_le h0
  rw [Int.toNat_natCast] at hl
  have HL := Lib.hid hl
  have HLEN := Lib.hid hlen
  clear hl h0 hlen
  go_enter Try.func37, Try.ntmps37
  go_wp2_with fail
  refine calls_blk2 (fun W0 q1 q2 hb => ?_)
  have hp : Pot W0 (w.heap.size + 1 + 1) (w.heap.size + 1) 65 none 0 [] := ⟨q2, fun _ e => (by cases e), heap_lt q2, Row.nil _ _ _⟩
  have HB := Lib.hid hb
  have HP := Lib.hid hp
  obtain ⟨a0, a1, a2, a3, a4, a5, a6, a7, a8, a9, a10⟩ := cells11 q1
  have b1 := fun e : KE (w.heap.size + 1 + 1) (w.heap.size + 1) W0 => ke_cell a1 (by show w.heap.size < _; omega) (by show w.heap.size ≠ _; omega) e
  clear hb hp q1 q2 a0 a1 a2 a3 a4 a5 a6 a7 a8 a9 a10
  refine (kec_same (xlPut_row _ _ _ _ _ _ _ _ 0 1 _ rfl rfl HP.out (by omega) (by omega) (by omega) (by simp))).mono ?_
  rintro x _ ⟨e1, rfl, rfl, A1, c1, hp1⟩
  have HP1 := Lib.hid hp1
  clear hp1
  go_wp2_with fail
  refine (kec (xlPut_row _ _ _ _ _ _ _ _ m 11 _ ?c1 rfl HP1.out (by omega) (by omega) (by omega) (by simp [bitsN_length]))).mono ?_
  case c1 => first | rfl | omega
  rintro x _ ⟨e2, rfl, rfl, A2, c2, hp2⟩
  have HP2 := Lib.hid hp2
  clear hp2
  go_wp2_with fail
  refine (kec (xlPut_row _ _ _ _ _ _ _ _ 6 5 _ rfl rfl HP2.out (by omega) (by omega) (by omega) (by simp [bitsN_length]))).mono ?_
  rintro x _ ⟨e3, rfl, rfl, A3, c3, hp3⟩
  have hrow : Pot e3.W (w.heap.size + 1 + 1) (w.heap.size + 1) 65 A3 c3 l := by rw [HL.out]; exact hp3
  have d0 : e3.W.cell? ⟨w.heap.size + 1, 0, none⟩ = some (.slice A3 17 c3) := by rw [← HLEN.out]; exact hrow.cell
  have HP3 := Lib.hid hrow
  clear hp3 hrow
  go_wp2_with fail
  go_ret
  exact ⟨⟨A3, c3, rfl, HP3.out.row.mono (by omega)⟩, HB.out.trans (e3.keep.below (by omega) (by omega))⟩
end Go.Proofs.Ytaknddanggdplaa
