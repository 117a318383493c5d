/- What the law OrderWire needs, part 3: words, walks and plain facts, each with its own head. No condition. -/
import Derived.Test.YtmlkmcpcokjogaaZOrderWire2
import Derived.OrdersHeld
import Derived.Deep.Quiet
import Derived.StillTail
import Derived.Maps.Own
import Derived.Maps.Views
-- XlHead: xl.head: an XL frame's bits up to the last one that arbitrates. No condition.
namespace Go.Proofs.Ytmlkmcpcokjogaa
open Go.RowKit
set_option maxRecDepth 100000 in
set_option maxHeartbeats 1000000 in
theorem xlPut_any (w : World) (B b t : Nat) (A : Option Addr) (c n size : Nat) (l : List Nat) (h : Pot w B b t A c l) (hn : n < 18446744073709551616) (hs : size ≤ 64) (hlt : n < 2 ^ size) (hl : l.length + size ≤ 1000000) :
    Calls Try.prog 127 #[.pointer (some ⟨b, 0, none⟩), .int .u64 n, .int .i64 size] w fun e w' => e = .returned (.tuple #[]) ∧ (∃ A' c', Pot w' B b t A' c' (l ++ bitsN n size)) ∧ Keep B b w w' := by
  obtain ⟨i0, hi, hz0, hz1, hz2⟩ := info_parts info_u8
  have HB := Lib.hid (bitsPut_any w n size hn hs hlt)
  have HP := Lib.hid h
  clear h hlt
  go_enter Try.func127, Try.ntmps127
  go_wp2_with fail
  refine HB.out.mono ?_
  rintro e w1 ⟨⟨A2, c2, rfl, hrow⟩, hb⟩
  have HQ := Lib.hid (HP.out.below hb)
  have HRow := Lib.hid hrow
  have HB1 := Lib.hid hb
  clear hrow hb
  obtain ⟨q, hq⟩ : ∃ q, l.length = q := ⟨_, rfl⟩
  have hq2 : q + size ≤ 1000000 := by omega
  have c0 : w1.cell? ⟨b, 0, none⟩ = some (.slice A q c) := by rw [← hq]; exact HQ.out.cell
  have z0 : w1.frozen? ⟨b, 0, none⟩ = false := HQ.out.frozen
  have sb : b < w1.heap.size := heap_lt HQ.out.box
  have HL := Lib.hid hq
  clear hq hl
  go_wp2_with (at_builtin; refine wpList_pot (W0 := w) HQ.out (.of HB1.out HP.out.size) rfl (.tmp 18) (.tmp 19) 40 rfl i0 _ 1 Try.underlying40 hi hz0 hz1 hz2 rfl q HL.out rfl A2 size c2 (bitsN n size) rfl (bitsN_length _ _) HRow.out.rd (fun _ e => HRow.out.none_ e) (q + size) rfl (by unfold maxLen; omega) (by omega) ?_; intro w3 A3 c3 HP3 c03 z03)
  go_end0
  obtain ⟨p1, p2⟩ := HP3.out.store (n := q + size) (by rw [List.length_append, HL.out, bitsN_length])
  exact ⟨rfl, ⟨_, _, p1⟩, p2⟩
theorem xlPut_row (w : World) (B b t : Nat) (A : Option Addr) (c : Nat) (n size : Int) (N S : Nat) (l : List Nat) (eN : n = (N : Int)) (eS : size = (S : Int)) (h : Pot w B b t A c l) (hn : N < 18446744073709551616) (hs : S ≤ 64) (hlt : N < 2 ^ S) (hl : l.length + S ≤ 1000000) :
    Calls Try.prog 127 #[.pointer (some ⟨b, 0, none⟩), .int .u64 n, .int .i64 size] w fun e w' => e = .returned (.tuple #[]) ∧ (∃ A' c', Pot w' B b t A' c' (l ++ bitsN N S)) ∧ Keep B b w w' := by
  subst eN eS
  exact xlPut_any w B b t A c N S l h hn hs hlt hl
/-- What arbitrates: a dominant bit, the identifier, 00110. -/
def headX (f : Fr) : List Nat := bitsN 0 1 ++ bitsN f.id.toNat 11 ++ bitsN 6 5
theorem headX_length (f : Fr) : (headX f).length = 17 := by simp [headX, bitsN_length]
set_option maxRecDepth 100000 in
set_option maxHeartbeats 2000000 in
theorem headX_any (f : Fr) (A : Option Addr) (n c : Nat) (w : World) (h0 : 0 ≤ f.id) (h1 : f.id < 2048) :
    Calls Try.prog 93 #[frv f (.slice A n c)] w fun e w' => (∃ A' c', e = .returned (.slice A' 17 c') ∧ Row w' w.heap.size 5 A' c' (bys (headX f))) ∧ Below w.heap.size w w' := by
  have hl : headX f = bitsN 0 1 ++ bitsN f.id.toNat 11 ++ bitsN 6 5 := rfl
  have hlen := headX_length f
  generalize headX f = l at *
  obtain ⟨kind, id, ext, rtr, brs, esi, sec, sdt, vcid, af, data⟩ := f
  dsimp only [frv] at *
  obtain ⟨m, rfl⟩ := Int.eq_ofNat_of_zero_le h0
  rw [Int.toNat_natCast] at hl
  have HL := Lib.hid hl
  have HLEN := Lib.hid hlen
  clear hl h0 hlen
  go_enter Try.func93, Try.ntmps93
  go_wp2_with fail
  refine calls_blk2 (fun W0 q1 q2 hb => ?_)
  have hp : Pot W0 (w.heap.size + 1 + 1) (w.heap.size + 1) 198 none 0 [] := ⟨q2, fun _ e => (by cases e), heap_lt q2, Row.nil _ _ _⟩
  have HB := Lib.hid hb
  have HP := Lib.hid hp
  obtain ⟨a0, a1, a2, a3, a4, a5, a6, a7, a8, a9, a10⟩ := cells11 q1
  have b1 := fun e : KE (w.heap.size + 1 + 1) (w.heap.size + 1) W0 => ke_cell a1 (by show w.heap.size < _; omega) (by show w.heap.size ≠ _; omega) e
  clear hb hp q1 q2 a0 a1 a2 a3 a4 a5 a6 a7 a8 a9 a10
  refine (kec_same (xlPut_row _ _ _ _ _ _ _ _ 0 1 _ rfl rfl HP.out (by omega) (by omega) (by omega) (by simp))).mono ?_
  rintro x _ ⟨e1, rfl, rfl, A1, c1, hp1⟩
  have HP1 := Lib.hid hp1
  clear hp1
  go_wp2_with fail
  refine (kec (xlPut_row _ _ _ _ _ _ _ _ m 11 _ ?c1 rfl HP1.out (by omega) (by omega) (by omega) (by simp [bitsN_length]))).mono ?_
  case c1 => first | rfl | omega
  rintro x _ ⟨e2, rfl, rfl, A2, c2, hp2⟩
  have HP2 := Lib.hid hp2
  clear hp2
  go_wp2_with fail
  refine (kec (xlPut_row _ _ _ _ _ _ _ _ 6 5 _ rfl rfl HP2.out (by omega) (by omega) (by omega) (by simp [bitsN_length]))).mono ?_
  rintro x _ ⟨e3, rfl, rfl, A3, c3, hp3⟩
  have hrow : Pot e3.W (w.heap.size + 1 + 1) (w.heap.size + 1) 198 A3 c3 l := by rw [HL.out]; exact hp3
  have d0 : e3.W.cell? ⟨w.heap.size + 1, 0, none⟩ = some (.slice A3 17 c3) := by rw [← HLEN.out]; exact hrow.cell
  have HP3 := Lib.hid hrow
  clear hp3 hrow
  go_wp2_with fail
  go_ret
  exact ⟨⟨A3, c3, rfl, HP3.out.row.mono (by omega)⟩, HB.out.trans (e3.keep.below (by omega) (by omega))⟩
end Go.Proofs.Ytmlkmcpcokjogaa
-- Tally: fixed.Tally: a number of stuff bits as four bits. No condition.
namespace Go.Proofs.Ytmlkmcpcokjogaa
open Go.RowKit
def tallyV (n : Nat) : Nat := [0, 3, 6, 5, 12, 15, 10, 9].getD (n % 8) 0
def tallyN (n : Nat) : List Nat := bitsN (tallyV n) 4
theorem tallyN_length (n : Nat) : (tallyN n).length = 4 := bitsN_length _ _
theorem bitsPut_row (w : World) (n size : Int) (N S : Nat) (eN : n = (N : Int)) (eS : size = (S : Int)) (hn : N < 18446744073709551616) (hs : S ≤ 64) (hlt : N < 2 ^ S) :
    Calls Try.prog 141 #[.int .u64 n, .int .i64 size] w fun e w' => (∃ A' c', e = .returned (.tuple #[.slice A' S c', .int .i64 0]) ∧ Row w' w.heap.size 5 A' c' (bys (bitsN N S))) ∧ Below w.heap.size w w' := by
  subst eN eS
  exact bitsPut_any w N S hn hs hlt
set_option maxHeartbeats 2000000 in
theorem Tally_any (n : Nat) (w : World) (hn : n ≤ 1000000) :
    Calls Try.prog 122 #[.int .i64 n] w fun e w' => (∃ A' c', e = .returned (.tuple #[.slice A' 4 c', .int .i64 0]) ∧ Row w' w.heap.size 5 A' c' (bys (tallyN n))) ∧ Below w.heap.size w w' := by
  have h0 : ¬ (n : Int) < 0 := by omega
  have hm : n % 8 = 0 ∨ n % 8 = 1 ∨ n % 8 = 2 ∨ n % 8 = 3 ∨ n % 8 = 4 ∨ n % 8 = 5 ∨ n % 8 = 6 ∨ n % 8 = 7 := by omega
  have ht : tallyN n = bitsN ([0, 3, 6, 5, 12, 15, 10, 9].getD (n % 8) 0) 4 := rfl
  generalize tallyN n = tl at ht ⊢
  rcases hm with hm | hm | hm | hm | hm | hm | hm | hm
  all_goals
    rw [hm] at ht
    have HT := Lib.hid ht
    clear ht
  · have e1 : (n : Int) % 8 = 0 := by omega
    have e2 : (n : Int).tmod 8 = 0 := by rw [Int.tmod_eq_emod_of_nonneg (by omega)]; omega
    have ht2 : tl = bitsN 0 4 := HT.out
    clear hm HT
    go_enter Try.func122, Try.ntmps122
    go_wp2_with fail
    refine (bitsPut_row w _ 4 0 4 ?c1 rfl (by omega) (by omega) (by omega)).mono ?_
    case c1 => kernel_rfl
    rintro x w1 ⟨⟨A1, c1, rfl, hrow⟩, hb⟩
    have HROW := Lib.hid hrow
    have HB := Lib.hid hb
    clear hrow hb
    go_wp2_with fail
    go_ret2
    exact ⟨⟨A1, c1, rfl, by rw [ht2]; exact HROW.out⟩, HB.out⟩
  · have e1 : (n : Int) % 8 = 1 := by omega
    have e2 : (n : Int).tmod 8 = 1 := by rw [Int.tmod_eq_emod_of_nonneg (by omega)]; omega
    have ht2 : tl = bitsN 3 4 := HT.out
    clear hm HT
    go_enter Try.func122, Try.ntmps122
    go_wp2_with fail
    refine (bitsPut_row w _ 4 3 4 ?c1 rfl (by omega) (by omega) (by omega)).mono ?_
    case c1 => kernel_rfl
    rintro x w1 ⟨⟨A1, c1, rfl, hrow⟩, hb⟩
    have HROW := Lib.hid hrow
    have HB := Lib.hid hb
    clear hrow hb
    go_wp2_with fail
    go_ret2
    exact ⟨⟨A1, c1, rfl, by rw [ht2]; exact HROW.out⟩, HB.out⟩
  · have e1 : (n : Int) % 8 = 2 := by omega
    have e2 : (n : Int).tmod 8 = 2 := by rw [Int.tmod_eq_emod_of_nonneg (by omega)]; omega
    have ht2 : tl = bitsN 6 4 := HT.out
    clear hm HT
    go_enter Try.func122, Try.ntmps122
    go_wp2_with fail
    refine (bitsPut_row w _ 4 6 4 ?c1 rfl (by omega) (by omega) (by omega)).mono ?_
    case c1 => kernel_rfl
    rintro x w1 ⟨⟨A1, c1, rfl, hrow⟩, hb⟩
    have HROW := Lib.hid hrow
    have HB := Lib.hid hb
    clear hrow hb
    go_wp2_with fail
    go_ret2
    exact ⟨⟨A1, c1, rfl, by rw [ht2]; exact HROW.out⟩, HB.out⟩
  · have e1 : (n : Int) % 8 = 3 := by omega
    have e2 : (n : Int).tmod 8 = 3 := by rw [Int.tmod_eq_emod_of_nonneg (by omega)]; omega
    have ht2 : tl = bitsN 5 4 := HT.out
    clear hm HT
    go_enter Try.func122, Try.ntmps122
    go_wp2_with fail
    refine (bitsPut_row w _ 4 5 4 ?c1 rfl (by omega) (by omega) (by omega)).mono ?_
    case c1 => kernel_rfl
    rintro x w1 ⟨⟨A1, c1, rfl, hrow⟩, hb⟩
    have HROW := Lib.hid hrow
    have HB := Lib.hid hb
    clear hrow hb
    go_wp2_with fail
    go_ret2
    exact ⟨⟨A1, c1, rfl, by rw [ht2]; exact HROW.out⟩, HB.out⟩
  · have e1 : (n : Int) % 8 = 4 := by omega
    have e2 : (n : Int).tmod 8 = 4 := by rw [Int.tmod_eq_emod_of_nonneg (by omega)]; omega
    have ht2 : tl = bitsN 12 4 := HT.out
    clear hm HT
    go_enter Try.func122, Try.ntmps122
    go_wp2_with fail
    refine (bitsPut_row w _ 4 12 4 ?c1 rfl (by omega) (by omega) (by omega)).mono ?_
    case c1 => kernel_rfl
    rintro x w1 ⟨⟨A1, c1, rfl, hrow⟩, hb⟩
    have HROW := Lib.hid hrow
    have HB := Lib.hid hb
    clear hrow hb
    go_wp2_with fail
    go_ret2
    exact ⟨⟨A1, c1, rfl, by rw [ht2]; exact HROW.out⟩, HB.out⟩
  · have e1 : (n : Int) % 8 = 5 := by omega
    have e2 : (n : Int).tmod 8 = 5 := by rw [Int.tmod_eq_emod_of_nonneg (by omega)]; omega
    have ht2 : tl = bitsN 15 4 := HT.out
    clear hm HT
    go_enter Try.func122, Try.ntmps122
    go_wp2_with fail
    refine (bitsPut_row w _ 4 15 4 ?c1 rfl (by omega) (by omega) (by omega)).mono ?_
    case c1 => kernel_rfl
    rintro x w1 ⟨⟨A1, c1, rfl, hrow⟩, hb⟩
    have HROW := Lib.hid hrow
    have HB := Lib.hid hb
    clear hrow hb
    go_wp2_with fail
    go_ret2
    exact ⟨⟨A1, c1, rfl, by rw [ht2]; exact HROW.out⟩, HB.out⟩
  · have e1 : (n : Int) % 8 = 6 := by omega
    have e2 : (n : Int).tmod 8 = 6 := by rw [Int.tmod_eq_emod_of_nonneg (by omega)]; omega
    have ht2 : tl = bitsN 10 4 := HT.out
    clear hm HT
    go_enter Try.func122, Try.ntmps122
    go_wp2_with fail
    refine (bitsPut_row w _ 4 10 4 ?c1 rfl (by omega) (by omega) (by omega)).mono ?_
    case c1 => kernel_rfl
    rintro x w1 ⟨⟨A1, c1, rfl, hrow⟩, hb⟩
    have HROW := Lib.hid hrow
    have HB := Lib.hid hb
    clear hrow hb
    go_wp2_with fail
    go_ret2
    exact ⟨⟨A1, c1, rfl, by rw [ht2]; exact HROW.out⟩, HB.out⟩
  · have e1 : (n : Int) % 8 = 7 := by omega
    have e2 : (n : Int).tmod 8 = 7 := by rw [Int.tmod_eq_emod_of_nonneg (by omega)]; omega
    have ht2 : tl = bitsN 9 4 := HT.out
    clear hm HT
    go_enter Try.func122, Try.ntmps122
    go_wp2_with fail
    refine (bitsPut_row w _ 4 9 4 ?c1 rfl (by omega) (by omega) (by omega)).mono ?_
    case c1 => kernel_rfl
    rintro x w1 ⟨⟨A1, c1, rfl, hrow⟩, hb⟩
    have HROW := Lib.hid hrow
    have HB := Lib.hid hb
    clear hrow hb
    go_wp2_with fail
    go_ret2
    exact ⟨⟨A1, c1, rfl, by rw [ht2]; exact HROW.out⟩, HB.out⟩
end Go.Proofs.Ytmlkmcpcokjogaa
-- PXl: An XL frame's data part, by definition. No condition.
namespace Go.Proofs.Ytmlkmcpcokjogaa
open Go.RowKit
def codeX (f : Fr) : Nat := ((codeF f.kind f.data.length).getD 0).toNat
/-- Ahead of the first sum: SDT, SEC, the code of the size, the tally of the head's stuff bits. -/
def part1X (f : Fr) : List Nat := bitsN f.sdt.toNat 8 ++ bitsN (bitB f.sec) 1 ++ bitsN (codeX f) 11 ++ tallyN ((stuffN (headX f)).length - 17)
def part2X (f : Fr) : List Nat := part1X f ++ bitsN (crcN 13 6631 1 (headX f ++ part1X f)) 13
def part3X (f : Fr) : List Nat := part2X f ++ bitsN f.vcid.toNat 8 ++ bitsN f.af.toNat 32 ++ bytesN f.data
def bodyX (f : Fr) : List Nat := part3X f ++ bitsN (crcN 32 4104977171 1 ([] ++ part3X f)) 32
theorem part1X_length (f : Fr) : (part1X f).length = 24 := by simp [part1X, bitsN_length, tallyN_length]
theorem part2X_length (f : Fr) : (part2X f).length = 37 := by simp [part2X, part1X_length, bitsN_length]
theorem part3X_length (f : Fr) : (part3X f).length = 77 + 8 * f.data.length := by simp [part3X, part2X_length, bitsN_length, bytesN_length]; omega
theorem bodyX_length (f : Fr) : (bodyX f).length = 109 + 8 * f.data.length := by simp [bodyX, part3X_length, bitsN_length]; omega
theorem headX_bits (f : Fr) : ∀ x ∈ headX f, x ≤ 1 := by
  intro x hx
  unfold headX at hx
  simp only [List.mem_append] at hx
  rcases hx with (h | h) | h <;> exact bitsN_bit _ _ x h
theorem part1X_bits (f : Fr) : ∀ x ∈ part1X f, x ≤ 1 := by
  intro x hx
  unfold part1X tallyN at hx
  simp only [List.mem_append] at hx
  rcases hx with ((h | h) | h) | h <;> exact bitsN_bit _ _ x h
theorem part2X_bits (f : Fr) : ∀ x ∈ part2X f, x ≤ 1 := by
  intro x hx
  unfold part2X at hx
  rcases List.mem_append.1 hx with h | h
  · exact part1X_bits f x h
  · exact bitsN_bit _ _ x h
theorem part3X_bits (f : Fr) : ∀ x ∈ part3X f, x ≤ 1 := by
  intro x hx
  unfold part3X at hx
  simp only [List.mem_append] at hx
  rcases hx with ((h | h) | h) | h
  · exact part2X_bits f x h
  · exact bitsN_bit _ _ x h
  · exact bitsN_bit _ _ x h
  · exact bytesN_bits _ x h
theorem bodyX_bits (f : Fr) : ∀ x ∈ bodyX f, x ≤ 1 := by
  intro x hx
  unfold bodyX at hx
  rcases List.mem_append.1 hx with h | h
  · exact part3X_bits f x h
  · exact bitsN_bit _ _ x h
end Go.Proofs.Ytmlkmcpcokjogaa
-- XlSeal: xl's seal: a sum of what is ahead, and of what has grown. The kinds of sums. No condition.
namespace Go.Proofs.Ytmlkmcpcokjogaa
open Go.RowKit
set_option maxRecDepth 100000 in
theorem of_4 : OfK 4 13 6631 1 := by
  refine ⟨fun W => ?_, by decide, by decide, by decide, by decide⟩
  go_enter Try.func156, Try.ntmps156
  go_wp2
  exact bodyPost_ret (v := .agg #[.int .i64 13, .int .u64 6631, .int .u64 1]) (by simp [results, Try.results156, go_sem]) rfl ⟨rfl, below_alloc (below_alloc (Below.refl _ _) _) _⟩
set_option maxRecDepth 100000 in
theorem of_5 : OfK 5 32 4104977171 1 := by
  refine ⟨fun W => ?_, by decide, by decide, by decide, by decide⟩
  go_enter Try.func156, Try.ntmps156
  go_wp2
  exact bodyPost_ret (v := .agg #[.int .i64 32, .int .u64 4104977171, .int .u64 1]) (by simp [results, Try.results156, go_sem]) rfl ⟨rfl, below_alloc (below_alloc (Below.refl _ _) _) _⟩
set_option maxRecDepth 100000 in
set_option maxHeartbeats 2000000 in
theorem xlSeal_any {k : Int} {size poly start : Nat} (hO : OfK k size poly start) (w : World) (B b t : Nat) (A A2 : Option Addr) (c c2 n2 : Nat) (l l2 : List Nat) (h : Pot w B b t A c l) (hp2 : PartOk w (A2, c2, l2)) (hn2 : l2.length = n2) (hl : n2 + l.length ≤ 50000) (h01 : ∀ x ∈ l2 ++ l, x ≤ 1) :
    Calls Try.prog 128 #[.pointer (some ⟨b, 0, none⟩), .int .i64 k, .slice A2 n2 c2] w fun e w' => e = .returned (.tuple #[]) ∧ (∃ A' c', Pot w' B b t A' c' (l ++ bitsN (crcN size poly start (l2 ++ l)) size)) ∧ Keep B b w w' := by
  have hlt : crcN size poly start (l2 ++ l) < 2 ^ size := crcN_lt size poly (l2 ++ l) hO.poly start hO.start
  have h32 := hO.h32
  have hpw := pow32 h32
  obtain ⟨q, hq⟩ : ∃ q, l.length = q := ⟨_, rfl⟩
  rw [hq] at hl
  have c0 : w.cell? ⟨b, 0, none⟩ = some (.slice A q c) := by rw [← hq]; exact h.cell
  have HP := Lib.hid h
  have hcc := concat2 w A2 A c2 c n2 q (n2 + q) l2 l hp2 h.row.part hn2 hq rfl (by omega)
  have HCC := Lib.hid hcc
  have hlen : (l2 ++ l).length = n2 + q := by rw [List.length_append, hn2, hq]
  have HLEN := Lib.hid hlen
  have HSUM := Lib.hid (fun (W : World) (base : Nat) (A3 : Option Addr) (c3 : Nat) (hW : Row W base 5 A3 c3 (bys (l2 ++ l))) => Sum_row hO (n2 + q) c3 base A3 (l2 ++ l) W hW hlen (by omega) h01)
  have HSZ := Lib.hid (fun W => Size_any hO W)
  have HQ := Lib.hid hq
  obtain ⟨r, hre⟩ : ∃ r, crcN size poly start (l2 ++ l) = r := ⟨_, rfl⟩
  rw [hre] at hlt HSUM ⊢
  have sb : b < w.heap.size := heap_lt h.box
  clear h hcc hlen hq hre h01 hp2 hn2 hO
  go_enter Try.func128, Try.ntmps128
  go_wp2_with fail
  refine HCC.out.mono ?_
  rintro x w1 ⟨⟨A3, c3, rfl, hrow3⟩, hb1⟩
  have HROW3 := Lib.hid hrow3
  have HB1 := Lib.hid ((below_alloc (Below.refl w.heap.size w) (.cells #[.slice A2 n2 c2, .slice A q c] 40)).trans (hb1.mono (by simp)))
  clear hrow3 hb1
  go_wp2_with fail
  refine (HSUM.out _ _ _ _ HROW3.out).mono ?_
  rintro x w2 ⟨rfl, hb2⟩
  have HB2 := Lib.hid (below_trans HB1.out hb2)
  clear hb2
  go_wp2_with fail
  refine (HSZ.out _).mono ?_
  rintro x w3 ⟨rfl, hb3⟩
  have HB3 := Lib.hid (below_trans HB2.out hb3)
  clear hb3
  go_wp2_with fail
  refine (xlPut_any w3 B b t A c r size l (HP.out.below HB3.out) (by omega) (by omega) hlt (by rw [HQ.out]; omega)).mono ?_
  rintro x w4 ⟨rfl, hpot, hk⟩
  have HPOT := Lib.hid hpot
  have HK := Lib.hid hk
  clear hpot hk
  go_wp2_with fail
  go_end0
  exact ⟨rfl, HPOT.out, (Keep.of HB3.out HP.out.size).trans HK.out⟩
end Go.Proofs.Ytmlkmcpcokjogaa
-- XlBody: xl.Body: an XL frame's data part. No condition.
namespace Go.Proofs.Ytmlkmcpcokjogaa
open Go.RowKit
theorem okX (f : Fr) (hk : f.kind = 3) (h : okF f = true) : f.id < 2048 ∧ 1 ≤ f.data.length ∧ f.data.length ≤ 2048 ∧ codeF f.kind f.data.length = some ((f.data.length : Int) - 1) := by
  unfold okF at h
  simp only [Bool.and_eq_true, decide_eq_true_eq] at h
  obtain ⟨⟨⟨h1, h2⟩, -⟩, h3⟩ := h
  have he : f.ext = false := by
    unfold sameF bareF zeroF at h3
    simp only [decide_eq_true_eq, hk] at h3
    have := h3.2.2.1
    simp at this
    exact this.1
  unfold limF at h2
  rw [he] at h2
  have hc : codeF f.kind f.data.length = some ((f.data.length : Int) - 1) ∧ 1 ≤ (f.data.length : Int) ∧ (f.data.length : Int) ≤ 2048 := by
    rw [hk] at h1 ⊢
    unfold codeF at h1 ⊢
    rw [if_neg (by decide)] at h1 ⊢
    by_cases hb : loOf 3 ≤ (f.data.length : Int) ∧ (f.data.length : Int) ≤ hiOf 3
    · rw [if_pos hb]
      have a : loOf 3 = 1 := rfl
      have b : hiOf 3 = 2048 := rfl
      rw [a, b] at hb
      rw [a]
      exact ⟨rfl, hb.1, hb.2⟩
    · rw [if_neg hb] at h1
      cases h1
  exact ⟨by simpa using h2, by omega, by omega, hc.1⟩
theorem XlBody_no (f : Fr) (A : Option Addr) (c : Nat) (w : World) (hl : f.data.length ≤ 9223372036854775807) (hno : ¬ (f.kind = 3 ∧ okF f = true)) :
    Calls Try.prog 92 #[frv f (.slice A f.data.length c)] w fun e w' => e = .returned (.tuple #[.slice none 0 0, .int .i64 2]) ∧ Below w.heap.size w w' := by
  have HC := Lib.hid (fun W => Check_any f A c W hl)
  by_cases hk : f.kind = 3
  · have hok : okF f = false := by cases h : okF f with | false => rfl | true => exact absurd ⟨hk, h⟩ hno
    rw [hok] at HC
    have he : errV false = .int .i64 2 := rfl
    rw [he] at HC
    obtain ⟨kind, id, ext, rtr, brs, esi, sec, sdt, vcid, af, data⟩ := f
    dsimp only [frv] at *
    generalize data.length = n at *
    subst hk
    clear hno hok he
    go_enter Try.func92, Try.ntmps92
    go_wp2_with fail
    refine (HC.out _).mono ?_
    rintro e w1 ⟨rfl, hb⟩
    have HB := Lib.hid hb
    clear hb
    go_wp2_with fail
    go_ret2
    exact ⟨rfl, (below_alloc (Below.refl _ _) _).trans (HB.out.mono (by simp))⟩
  · obtain ⟨kind, id, ext, rtr, brs, esi, sec, sdt, vcid, af, data⟩ := f
    dsimp only [frv] at *
    generalize data.length = n at *
    have hkb : (kind != 3) = true := by rw [bne_iff_ne]; exact hk
    clear hno hk HC
    go_enter Try.func92, Try.ntmps92
    go_wp2_with fail
    go_ret2
    exact ⟨rfl, below_alloc (Below.refl _ _) _⟩
end Go.Proofs.Ytmlkmcpcokjogaa
-- RowAt: Cells of a row of the call's own. No condition.
namespace Go.Proofs.Ytmlkmcpcokjogaa
open Go.RowKit
theorem row_at {w W : World} {base c ga : Nat} {l : List Nat} (hrow : Row w base 5 (some ⟨ga, 0, none⟩) c (bys l)) (hW : Below w.heap.size w W) (k v : Nat) (h : l[k]? = some v) : W.cell? ⟨ga, k, none⟩ = some (.int .u8 (v : Int)) := by
  have hk : k < l.length := (List.getElem?_eq_some_iff.1 h).1
  obtain ⟨ad, e, hc⟩ := hrow.rd k (.int .u8 (v : Int)) (by rw [bys_get l k hk, (List.getElem?_eq_some_iff.1 h).2])
  injection e with e
  subst e
  refine Below.cell_of hW ?_
  rw [← hc]
  unfold Addr.add
  by_cases hk0 : k = 0 <;> simp [hk0]
theorem row_some {w : World} {base c n : Nat} {A : Option Addr} {l : List Nat} (hrow : Row w base 5 A c (bys l)) (hl : l.length = n) (hn : 0 < n) : ∃ ga, A = some ⟨ga, 0, none⟩ ∧ ga < w.heap.size ∧ n ≤ c ∧ c ≤ 9223372036854775807 := by
  obtain ⟨ga, hA⟩ := hrow.form
  rcases hA with rfl | h
  · have h0 := row_at (W := w) hrow (Below.refl _ _) 0 (l[0]'(by omega)) (by simp)
    have hcap := hrow.cap
    rw [bys_length, hl] at hcap
    exact ⟨ga, rfl, cell_lt h0, hcap, hrow.capm⟩
  · rw [bys_length] at h; omega
theorem calls_name {P : Program} {f : FuncId} {args : Array Value} {W : World} {R : Ending → World → Prop} {T : World → Prop} (hT : T W) (h : ∀ W0, T W0 → Calls P f args W0 R) : Calls P f args W R := h W hT
end Go.Proofs.Ytmlkmcpcokjogaa
-- Mix: A region that draws its order: what only reads goes first, whatever calls or writes goes one behind the other, what waits for all goes last: one walk. No condition.
namespace Go.Proofs.Ytmlkmcpcokjogaa
open Go Go.RowKit
/-- An operation that yields a value, if it comes to an end, and calls nothing. -/
def valB : Op → Bool
  | .move _ | .assign _ | .load _ _ | .binOp _ _ _ _ _ | .unOp _ _ _ | .convert _ _ _ | .fieldAddr _ _ _ | .field _ _ _ | .indexAddr _ _ _ | .index _ _ _ | .slice _ _ _ _ _ | .extract _ _ | .makeInterface _ _ | .build _ _ | .pick _ _ _ | .typeAssert _ _ _ _ | .makeFunc _ _ _ => true
  | .call { callee := .builtin .len, .. } | .call { callee := .builtin .cap, .. } => true
  | _ => false
section
variable {P : Program} {ops : Array Oper} {Q : Exit → Act → World → Prop} {md : Region.Mode} {S : World → Prop}
theorem value_only {s : Sem Value} {w w' : World} {n : Next} (h : ((do let x ← s; pure (Next.value x)) : Sem Next).run P w = .ok n w') : ∃ v, n = .value v := by
  rw [Sem.run_bind] at h
  cases hs : s.run P w with
  | ok v w1 => rw [hs] at h; simp [Result.andThen] at h; exact ⟨v, h.1.symm⟩
  | halt x w1 => rw [hs] at h; simp [Result.andThen] at h
theorem val_only {o : Oper} (hp : valB o.op = true) {ρ : Operand → Value} {w w' : World} {n : Next} (h : (execOp ρ o).run P w = .ok n w') : ∃ v, n = .value v := by
  unfold execOp at h
  cases ho : o.op <;> rw [ho] at hp h <;> simp only [valB] at hp <;> first | exact absurd hp (by decide) | skip
  all_goals first
    | exact value_only h
    | (simp at h; exact ⟨_, h.1.symm⟩)
    | skip
  case pick c x y =>
    simp only [Sem.run_bind] at h
    cases hs : (asBool (ρ c)).run P w with
    | ok v w1 => rw [hs] at h; simp [Result.andThen] at h; exact ⟨_, h.1.symm⟩
    | halt x w1 => rw [hs] at h; simp [Result.andThen] at h
  case call c =>
    obtain ⟨callee, args, argTypes⟩ := c
    cases callee with
    | builtin b =>
      cases b <;> simp only at hp <;> first | exact absurd hp (by decide) | skip
      all_goals
        simp only [resolve, invoke, builtin, Sem.run_bind, Sem.run_pure, Result.andThen_ok] at h
        exact value_only (P := P) (w := w) (w' := w') (by rw [Sem.run_bind]; simpa only [Sem.run_pure] using h)
    | value f => simp only at hp; exact absurd hp (by decide)
    | invoke r s => simp only at hp; exact absurd hp (by decide)
theorem yieldsIf_quiet {o : Oper} {a : Act} {K : Act → Prop} (hp : valB o.op = true) (hw : Region.wanted o (yielded ops a.tmps) = true) (h : o.quiet P a S K) : ∃ v, YieldsIf P ops S o v a ∧ K (a.put o.dst v) := by
  obtain ⟨v, h1, h2⟩ := h
  refine ⟨v, .inl ⟨hw, fun w hS => ?_⟩, h2⟩
  have h3 := h1 w hS
  unfold Oper.quietAt at h3
  generalize hr : (execOp a.eval o).run P w = r at *
  cases r with
  | ok n w' =>
    obtain ⟨u, rfl⟩ := val_only hp hr
    simp only [Oper.quietUpon] at h3
    rw [h3.1, h3.2]
  | halt x w' => simp only [Oper.quietUpon] at h3
/-! ### the structure -/
def waits1 (md : Region.Mode) (ops : Array Oper) (j i : Nat) : Bool := Region.waitsFor md ops j i
/-- Each of these is waited for by one behind it, or by t. -/
def sinkL (md : Region.Mode) (ops : Array Oper) (t : Nat) : List Nat → Bool
  | [] => true
  | i :: r => (waits1 md ops t i || r.any fun j => waits1 md ops j i) && sinkL md ops t r
/-- Each waits for one ahead of it. -/
def chainL (md : Region.Mode) (ops : Array Oper) : List Nat → List Nat → Bool
  | _, [] => true
  | p, t :: r => (p.any fun i => waits1 md ops t i) && chainL md ops (t :: p) r
def tailB (md : Region.Mode) (ops : Array Oper) (π : List Nat) : List Nat → Bool
  | [] => true
  | t :: r => sinkL md ops t π && chainL md ops [t] r
def seqI (md : Region.Mode) (ops : Array Oper) : List Nat → Array Bool → Bool
  | [], listed => (Region.ready md ops listed).isEmpty
  | t :: r, listed => decide (Region.ready md ops listed = [t]) && seqI md ops r (listed.setIfInBounds t true)
def mixB (md : Region.Mode) (ops : Array Oper) (τ : List Nat) : List (Bool × Nat) → Array Bool → Bool
  | [], listed => seqI md ops τ listed
  | (true, i) :: r, listed => (Region.ready md ops listed).contains i && Region.free md ops listed i && mixB md ops τ r (listed.setIfInBounds i true)
  | (false, i) :: r, listed => decide (Region.ready md ops listed = [i]) && mixB md ops τ r (listed.setIfInBounds i true)
def disj (π τ : List Nat) : Bool := τ.all fun t => !π.contains t
structure MInv (md : Region.Mode) (ops : Array Oper) (τ : List Nat) (listed : Array Bool) : Prop where
  closed : ∀ j oj, ops[j]? = some oj → listed.getD j false = true → ∀ e ∈ oj.after, Region.binds md e = true → listed.getD e.on false = true
  tail : ∀ t ∈ τ, listed.getD t false = false
theorem MInv.set {τ : List Nat} {i : Nat} {listed : Array Bool} (inv : MInv md ops τ listed) (hi : i ∈ Region.ready md ops listed) (hin : ∀ t ∈ τ, i ≠ t) : MInv md ops τ (listed.setIfInBounds i true) := by
  obtain ⟨_, oi, hoi, hall⟩ := mem_ready.1 hi
  refine ⟨fun j oj hj hl e he hb => ?_, fun t ht => by rw [getD_set_ne false (hin t ht)]; exact inv.tail t ht⟩
  by_cases hij : i = j
  · subst hij
    have : oj = oi := Option.some.inj (hj.symm.trans hoi)
    subst this
    exact getD_set_true (hall e he hb)
  · rw [getD_set_ne false hij] at hl
    exact getD_set_true (inv.closed j oj hj hl e he hb)
theorem closed_waits {τ : List Nat} {listed : Array Bool} {j i : Nat} (inv : MInv md ops τ listed) (h : waits1 md ops j i = true) (hj : listed.getD j false = true) : listed.getD i false = true := by
  obtain ⟨oj, hoj, e, he, hb, hon⟩ := Region.waitsFor_spec h
  rw [← hon]
  exact inv.closed j oj hoj hj e he hb
theorem ready_waits {listed : Array Bool} {j i : Nat} (hr : j ∈ Region.ready md ops listed) (h : waits1 md ops j i = true) : listed.getD i false = true := by
  obtain ⟨oj, hoj, e, he, hb, hon⟩ := Region.waitsFor_spec h
  obtain ⟨_, o, ho, hall⟩ := mem_ready.1 hr
  have : oj = o := Option.some.inj (hoj.symm.trans ho)
  subst this
  rw [← hon]
  exact hall e he hb
theorem sink_all {τ : List Nat} {listed : Array Bool} {t : Nat} (inv : MInv md ops τ listed) (hr : t ∈ Region.ready md ops listed) : ∀ π : List Nat, sinkL md ops t π = true → ∀ i ∈ π, listed.getD i false = true
  | [], _, i, hi => by cases hi
  | k :: r, h, i, hi => by
    simp only [sinkL, Bool.and_eq_true, Bool.or_eq_true] at h
    have ih := sink_all inv hr r h.2
    rcases List.mem_cons.1 hi with rfl | hi
    · rcases h.1 with h1 | h1
      · exact ready_waits hr h1
      · obtain ⟨j, hj, hw⟩ := List.any_eq_true.1 h1
        exact closed_waits inv hw (ih j hj)
    · exact ih i hi
theorem chain_none {τ : List Nat} {listed : Array Bool} (inv : MInv md ops τ listed) : ∀ (r p : List Nat), (∀ i ∈ p, i ∈ τ) → (∀ i ∈ r, i ∈ τ) → chainL md ops p r = true → ∀ t ∈ r, t ∉ Region.ready md ops listed
  | [], _, _, _, _, t, ht => by cases ht
  | k :: r, p, hp, hr, h, t, ht => by
    simp only [chainL, Bool.and_eq_true] at h
    rcases List.mem_cons.1 ht with rfl | ht
    · intro hready
      obtain ⟨i, hi, hw⟩ := List.any_eq_true.1 h.1
      have h1 := ready_waits hready hw
      rw [inv.tail i (hp i hi)] at h1
      cases h1
    · exact chain_none inv r (k :: p) (fun i hi => by rcases List.mem_cons.1 hi with rfl | hi; exact hr _ (by simp); exact hp i hi) (fun i hi => hr i (by simp [hi])) h.2 t ht
theorem tail_wait {π τ : List Nat} {listed : Array Bool} (inv : MInv md ops τ listed) (h : tailB md ops π τ = true) {i : Nat} (hi : i ∈ π) (hun : listed.getD i false = false) : ∀ t ∈ τ, t ∉ Region.ready md ops listed := by
  cases τ with
  | nil => intro t ht; cases ht
  | cons t0 r =>
    simp only [tailB, Bool.and_eq_true] at h
    intro t ht
    rcases List.mem_cons.1 ht with rfl | ht
    · intro hr
      have := sink_all inv hr π h.1 i hi
      rw [hun] at this
      cases this
    · exact chain_none inv r [t0] (by simp) (fun i hi => by simp [hi]) h.2 t ht
/-! ### the walk -/
def wpHL (P : Program) (md : Region.Mode) (ops : Array Oper) (Q : Exit → Act → World → Prop) (S : World → Prop) (τ : List Nat) (L : Array Bool → Act → World → Prop) : Nat → Array Bool → Act → World → Prop
  | 0, listed, a, w => L listed a w
  | f + 1, listed, a, w => Region.ready md ops listed ≠ [] ∧ ∀ i ∈ Region.ready md ops listed, i ∉ τ ∧ wpOp P ops Q i (fun a' w' => S w' ∧ wpHL P md ops Q S τ L f (listed.setIfInBounds i true) a' w') a w
theorem wpAny_of_hl {τ : List Nat} {g : Nat} {L : Array Bool → Act → World → Prop} (hL : ∀ listed a w, L listed a w → wpAny P md ops Q g listed a w) :
    ∀ (f : Nat) (listed : Array Bool) (a : Act) (w : World), wpHL P md ops Q S τ L f listed a w → wpAny P md ops Q (f + g) listed a w
  | 0, listed, a, w, h => by rw [Nat.zero_add]; exact hL _ _ _ h
  | f + 1, listed, a, w, h => by
    rw [show f + 1 + g = (f + g) + 1 by omega]
    exact ⟨fun h0 => absurd h0 h.1, fun i hi => wpOp_mono (fun a' w' h' => wpAny_of_hl hL f _ a' w' h'.2) (h.2 i hi).2⟩
theorem wpHL_first {π τ : List Nat} {i : Nat} {oi : Oper} {v : Value} {L : Array Bool → Act → World → Prop} (hi : ops[i]? = some oi) (hsel : ∀ (j : Nat) (o : Oper) cs b, ops[j]? = some o → o.op ≠ .select cs b)
    (hQ : ∀ c a w, Q (.panic c) (a.put oi.dst v) w → Q (.panic c) a w) (hT : tailB md ops π τ = true) (hiπ : i ∈ π) (hdone : ∀ listed a w, L listed a w → ∀ j ∈ Region.ready md ops listed, j ∈ τ) :
    ∀ (f : Nat) (listed : Array Bool) (a : Act) (w : World), MInv md ops τ listed →
      (∀ j oj, ops[j]? = some oj → j ≠ i → listed.getD j true = false → (∀ e ∈ oj.after, Region.binds md e = true → e.on ≠ i) → oi.apart ops oj = true) →
      i ∈ Region.ready md ops listed → YieldsIf P ops S oi v a → S w →
      wpHL P md ops Q S τ L f (listed.setIfInBounds i true) (a.put oi.dst v) w → wpHL P md ops Q S τ L (f + 1) listed a w := by
  intro f
  induction f with
  | zero =>
    intro listed a w inv _ hr hy hS H
    have hun := getD_both (mem_ready.1 hr).1
    refine ⟨fun h => (by rw [h] at hr; cases hr), fun j hj => ?_⟩
    have hjn : j ∉ τ := fun h => tail_wait inv hT hiπ hun j h hj
    refine ⟨hjn, ?_⟩
    by_cases hji : j = i
    · subst hji; exact hy.wpOp hi hS ⟨hS, H⟩
    · exact absurd (hdone _ _ _ H j (ready_mono hj hji)) hjn
  | succ f ih =>
    intro listed a w inv hfree hr hy hS H
    have hun := getD_both (mem_ready.1 hr).1
    refine ⟨fun h => (by rw [h] at hr; cases hr), fun j hj => ?_⟩
    have hjn : j ∉ τ := fun h => tail_wait inv hT hiπ hun j h hj
    refine ⟨hjn, ?_⟩
    by_cases hji : j = i
    · subst hji; exact hy.wpOp hi hS ⟨hS, H⟩
    · have h1 := (H.2 j (ready_mono hj hji)).2
      obtain ⟨hjun, oj, hoj, hall⟩ := mem_ready.1 hj
      have hnot : ∀ e ∈ oj.after, Region.binds md e = true → e.on ≠ i := fun e he hb heq => by
        have h1 := hall e he hb
        rw [heq, hun] at h1
        cases h1
      have h2 := wpOp_putIf hoj (hfree j oj hoj hji hjun hnot) (fun cs b => hsel i oi cs b hi) (fun cs b => hsel j oj cs b hoj) hQ hy h1
      have hfree' : ∀ k ok, ops[k]? = some ok → k ≠ i → (listed.setIfInBounds j true).getD k true = false →
          (∀ e ∈ ok.after, Region.binds md e = true → e.on ≠ i) → oi.apart ops ok = true := fun k ok hk hki hun hno => by
        refine hfree k ok hk hki ?_ hno
        by_cases hjk : j = k
        · subst hjk; exact hjun
        · rw [getD_set_ne true hjk] at hun; exact hun
      refine wpOp_mono (fun a' w' h3 => ⟨h3.2.1, ih (listed.setIfInBounds j true) a' w' (inv.set hj (fun t ht e => hjn (e ▸ ht))) hfree' (ready_mono hr (Ne.symm hji)) h3.1 h3.2.1 ?_⟩) h2
      rw [Array.setIfInBounds_comm _ _ hji]
      exact h3.2.2
/-- The walk: (true, i): operation i only reads; (false, i): it is carried out. -/
def wpMix (P : Program) (ops : Array Oper) (Q : Exit → Act → World → Prop) (S : World → Prop) (T : Act → World → Prop) : List (Bool × Nat) → Act → World → Prop
  | [], a, w => T a w
  | (true, i) :: r, a, w => ∃ o v, ops[i]? = some o ∧ YieldsIf P ops S o v a ∧ wpMix P ops Q S T r (a.put o.dst v) w
  | (false, i) :: r, a, w => wpOp P ops Q i (fun a' w' => S w' ∧ wpMix P ops Q S T r a' w') a w
theorem wpHL_of_mix {τ πs : List Nat} {T : Act → World → Prop} (hsel : Region.noSelect ops = true) (hQ : ∀ c a d v w, Q (.panic c) (a.put d v) w → Q (.panic c) a w) (hT : tailB md ops πs τ = true) (hD : disj πs τ = true) :
    ∀ (π : List (Bool × Nat)) (listed : Array Bool) (a : Act) (w : World), (∀ x ∈ π, x.2 ∈ πs) → MInv md ops τ listed → mixB md ops τ π listed = true → S w → wpMix P ops Q S T π a w →
      wpHL P md ops Q S τ (fun listed a w => seqI md ops τ listed = true ∧ T a w) π.length listed a w
  | [], listed, a, w, _, _, hB, _, h => ⟨hB, h⟩
  | (true, i) :: r, listed, a, w, hπ, inv, hB, hS, h => by
    obtain ⟨o, v, ho, hy, hn⟩ := h
    simp only [mixB, Bool.and_eq_true] at hB
    obtain ⟨⟨hr, hf⟩, hB'⟩ := hB
    have hr' : i ∈ Region.ready md ops listed := by simpa using hr
    have hiπs : i ∈ πs := hπ (true, i) (by simp)
    have hne : ∀ t ∈ τ, i ≠ t := fun t ht e => by
      have := List.all_eq_true.1 hD t ht
      subst e
      simp [hiπs] at this
    refine wpHL_first ho (Region.noSelect_spec hsel) (fun c a w => hQ c a _ _ w) hT hiπs ?_ r.length listed a w inv (Region.free_spec ho hf) hr' hy hS
      (wpHL_of_mix hsel hQ hT hD r _ _ w (fun x hx => hπ x (by simp [hx])) (inv.set hr' hne) hB' hS hn)
    intro listed a w hL j hj
    cases τ with
    | nil => have := hL.1; simp only [seqI, List.isEmpty_iff] at this; rw [this] at hj; cases hj
    | cons t r => have := hL.1; simp only [seqI, Bool.and_eq_true, decide_eq_true_eq] at this; rw [this.1] at hj; simp at hj; simp [hj]
  | (false, i) :: r, listed, a, w, hπ, inv, hB, hS, h => by
    simp only [mixB, Bool.and_eq_true, decide_eq_true_eq] at hB
    obtain ⟨hr, hB'⟩ := hB
    have hiπs : i ∈ πs := hπ (false, i) (by simp)
    have hne : ∀ t ∈ τ, i ≠ t := fun t ht e => by
      have := List.all_eq_true.1 hD t ht
      subst e
      simp [hiπs] at this
    refine ⟨by rw [hr]; simp, fun j hj => ?_⟩
    have hji : j = i := by rw [hr] at hj; simpa using hj
    subst hji
    exact ⟨fun h => hne j h rfl, wpOp_mono (fun a' w' h' => ⟨h'.1, wpHL_of_mix hsel hQ hT hD r _ a' w' (fun x hx => hπ x (by simp [hx])) (inv.set hj hne) hB' h'.1 h'.2⟩) h⟩
theorem wpAny_of_seqI : ∀ (τ : List Nat) (listed : Array Bool) (a : Act) (w : World), seqI md ops τ listed = true → wpOps P ops Q τ a w → wpAny P md ops Q τ.length listed a w
  | [], _, _, _, hB, h => ⟨by simpa [seqI] using hB, h⟩
  | t :: r, listed, a, w, hB, h => by
    simp only [seqI, Bool.and_eq_true, decide_eq_true_eq] at hB
    refine ⟨fun h1 => (by rw [hB.1] at h1; cases h1), fun i hi => ?_⟩
    rw [hB.1] at hi
    have hit : i = t := by simpa using hi
    subst hit
    rw [wpOps_cons] at h
    exact wpOp_mono (fun a' w' h' => wpAny_of_seqI r _ a' w' hB.2 h') h
/-- The operations of these numbers. -/
def pickL (l : List Oper) : List Nat → List Oper
  | [] => []
  | i :: r => match l.drop i with | o :: _ => o :: pickL l r | [] => pickL l r
theorem wpOps_pick {l : List Oper} : ∀ (τ : List Nat) (a : Act) (w : World), (τ.all fun t => decide (t < l.length)) = true → wpList P l.toArray Q (pickL l τ) a w → wpOps P l.toArray Q τ a w
  | [], a, w, _, h => h
  | t :: r, a, w, ht, h => by
    simp only [List.all_cons, Bool.and_eq_true, decide_eq_true_eq] at ht
    obtain ⟨ht1, ht2⟩ := ht
    rw [wpOps_cons]
    have hd : l.drop t = l[t] :: l.drop (t + 1) := List.drop_eq_getElem_cons ht1
    simp only [pickL, hd] at h
    unfold wpList at h
    unfold wpOp
    have ho : l.toArray[t]? = some l[t] := by simp [ht1]
    rw [ho]
    simp only []
    split
    · rename_i hw
      simp only [hw, if_true] at h
      exact h.imp (Oper.wp_mono fun a w h => wpOps_pick r a w ht2 h) id
    · rename_i hw
      simp only [hw] at h
      exact wpOps_pick r _ w ht2 h
/-- The walk, its operations written out. -/
def wpMixL (P : Program) (ops : Array Oper) (Q : Exit → Act → World → Prop) (S : World → Prop) (T : Act → World → Prop) : List (Bool × Oper) → Act → World → Prop
  | [], a, w => T a w
  | (true, o) :: r, a, w => ∃ v, YieldsIf P ops S o v a ∧ wpMixL P ops Q S T r (a.put o.dst v) w
  | (false, o) :: r, a, w => if Region.wanted o (yielded ops a.tmps) then o.wp P a w (fun a' w' => S w' ∧ wpMixL P ops Q S T r a' w') Q else S w ∧ wpMixL P ops Q S T r (a.put o.dst undef) w
def pickM (l : List Oper) : List (Bool × Nat) → List (Bool × Oper)
  | [] => []
  | (b, i) :: r => match l.drop i with | o :: _ => (b, o) :: pickM l r | [] => pickM l r
theorem mix_pick {T : Act → World → Prop} {l : List Oper} : ∀ (π : List (Bool × Nat)) (a : Act) (w : World), (π.all fun t => decide (t.2 < l.length)) = true → wpMixL P l.toArray Q S T (pickM l π) a w → wpMix P l.toArray Q S T π a w
  | [], a, w, _, h => h
  | (b, t) :: r, a, w, ht, h => by
    simp only [List.all_cons, Bool.and_eq_true, decide_eq_true_eq] at ht
    obtain ⟨ht1, ht2⟩ := ht
    have hd : l.drop t = l[t] :: l.drop (t + 1) := List.drop_eq_getElem_cons ht1
    have ho : l.toArray[t]? = some l[t] := by simp [ht1]
    simp only [pickM, hd] at h
    cases b
    · show wpOp P l.toArray Q t _ a w
      unfold wpMixL at h
      unfold wpOp
      rw [ho]
      simp only []
      split
      · rename_i hw
        simp only [hw, if_true] at h
        exact .inl (Oper.wp_mono (fun a w h => ⟨h.1, mix_pick r a w ht2 h.2⟩) h)
      · rename_i hw
        simp only [hw] at h
        exact ⟨h.1, mix_pick r _ w ht2 h.2⟩
    · obtain ⟨v, hy, hn⟩ := h
      exact ⟨l[t], v, ho, hy, mix_pick r _ w ht2 hn⟩
/-- **One walk serves every order.** -/
theorem wp_region_mix {id : Nat} {a : Act} {w : World} {l : List Oper} (S : World → Prop) (π : List (Bool × Nat)) (τ : List Nat) (hm : P.follows .mixedOrders = true)
    (hB : (Region.noSelect l.toArray && tailB .any l.toArray (π.map (·.2)) τ && disj (π.map (·.2)) τ && mixB .any l.toArray τ π (Array.replicate l.toArray.size false) && decide (π.length + τ.length = l.length) && (τ.all fun t => decide (t < l.length)) && (π.all fun t => decide (t.2 < l.length))) = true)
    (hQ : ∀ c a d v w, Q (.panic c) (a.put d v) w → Q (.panic c) a w) (hS : S w.drew)
    (h : wpMixL P l.toArray Q S (wpList P l.toArray Q (pickL l τ)) (pickM l π) a w.drew) : (Code.region id l.toArray true).wp P Q a w := by
  simp only [Bool.and_eq_true, decide_eq_true_eq] at hB
  obtain ⟨⟨⟨⟨⟨⟨hsel, hT⟩, hD⟩, hM⟩, hlen⟩, hlt⟩, hlt2⟩ := hB
  refine wp_region_any hm ?_
  have inv0 : MInv .any l.toArray τ (Array.replicate l.toArray.size false) := ⟨fun j oj _ hl => (by rw [getD_replicate_false] at hl; cases hl), fun t _ => getD_replicate_false _ _⟩
  have H := wpHL_of_mix (Q := Q) (P := P) (S := S) hsel hQ hT hD π _ a w.drew (fun x hx => List.mem_map_of_mem hx) inv0 hM hS (mix_pick π a _ hlt2 h)
  have := wpAny_of_hl (g := τ.length) (fun listed a w hL => wpAny_of_seqI τ listed a w hL.1 (wpOps_pick τ a w hlt hL.2)) _ _ _ _ H
  rw [hlen] at this
  simpa using this
/-! ### the steps -/
theorem mix_pure {T : Act → World → Prop} {r : List (Bool × Oper)} {a : Act} {w : World} {o : Oper} (hw : Region.wanted o (yielded ops a.tmps) = true) (hp : valB o.op = true)
    (h : ∀ K : Act → Prop, (∀ a, wpMixL P ops Q S T r a w → K a) → o.quiet P a S K) : wpMixL P ops Q S T ((true, o) :: r) a w :=
  yieldsIf_quiet hp hw (h (fun a => wpMixL P ops Q S T r a w) (fun _ h => h))
theorem mix_skip {T : Act → World → Prop} {r : List (Bool × Oper)} {a : Act} {w : World} {o : Oper} (hw : Region.wanted o (yielded ops a.tmps) = false)
    (h : wpMixL P ops Q S T r (a.put o.dst undef) w) : wpMixL P ops Q S T ((true, o) :: r) a w := ⟨undef, .inr ⟨hw, rfl⟩, h⟩
theorem mix_eff {T : Act → World → Prop} {r : List (Bool × Oper)} {a : Act} {w : World} {o : Oper} (hw : Region.wanted o (yielded ops a.tmps) = true)
    (h : ∀ K : Act → World → Prop, (∀ a w, S w → wpMixL P ops Q S T r a w → K a w) → o.wp P a w K Q) : wpMixL P ops Q S T ((false, o) :: r) a w := by
  unfold wpMixL
  rw [if_pos hw]
  exact h _ fun a w h1 h2 => ⟨h1, h2⟩
theorem mix_nil {T : Act → World → Prop} {a : Act} {w : World} (h : T a w) : wpMixL P ops Q S T [] a w := h
/-- The post of a panic does not hang on the slots. -/
theorem panic_then {K : Act → World → Prop} {fn : Func} {R : Ending → World → Prop} (c : List PanicEntry) (a : Act) (d : Option Tmp) (v : Value) (w : World) (h : Exit.then K (bodyPost P fn R) (.panic c) (a.put d v) w) : Exit.then K (bodyPost P fn R) (.panic c) a w := by cases d <;> exact h
end
end Go.Proofs.Ytmlkmcpcokjogaa
-- XlBody2: xl.Body: an XL frame's data part, where the frame may be. No condition.
namespace Go.Proofs.Ytmlkmcpcokjogaa
open Go.RowKit
theorem Tally_row (x : Int) (n : Nat) (w : World) (ex : x = (n : Int)) (hn : n ≤ 1000000) :
    Calls Try.prog 122 #[.int .i64 x] w fun e w' => (∃ A' c', e = .returned (.tuple #[.slice A' 4 c', .int .i64 0]) ∧ Row w' w.heap.size 5 A' c' (bys (tallyN n))) ∧ Below w.heap.size w w' := by subst ex; exact Tally_any n w hn
set_option maxRecDepth 100000 in
set_option maxHeartbeats 4000000 in
theorem XlBody_ok (f : Fr) (A : Option Addr) (c : Nat) (w : World) (hk : f.kind = 3) (hok : okF f = true) (h0 : 0 ≤ f.id) (hs : 0 ≤ f.sdt ∧ f.sdt < 256) (hv : 0 ≤ f.vcid ∧ f.vcid < 256) (ha : 0 ≤ f.af ∧ f.af < 4294967296) (hr : Rd w A (bys f.data)) (hby : isBytes f.data) :
    Calls Try.prog 92 #[frv f (.slice A f.data.length c)] w fun e w' => (∃ A' c', e = .returned (.tuple #[.slice A' (109 + 8 * f.data.length : Nat) c', .int .i64 0]) ∧ Row w' w.heap.size 5 A' c' (bys (bodyX f))) ∧ Below w.heap.size w w' := by
  obtain ⟨i0, hi, hz0, hz1, hz2⟩ := info_parts info_u8
  obtain ⟨hid, hn1, hn2, hcode⟩ := okX f hk hok
  have HC := Lib.hid (fun W => Check_any f A c W (by omega))
  rw [hok] at HC
  have he : errV true = .int .i64 0 := rfl
  rw [he] at HC
  have HH := Lib.hid (fun W => headX_any f A f.data.length c W h0 hid)
  obtain ⟨NR, hNR⟩ : ∃ NR, (stuffN (headX f)).length = NR := ⟨_, rfl⟩
  have hNR2 : 17 ≤ NR ∧ NR ≤ 22 := by
    have a := stuffN_ge (headX f); have b := stuffN_le (headX f); rw [headX_length] at a b; omega
  have HST := Lib.hid (fun (W : World) (A2 : Option Addr) (c2 : Nat) (hW : Rd W A2 (bys (headX f))) => StuffPut_any W A2 c2 17 NR (headX f) hW (headX_length f) (by omega) (headX_bits f) hNR)
  have HCO := Lib.hid (fun W => Code_any f.kind f.data.length W (by omega) (by omega))
  rw [hcode] at HCO
  have hcv : codeV (some ((f.data.length : Int) - 1)) = .tuple #[.int .i64 ((f.data.length : Int) - 1), .int .i64 0] := rfl
  rw [hcv] at HCO
  have hp1 : part1X f = bitsN f.sdt.toNat 8 ++ bitsN (bitB f.sec) 1 ++ bitsN (f.data.length - 1) 11 ++ tallyN (NR - 17) := by
    unfold part1X codeX; rw [hcode, hNR]
    have : ((some ((f.data.length : Int) - 1)).getD 0).toNat = f.data.length - 1 := by simp
    rw [this]
  have HP1 := Lib.hid hp1
  have HR := Lib.hid hr
  have HBY := Lib.hid hby
  obtain ⟨sdtN, hsdt⟩ := Int.eq_ofNat_of_zero_le hs.1
  obtain ⟨vcN, hvc⟩ := Int.eq_ofNat_of_zero_le hv.1
  obtain ⟨afN, haf⟩ := Int.eq_ofNat_of_zero_le ha.1
  have hs2 : sdtN < 256 := by omega
  have hv2 : vcN < 256 := by omega
  have ha2 : afN < 4294967296 := by omega
  have hb1 := part1X_bits f
  have hb3 := part3X_bits f
  have hbh := headX_bits f
  have hlh := headX_length f
  have hq1 := part1X_length f
  have hq2 := part2X_length f
  have hq3 := part3X_length f
  have hd2 : part2X f = part1X f ++ bitsN (crcN 13 6631 1 (headX f ++ part1X f)) 13 := rfl
  have hd3 : part3X f = part2X f ++ bitsN f.vcid.toNat 8 ++ bitsN f.af.toNat 32 ++ bytesN f.data := rfl
  have hd4 : bodyX f = part3X f ++ bitsN (crcN 32 4104977171 1 ([] ++ part3X f)) 32 := rfl
  obtain ⟨hX, hhX⟩ : ∃ hX, headX f = hX := ⟨_, rfl⟩
  obtain ⟨P1, hP1⟩ : ∃ P1, part1X f = P1 := ⟨_, rfl⟩
  obtain ⟨P2, hP2⟩ : ∃ P2, part2X f = P2 := ⟨_, rfl⟩
  obtain ⟨P3, hP3⟩ : ∃ P3, part3X f = P3 := ⟨_, rfl⟩
  obtain ⟨BX, hBX⟩ : ∃ BX, bodyX f = BX := ⟨_, rfl⟩
  rw [hP1] at HP1 hb1 hd2 hq1
  rw [hP2] at hd2 hd3 hq2
  rw [hP3] at hd3 hd4 hb3 hq3
  rw [hBX] at hd4 ⊢
  rw [hhX] at HH HST hbh hlh hd2
  have HBIT1 := Lib.hid hb1
  have HBIT3 := Lib.hid hb3
  have HBITH := Lib.hid hbh
  have HLH := Lib.hid hlh
  have HQ1 := Lib.hid hq1
  have HQ2 := Lib.hid hq2
  have HQ3' := Lib.hid hq3
  have HD2 := Lib.hid hd2
  have HD3 := Lib.hid hd3
  have HD4 := Lib.hid hd4
  clear hb1 hb3 hbh hlh hq1 hq2 hq3 hd2 hd3 hd4 hP1 hP2 hP3 hBX
  obtain ⟨kind, id, ext, rtr, brs, esi, sec, sdt, vcid, af, data⟩ := f
  dsimp only [frv] at *
  subst hk hsdt hvc haf
  obtain ⟨n, hn⟩ : ∃ n, data.length = n := ⟨_, rfl⟩
  have HN := Lib.hid hn
  rw [hn] at HC HH HCO HP1 ⊢
  rw [hn] at hn1 hn2
  clear hr hby hs hv ha hok he h0 hid hNR hcode hcv hp1
  go_enter Try.func92, Try.ntmps92
  go_wp2_with fail
  refine calls_blk1 (fun W0 q1 hb => ?_)
  have HB := Lib.hid hb
  obtain ⟨a0, a1, a2, a3, a4, a5, a6, a7, a8, a9, a10⟩ := ext11 q1
  have hsz := ext_lt q1
  clear hb q1
  refine (extc_same (HC.out _)).mono ?_
  rintro x _ ⟨e1, rfl, rfl⟩
  go_wp2_with fail
  refine (extcB (HH.out e1.W)).mono ?_
  rintro x _ ⟨e2, rfl, -, A2, c2, rfl, hrow2⟩
  have HROW2 := Lib.hid hrow2
  clear hrow2
  go_wp2_with fail
  refine (extcB (HST.out e2.W A2 c2 HROW2.out.rd)).mono ?_
  rintro x _ ⟨e3, rfl, HB3, A3, c3, rfl, -⟩
  go_wp2_with fail
  refine (extcB (HCO.out e3.W)).mono ?_
  rintro x _ ⟨e4, rfl, HB4, rfl⟩
  go_wp2_with fail
  refine (extcB (Tally_row _ (NR - 17) e4.W ?c1 (by omega))).mono ?_
  case c1 => omega
  rintro x _ ⟨e5, rfl, HB5, A5, c5, rfl, hrow5⟩
  have HROW5 := Lib.hid hrow5
  have HROW25 := Lib.hid (((HROW2.out.below HB3.out).below HB4.out).below HB5.out)
  clear hrow5
  go_wp2_with fail
  obtain ⟨p, hp⟩ : ∃ p, e5.W.heap.size = p := ⟨_, rfl⟩
  have hwp : w.heap.size < p := by rw [← hp]; exact hsz e5
  have l2 := HROW25.out.rd.lt
  have l5 := HROW5.out.rd.lt
  rw [hp] at l2 l5
  rw [hp]
  refine calls_name (T := fun W1 => W1.heap[p]? = some (.cells #[.slice none 0 0] 198) ∧ Below W0.heap.size W0 W1 ∧ Rd W1 A2 (bys hX) ∧ Rd W1 A5 (bys (tallyN (NR - 17)))) ⟨heap_new_at hp.symm, below_alloc e5.below _, HROW25.out.rd.alloc _, HROW5.out.rd.alloc _⟩ ?_
  rintro W1 ⟨q2, hb1, hr2, hr5⟩
  have hpot : Pot W1 (p + 1) p 198 none 0 [] := ⟨q2, fun _ e => (by cases e), heap_lt q2, Row.nil _ _ _⟩
  have g6 : W1.cell? ⟨w.heap.size, 6, none⟩ = some (.bool sec) := a6 ⟨W1, hb1⟩
  have g8 : W1.cell? ⟨w.heap.size, 8, none⟩ = some (.int .u8 (vcN : Int)) := a8 ⟨W1, hb1⟩
  have g9 : W1.cell? ⟨w.heap.size, 9, none⟩ = some (.int .u32 (afN : Int)) := a9 ⟨W1, hb1⟩
  have g10 : W1.cell? ⟨w.heap.size, 10, none⟩ = some (.slice A n c) := a10 ⟨W1, hb1⟩
  have b6 := fun e : KE (p + 1) p W1 => ke_cell g6 (by show w.heap.size < _; omega) (by show w.heap.size ≠ _; omega) e
  have b8 := fun e : KE (p + 1) p W1 => ke_cell g8 (by show w.heap.size < _; omega) (by show w.heap.size ≠ _; omega) e
  have b9 := fun e : KE (p + 1) p W1 => ke_cell g9 (by show w.heap.size < _; omega) (by show w.heap.size ≠ _; omega) e
  have b10 := fun e : KE (p + 1) p W1 => ke_cell g10 (by show w.heap.size < _; omega) (by show w.heap.size ≠ _; omega) e
  have HR2 := Lib.hid (fun e : KE (p + 1) p W1 => hr2.keep e.keep (fun ad h1 h2 => by have := l2 ad h1 h2; omega))
  have HR5 := Lib.hid (fun e : KE (p + 1) p W1 => hr5.keep e.keep (fun ad h1 h2 => by have := l5 ad h1 h2; omega))
  have HPOT := Lib.hid hpot
  have HBW1 := Lib.hid hb1
  clear a0 a1 a2 a3 a4 a5 a6 a7 a8 a9 a10 hsz hp q2 hb1 hr2 hr5 hpot l2 l5 HC HH HST HCO g6 g8 g9 g10
  refine (kec_same (xlPut_row _ _ _ _ _ _ _ _ sdtN 8 _ ?d1 rfl HPOT.out (by omega) (by omega) (by omega) (by simp))).mono ?_
  case d1 => first | rfl | omega
  rintro x _ ⟨k1, rfl, rfl, B1, d1, hp1⟩
  have HP1' := Lib.hid hp1
  clear hp1
  obtain ⟨sb, hsb⟩ : ∃ sb, bitB sec = sb := ⟨_, rfl⟩
  have hsb2 : sb < 2 := by rw [← hsb]; cases sec <;> decide
  have HSB := Lib.hid hsb
  rw [hsb] at HP1
  clear hsb
  cases sec
  all_goals
    go_wp2_with fail
    refine (kec (xlPut_row _ _ _ _ _ _ _ _ sb 1 _ (by rw [← HSB.out]; rfl) rfl HP1'.out (by omega) (by omega) (by omega) (by simp [bitsN_length]))).mono ?_
    rintro x _ ⟨k2, rfl, rfl, B2, d2, hp2⟩
    have HP2' := Lib.hid hp2
    clear hp2
    go_wp2_with fail
    refine (kec (xlPut_row _ _ _ _ _ _ _ _ (n - 1) 11 _ ?d3 rfl HP2'.out (by omega) (by omega) (by omega) (by simp [bitsN_length]))).mono ?_
    case d3 => first | rfl | omega
    rintro x _ ⟨k3, rfl, rfl, B3, d3, hp3⟩
    have HP3' := Lib.hid hp3
    clear hp3
    obtain ⟨L3, hL3⟩ : ∃ L, L = [] ++ bitsN sdtN 8 ++ bitsN (sb) 1 ++ bitsN (n - 1) 11 := ⟨_, rfl⟩
    have hq3 : Pot k3.W (p + 1) p 198 B3 d3 L3 := by rw [hL3]; exact HP3'.out
    have hl3 : L3.length = 20 := by rw [hL3]; simp [bitsN_length]
    have c03 : k3.W.cell? ⟨p, 0, none⟩ = some (.slice B3 20 d3) := by rw [← hl3]; exact hq3.cell
    have z03 : k3.W.frozen? ⟨p, 0, none⟩ = false := hq3.frozen
    have sp : p < k3.W.heap.size := heap_lt hq3.box
    have HQ3 := Lib.hid hq3
    have HL3 := Lib.hid hl3
    have HE3 := Lib.hid hL3
    clear hq3 hl3 hL3
    go_wp2_with (at_builtin; refine wpList_pot (W0 := k3.W) HQ3.out (Keep.refl _ _ _) rfl (.tmp 61) (.tmp 62) 40 rfl i0 _ 1 Try.underlying40 hi hz0 hz1 hz2 rfl 20 HL3.out rfl A5 4 c5 (tallyN (NR - 17)) rfl (tallyN_length _) (HR5.out k3) (fun h => absurd (congrArg List.length h) (by rw [tallyN_length]; decide)) 24 rfl (by unfold maxLen; omega) (by omega) ?_; intro w4 A4 c4 HP4 c04 z04)
    obtain ⟨p4, kp4⟩ := HP4.out.store (n := 24) (by rw [List.length_append, HL3.out, tallyN_length])
    obtain ⟨k4, hk4⟩ : ∃ k4 : KE (p + 1) p W1, k4.W = w4.setCell ⟨p, 0, none⟩ (.slice A4 24 c4) := ⟨⟨_, k3.keep.trans kp4⟩, rfl⟩
    have e4 : L3 ++ tallyN (NR - 17) = P1 := by rw [HP1.out, HE3.out]; simp
    rw [e4, ← hk4] at p4
    rw [← hk4]
    refine (kec (xlSeal_any of_4 k4.W (p + 1) p 198 A4 A2 c4 c2 17 P1 hX p4 ⟨HR2.out k4, fun h => absurd (congrArg List.length h) (by rw [HLH.out]; decide)⟩ HLH.out (by rw [HQ1.out]; decide) (fun x hx => by rcases List.mem_append.1 hx with h | h; exact HBITH.out x h; exact HBIT1.out x h))).mono ?_
    rintro x _ ⟨k5, rfl, rfl, B5, d5, hp5⟩
    rw [← HD2.out] at hp5
    have HP5' := Lib.hid hp5
    clear hp5
    go_wp2_with fail
    refine (kec (xlPut_row _ _ _ _ _ _ _ _ vcN 8 _ ?d6 rfl HP5'.out (by omega) (by omega) (by omega) (by rw [HQ2.out]; decide))).mono ?_
    case d6 => first | rfl | omega
    rintro x _ ⟨k6, rfl, rfl, B6, d6, hp6⟩
    have HP6' := Lib.hid hp6
    clear hp6
    go_wp2_with fail
    refine (kec (xlPut_row _ _ _ _ _ _ _ _ afN 32 _ ?d7 rfl HP6'.out (by omega) (by omega) (by omega) (by rw [List.length_append, HQ2.out, bitsN_length]; decide))).mono ?_
    case d7 => first | rfl | omega
    rintro x _ ⟨k7, rfl, rfl, B7, d7, hp7⟩
    obtain ⟨L7, hL7⟩ : ∃ L, P2 ++ bitsN vcN 8 ++ bitsN afN 32 = L := ⟨_, rfl⟩
    rw [hL7] at hp7
    have hl7 : L7.length = 77 := by rw [← hL7]; simp [bitsN_length, HQ2.out]
    have c07 : k7.W.cell? ⟨p, 0, none⟩ = some (.slice B7 77 d7) := by rw [← hl7]; exact hp7.cell
    have g10 := b10 k7
    have HP7' := Lib.hid hp7
    have HL7 := Lib.hid hl7
    have HE7 := Lib.hid hL7
    have hrdA : Rd k7.W A (bys data) := ((HR.out.below HB.out).below HBW1.out).keep k7.keep (fun ad h1 h2 => by have := HR.out.lt ad h1 h2; omega)
    have HRA := Lib.hid hrdA
    clear hp7 hl7 hL7 hrdA
    have x07 := fun e : Ext k7.W => ext_cell c07 e
    have x10 := fun e : Ext k7.W => ext_cell g10 e
    clear c07 g10
    go_wp2_with fail
    refine wp_region_mix (fun w' => ∃ e : Ext k7.W, w' = e.W) [(true, 0), (true, 1), (true, 2), (true, 3), (false, 4)] [5, 6, 7] (by kernel_rfl) (by kernel_rfl) (by intro _ _ d _ _ h; cases d <;> exact h) ⟨⟨k7.W.drew, (Below.refl _ _).drew⟩, rfl⟩ ?_
    simp only [pickM, pickL, List.drop_succ_cons, List.drop_zero]
    repeat (refine mix_pure (by rfl) (by rfl) ?_; intro K hK; go_big_quiet_op; go_big_quiet_on)
    refine mix_eff (by rfl) ?_
    intro K hK
    go_simp
    refine (Bytes_any _ A c n data HRA.out.drew HN.out (by omega) HBY.out).mono ?_
    rintro x w8 ⟨⟨A8, c8, rfl, hrow8⟩, hb8⟩
    have hb78 : Below k7.W.heap.size k7.W w8 := below_trans (Below.refl _ _).drew hb8
    refine hK _ _ ⟨⟨w8, hb78⟩, rfl⟩ ?_
    clear hK K x07 x10
    refine mix_nil ?_
    have HROW8 := Lib.hid hrow8
    have HP8 := Lib.hid (HP7'.out.below hb78)
    have HK8 := Lib.hid (Keep.of (B := p + 1) (b := p) hb78 HP7'.out.size)
    clear hrow8 hb8 hb78
    go_wp2_with (at_builtin; refine wpList_pot (W0 := k7.W) HP8.out HK8.out rfl (.tmp 76) (.tmp 79) 40 rfl i0 _ 1 Try.underlying40 hi hz0 hz1 hz2 rfl 77 HL7.out rfl A8 (8 * n) c8 (bytesN data) rfl (by rw [bytesN_length, HN.out]) HROW8.out.rd (fun _ e => HROW8.out.none_ e) (77 + 8 * n) rfl (by unfold maxLen; omega) (by omega) ?_; intro w9 A9 c9 HP9 c09 z09)
    obtain ⟨p9, kp9⟩ := HP9.out.store (n := 77 + 8 * n) (by rw [List.length_append, HL7.out, bytesN_length, HN.out])
    obtain ⟨k9, hk9⟩ : ∃ k9 : KE (p + 1) p W1, k9.W = w9.setCell ⟨p, 0, none⟩ (.slice A9 (77 + 8 * n) c9) := ⟨⟨_, k7.keep.trans kp9⟩, rfl⟩
    have e9 : L7 ++ bytesN data = P3 := by rw [HD3.out, ← HE7.out]; simp
    rw [e9, ← hk9] at p9
    rw [← hk9]
    refine (kec (xlSeal_any of_5 k9.W (p + 1) p 198 A9 none c9 0 0 P3 [] p9 ⟨Rd.nil _ _, fun _ _ => rfl⟩ rfl (by rw [HQ3'.out]; omega) (fun x hx => by rw [List.nil_append] at hx; exact HBIT3.out x hx))).mono ?_
    rintro x _ ⟨k10, rfl, rfl, B10, d10, hp10⟩
    rw [← HD4.out] at hp10
    have hlb : BX.length = 109 + 8 * n := by rw [HD4.out, List.length_append, bitsN_length, HQ3'.out, HN.out]; omega
    have c10 : k10.W.cell? ⟨p, 0, none⟩ = some (.slice B10 (109 + 8 * n : Nat) d10) := by rw [← hlb]; exact hp10.cell
    have HP10 := Lib.hid hp10
    have HLB := Lib.hid hlb
    clear hp10 hlb
    go_wp2_with fail
    go_ret2
    exact ⟨⟨B10, d10, rfl, HP10.out.row.mono (by omega)⟩, below_trans HB.out (HBW1.out) |>.trans (k10.keep.below (by omega) (by omega))⟩
end Go.Proofs.Ytmlkmcpcokjogaa
-- Fixed0: fixed's line: how a row of raw bits is gone through. No condition.
namespace Go.Proofs.Ytmlkmcpcokjogaa
open Go.RowKit
abbrev lineC (ev : Nat) (ah : Bool) (last left : Nat) : Obj := .cells #[.int .i64 ev, .bool ah, .int .u8 last, .int .i64 left] 230
theorem due_any (b ev last left : Nat) (ah : Bool) (w : World) (h : w.heap[b]? = some (lineC ev ah last left)) :
    Calls Try.prog 132 #[.pointer (some ⟨b, 0, none⟩)] w fun e w' => e = .returned (.bool (decide (left = 0))) ∧ w = w' := by
  have c3 : w.cell? ⟨b, 3, none⟩ = some (.int .i64 left) := cell_of_heap h 3 _ rfl
  go_enter Try.func132, Try.ntmps132
  go_wp2
  go_ret
  exact ⟨ret_bool (by rw [Bool.eq_iff_iff]; simp), rfl⟩
set_option maxHeartbeats 1000000 in
theorem lineSee_any (b ev last left x : Nat) (ah : Bool) (w : World) (h : w.heap[b]? = some (lineC ev ah last left)) (hl : 1 ≤ left) (hl2 : left ≤ 1000) :
    Calls Try.prog 134 #[.pointer (some ⟨b, 0, none⟩), .int .u8 x] w fun e w' => e = .returned (.tuple #[]) ∧ w'.heap[b]? = some (lineC ev ah x (left - 1)) ∧ Touch b b w w' := by
  have c2 : w.cell? ⟨b, 2, none⟩ = some (.int .u8 last) := cell_of_heap h 2 _ rfl
  have c3 : w.cell? ⟨b, 3, none⟩ = some (.int .i64 left) := cell_of_heap h 3 _ rfl
  have z2 : w.frozen? ⟨b, 2, none⟩ = false := by simp [World.frozen?, h]
  have z3 : w.frozen? ⟨b, 3, none⟩ = false := by simp [World.frozen?, h]
  have HH := Lib.hid h
  clear h
  go_enter Try.func134, Try.ntmps134
  go_wp2
  go_end0
  refine ⟨rfl, ?_, ((Touch.refl b b w).setCell (p := ⟨b, 2, none⟩) (.inl rfl) _).setCell (p := ⟨b, 3, none⟩) (.inl rfl) _⟩
  rw [heap_setCell (heap_setCell HH.out 2 _) 3 _]
  simp
  omega
set_option maxHeartbeats 1000000 in
theorem lineStuff_any (b ev last left : Nat) (ah : Bool) (w : World) (h : w.heap[b]? = some (lineC ev ah last left)) (hl : last ≤ 1) :
    Calls Try.prog 133 #[.pointer (some ⟨b, 0, none⟩)] w fun e w' => e = .returned (.int .u8 (1 - last : Nat)) ∧ w'.heap[b]? = some (lineC ev ah (1 - last) ev) ∧ Touch b b w w' := by
  have c0 : w.cell? ⟨b, 0, none⟩ = some (.int .i64 ev) := cell_of_heap h 0 _ rfl
  have c2 : w.cell? ⟨b, 2, none⟩ = some (.int .u8 last) := cell_of_heap h 2 _ rfl
  have c3 : w.cell? ⟨b, 3, none⟩ = some (.int .i64 left) := cell_of_heap h 3 _ rfl
  have z2 : w.frozen? ⟨b, 2, none⟩ = false := by simp [World.frozen?, h]
  have z3 : w.frozen? ⟨b, 3, none⟩ = false := by simp [World.frozen?, h]
  have HH := Lib.hid h
  clear h
  go_enter Try.func133, Try.ntmps133
  go_wp2
  go_region
  go_wp2
  have e1 : (1 : Int) - (last : Int) = ((1 - last : Nat) : Int) := by omega
  go_ret
  refine ⟨ret_int (by omega), ?_, (((Touch.refl b b w).setCell (p := ⟨b, 2, none⟩) (.inl rfl) _).setCell (p := ⟨b, 3, none⟩) (.inl rfl) _).drew⟩
  show ((w.setCell _ _).setCell _ _).heap[b]? = _
  rw [heap_setCell (heap_setCell HH.out 2 _) 3 _, e1]
  simp
abbrev wayV (ev : Nat) (ah : Bool) : Value := .agg #[.int .i64 ev, .bool ah]
theorem may_any (ev : Nat) (ah : Bool) (w : World) (h1 : 1 ≤ ev) (h2 : ev ≤ 64) :
    Calls Try.prog 151 #[wayV ev ah] w fun e w' => e = .returned (.bool true) ∧ Below w.heap.size w w' := by
  have a1 : (1 : Int) ≤ (ev : Int) := by omega
  have a2 : (ev : Int) ≤ 64 := by omega
  go_enter Try.func151, Try.ntmps151
  go_wp2
  go_ret
  exact ⟨by first | rfl | simp, below_alloc (Below.refl _ _) _⟩
theorem begin_any (ev prev : Nat) (ah : Bool) (w : World) :
    Calls Try.prog 131 #[wayV ev ah, .int .u8 prev] w fun e w' => e = .returned (.pointer (some ⟨w.heap.size + 1, 0, none⟩)) ∧ w'.heap[w.heap.size + 1]? = some (lineC ev ah prev (if ah then 0 else ev)) ∧ w'.heap.size = w.heap.size + 1 + 1 ∧ Below w.heap.size w w' := by
  have hb := below_alloc (below_alloc (Below.refl w.heap.size w) (.cells #[.int .i64 ev, .bool ah] 159)) (.cells #[.int .i64 ev, .bool ah, .int .u8 prev, .int .i64 ev] 230)
  cases ah
  · go_enter Try.func131, Try.ntmps131
    go_wp2
    go_ret
    exact ⟨rfl, heap_new_at (by simp), by simp, hb⟩
  · go_enter Try.func131, Try.ntmps131
    go_wp2
    go_ret
    exact ⟨rfl, heap_new_at (by simp), by simp, below_alloc (below_alloc (Below.refl _ _) _) _⟩
def fsize (n ev : Nat) (ah : Bool) : Nat := if n = 0 then 0 else n + (n - 1) / ev + (if ah then 1 else 0)
theorem FSize_any (n ev : Nat) (ah : Bool) (w : World) (h1 : 1 ≤ ev) (h2 : ev ≤ 64) (hn : n ≤ 65536) :
    Calls Try.prog 129 #[.int .i64 n, wayV ev ah] w fun e w' => e = .returned (.tuple #[.int .i64 (fsize n ev ah : Nat), .int .i64 0]) ∧ Below w.heap.size w w' := by
  have HM := Lib.hid (fun W => may_any ev ah W h1 h2)
  have a0 : ¬ (n : Int) < 0 := by omega
  have a1 : ¬ (65536 : Int) < (n : Int) := by omega
  have hev : ¬ (ev : Int) = 0 := by omega
  obtain ⟨q, hq⟩ : ∃ q, (n - 1) / ev = q := ⟨_, rfl⟩
  have hqle : q ≤ n := by rw [← hq]; exact Nat.le_trans (Nat.div_le_self _ _) (by omega)
  by_cases hn0 : n = 0
  · subst hn0
    clear hq hqle
    go_enter Try.func129, Try.ntmps129
    go_wp2_with fail
    refine (HM.out _).mono ?_
    rintro e w1 ⟨rfl, hb⟩
    have HB := Lib.hid (below_trans (below_alloc (Below.refl _ w) _) hb)
    clear hb
    go_wp2_with fail
    go_ret2
    exact ⟨rfl, HB.out⟩
  · have hnz : ((n : Int) == 0) = false := by rw [beq_eq_false_iff_ne]; omega
    have hdiv : ((n : Int) - 1).tdiv (ev : Int) = (q : Int) := by
      rw [Int.tdiv_eq_ediv_of_nonneg (by omega), ← hq]
      have : (n : Int) - 1 = ((n - 1 : Nat) : Int) := by omega
      rw [this]; simp
    have hfs : (fsize n ev ah : Int) = (n : Int) + (q : Int) + (if ah then 1 else 0) := by
      unfold fsize; rw [if_neg hn0, hq]; cases ah <;> simp
    have HFS := Lib.hid hfs
    clear hq hfs
    go_enter Try.func129, Try.ntmps129
    go_wp2_with fail
    refine calls_name (T := fun W1 => W1.heap[w.heap.size]? = some (.cells #[.int .i64 ev, .bool ah] 159) ∧ Below w.heap.size w W1) ⟨heap_new_at rfl, below_alloc (Below.refl _ _) _⟩ ?_
    rintro W1 ⟨q1, hb1⟩
    refine (HM.out _).mono ?_
    rintro e w1 ⟨rfl, hb⟩
    have c0 := cell_of_heap (heap_below hb q1) 0 _ rfl
    have c1 : w1.cell? ⟨w.heap.size, 1, none⟩ = some (.bool ah) := cell_of_heap (heap_below hb q1) 1 _ rfl
    have HB := Lib.hid (below_trans hb1 hb)
    clear hb q1 hb1
    cases ah
    · go_wp2_with fail
      go_ret2
      exact ⟨ret_fst (by have := HFS.out; simp at this; omega), HB.out⟩
    · go_wp2_with fail
      go_ret2
      exact ⟨ret_fst (by have := HFS.out; simp at this; omega), HB.out⟩
theorem fcheck_any (prev ev n c : Nat) (ah : Bool) (A : Option Addr) (l : List Nat) (w : World) (h1 : 1 ≤ ev) (h2 : ev ≤ 64) (hp : prev ≤ 1) (hr : Rd w A (bys l)) (hn : l.length = n) (hn2 : n ≤ 65536) (h01 : ∀ x ∈ l, x ≤ 1) :
    Calls Try.prog 130 #[.int .u8 prev, .slice A n c, wayV ev ah] w fun e w' => e = .returned (.bool true) ∧ Below w.heap.size w w' := by
  have hok : bitsOk l = true := by unfold bitsOk; rw [decide_eq_true (by omega : l.length ≤ 65536), decide_eq_true h01]; rfl
  have hC := fun W (hW : Rd W A (bys l)) => BitsCheck_any A n c l W hW hn (by omega)
  rw [hok, if_pos rfl] at hC
  have HC := Lib.hid hC
  have HM := Lib.hid (fun W => may_any ev ah W h1 h2)
  have HR := Lib.hid hr
  have hp1 : (prev : Int) ≤ 1 := by omega
  clear hok hC hr h01
  go_enter Try.func130, Try.ntmps130
  go_wp2_with fail
  refine (HC.out _ (HR.out.alloc _)).mono ?_
  rintro e _ ⟨rfl, rfl⟩
  go_wp2_with fail
  refine (HM.out _).mono ?_
  rintro e w1 ⟨rfl, hb⟩
  have HB := Lib.hid (below_trans (below_alloc (Below.refl _ w) _) hb)
  clear hb
  go_wp2_with fail
  go_ret
  exact ⟨by first | rfl | simp, HB.out⟩
end Go.Proofs.Ytmlkmcpcokjogaa
-- FixedPut: fixed.Put: bits with fixed stuff bits. No condition.
namespace Go.Proofs.Ytmlkmcpcokjogaa
open Go.RowKit
/-- append to a row of the call's own: below the row's base nothing is turned. -/
theorem wpList_appB {P : Program} {W : World} {ops : Array Oper} {rest : List Oper} {o : Oper} {a : Act} {Q : Exit → Act → World → Prop} (hgd : o.guard = none) (s x : Operand) (t : TypeId)
    (ho : o.op = .call { callee := .builtin .append, args := #[s, x], argTypes := #[t, t] })
    (base : Nat) (e : TypeId) (i : TypeInfo) (z : Value) (bytes : Nat) (ht : P.underlying t = some (.slice e)) (hi : P.info? e = some i) (hz : i.zero = some z)
    (hsize : i.size = 1) (hby : i.bytes = bytes) (hzs : z.cells.size = 1)
    (A : Option Addr) (n c : Nat) (xs : List Value) (hs : a.eval s = .slice A n c) (hn : xs.length = n) (hown : Row W base e A c xs)
    (B : Option Addr) (m d : Nat) (news : List Value) (hx : a.eval x = .slice B m d) (hm : news.length = m) (hr : Rd W B news) (h1 : ∀ u ∈ news, u.oneCell' = true) (hd : news = [] → B = none → d = 0)
    (N : Nat) (hN : n + m = N) (h63 : N ≤ maxLen) (hbytes : N * bytes ≤ 140737488355328) (hbase : base ≤ W.heap.size)
    (h : ∀ (w3 : World) (A3 : Option Addr) (c3 : Nat), Hid (Row w3 base e A3 c3 (xs ++ news)) → Hid (Below base W w3) → wpList P ops Q rest (a.put o.dst (.slice A3 N c3)) w3) : wpList P ops Q (o :: rest) a W := by
  subst hN hm hn
  refine wpList_app W hgd s x t ho base e i z bytes ht hi hz hsize hby hzs (.slice A xs.length c) xs.length xs hs hown B news.length d news hx rfl hr h1 hd h63 hbytes hbase fun v' w' h2 h3 _ => ?_
  obtain ⟨A3, c3, rfl, hrow⟩ := Row.of h2 (by simp)
  have := h w' A3 c3 hrow (own_grown hown (Below.refl base W) (Nat.le_refl _) hbase h3)
  simpa using this
theorem below_heap {B g : Nat} {w w' : World} {o : Obj} (h : Below B w w') (hg : g < B) (ho : w.heap[g]? = some o) : w'.heap[g]? = some o := (h.block g hg).trans ho
theorem fixE_step {every last left x : Nat} {l out full : List Nat} (h : out ++ fixE every last left (x :: l) = full) :
    (left = 0 → (out ++ [1 - last] ++ [x]) ++ fixE every x (every - 1) l = full) ∧ (left ≠ 0 → (out ++ [x]) ++ fixE every x (left - 1) l = full) := by
  constructor
  · intro h0
    rw [← h, fixE, if_pos h0]; simp
  · intro h0
    rw [← h, fixE, if_neg h0]; simp
set_option maxRecDepth 100000 in
set_option maxHeartbeats 4000000 in
theorem FixedPut_any (w : World) (A : Option Addr) (prev ev c n N : Nat) (ah : Bool) (l : List Nat) (h1 : 1 ≤ ev) (h2 : ev ≤ 64) (hp : prev ≤ 1) (hr : Rd w A (bys l)) (hn : l.length = n) (hn1 : 1 ≤ n) (hn2 : n ≤ 30000) (h01 : ∀ x ∈ l, x ≤ 1) (hN : (fixN ev ah prev l).length = N) :
    Calls Try.prog 95 #[.int .u8 prev, .slice A n c, wayV ev ah] w fun e w' => (∃ A' c', e = .returned (.tuple #[.slice A' N c', .int .i64 0]) ∧ Row w' w.heap.size 5 A' c' (bys (fixN ev ah prev l))) ∧ Below w.heap.size w w' := by
  obtain ⟨i0, hi, hz0, hz1, hz2⟩ := info_parts info_u8
  have hNf : N = fsize n ev ah := by
    rw [← hN, fixN_length ev ah prev l h1, hn]; rfl
  have hN2 : N ≤ 65536 ∧ 1 ≤ N := by
    rw [hNf]; unfold fsize; rw [if_neg (by omega)]
    have h3 : (n - 1) / ev ≤ n - 1 := Nat.div_le_self _ _
    generalize (n - 1) / ev = q at h3 ⊢
    split <;> omega
  have hS := fun W => FSize_any n ev ah W h1 h2 (by omega)
  rw [← hNf] at hS
  have HS := Lib.hid hS
  have HC := Lib.hid (fun W (hW : Rd W A (bys l)) => fcheck_any prev ev n c ah A l W h1 h2 hp hW hn (by omega) h01)
  have HR := Lib.hid hr
  have HN := Lib.hid hn
  have H01 := Lib.hid h01
  have HNN := Lib.hid hN
  have hN3 : ¬ (65536 : Int) < (N : Int) := by omega
  have hN4 : (0 : Int) ≤ (N : Int) := by omega
  clear hS hr hn h01 hN hNf
  go_enter Try.func95, Try.ntmps95
  go_wp2_with fail
  refine calls_name (T := fun W1 => W1.heap[w.heap.size]? = some (.cells #[.int .i64 ev, .bool ah] 159) ∧ Below w.heap.size w W1) ⟨heap_new_at rfl, below_alloc (Below.refl _ _) _⟩ ?_
  rintro W1 ⟨q1, hb1⟩
  have a0 := fun e : Ext W1 => ext_cell (cell_of_heap q1 0 _ rfl) e
  have a1 : ∀ e : Ext W1, e.W.cell? ⟨w.heap.size, 1, none⟩ = some (.bool ah) := fun e => ext_cell (cell_of_heap q1 1 _ rfl) e
  have hsz := ext_lt q1
  have HB1 := Lib.hid hb1
  clear q1 hb1
  refine (extc_same (HS.out _)).mono ?_
  rintro x _ ⟨e1, rfl, rfl⟩
  go_wp2_with fail
  refine (extc (HC.out e1.W ((HR.out.below HB1.out).ext e1))).mono ?_
  rintro x _ ⟨e2, rfl, rfl⟩
  go_wp2_with fail
  refine (begin_any ev prev ah e2.W).mono ?_
  rintro x W2 ⟨rfl, hline, hsz2, hb2⟩
  obtain ⟨g, hg⟩ : ∃ g, e2.W.heap.size + 1 = g := ⟨_, rfl⟩
  rw [hg] at hline hsz2
  rw [hg]
  have hwg : w.heap.size ≤ g := by have := hsz e2; omega
  have HLINE := Lib.hid hline
  have HB2 := Lib.hid (HB1.out.trans ((e2.below.mono (by exact HB1.out.size)).trans (hb2.mono (by have := hsz e2; omega))))
  clear hline hb2 a0 a1 hsz hg
  go_wp2_with (refine wpList_make_own _ rfl _ (.tmp 33) 40 rfl W2.heap.size 5 i0 (.int .u8 0) 1 Try.underlying40 hi hz0 hz1 .i64 .i64 _ N rfl rfl (by omega) (by rw [hz2]; omega) (by unfold maxLen; omega) (by simp) ?_; intro w3 hown hgr)
  have hb3 := below_of_grown hgr
  have hline3 : w3.heap[g]? = some (lineC ev ah prev (if ah then 0 else ev)) := below_heap hb3 (by omega) HLINE.out
  have hrow3 : Row w3 (g + 1) 5 (some ⟨g + 1, 0, none⟩) N (bys []) := by rw [hsz2] at hown; exact hown
  have hbel3 : Below w.heap.size w w3 := HB2.out.trans (hb3.mono (by omega))
  have HL3 := Lib.hid hline3
  have HR3 := Lib.hid hrow3
  have HB3 := Lib.hid hbel3
  have hleft : (if ah then 0 else ev) ≤ ev := by split <;> omega
  clear hown hgr hb3 hline3 hrow3 hbel3 HB2 HLINE
  go_loopw [11, 37] (fun v iv wr => ∃ (k last left q : Nat) (A' : Option Addr) (c' : Nat) (out : List Nat), k ≤ n ∧ iv = .int .i64 k ∧ v = .slice A' q c' ∧ Hid (out.length = q) ∧ left ≤ ev ∧ last ≤ 1 ∧ q ≤ N ∧ Hid (out ++ fixE ev last left (l.drop k) = fixN ev ah prev l) ∧ Hid (Row wr (g + 1) 5 A' c' (bys out)) ∧ Hid (wr.heap[g]? = some (lineC ev ah last left)) ∧ Hid (Below w.heap.size w wr)) (fun _ iv _ => n - (intOf iv).toNat)
  case atStart => exact ⟨0, prev, (if ah then 0 else ev), 0, _, _, [], by omega, rfl, rfl, rfl, hleft, hp, by omega, rfl, HR3, HL3, HB3⟩
  case round =>
    obtain ⟨k, last, left, q, A', c', out, hk, rfl, rfl, HQL, hlev, hl1, hqN, HM, HQ, HL, HW⟩ := hrel
    by_cases hkn : k < n
    · have hkl : k < l.length := by rw [HN.out]; exact hkn
      obtain ⟨ad, rfl, ca⟩ := (HR.out.below HW.out).at_ k hkl
      have hx := H01.out l[k] (List.getElem_mem hkl)
      have hd : l.drop k = l[k] :: l.drop (k + 1) := List.drop_eq_getElem_cons hkl
      obtain ⟨x, hxe⟩ : ∃ x, l[k] = x := ⟨_, rfl⟩
      rw [hxe] at ca hx hd
      have hm := HM.out
      rw [hd] at hm
      have hstep := fixE_step hm
      have hbnd := congrArg List.length hm
      rw [HNN.out] at hbnd
      have hgw : g < wr.heap.size := heap_lt HL.out
      have hge : ∀ ad, A' = some ad → ad.block ≠ g := fun ad e => by have := HQ.out.ge ad e; omega
      have HST := Lib.hid hstep
      have HDUE := Lib.hid (due_any g ev last left ah wr HL.out)
      clear hd hxe hm hstep
      by_cases h0 : left = 0
      · subst h0
        have hq2 : q + 2 ≤ N := by
          rw [fixE, if_pos rfl, List.length_append, HQL.out] at hbnd
          simp only [List.length_cons] at hbnd
          omega
        have HSTF := Lib.hid (lineStuff_any g ev last 0 ah wr HL.out hl1)
        clear hbnd
        go_wp2_with fail
        refine HDUE.out.mono ?_
        rintro e _ ⟨rfl, rfl⟩
        go_wp2_with fail
        refine HSTF.out.mono ?_
        rintro e w4 ⟨rfl, hl4, ht4⟩
        obtain ⟨y, hy⟩ : ∃ y, 1 - last = y := ⟨_, rfl⟩
        rw [hy] at hl4 HST
        rw [hy]
        have HL4 := Lib.hid hl4
        have HQ4 := Lib.hid (HQ.out.touch ht4 hge)
        have HW4 := Lib.hid (HW.out.trans (ht4.below hwg hwg (by omega)))
        have hgw4 : g < w4.heap.size := heap_lt hl4
        clear hl4 ht4
        go_wp2_with (at_builtin; refine wpList_appB (W := _) rfl (.tmp 43) (.tmp 46) 40 rfl (g + 1) 5 i0 _ 1 Try.underlying40 hi hz0 hz1 hz2 rfl A' q c' (bys out) rfl (by rw [bys_length]; exact HQL.out) (HQ4.out.alloc _) _ 1 1 (bys [y]) rfl rfl (Rd.blk (heap_new_at rfl)) (bys_one _) (by intro h; cases h) (q + 1) (by omega) (by unfold maxLen; omega) (by omega) (by simp; omega) ?_; intro w5 A5 c5 HO5 HB5)
        have hl5 : w5.heap[g]? = some (lineC ev ah y ev) := below_heap HB5.out (by omega) (heap_push HL4.out)
        have HW5 := Lib.hid ((below_alloc HW4.out _).trans (HB5.out.mono (by omega)))
        refine (lineSee_any g ev y ev x ah w5 hl5 h1 (by omega)).mono ?_
        rintro e w6 ⟨rfl, hl6, ht6⟩
        have ho5 := HO5.out
        rw [← bys_append] at ho5
        have HL6 := Lib.hid hl6
        have HQ6 := Lib.hid (ho5.touch ht6 (fun ad e => by have := ho5.ge ad e; omega))
        have HW6 := Lib.hid (HW5.out.trans (ht6.below hwg hwg (by have := heap_lt hl5; omega)))
        have hgw6 : g < w6.heap.size := heap_lt hl6
        clear hl6 ht6 hl5 ho5
        go_wp2_with (at_builtin; refine wpList_appB (W := _) rfl (.tmp 51) (.tmp 53) 40 rfl (g + 1) 5 i0 _ 1 Try.underlying40 hi hz0 hz1 hz2 rfl A5 (q + 1) c5 (bys (out ++ [y])) rfl (by rw [bys_length, List.length_append, HQL.out]; rfl) (HQ6.out.alloc _) _ 1 1 (bys [x]) rfl rfl (Rd.blk (heap_new_at rfl)) (bys_one _) (by intro h; cases h) (q + 1 + 1) (by omega) (by unfold maxLen; omega) (by omega) (by simp; omega) ?_; intro w7 A7 c7 HO7 HB7)
        go_roundw
        case rel =>
          have ho7 := HO7.out
          rw [← bys_append] at ho7
          refine ⟨k + 1, x, ev - 1, q + 1 + 1, A7, c7, out ++ [y] ++ [x], by omega, by go_num, rfl, by show _ = _; rw [List.length_append, List.length_append, HQL.out]; rfl, by omega, hx, by omega, HST.out.1 (by first | trivial | rfl), ho7, below_heap HB7.out (by omega) (heap_push HL6.out), (below_alloc HW6.out _).trans (HB7.out.mono (by omega))⟩
        case measure => simp [intOf]; omega
      · have hq2 : q + 1 ≤ N := by
          rw [fixE, if_neg h0, List.length_append, HQL.out] at hbnd
          simp only [List.length_cons] at hbnd
          omega
        have HSEE := Lib.hid (lineSee_any g ev last left x ah wr HL.out (by omega) (by omega))
        have hdue := HDUE.out
        rw [decide_eq_false h0] at hdue
        have HDU2 := Lib.hid hdue
        clear hbnd hdue
        go_wp2_with fail
        refine HDU2.out.mono ?_
        rintro e _ ⟨rfl, rfl⟩
        go_wp2_with fail
        refine HSEE.out.mono ?_
        rintro e w6 ⟨rfl, hl6, ht6⟩
        have HL6 := Lib.hid hl6
        have HQ6 := Lib.hid (HQ.out.touch ht6 hge)
        have HW6 := Lib.hid (HW.out.trans (ht6.below hwg hwg (by omega)))
        have hgw6 : g < w6.heap.size := heap_lt hl6
        clear hl6 ht6
        go_wp2_with (at_builtin; refine wpList_appB (W := _) rfl (.tmp 51) (.tmp 53) 40 rfl (g + 1) 5 i0 _ 1 Try.underlying40 hi hz0 hz1 hz2 rfl A' q c' (bys out) rfl (by rw [bys_length]; exact HQL.out) (HQ6.out.alloc _) _ 1 1 (bys [x]) rfl rfl (Rd.blk (heap_new_at rfl)) (bys_one _) (by intro h; cases h) (q + 1) (by omega) (by unfold maxLen; omega) (by omega) (by simp; omega) ?_; intro w7 A7 c7 HO7 HB7)
        go_roundw
        case rel =>
          have ho7 := HO7.out
          rw [← bys_append] at ho7
          refine ⟨k + 1, x, left - 1, q + 1, A7, c7, out ++ [x], by omega, by go_num, rfl, by show _ = _; rw [List.length_append, HQL.out]; rfl, by omega, hx, by omega, HST.out.2 h0, ho7, below_heap HB7.out (by omega) (heap_push HL6.out), (below_alloc HW6.out _).trans (HB7.out.mono (by omega))⟩
        case measure => simp [intOf]; omega
    · obtain rfl : n = k := by omega
      have hm := HM.out
      rw [← HN.out, List.drop_length, fixE, List.append_nil] at hm
      go_wp2_with fail
      go_ret2
      have hq := HQ.out
      rw [hm] at hq
      have hqn : q = N := by rw [← HQL.out, hm]; exact HNN.out
      subst hqn
      exact ⟨⟨A', c', rfl, hq.mono (by omega)⟩, HW.out⟩
end Go.Proofs.Ytmlkmcpcokjogaa
-- ConcatP: slices.Concat over a row of rows that has just been laid. No condition.
namespace Go.Proofs.Ytmlkmcpcokjogaa
open Go.RowKit
theorem concatP {W : World} {vs : Array Value} {t n N : Nat} (ps : List Part) (g : Nat) (hg : W.heap[g]? = some (.cells vs t)) (hv : vs.toList = ps.map partV) (hn : ps.length = n) (hps : ∀ p ∈ ps, PartOk W p) (hN : (partsL ps).length = N) (hN2 : N ≤ 1000000) (hn2 : n ≤ 1000) :
    Calls Try.prog 89 #[.slice (some ⟨g, 0, none⟩) n n] W fun e w' => (∃ A' c', e = .returned (.slice A' N c') ∧ Row w' W.heap.size 5 A' c' (bys (partsL ps))) ∧ Below W.heap.size W w' :=
  concat_any _ n n N ps W (by rw [← hv]; exact Rd.blk hg) hn hps hN hN2 hn2
theorem lit_row {w : World} {l : List Nat} {n : Nat} (hn : l.length = n) (h : n ≤ 1000) : Row (w.alloc (.cells (bys l).toArray 5)) w.heap.size 5 (some ⟨w.heap.size, 0, none⟩) n (bys l) := by
  have := own_lit (w := w) (cs := bys l) (n := n) (e := 5) (Nat.le_refl _) (by rw [bys_length]; exact hn) (by unfold maxLen; omega)
  unfold Row
  rw [bys_length, hn]
  exact this
end Go.Proofs.Ytmlkmcpcokjogaa
-- XlWire: xl.Wire: an XL frame on the wire. No condition.
namespace Go.Proofs.Ytmlkmcpcokjogaa
open Go.RowKit
theorem xlStart_any (w : World) : Calls Try.prog 94 #[] w fun e w' => (∃ A' c', e = .returned (.slice A' 4 c') ∧ Row w' w.heap.size 5 A' c' (bys [1, 0, 0, 1])) ∧ Below w.heap.size w w' := by
  have hr := lit_row (w := w) (l := [1, 0, 0, 1]) rfl (by decide)
  have HR := Lib.hid hr
  clear hr
  go_enter Try.func94, Try.ntmps94
  go_wp2
  go_ret
  exact ⟨⟨_, 4, rfl, HR.out⟩, below_alloc (Below.refl _ _) _⟩
theorem xlStop_any (w : World) : Calls Try.prog 97 #[] w fun e w' => (∃ A' c', e = .returned (.slice A' 4 c') ∧ Row w' w.heap.size 5 A' c' (bys [0, 1, 1, 0])) ∧ Below w.heap.size w w' := by
  have hr := lit_row (w := w) (l := [0, 1, 1, 0]) rfl (by decide)
  have HR := Lib.hid hr
  clear hr
  go_enter Try.func97, Try.ntmps97
  go_wp2
  go_ret
  exact ⟨⟨_, 4, rfl, HR.out⟩, below_alloc (Below.refl _ _) _⟩
theorem xlWay_any (w : World) : Calls Try.prog 96 #[] w fun e w' => e = .returned (wayV 8 false) ∧ Below w.heap.size w w' := by
  go_enter Try.func96, Try.ntmps96
  go_wp2
  exact bodyPost_ret (v := wayV 8 false) (by simp [results, Try.results96, go_sem]) rfl ⟨rfl, below_alloc (Below.refl _ _) _⟩
/-- An XL frame ahead of its delimiter's recessive bits. -/
def rawX (f : Fr) : List Nat := stuffN (headX f) ++ [1, 0, 0, 1] ++ fixN 8 false 1 (bodyX f) ++ [0, 1, 1, 0]
def wireX (f : Fr) : List Nat := rawX f ++ List.replicate 10 1
set_option maxRecDepth 100000 in
set_option maxHeartbeats 2000000 in
theorem XlWire_no (f : Fr) (A : Option Addr) (c : Nat) (w : World) (hl : f.data.length ≤ 9223372036854775807) (hno : ¬ (f.kind = 3 ∧ okF f = true)) :
    Calls Try.prog 64 #[frv f (.slice A f.data.length c)] w fun e w' => e = .returned (.tuple #[.agg #[.slice none 0 0, .int .i64 0, .int .i64 0], .int .i64 2]) ∧ Below w.heap.size w w' := by
  have HC := Lib.hid (fun W => XlBody_no f A c W hl hno)
  obtain ⟨kind, id, ext, rtr, brs, esi, sec, sdt, vcid, af, data⟩ := f
  dsimp only [frv] at *
  generalize data.length = n at *
  clear hno
  go_enter Try.func64, Try.ntmps64
  go_wp2_with fail
  refine calls_blk2 (fun W0 q1 q2 hb => ?_)
  have HB := Lib.hid hb
  have HQ2 := Lib.hid q2
  have hsz := heap_lt q2
  clear hb q1 q2
  refine (HC.out _).mono ?_
  rintro e w1 ⟨rfl, hb1⟩
  have hq := heap_below hb1 HQ2.out
  have c0 := cell_of_heap hq 0 _ rfl
  have c1 := cell_of_heap hq 1 _ rfl
  have c2 := cell_of_heap hq 2 _ rfl
  have z0 : w1.frozen? ⟨w.heap.size + 1, 0, none⟩ = false := by simp [World.frozen?, hq]
  have z1 : w1.frozen? ⟨w.heap.size + 1, 1, none⟩ = false := by simp [World.frozen?, hq]
  have z2 : w1.frozen? ⟨w.heap.size + 1, 2, none⟩ = false := by simp [World.frozen?, hq]
  have HB1 := Lib.hid hb1
  have HQ3 := Lib.hid hq
  clear hb1 hq
  go_wp2_with fail
  refine bodyPost_ret (v := .tuple #[.agg #[.slice none 0 0, .int .i64 0, .int .i64 0], .int .i64 2]) (by simp [results, Try.results64, go_sem, c0, c1, c2]) rfl ⟨rfl, ?_⟩
  have h := below_trans HB.out HB1.out
  exact ((h.setCell (p := ⟨w.heap.size + 1, 0, none⟩) (by show w.heap.size ≤ w.heap.size + 1; omega) _).setCell (p := ⟨w.heap.size + 1, 1, none⟩) (by show w.heap.size ≤ w.heap.size + 1; omega) _).setCell (p := ⟨w.heap.size + 1, 2, none⟩) (by show w.heap.size ≤ w.heap.size + 1; omega) _
set_option maxRecDepth 100000 in
set_option maxHeartbeats 4000000 in
theorem XlWire_ok (f : Fr) (A : Option Addr) (c NR NH : Nat) (w : World) (hk : f.kind = 3) (hok : okF f = true) (h0 : 0 ≤ f.id) (hs : 0 ≤ f.sdt ∧ f.sdt < 256) (hv : 0 ≤ f.vcid ∧ f.vcid < 256) (ha : 0 ≤ f.af ∧ f.af < 4294967296) (hr : Rd w A (bys f.data)) (hby : isBytes f.data) (hNR : (rawX f).length = NR) (hNH : (stuffN (headX f)).length = NH) :
    Calls Try.prog 64 #[frv f (.slice A f.data.length c)] w fun e w' => (∃ A' c', e = .returned (.tuple #[.agg #[.slice A' (NR + 10 : Nat) c', .int .i64 (NH : Nat), .int .i64 (NR + 1 : Nat)], .int .i64 0]) ∧ Row w' w.heap.size 5 A' c' (bys (wireX f))) ∧ Below w.heap.size w w' := by
  obtain ⟨hid, hn1, hn2, -⟩ := okX f hk hok
  have HBody := Lib.hid (fun W (hW : Rd W A (bys f.data)) => XlBody_ok f A c W hk hok h0 hs hv ha hW hby)
  have HHead := Lib.hid (fun W => headX_any f A f.data.length c W h0 hid)
  have hlB := bodyX_length f
  have HbB := Lib.hid (bodyX_bits f)
  have HhB := Lib.hid (headX_bits f)
  have hlF := fixN_length 8 false 1 (bodyX f) (by decide)
  obtain ⟨NF, hNF⟩ : ∃ NF, (fixN 8 false 1 (bodyX f)).length = NF := ⟨_, rfl⟩
  have hNF2 : NF ≤ 30000 := by
    rw [hNF, hlB] at hlF
    rw [hlF]
    split <;> simp <;> omega
  have hNH2 : NH ≤ 22 := by have := stuffN_le (headX f); rw [hNH, headX_length] at this; omega
  have hNRe : NH + 4 + NF + 4 = NR := by rw [← hNR]; unfold rawX; simp [hNH, hNF]; omega
  have HW : Hid (wireX f = rawX f ++ List.replicate 10 1) := rfl
  have HRAW : Hid (rawX f = stuffN (headX f) ++ [1, 0, 0, 1] ++ fixN 8 false 1 (bodyX f) ++ [0, 1, 1, 0]) := rfl
  obtain ⟨bo, hbo⟩ : ∃ bo, bodyX f = bo := ⟨_, rfl⟩
  obtain ⟨hL, hhL⟩ : ∃ hL, headX f = hL := ⟨_, rfl⟩
  have hhl : hL.length = 17 := by rw [← hhL]; exact headX_length f
  obtain ⟨wi, hwi⟩ : ∃ wi, wireX f = wi := ⟨_, rfl⟩
  obtain ⟨ra, hra⟩ : ∃ ra, rawX f = ra := ⟨_, rfl⟩
  rw [hbo] at HBody HbB hlB hNF HRAW
  rw [hhL] at HHead HhB hNH HRAW
  rw [hwi, hra] at HW
  rw [hwi]
  rw [hra] at HRAW hNR
  obtain ⟨kind, id, ext, rtr, brs, esi, sec, sdt, vcid, af, data⟩ := f
  dsimp only [frv] at *
  obtain ⟨n, hn⟩ : ∃ n, data.length = n := ⟨_, rfl⟩
  rw [hn] at HBody HHead hlB hn1 hn2 ⊢
  have HLB := Lib.hid hlB
  have HNF := Lib.hid hNF
  have HNR := Lib.hid hNR
  have HNH := Lib.hid hNH
  have HHL := Lib.hid hhl
  have HR := Lib.hid hr
  have HNRE := Lib.hid hNRe
  clear hlB hNF hNR hNH hhl hr hNRe hlF hbo hhL hwi hra hn hok h0 hby hk hs hv ha hid
  go_enter Try.func64, Try.ntmps64
  go_wp2_with fail
  refine calls_blk2 (fun W0 q1 q2 hb => ?_)
  have HB := Lib.hid hb
  have HQ2 := Lib.hid q2
  have hsz := heap_lt q2
  obtain ⟨a0, a1, a2, a3, a4, a5, a6, a7, a8, a9, a10⟩ := ext11 q1
  clear hb q1 q2
  refine (extc_same (HBody.out _ (HR.out.below HB.out))).mono ?_
  rintro x _ ⟨e1, rfl, A1, c1, rfl, hrow1⟩
  have HROW1 := Lib.hid hrow1
  clear hrow1
  go_wp2_with fail
  refine (extcB (HHead.out _)).mono ?_
  rintro x _ ⟨e2, rfl, HB2, A2, c2, rfl, hrow2⟩
  have HROW2 := Lib.hid hrow2
  clear hrow2
  go_wp2_with fail
  refine (extcB (StuffPut_any _ A2 c2 17 NH hL HROW2.out.rd HHL.out (by omega) HhB.out HNH.out)).mono ?_
  rintro x _ ⟨e3, rfl, HB3, A3, c3, rfl, hrow3⟩
  have HROW3 := Lib.hid (hrow3.mono (ext_ge e2))
  clear hrow3
  go_wp2_with fail
  refine (extcB (xlStart_any _)).mono ?_
  rintro x _ ⟨e4, rfl, HB4, A4, c4, rfl, hrow4⟩
  obtain ⟨g4, rfl, hg4, hc4a, hc4b⟩ := row_some (n := 4) hrow4 rfl (by decide)
  have y3 : ∀ e : Ext e4.W, e.W.cell? ⟨g4, 3, none⟩ = some (.int .u8 1) := fun e => row_at hrow4 e.below 3 1 rfl
  have HROW4 := Lib.hid (hrow4.mono (ext_ge e3))
  have HROW14 := Lib.hid (((HROW1.out.below HB2.out).below HB3.out).below HB4.out)
  have HROW34 := Lib.hid (HROW3.out.below HB4.out)
  clear hrow4 a0 a1 a2 a3 a4 a5 a6 a7 a8 a9 a10
  go_wp2_with fail
  refine wp_region_mix (fun w' => ∃ e : Ext e4.W, w' = e.W) [(true, 0), (true, 1), (true, 2), (true, 3), (true, 4), (true, 5), (true, 6), (false, 7), (false, 8), (true, 9), (true, 10), (true, 11), (true, 12), (true, 13)] [] (by kernel_rfl) (by kernel_rfl) (by intro _ _ d _ _ h; cases d <;> exact h) ⟨⟨e4.W.drew, (Below.refl _ _).drew⟩, rfl⟩ ?_
  simp only [pickM, pickL, List.drop_succ_cons, List.drop_zero]
  repeat (refine mix_pure (by rfl) (by rfl) ?_; intro K hK; go_big_quiet_op; go_big_quiet_on)
  refine mix_eff (by rfl) ?_
  intro K hK
  go_simp
  refine (xlWay_any _).mono ?_
  rintro x w5 ⟨rfl, hb5⟩
  have hb45 : Below e4.W.heap.size e4.W w5 := below_trans (Below.refl _ _).drew hb5
  have HB45 := Lib.hid hb45
  refine hK _ _ ⟨⟨w5, hb45⟩, rfl⟩ ?_
  clear hK K hb5 hb45
  refine mix_eff (by rfl) ?_
  intro K hK
  go_simp
  refine (FixedPut_any w5 A1 1 8 c1 (109 + 8 * n) NF false bo (by decide) (by decide) (by decide) (HROW14.out.rd.below HB45.out) HLB.out (by omega) (by omega) HbB.out HNF.out).mono ?_
  rintro x w6 ⟨⟨A6, c6, rfl, hrow6⟩, hb6⟩
  have hb46 : Below e4.W.heap.size e4.W w6 := below_trans HB45.out hb6
  refine hK _ _ ⟨⟨w6, hb46⟩, rfl⟩ ?_
  clear hK K
  repeat (refine mix_pure (by rfl) (by rfl) ?_; intro K hK; go_big_quiet_op; go_big_quiet_on)
  refine mix_nil (wpList_nil ?_)
  obtain ⟨e6, he6⟩ : ∃ e : Ext W0, e.W = w6 := ⟨⟨w6, below_trans e4.below hb46⟩, rfl⟩
  have HROW6 := Lib.hid hrow6
  have HROW36 := Lib.hid (HROW34.out.below hb46)
  have HROW46 := Lib.hid (HROW4.out.below hb46)
  have hg46 : w5.heap.size ≤ w5.heap.size := Nat.le_refl _
  have HB5 := Lib.hid (HB45.out.size)
  subst he6
  clear hrow6 hb6 hb46 y3
  go_wp2_with fail
  refine (extcB (xlStop_any _)).mono ?_
  rintro x _ ⟨e7, rfl, HB7, A7, c7, rfl, hrow7⟩
  have HROW7 := Lib.hid hrow7
  have HROW37 := Lib.hid (HROW36.out.below HB7.out)
  have HROW47 := Lib.hid (HROW46.out.below HB7.out)
  have HROW67 := Lib.hid (HROW6.out.below HB7.out)
  clear hrow7
  go_wp2_with fail
  refine (repeat_any _ _ (heap_new_at rfl)).mono ?_
  rintro x w8 ⟨⟨A8, c8, rfl, hrow8⟩, hb8⟩
  have hb78 : Below e7.W.heap.size e7.W w8 := below_trans (below_alloc (Below.refl _ _) _) hb8
  obtain ⟨e8, he8⟩ : ∃ e : Ext W0, e.W = w8 := ⟨⟨w8, below_trans e7.below hb78⟩, rfl⟩
  subst he8
  have HROW8 := Lib.hid hrow8
  have HROW38 := Lib.hid (HROW37.out.below hb78)
  have HROW48 := Lib.hid (HROW47.out.below hb78)
  have HROW68 := Lib.hid (HROW67.out.below hb78)
  have HROW78 := Lib.hid (HROW7.out.below hb78)
  clear hrow8 hb8 hb78
  go_wp2_with fail
  refine calls_name (T := fun W1 => W1.heap[e8.W.heap.size]? = some (.cells #[.slice A3 NH c3, .slice (some ⟨g4, 0, none⟩) 4 c4, .slice A6 NF c6, .slice A7 4 c7, .slice A8 10 c8] 40) ∧ Below e8.W.heap.size e8.W W1) ⟨heap_new_at rfl, below_alloc (Below.refl _ _) _⟩ ?_
  rintro W1 ⟨q9, hb9⟩
  have hcat := concatP (N := NR + 10) (n := 5) [(A3, c3, stuffN hL), (some ⟨g4, 0, none⟩, c4, [1, 0, 0, 1]), (A6, c6, fixN 8 false 1 bo), (A7, c7, [0, 1, 1, 0]), (A8, c8, List.replicate 10 1)] _ q9 (by simp [partV, HNH.out, HNF.out]) rfl (by
    intro p hp
    simp only [List.mem_cons, List.not_mem_nil, or_false] at hp
    rcases hp with rfl | rfl | rfl | rfl | rfl
    · exact (HROW38.out.below hb9).part
    · exact (HROW48.out.below hb9).part
    · exact (HROW68.out.below hb9).part
    · exact (HROW78.out.below hb9).part
    · exact (HROW8.out.below hb9).part) (by simp [partsL, HNH.out, HNF.out]; have := HNRE.out; omega) (by have := HNRE.out; omega) (by decide)
  have hpl : partsL [(A3, c3, stuffN hL), (some ⟨g4, 0, none⟩, c4, [1, 0, 0, 1]), (A6, c6, fixN 8 false 1 bo), (A7, c7, [0, 1, 1, 0]), (A8, c8, List.replicate 10 1)] = wi := by rw [HW.out, HRAW.out]; simp [partsL]
  rw [hpl] at hcat
  refine hcat.mono ?_
  rintro x w10 ⟨⟨A10, c10, rfl, hrow10⟩, hb10⟩
  have hbw : Below W0.heap.size W0 w10 := below_trans (below_trans e8.below hb9) hb10
  have hq := heap_below hbw HQ2.out
  have r0 := cell_of_heap hq 0 _ rfl
  have r1 := cell_of_heap hq 1 _ rfl
  have r2 := cell_of_heap hq 2 _ rfl
  have z0 : w10.frozen? ⟨w.heap.size + 1, 0, none⟩ = false := by simp [World.frozen?, hq]
  have z1 : w10.frozen? ⟨w.heap.size + 1, 1, none⟩ = false := by simp [World.frozen?, hq]
  have z2 : w10.frozen? ⟨w.heap.size + 1, 2, none⟩ = false := by simp [World.frozen?, hq]
  have hge : W0.heap.size ≤ W1.heap.size := (below_trans e8.below hb9).size
  have HROW10 := Lib.hid (hrow10.mono hge)
  have HBW := Lib.hid hbw
  have HQ10 := Lib.hid hq
  have hNRb : NR ≤ 40000 := by have := HNRE.out; omega
  clear hcat hpl q9 hb9 hrow10 hb10 hbw hq
  go_wp2_with fail
  refine bodyPost_ret (v := .tuple #[.agg #[.slice A10 (NR + 10 : Nat) c10, .int .i64 (NH : Nat), .int .i64 (NR + 1 : Nat)], .int .i64 0]) (by simp [results, Try.results64, go_sem, r0, r1, r2]) rfl ⟨⟨A10, c10, rfl, ?_⟩, ?_⟩
  · have h7 : ∀ ad, A10 = some ad → ad.block ≠ w.heap.size + 1 := fun ad e => by have := HROW10.out.ge ad e; omega
    exact (((HROW10.out.setCell h7 0 _).setCell h7 1 _).setCell h7 2 _).mono (by omega)
  · have h := below_trans HB.out HBW.out
    exact ((h.setCell (p := ⟨w.heap.size + 1, 0, none⟩) (by show w.heap.size ≤ w.heap.size + 1; omega) _).setCell (p := ⟨w.heap.size + 1, 1, none⟩) (by show w.heap.size ≤ w.heap.size + 1; omega) _).setCell (p := ⟨w.heap.size + 1, 2, none⟩) (by show w.heap.size ≤ w.heap.size + 1; omega) _
end Go.Proofs.Ytmlkmcpcokjogaa
-- PRuns: Runs of a raw row up to a bound; fixed stuffing's runs, and where two stuffed rows first differ: plain laws of lists. No condition.
namespace Go.Proofs.Ytmlkmcpcokjogaa
open Go.RowKit
/-- No run is longer than M. -/
def runsM (M : Nat) : Nat → Nat → List Nat → Bool
  | _, _, [] => true
  | last, run, b :: l => decide (seeN last run b ≤ M) && runsM M b (seeN last run b) l
theorem runsM_append (M : Nat) (a b : List Nat) : ∀ last run, runsM M last run (a ++ b) = (runsM M last run a && runsM M (rawE last run a).1 (rawE last run a).2 b) := by
  induction a with
  | nil => intro last run; simp [runsM, rawE]
  | cons x a ih => intro last run; simp only [List.cons_append, runsM, rawE]; rw [ih, Bool.and_assoc]
theorem runsM_of (M : Nat) (h : 5 ≤ M) (l : List Nat) : ∀ last run, runsB last run l = true → runsM M last run l = true := by
  induction l with
  | nil => intro _ _ _; rfl
  | cons x l ih =>
    intro last run h1
    simp only [runsB, Bool.and_eq_true, decide_eq_true_eq] at h1
    simp only [runsM, Bool.and_eq_true, decide_eq_true_eq]
    exact ⟨by omega, ih _ _ h1.2⟩
theorem runsM_at (M : Nat) (l : List Nat) (h : runsM M 0 0 l = true) (k : Nat) (hk : k < l.length) : seeN (rawE 0 0 (l.take k)).1 (rawE 0 0 (l.take k)).2 l[k] ≤ M := by
  have e : l = l.take k ++ (l[k] :: l.drop (k + 1)) := by rw [← List.drop_eq_getElem_cons hk, List.take_append_drop]
  rw [e, runsM_append] at h
  simp only [Bool.and_eq_true, runsM, decide_eq_true_eq] at h
  exact h.2.1
/-- How many bits are left ahead of the next stuff bit, behind so many. -/
def leftE (every : Nat) : Nat → Nat → Nat
  | left, 0 => left
  | left, n + 1 => leftE every (if left = 0 then every - 1 else left - 1) n
/-- Fixed stuffing: a run has at most (every + 1) bits, less those that are left ahead of the next stuff bit. -/
theorem fix_runs (every : Nat) (he : 2 ≤ every) (l : List Nat) (h01 : ∀ x ∈ l, x ≤ 1) : ∀ last run left, last ≤ 1 → run + left ≤ every + 1 → left ≤ every →
    runsM (every + 1) last run (fixE every last left l) = true ∧ (rawE last run (fixE every last left l)).2 + leftE every left l.length ≤ every + 1 ∧ (rawE last run (fixE every last left l)).1 ≤ 1 := by
  induction l with
  | nil => intro last run left h1 h2 _; exact ⟨rfl, by simpa [fixE, rawE, leftE] using h2, by simpa [fixE, rawE] using h1⟩
  | cons x l ih =>
    intro last run left h1 h2 h3
    have hx := h01 x (by simp)
    have ih' := ih (fun z hz => h01 z (by simp [hz]))
    by_cases h0 : left = 0
    · subst h0
      have e : seeN last run (1 - last) = 1 := by unfold seeN; rw [if_neg (by omega)]
      have hs := seeN_le (1 - last) 1 x
      obtain ⟨i1, i2, i3⟩ := ih' x (seeN (1 - last) 1 x) (every - 1) hx (by omega) (by omega)
      rw [fixE, if_pos rfl]
      simp only [runsM, rawE, e, List.length_cons, leftE, if_true]
      refine ⟨?_, i2, i3⟩
      rw [i1]; simp; omega
    · have hs := seeN_le last run x
      obtain ⟨i1, i2, i3⟩ := ih' x (seeN last run x) (left - 1) hx (by omega) (by omega)
      rw [fixE, if_neg h0]
      simp only [runsM, rawE, List.length_cons, leftE, if_neg h0]
      refine ⟨?_, i2, i3⟩
      rw [i1]; simp; omega
theorem fixE_diff (every : Nat) (p a b : List Nat) (x y : Nat) : ∀ last left, ∃ q a' b', fixE every last left (p ++ x :: a) = q ++ x :: a' ∧ fixE every last left (p ++ y :: b) = q ++ y :: b' := by
  induction p with
  | nil =>
    intro last left
    simp only [List.nil_append, fixE]
    by_cases h0 : left = 0
    · rw [if_pos h0, if_pos h0]; exact ⟨[1 - last], _, _, rfl, rfl⟩
    · rw [if_neg h0, if_neg h0]; exact ⟨[], _, _, rfl, rfl⟩
  | cons z p ih =>
    intro last left
    simp only [List.cons_append, fixE]
    by_cases h0 : left = 0
    · obtain ⟨q, a', b', h1, h2⟩ := ih z (every - 1)
      rw [if_pos h0, if_pos h0, h1, h2]; exact ⟨(1 - last) :: z :: q, a', b', rfl, rfl⟩
    · obtain ⟨q, a', b', h1, h2⟩ := ih z (left - 1)
      rw [if_neg h0, if_neg h0, h1, h2]; exact ⟨z :: q, a', b', rfl, rfl⟩
theorem Diff.fixed {l m : List Nat} (h : Diff l m) (every : Nat) (ah : Bool) (prev : Nat) : Diff (fixN every ah prev l) (fixN every ah prev m) := by
  obtain ⟨p, a, b, x, y, rfl, rfl, h3⟩ := h
  obtain ⟨q, a', b', h1, h2⟩ := fixE_diff every p a b x y prev (if ah then 0 else every)
  exact ⟨q, a', b', x, y, h1, h2, h3⟩
theorem bitsN_diff (k n m : Nat) (hn : n < 2 ^ k) (hm : m < 2 ^ k) (h : n ≠ m) : Diff (bitsN n k) (bitsN m k) := by
  obtain ⟨p, a, b, x, y, h1, h2, h3, -⟩ := bitsN_first k n m hn hm h
  exact ⟨p, a, b, x, y, h1, h2, h3⟩
/-- How long the runs of a raw row get: at most M, and at most five among its first n bits. -/
def SeeOk (M n : Nat) (ra : List Nat) : Prop := ∀ k (hk : k < ra.length), seeN (rawE 0 0 (ra.take k)).1 (rawE 0 0 (ra.take k)).2 ra[k] ≤ M ∧ (k < n → seeN (rawE 0 0 (ra.take k)).1 (rawE 0 0 (ra.take k)).2 ra[k] ≤ 5)
/-- What a frame's numbers are. -/
structure FrN (f : Fr) : Prop where
  id0 : 0 ≤ f.id
  sdt : 0 ≤ f.sdt ∧ f.sdt < 256
  vcid : 0 ≤ f.vcid ∧ f.vcid < 256
  af : 0 ≤ f.af ∧ f.af < 4294967296
  data : isBytes f.data
theorem diff_apart {l m : List Nat} (h : Diff l m) : diffB l m (min l.length m.length) = true := by
  obtain ⟨j, x, y, h1, h2, h3⟩ := h.at
  have j1 := (List.getElem?_eq_some_iff.1 h1).1
  have j2 := (List.getElem?_eq_some_iff.1 h2).1
  unfold diffB
  exact List.any_eq_true.2 ⟨j, List.mem_range.2 (by omega), by rw [h1, h2]; simp [h3]⟩
theorem same_apart (l : List Nat) (k : Nat) : diffB l l k = false := by
  unfold diffB
  exact List.any_eq_false.2 (by simp)
end Go.Proofs.Ytmlkmcpcokjogaa
-- PXlLaw: XL frames on the wire: lengths, runs, and where two of them first differ: plain laws of lists. No condition.
namespace Go.Proofs.Ytmlkmcpcokjogaa
open Go.RowKit
theorem xl_len (f : Fr) (hk : f.kind = 3) (hok : okF f = true) : f.data.length ≤ 2048 := (okX f hk hok).2.2.1
theorem headX_zero (f : Fr) : ∃ l, headX f = 0 :: l := ⟨_, rfl⟩
theorem stuffN_zero' (l : List Nat) : ∃ m, stuffN (0 :: l) = 0 :: m := ⟨_, rfl⟩
theorem rawX_zero (f : Fr) : ∃ l, rawX f = 0 :: l := by
  obtain ⟨l, hl⟩ := headX_zero f
  obtain ⟨m, hm⟩ := stuffN_zero' l
  unfold rawX
  rw [hl, hm]
  exact ⟨_, rfl⟩
theorem stuffX_le (f : Fr) : (stuffN (headX f)).length ≤ 21 ∧ 17 ≤ (stuffN (headX f)).length := by
  have h1 := stuffN_len (headX f) (by obtain ⟨l, hl⟩ := headX_zero f; rw [hl]; simp)
  have h2 := stuffN_ge (headX f)
  rw [headX_length] at h1 h2
  omega
theorem fixX_length (f : Fr) : (fixN 8 false 1 (bodyX f)).length = 109 + 8 * f.data.length + (108 + 8 * f.data.length) / 8 := by
  rw [fixN_length 8 false 1 (bodyX f) (by decide), bodyX_length, if_neg (by omega)]
  simp
theorem rawX_len (f : Fr) : (rawX f).length = (stuffN (headX f)).length + 8 + (109 + 8 * f.data.length + (108 + 8 * f.data.length) / 8) := by
  unfold rawX
  simp only [List.length_append, fixX_length, List.length_cons, List.length_nil]
  omega
theorem xl_bound (f : Fr) (hk : f.kind = 3) (hok : okF f = true) : (stuffN (headX f)).length + 19 ≤ (rawX f).length ∧ (rawX f).length ≤ 40000 ∧ 12 ≤ (stuffN (headX f)).length := by
  have h1 := stuffX_le f
  have h2 := rawX_len f
  have h3 := xl_len f hk hok
  omega
theorem rawX_bits (f : Fr) : ∀ x ∈ rawX f, x ≤ 1 := by
  intro x hx
  unfold rawX at hx
  simp only [List.mem_append] at hx
  rcases hx with ((h | h) | h) | h
  · exact stuffN_bits _ (headX_bits f) x h
  · simp at h; omega
  · exact fixE_bits 8 _ (bodyX_bits f) _ _ x h
  · simp at h; omega
theorem leftE_7 (m : Nat) : leftE 8 8 (109 + 8 * m) = 3 := by
  have h8 : ∀ n, leftE 8 7 (n + 8) = leftE 8 7 n := fun n => by simp [leftE]
  have hk : ∀ k, leftE 8 7 (4 + 8 * k) = 3 := by
    intro k
    induction k with
    | zero => rfl
    | succ k ih => rw [show 4 + 8 * (k + 1) = (4 + 8 * k) + 8 by omega, h8]; exact ih
  rw [show 109 + 8 * m = (4 + 8 * (13 + m)) + 1 by omega]
  simp only [leftE]
  exact hk _
theorem start_runs (a r : Nat) (h : r ≤ 5) : runsM 9 a r [1, 0, 0, 1] = true ∧ rawE a r [1, 0, 0, 1] = (1, 1) := by
  have h1 := seeN_le a r 1
  constructor
  · simp only [runsM, Bool.and_eq_true, decide_eq_true_eq]
    refine ⟨by omega, ?_⟩
    simp [seeN]
  · simp [rawE, seeN]
theorem stop_runs (a r : Nat) (h : r ≤ 6) : runsM 9 a r [0, 1, 1, 0] = true := by
  have h1 := seeN_le a r 0
  simp only [runsM, Bool.and_eq_true, decide_eq_true_eq]
  refine ⟨by omega, ?_⟩
  simp [seeN]
theorem rawX_runs (f : Fr) : runsM 9 0 0 (rawX f) = true := by
  have hA := runsM_of 9 (by omega) _ 0 0 (stuffN_runs (headX f))
  have hA5 : (rawE 0 0 (stuffN (headX f))).2 ≤ 5 := by unfold stuffN; rw [rawE_stf _ 0 0 (by omega)]; exact stE_le _ 0 0 (by omega)
  obtain ⟨s1, s2⟩ := start_runs (rawE 0 0 (stuffN (headX f))).1 _ hA5
  obtain ⟨f1, f2, f3⟩ := fix_runs 8 (by omega) (bodyX f) (bodyX_bits f) 1 1 8 (by omega) (by omega) (by omega)
  rw [bodyX_length, leftE_7] at f2
  have hF : fixN 8 false 1 (bodyX f) = fixE 8 1 8 (bodyX f) := rfl
  have eB : rawE 0 0 (stuffN (headX f) ++ [1, 0, 0, 1]) = (1, 1) := by rw [rawE_append, s2]
  have eF : rawE 0 0 (stuffN (headX f) ++ [1, 0, 0, 1] ++ fixE 8 1 8 (bodyX f)) = rawE 1 1 (fixE 8 1 8 (bodyX f)) := by rw [rawE_append, eB]
  unfold rawX
  rw [hF, runsM_append, runsM_append, runsM_append, eF, eB, hA, s1, f1, stop_runs _ _ (by omega)]
  rfl
theorem rawX_see (f : Fr) : SeeOk 9 (stuffN (headX f)).length (rawX f) := by
  intro k hk
  refine ⟨runsM_at 9 _ (rawX_runs f) k hk, fun hk2 => ?_⟩
  have h := runs_at (stuffN (headX f)) (stuffN_runs (headX f)) k hk2
  have e : ∃ l, rawX f = stuffN (headX f) ++ l := ⟨[1, 0, 0, 1] ++ fixN 8 false 1 (bodyX f) ++ [0, 1, 1, 0], by unfold rawX; simp only [List.append_assoc]⟩
  obtain ⟨l, e⟩ := e
  have e1 : (rawX f).take k = (stuffN (headX f)).take k := by rw [e, List.take_append_of_le_length (by omega)]
  have e2 : (rawX f)[k] = (stuffN (headX f))[k] := by
    have h3 : (rawX f)[k]? = some (stuffN (headX f))[k] := by rw [e, List.getElem?_append_left hk2, List.getElem?_eq_getElem hk2]
    exact (List.getElem?_eq_some_iff.1 h3).2
  rw [e1, e2]
  exact h
/-! ### where two frames differ -/
theorem headX_first (f g : Fr) (f0 : 0 ≤ f.id) (f1 : f.id < 2048) (g0 : 0 ≤ g.id) (g1 : g.id < 2048) (hne : f.id ≠ g.id) : First (f.id < g.id) (headX f) (headX g) := by
  obtain ⟨n, hn⟩ := Int.eq_ofNat_of_zero_le f0
  obtain ⟨m, hm⟩ := Int.eq_ofNat_of_zero_le g0
  unfold headX
  rw [hn, hm]
  simp only [Int.toNat_natCast]
  have h : First (n < m) (bitsN n 11) (bitsN m 11) := bitsN_first 11 n m (by omega) (by omega) (by omega)
  exact ((h.ahead (bitsN 0 1)).behind (bitsN 6 5) (bitsN 6 5)).iff (by omega)
theorem wireX_head (f : Fr) : ∃ l, wireX f = stuffN (headX f) ++ l := ⟨[1, 0, 0, 1] ++ fixN 8 false 1 (bodyX f) ++ [0, 1, 1, 0] ++ List.replicate 10 1, by unfold wireX rawX; simp only [List.append_assoc]⟩
theorem xlOrders_plain (f g : Fr) (hk : f.kind = 3) (hkg : g.kind = 3) (fo : okF f = true) (go : okF g = true) (f0 : 0 ≤ f.id) (g0 : 0 ≤ g.id) (hne : f.id ≠ g.id) :
    ∃ j, j < (stuffN (headX f)).length ∧ j < (stuffN (headX g)).length ∧ (∀ i, i < j → (wireX f)[i]? = (wireX g)[i]?) ∧ ∃ x y, (wireX f)[j]? = some x ∧ (wireX g)[j]? = some y ∧ x ≠ y ∧ (x = 0 ↔ f.id < g.id) := by
  have h := (headX_first f g f0 (okX f hk fo).1 g0 (okX g hkg go).1 hne).stuffed
  obtain ⟨j, h1, h2, h3, x, y, h4, h5, h6⟩ := h.at
  obtain ⟨l, el⟩ := wireX_head f
  obtain ⟨m, em⟩ := wireX_head g
  rw [el, em]
  refine ⟨j, h1, h2, fun i hi => ?_, x, y, ?_, ?_, h6⟩
  · rw [List.getElem?_append_left (by omega), List.getElem?_append_left (by omega)]; exact h3 i hi
  · rw [List.getElem?_append_left h1]; exact h4
  · rw [List.getElem?_append_left h2]; exact h5
theorem okX_bare (f : Fr) (hk : f.kind = 3) (h : okF f = true) : f.ext = false ∧ f.rtr = false ∧ f.brs = false ∧ f.esi = false := by
  unfold okF at h
  simp only [Bool.and_eq_true] at h
  have h2 := h.2
  unfold sameF bareF zeroF at h2
  rw [hk] at h2
  simp at h2
  simp_all
theorem sameX (f g : Fr) (fk : f.kind = 3) (gk : g.kind = 3) (fo : okF f = true) (go : okF g = true) : sameF f g = decide (f.id = g.id ∧ f.sec = g.sec ∧ f.sdt = g.sdt ∧ f.vcid = g.vcid ∧ f.af = g.af ∧ f.data = g.data) := by
  obtain ⟨a1, a2, a3, a4⟩ := okX_bare f fk fo
  obtain ⟨b1, b2, b3, b4⟩ := okX_bare g gk go
  unfold sameF
  rw [fk, gk, a1, a2, a3, a4, b1, b2, b3, b4]
  rw [Bool.eq_iff_iff]
  simp only [decide_eq_true_eq]
  constructor
  · intro h; simp_all
  · intro h; simp_all
theorem codeX_eq (f : Fr) (hk : f.kind = 3) (hok : okF f = true) : codeX f = f.data.length - 1 := by
  unfold codeX
  rw [(okX f hk hok).2.2.2]
  simp
theorem toNat_ne {a b : Int} (ha : 0 ≤ a) (hb : 0 ≤ b) (h : a ≠ b) : a.toNat ≠ b.toNat := by omega
theorem wireX_diff (f g : Fr) (fk : f.kind = 3) (gk : g.kind = 3) (fo : okF f = true) (go : okF g = true) (fn : FrN f) (gn : FrN g) (h : ¬ (f.id = g.id ∧ f.sec = g.sec ∧ f.sdt = g.sdt ∧ f.vcid = g.vcid ∧ f.af = g.af ∧ f.data = g.data)) : Diff (wireX f) (wireX g) := by
  obtain ⟨fi, fl1, fl2, -⟩ := okX f fk fo
  obtain ⟨gi, gl1, gl2, -⟩ := okX g gk go
  by_cases hid : f.id = g.id
  · have hh : headX f = headX g := by unfold headX; rw [hid]
    suffices hb : Diff (bodyX f) (bodyX g) by
      unfold wireX rawX
      rw [hh]
      exact (((hb.fixed 8 false 1).ahead _).behind _ _).behind _ _
    unfold bodyX
    refine Diff.behind ?_ _ _
    unfold part3X
    by_cases h1 : f.sdt = g.sdt ∧ f.sec = g.sec ∧ f.data.length = g.data.length
    · obtain ⟨hsd, hse, hl⟩ := h1
      have hp1 : part1X f = part1X g := by unfold part1X; rw [hh, hsd, hse, codeX_eq f fk fo, codeX_eq g gk go, hl]
      have hp2 : part2X f = part2X g := by unfold part2X; rw [hp1, hh]
      rw [hp2]
      by_cases hv : f.vcid = g.vcid
      · rw [hv]
        by_cases ha : f.af = g.af
        · rw [ha]
          exact (bytesN_diff f.data g.data hl fn.data gn.data (fun hd => h ⟨hid, hse, hsd, hv, ha, hd⟩)).ahead _
        · exact Diff.behind (Diff.ahead (bitsN_diff 32 _ _ (by have := fn.af; omega) (by have := gn.af; omega) (toNat_ne fn.af.1 gn.af.1 ha)) _) _ _
      · exact Diff.behind (Diff.behind (Diff.ahead (bitsN_diff 8 _ _ (by have := fn.vcid; omega) (by have := gn.vcid; omega) (toNat_ne fn.vcid.1 gn.vcid.1 hv)) _) _ _) _ _
    · refine Diff.behind (Diff.behind (Diff.behind ?_ _ _) _ _) _ _
      unfold part2X
      refine Diff.behind ?_ _ _
      unfold part1X
      rw [hh, codeX_eq f fk fo, codeX_eq g gk go]
      refine Diff.behind ?_ _ _
      by_cases hsd : f.sdt = g.sdt
      · rw [hsd]
        by_cases hse : f.sec = g.sec
        · rw [hse]
          exact Diff.ahead (bitsN_diff 11 _ _ (by omega) (by omega) (fun hl => h1 ⟨hsd, hse, by omega⟩)) _
        · have hb := bitB_inj hse
          exact Diff.behind (Diff.ahead (bitsN_diff 1 _ _ (by cases f.sec <;> decide) (by cases g.sec <;> decide) hb) _) _ _
      · exact Diff.behind (Diff.behind (bitsN_diff 8 _ _ (by have := fn.sdt; omega) (by have := gn.sdt; omega) (toNat_ne fn.sdt.1 gn.sdt.1 hsd)) _ _) _ _
  · have hF := (headX_first f g fn.id0 fi gn.id0 gi hid).stuffed.diff
    obtain ⟨l, el⟩ := wireX_head f
    obtain ⟨m, em⟩ := wireX_head g
    rw [el, em]
    exact hF.behind _ _
theorem wireX_same (f g : Fr) (fk : f.kind = 3) (gk : g.kind = 3) (h : f.id = g.id ∧ f.sec = g.sec ∧ f.sdt = g.sdt ∧ f.vcid = g.vcid ∧ f.af = g.af ∧ f.data = g.data) : wireX f = wireX g := by
  obtain ⟨h1, h2, h3, h4, h5, h6⟩ := h
  have hh : headX f = headX g := by unfold headX; rw [h1]
  have hc : codeX f = codeX g := by unfold codeX; rw [fk, gk, h6]
  have hp1 : part1X f = part1X g := by unfold part1X; rw [hh, h2, h3, hc]
  have hp2 : part2X f = part2X g := by unfold part2X; rw [hp1, hh]
  have hp3 : part3X f = part3X g := by unfold part3X; rw [hp2, h4, h5, h6]
  have hb : bodyX f = bodyX g := by unfold bodyX; rw [hp3]
  unfold wireX rawX
  rw [hh, hb]
theorem xlApart_plain (f g : Fr) (fk : f.kind = 3) (gk : g.kind = 3) (fo : okF f = true) (go : okF g = true) (fn : FrN f) (gn : FrN g) :
    diffB (wireX f) (wireX g) (min (wireX f).length (wireX g).length) = !sameF f g := by
  rw [sameX f g fk gk fo go]
  by_cases h : f.id = g.id ∧ f.sec = g.sec ∧ f.sdt = g.sdt ∧ f.vcid = g.vcid ∧ f.af = g.af ∧ f.data = g.data
  · rw [decide_eq_true h, wireX_same f g fk gk h, same_apart]; rfl
  · rw [decide_eq_false h, diff_apart (wireX_diff f g fk gk fo go fn gn h)]; rfl
end Go.Proofs.Ytmlkmcpcokjogaa
-- Pot2: append's law for a row behind a pointer, where the two slices are of two types. No condition.
namespace Go.Proofs.Ytmlkmcpcokjogaa
open Go.RowKit
theorem append_types {P : Program} {t t2 ty e : TypeId} (ht : P.underlying t = some (.slice e)) (ht2 : P.underlying t2 = some (.slice e)) (args : Array Value) (w : World) :
    (Builtin.append_ #[t, t2] ty args).run P w = (Builtin.append_ #[t, t] ty args).run P w := by
  unfold Builtin.append_
  simp only [List.getElem?_toArray, List.getElem?_cons_zero, List.getElem?_cons_succ]
  cases h0 : args[0]? with
  | none => rfl
  | some s =>
    cases h1 : args[1]? with
    | none => rfl
    | some x =>
      simp only [Sem.run_bind, run_underlying ht, Result.andThen_ok]
      cases s <;> try rfl
      simp only [Sem.run_bind]
      cases hX : (sizeOf e).run P w with
      | halt y w1 => rfl
      | ok size w1 => simp only [Result.andThen_ok, run_underlying ht, run_underlying ht2]
theorem wp_types {P : Program} {t t2 e : TypeId} {o : Oper} {a : Act} {w : World} {K : Act → World → Prop} {Q : Exit → Act → World → Prop} (s x : Operand) (ht : P.underlying t = some (.slice e)) (ht2 : P.underlying t2 = some (.slice e))
    (ho : o.op = .call { callee := .builtin .append, args := #[s, x], argTypes := #[t, t2] })
    (h : Oper.wp P { o with op := .call { callee := .builtin .append, args := #[s, x], argTypes := #[t, t] } } a w K Q) : o.wp P a w K Q := by
  have he : (execOp a.eval o).run P w = (execOp a.eval { o with op := .call { callee := .builtin .append, args := #[s, x], argTypes := #[t, t] } }).run P w := by
    unfold execOp
    simp only [ho, resolve, invoke, builtin, Sem.run_bind, Sem.run_pure, Result.andThen_ok]
    rw [append_types ht ht2]
  unfold Oper.wp at h ⊢
  rw [he]
  exact h
theorem wpList_pot2 {P : Program} {W0 w : World} {B b t : Nat} {A : Option Addr} {c : Nat} {l : List Nat} (h : Pot w B b t A c l) (hW : Keep B b W0 w) {ops : Array Oper} {rest : List Oper} {o : Oper} {a : Act} {Q : Exit → Act → World → Prop} (hgd : o.guard = none) (s x : Operand) (ty ty2 : TypeId)
    (ho : o.op = .call { callee := .builtin .append, args := #[s, x], argTypes := #[ty, ty2] })
    (i : TypeInfo) (z : Value) (bytes : Nat) (ht : P.underlying ty = some (.slice 5)) (ht2 : P.underlying ty2 = some (.slice 5)) (hi : P.info? 5 = some i) (hz : i.zero = some z) (hsize : i.size = 1) (hby : i.bytes = bytes) (hzs : z.cells.size = 1)
    (n : Nat) (hn : l.length = n) (hs : a.eval s = .slice A n c)
    (A2 : Option Addr) (m d : Nat) (news : List Nat) (hx : a.eval x = .slice A2 m d) (hm : news.length = m) (hr : Rd w A2 (bys news)) (hd : news = [] → A2 = none → d = 0)
    (N : Nat) (hN : n + m = N) (h63 : N ≤ maxLen) (hbytes : N * bytes ≤ 140737488355328)
    (hk : ∀ w' A3 c3, Hid (Potd W0 w' B b t (.slice A n c) A3 c3 (l ++ news)) → w'.cell? ⟨b, 0, none⟩ = some (.slice A n c) → w'.frozen? ⟨b, 0, none⟩ = false → wpList P ops Q rest (a.put o.dst (.slice A3 N c3)) w') : wpList P ops Q (o :: rest) a w :=
  wpList_plain hgd fun _ hK => wp_types s x ht ht2 ho (wp_pot h hW s x ty rfl i z bytes ht hi hz hsize hby hzs n hn hs A2 m d news hx hm hr hd N hN h63 hbytes fun w' A3 c3 h2 h3 h4 => hK _ _ (hk w' A3 c3 h2 h3 h4))
end Go.Proofs.Ytmlkmcpcokjogaa
-- FdFields: fd's fields: put, flag, and an FD frame's head. No condition.
namespace Go.Proofs.Ytmlkmcpcokjogaa
open Go.RowKit Go.Maps
set_option maxRecDepth 100000 in
set_option maxHeartbeats 1000000 in
theorem fdPut_any (w : World) (B b t : Nat) (A : Option Addr) (c n size : Nat) (l : List Nat) (h : Pot w B b t A c l) (hn : n < 18446744073709551616) (hs : size ≤ 64) (hlt : n < 2 ^ size) (hl : l.length + size ≤ 1000000) :
    Calls Try.prog 114 #[.pointer (some ⟨b, 0, none⟩), .int .u64 n, .int .i64 size] w fun e w' => e = .returned (.tuple #[]) ∧ (∃ A' c', Pot w' B b t A' c' (l ++ bitsN n size)) ∧ Keep B b w w' := by
  obtain ⟨i0, hi, hz0, hz1, hz2⟩ := info_parts info_u8
  have HB := Lib.hid (bitsPut_any w n size hn hs hlt)
  have HP := Lib.hid h
  clear h hlt
  go_enter Try.func114, Try.ntmps114
  go_wp2_with fail
  refine HB.out.mono ?_
  rintro e w1 ⟨⟨A2, c2, rfl, hrow⟩, hb⟩
  have HQ := Lib.hid (HP.out.below hb)
  have HRow := Lib.hid hrow
  have HB1 := Lib.hid hb
  clear hrow hb
  obtain ⟨q, hq⟩ : ∃ q, l.length = q := ⟨_, rfl⟩
  have hq2 : q + size ≤ 1000000 := by omega
  have c0 : w1.cell? ⟨b, 0, none⟩ = some (.slice A q c) := by rw [← hq]; exact HQ.out.cell
  have z0 : w1.frozen? ⟨b, 0, none⟩ = false := HQ.out.frozen
  have sb : b < w1.heap.size := heap_lt HQ.out.box
  have HL := Lib.hid hq
  clear hq hl
  go_wp2_with (at_builtin; refine wpList_pot2 (W0 := w) HQ.out (.of HB1.out HP.out.size) rfl (.tmp 17) (.tmp 18) 150 40 rfl i0 _ 1 Try.underlying150 Try.underlying40 hi hz0 hz1 hz2 rfl q HL.out rfl A2 size c2 (bitsN n size) rfl (bitsN_length _ _) HRow.out.rd (fun _ e => HRow.out.none_ e) (q + size) rfl (by unfold maxLen; omega) (by omega) ?_; intro w3 A3 c3 HP3 c03 z03)
  go_end0
  obtain ⟨p1, p2⟩ := HP3.out.store (n := q + size) (by rw [List.length_append, HL.out, bitsN_length])
  exact ⟨rfl, ⟨_, _, p1⟩, p2⟩
theorem fdPut_row (w : World) (B b t : Nat) (A : Option Addr) (c : Nat) (n size : Int) (N S : Nat) (l : List Nat) (eN : n = (N : Int)) (eS : size = (S : Int)) (h : Pot w B b t A c l) (hn : N < 18446744073709551616) (hs : S ≤ 64) (hlt : N < 2 ^ S) (hl : l.length + S ≤ 1000000) :
    Calls Try.prog 114 #[.pointer (some ⟨b, 0, none⟩), .int .u64 n, .int .i64 size] w fun e w' => e = .returned (.tuple #[]) ∧ (∃ A' c', Pot w' B b t A' c' (l ++ bitsN N S)) ∧ Keep B b w w' := by
  subst eN eS
  exact fdPut_any w B b t A c N S l h hn hs hlt hl
theorem keyedB : Keyed Try.prog 4 := bool_keyed Try.underlying4
theorem zeroU64 (w : World) : (zeroValue 115).run Try.prog w = .ok (.int .u64 0) w := by kernel_rfl
/-- The map {true: 1}, laid by the call. -/
theorem wpList_insertF {w : World} {ops : Array Oper} {rest : List Oper} {o : Oper} {a : Act} {Q : Exit → Act → World → Prop} (hg : o.guard = none) (m x v : Operand) (hop : o.op = Op.insert 213 m x v)
    (hm : a.eval m = .map (some w.heap.size)) (hx : a.eval x = .bool true) (hv : a.eval v = .int .u64 1)
    (hK : ∀ w', (∀ b : Bool, (Instr.lookup 213 (.map (some w.heap.size)) (.bool b) false).run Try.prog w' = .ok (.int .u64 (bitB b)) w') → Hid (Below w.heap.size w w') → wpList Try.prog ops Q rest (a.put o.dst undef) w') : wpList Try.prog ops Q (o :: rest) a (w.alloc (.map #[] 0)) := by
  refine wpList_plain hg fun K' hK' => ?_
  have hw1 : (Lit.int .u64 1).wf = true := by decide
  obtain ⟨w', hrun, r1, r2⟩ := (World.ownsMap_made (H := Unit) w Try.prog 4 (plainElem Try.prog 115)).update keyedB Try.underlying213 (by decide) (keyOf_bool_mk Try.underlying4 true) (plainElem_int Try.underlying115 hw1)
  unfold Oper.wp
  simp [execOp, hop, hm, hx, hv, hrun, Result.andThen]
  refine hK' _ _ (hK w' (fun b => ?_) ?_)
  · obtain ⟨c, hc, hat, -⟩ := r1.lookup_int keyedB Try.underlying213 Try.underlying115 (zeroU64 w') (keyOf_bool_mk Try.underlying4 b)
    rw [hc]
    cases b
    · rw [atKey_put_other (by intro h; injection h with h; cases h)] at hat
      simp [DataW.atKey] at hat
      rw [← hat]; rfl
    · rw [atKey_put_same ⟨[], rfl⟩ (show WideAt.IsKeyLit (.bool true) from trivial)] at hat
      simp at hat
      rw [← hat]; rfl
  · exact (below_alloc (Below.refl w.heap.size w) (.map #[] 0)).grown r2 (by simp) (fun k hk => by injection hk with hk; omega)
set_option maxRecDepth 100000 in
set_option maxHeartbeats 1000000 in
theorem fdFlag_any (w : World) (B b t : Nat) (A : Option Addr) (c : Nat) (x : Bool) (l : List Nat) (h : Pot w B b t A c l) (hl : l.length + 1 ≤ 1000000) :
    Calls Try.prog 113 #[.pointer (some ⟨b, 0, none⟩), .bool x] w fun e w' => e = .returned (.tuple #[]) ∧ (∃ A' c', Pot w' B b t A' c' (l ++ bitsN (bitB x) 1)) ∧ Keep B b w w' := by
  have hb1 : bitB x < 2 := by cases x <;> decide
  have HP := Lib.hid (fun W (hW : Below w.heap.size w W) => fdPut_any W B b t A c (bitB x) 1 l (h.below hW) (by omega) (by omega) (by omega) hl)
  have HS := Lib.hid h.size
  have hmm := @run_makeMap Try.prog 213
  clear h hl
  go_enter Try.func113, Try.ntmps113
  go_wp2_with (refine wpList_insertF rfl (.tmp 5) _ _ rfl rfl rfl rfl ?_; intro w2 hlk HB2)
  refine (HP.out w2 HB2.out).mono ?_
  rintro e w3 ⟨rfl, h1, h2⟩
  have H1 := Lib.hid h1
  have H2 := Lib.hid h2
  clear h1 h2 hlk hmm
  go_wp2_with fail
  go_end0
  exact ⟨rfl, H1.out, (Keep.of HB2.out HS.out).trans H2.out⟩
/-- What arbitrates: a dominant bit, the identifier, 0010. -/
def headD (f : Fr) : List Nat := bitsN 0 1 ++ bitsN f.id.toNat 11 ++ bitsN 2 4
theorem headD_length (f : Fr) : (headD f).length = 16 := by simp [headD, bitsN_length]
set_option maxRecDepth 100000 in
set_option maxHeartbeats 2000000 in
theorem headD_any (f : Fr) (A : Option Addr) (n c : Nat) (w : World) (h0 : 0 ≤ f.id) (h1 : f.id < 2048) :
    Calls Try.prog 88 #[frv f (.slice A n c)] w fun e w' => (∃ A' c', e = .returned (.slice A' 16 c') ∧ Row w' w.heap.size 5 A' c' (bys (headD f))) ∧ Below w.heap.size w w' := by
  have hl : headD f = bitsN 0 1 ++ bitsN f.id.toNat 11 ++ bitsN 2 4 := rfl
  have hlen := headD_length f
  generalize headD f = l at *
  obtain ⟨kind, id, ext, rtr, brs, esi, sec, sdt, vcid, af, data⟩ := f
  dsimp only [frv] at *
  obtain ⟨m, rfl⟩ := Int.eq_ofNat_of_zero_le h0
  rw [Int.toNat_natCast] at hl
  have HL := Lib.hid hl
  have HLEN := Lib.hid hlen
  clear hl h0 hlen
  go_enter Try.func88, Try.ntmps88
  go_wp2_with fail
  refine calls_blk2 (fun W0 q1 q2 hb => ?_)
  have hp : Pot W0 (w.heap.size + 1 + 1) (w.heap.size + 1) 150 none 0 [] := ⟨q2, fun _ e => (by cases e), heap_lt q2, Row.nil _ _ _⟩
  have HB := Lib.hid hb
  have HP := Lib.hid hp
  obtain ⟨a0, a1, a2, a3, a4, a5, a6, a7, a8, a9, a10⟩ := cells11 q1
  have b1 := fun e : KE (w.heap.size + 1 + 1) (w.heap.size + 1) W0 => ke_cell a1 (by show w.heap.size < _; omega) (by show w.heap.size ≠ _; omega) e
  clear hb hp q1 q2 a0 a1 a2 a3 a4 a5 a6 a7 a8 a9 a10
  refine (kec_same (fdPut_row _ _ _ _ _ _ _ _ 0 1 _ rfl rfl HP.out (by omega) (by omega) (by omega) (by simp))).mono ?_
  rintro x _ ⟨e1, rfl, rfl, A1, c1, hp1⟩
  have HP1 := Lib.hid hp1
  clear hp1
  go_wp2_with fail
  refine (kec (fdPut_row _ _ _ _ _ _ _ _ m 11 _ ?c1 rfl HP1.out (by omega) (by omega) (by omega) (by simp [bitsN_length]))).mono ?_
  case c1 => first | rfl | omega
  rintro x _ ⟨e2, rfl, rfl, A2, c2, hp2⟩
  have HP2 := Lib.hid hp2
  clear hp2
  go_wp2_with fail
  refine (kec (fdPut_row _ _ _ _ _ _ _ _ 2 4 _ rfl rfl HP2.out (by omega) (by omega) (by omega) (by simp [bitsN_length]))).mono ?_
  rintro x _ ⟨e3, rfl, rfl, A3, c3, hp3⟩
  have hrow : Pot e3.W (w.heap.size + 1 + 1) (w.heap.size + 1) 150 A3 c3 l := by rw [HL.out]; exact hp3
  have d0 : e3.W.cell? ⟨w.heap.size + 1, 0, none⟩ = some (.slice A3 16 c3) := by rw [← HLEN.out]; exact hrow.cell
  have f0 : e3.W.frozen? ⟨w.heap.size + 1, 0, none⟩ = false := hrow.frozen
  have hsz : w.heap.size + 1 < e3.W.heap.size := heap_lt hrow.box
  have HP3 := Lib.hid hrow
  clear hp3 hrow
  go_wp2_with fail
  refine bodyPost_ret (v := .slice A3 16 c3) (by simp [results, Try.results88, go_sem, d0]) rfl ⟨⟨A3, c3, rfl, ?_⟩, ?_⟩
  · exact (HP3.out.row.setCell HP3.out.ne 0 _).mono (by omega)
  · exact (HB.out.trans (e3.keep.below (by omega) (by omega))).setCell (p := ⟨w.heap.size + 1, 0, none⟩) (by show w.heap.size ≤ w.heap.size + 1; omega) _
end Go.Proofs.Ytmlkmcpcokjogaa
-- POk: What it means that a frame may be: plain facts. No condition.
namespace Go.Proofs.Ytmlkmcpcokjogaa
open Go.RowKit
theorem codeF_kind (k n : Int) (h : (codeF k n).isSome = true) : (k = 1 ∧ 0 ≤ n ∧ n ≤ 8) ∨ (k = 2 ∧ 0 ≤ n ∧ n ≤ 64) ∨ (k = 3 ∧ 1 ≤ n ∧ n ≤ 2048) := by
  unfold codeF loOf hiOf at h
  by_cases h2 : k = 2
  · right; left
    rw [if_pos h2] at h
    refine ⟨h2, ?_⟩
    by_cases hs : fdSizes[lb fdSizes n]? = some n
    · have hm : n ∈ fdSizes := List.mem_of_getElem? hs
      simp [fdSizes] at hm
      omega
    · simp [hs] at h
  · rw [if_neg h2] at h
    by_cases h1 : k = 1
    · left
      simp only [h1, if_true] at h
      by_cases hc : (0 : Int) ≤ n ∧ n ≤ 8
      · exact ⟨h1, hc⟩
      · simp [hc] at h
    · by_cases h3 : k = 3
      · right; right
        subst h3
        by_cases hc : (1 : Int) ≤ n ∧ n ≤ 2048
        · exact ⟨rfl, hc⟩
        · simp [hc] at h
      · simp [h1, h3] at h
        exfalso
        omega
/-- What a frame that may be is like. -/
structure OkF (f : Fr) : Prop where
  kind : f.kind = 1 ∨ f.kind = 2 ∨ f.kind = 3
  size : (codeF f.kind f.data.length).isSome = true
  id : f.id < if f.ext then 536870912 else 2048
  ext : f.kind ≠ 1 → f.ext = false
  rtr : f.kind ≠ 1 → f.rtr = false
  rtr0 : f.rtr = true → f.data = []
  brs : f.kind ≠ 2 → f.brs = false
  esi : f.kind ≠ 2 → f.esi = false
  sec : f.kind ≠ 3 → f.sec = false
  sdt : f.kind ≠ 3 → f.sdt = 0
  vcid : f.kind ≠ 3 → f.vcid = 0
  af : f.kind ≠ 3 → f.af = 0
theorem okF_iff (f : Fr) : okF f = true ↔ OkF f := by
  obtain ⟨kind, id, ext, rtr, brs, esi, sec, sdt, vcid, af, data⟩ := f
  unfold okF limF sameF bareF zeroF
  constructor
  · intro h
    simp at h
    obtain ⟨⟨⟨h1, h2⟩, h3⟩, h4⟩ := h
    have hk := codeF_kind _ _ h1
    obtain ⟨⟨a1, a2, a3, a4, a5⟩, a6, a7, a8⟩ := h4
    refine ⟨?_, h1, h2, ?_, ?_, ?_, ?_, ?_, ?_, ?_, ?_, ?_⟩ <;> dsimp only
    · omega
    all_goals (intro hh; simp_all)
  · rintro ⟨k1, k2, k3, k4, k5, k6, k7, k8, k9, k10, k11, k12⟩
    dsimp only at *
    simp
    refine ⟨⟨⟨k2, k3⟩, ?_⟩, ⟨?_, ?_, ?_, ?_, ?_⟩, ?_, ?_, ?_⟩
    · cases hr : rtr
      · exact .inl rfl
      · exact .inr (k6 hr)
    · by_cases hk : kind = 1
      · exact .inl hk
      · exact .inr (k4 hk)
    · by_cases hk : kind = 1
      · exact .inl hk
      · exact .inr (k5 hk)
    all_goals (by_cases hk2 : kind = 2 <;> by_cases hk3 : kind = 3 <;> simp_all)
end Go.Proofs.Ytmlkmcpcokjogaa
-- PFd: An FD frame's bits, by definition. No condition.
namespace Go.Proofs.Ytmlkmcpcokjogaa
open Go.RowKit
def codeD (f : Fr) : Nat := ((codeF f.kind f.data.length).getD 0).toNat
/-- Ahead of all stuffing. -/
def bodyD (f : Fr) : List Nat := headD f ++ bitsN (bitB f.brs) 1 ++ bitsN (bitB f.esi) 1 ++ bitsN (codeD f) 4 ++ bytesN f.data
theorem bodyD_length (f : Fr) : (bodyD f).length = 22 + 8 * f.data.length := by simp [bodyD, headD_length, bitsN_length, bytesN_length]; omega
theorem headD_bits (f : Fr) : ∀ x ∈ headD f, x ≤ 1 := by
  intro x hx
  unfold headD at hx
  simp only [List.mem_append] at hx
  rcases hx with (h | h) | h <;> exact bitsN_bit _ _ x h
theorem bodyD_bits (f : Fr) : ∀ x ∈ bodyD f, x ≤ 1 := by
  intro x hx
  unfold bodyD at hx
  simp only [List.mem_append] at hx
  rcases hx with (((h | h) | h) | h) | h
  · exact headD_bits f x h
  · exact bitsN_bit _ _ x h
  · exact bitsN_bit _ _ x h
  · exact bitsN_bit _ _ x h
  · exact bytesN_bits _ x h
/-- The sum of so many bytes. -/
def sizeS (n : Nat) : Nat := if 16 < n then 21 else 17
def polyS (n : Nat) : Nat := if 16 < n then 1058969 else 92251
def startS (n : Nat) : Nat := if 16 < n then 1048576 else 65536
def kindS (n : Nat) : Int := if 16 < n then 3 else 2
def lastN (l : List Nat) : Nat := (l[l.length - 1]?).getD 0
/-- Ahead of its stuffing: the tally, and the sum. -/
def sealD (raw : List Nat) (st n : Nat) : List Nat := tallyN st ++ bitsN (crcN (sizeS n) (polyS n) (startS n) (raw ++ tallyN st)) (sizeS n)
def closeD (raw : List Nat) (st n : Nat) : List Nat := fixN 4 true (lastN raw) (sealD raw st n)
def raw0D (f : Fr) : List Nat := stuffN (bodyD f)
def rawD (f : Fr) : List Nat := raw0D f ++ closeD (raw0D f) ((raw0D f).length - (bodyD f).length) f.data.length
def wireD (f : Fr) : List Nat := rawD f ++ List.replicate 10 1
theorem tallyN_bits (st : Nat) : ∀ x ∈ tallyN st, x ≤ 1 := fun x hx => bitsN_bit _ _ x hx
theorem sealD_length (raw : List Nat) (st n : Nat) : (sealD raw st n).length = 4 + sizeS n := by simp [sealD, tallyN_length, bitsN_length]
theorem sealD_bits (raw : List Nat) (st n : Nat) : ∀ x ∈ sealD raw st n, x ≤ 1 := by
  intro x hx
  unfold sealD at hx
  rcases List.mem_append.1 hx with h | h
  · exact tallyN_bits _ x h
  · exact bitsN_bit _ _ x h
theorem closeD_length (raw : List Nat) (st n : Nat) : (closeD raw st n).length = 4 + sizeS n + (3 + sizeS n) / 4 + 1 := by
  unfold closeD
  rw [fixN_length 4 true _ _ (by decide), sealD_length, if_neg (by omega)]
  simp
theorem lastN_le (l : List Nat) (h : ∀ x ∈ l, x ≤ 1) : lastN l ≤ 1 := by
  unfold lastN
  cases hx : l[l.length - 1]? with
  | none => simp
  | some x => exact h x (List.mem_of_getElem? hx)
theorem sizeS_or (n : Nat) : sizeS n = 17 ∨ sizeS n = 21 := by unfold sizeS; split <;> simp
theorem raw0D_len (f : Fr) : 22 + 8 * f.data.length ≤ (raw0D f).length ∧ (raw0D f).length ≤ 22 + 8 * f.data.length + (21 + 8 * f.data.length) / 4 := by
  have h1 := stuffN_len (bodyD f) (by intro e; have := bodyD_length f; rw [e] at this; simp at this; omega)
  have h2 := stuffN_ge (bodyD f)
  rw [bodyD_length] at h1 h2
  unfold raw0D
  omega
theorem rawD_len (f : Fr) : (rawD f).length = (raw0D f).length + (4 + sizeS f.data.length + (3 + sizeS f.data.length) / 4 + 1) := by unfold rawD; rw [List.length_append, closeD_length]
/-- What an FD frame that may be is like. -/
theorem okD (f : Fr) (hk : f.kind = 2) (h : okF f = true) : f.id < 2048 ∧ f.data.length ≤ 64 ∧ ∃ c : Nat, c < 16 ∧ codeF f.kind f.data.length = some (c : Int) ∧ fdSizes[c]? = some (f.data.length : Int) := by
  have ho := (okF_iff f).1 h
  have he := ho.ext (by rw [hk]; decide)
  have hid := ho.id
  rw [he] at hid
  have hs := ho.size
  have hk2 := codeF_kind _ _ hs
  rw [hk] at hs hk2 ⊢
  have e : codeF 2 (f.data.length : Int) = if fdSizes[lb fdSizes f.data.length]? = some (f.data.length : Int) then some (lb fdSizes f.data.length : Int) else none := by simp [codeF]
  rw [e] at hs ⊢
  by_cases hc : fdSizes[lb fdSizes f.data.length]? = some (f.data.length : Int)
  · rw [if_pos hc]
    refine ⟨by simpa using hid, by omega, lb fdSizes f.data.length, ?_, rfl, hc⟩
    have := (List.getElem?_eq_some_iff.1 hc).1
    exact this
  · rw [if_neg hc] at hs; cases hs
theorem okD_bare (f : Fr) (hk : f.kind = 2) (h : okF f = true) : f.ext = false ∧ f.rtr = false ∧ f.sec = false ∧ f.sdt = 0 ∧ f.vcid = 0 ∧ f.af = 0 := by
  have ho := (okF_iff f).1 h
  exact ⟨ho.ext (by rw [hk]; decide), ho.rtr (by rw [hk]; decide), ho.sec (by rw [hk]; decide), ho.sdt (by rw [hk]; decide), ho.vcid (by rw [hk]; decide), ho.af (by rw [hk]; decide)⟩
theorem headD_first (f g : Fr) (f0 : 0 ≤ f.id) (f1 : f.id < 2048) (g0 : 0 ≤ g.id) (g1 : g.id < 2048) (hne : f.id ≠ g.id) : First (f.id < g.id) (headD f) (headD g) := by
  obtain ⟨n, hn⟩ := Int.eq_ofNat_of_zero_le f0
  obtain ⟨m, hm⟩ := Int.eq_ofNat_of_zero_le g0
  unfold headD
  rw [hn, hm]
  simp only [Int.toNat_natCast]
  have h : First (n < m) (bitsN n 11) (bitsN m 11) := bitsN_first 11 n m (by omega) (by omega) (by omega)
  exact ((h.ahead (bitsN 0 1)).behind (bitsN 2 4) (bitsN 2 4)).iff (by omega)
theorem wireD_head (f : Fr) : ∃ l, wireD f = stuffN (headD f) ++ l := by
  have e : bodyD f = headD f ++ (bitsN (bitB f.brs) 1 ++ bitsN (bitB f.esi) 1 ++ bitsN (codeD f) 4 ++ bytesN f.data) := by unfold bodyD; simp only [List.append_assoc]
  refine ⟨stf (stE 0 0 (headD f)).1 (stE 0 0 (headD f)).2 (bitsN (bitB f.brs) 1 ++ bitsN (bitB f.esi) 1 ++ bitsN (codeD f) 4 ++ bytesN f.data) ++ closeD (raw0D f) ((raw0D f).length - (bodyD f).length) f.data.length ++ List.replicate 10 1, ?_⟩
  have e2 : raw0D f = stuffN (headD f) ++ stf (stE 0 0 (headD f)).1 (stE 0 0 (headD f)).2 (bitsN (bitB f.brs) 1 ++ bitsN (bitB f.esi) 1 ++ bitsN (codeD f) 4 ++ bytesN f.data) := by
    unfold raw0D
    rw [e]
    unfold stuffN
    rw [stf_append]
  unfold wireD rawD
  generalize closeD (raw0D f) ((raw0D f).length - (bodyD f).length) f.data.length = cl
  rw [e2]
  simp only [List.append_assoc]
theorem rawD_head (f : Fr) : (stuffN (headD f)).length + 6 ≤ (raw0D f).length := by
  have e : bodyD f = headD f ++ (bitsN (bitB f.brs) 1 ++ bitsN (bitB f.esi) 1 ++ bitsN (codeD f) 4 ++ bytesN f.data) := by unfold bodyD; simp only [List.append_assoc]
  unfold raw0D
  rw [e]
  unfold stuffN
  rw [stf_append, List.length_append]
  have := stf_ge (bitsN (bitB f.brs) 1 ++ bitsN (bitB f.esi) 1 ++ bitsN (codeD f) 4 ++ bytesN f.data) (stE 0 0 (headD f)).1 (stE 0 0 (headD f)).2
  simp only [List.length_append, bitsN_length] at this
  omega
theorem fd_bound (f : Fr) (hk : f.kind = 2) (hok : okF f = true) : (stuffN (headD f)).length + 19 ≤ (rawD f).length ∧ (rawD f).length ≤ 40000 ∧ 12 ≤ (stuffN (headD f)).length := by
  have h1 := rawD_head f
  have h2 := rawD_len f
  have h3 := raw0D_len f
  have h4 := sizeS_or f.data.length
  have h5 := (okD f hk hok).2.1
  have h6 := stuffN_ge (headD f)
  rw [headD_length] at h6
  omega
theorem raw0D_bits (f : Fr) : ∀ x ∈ raw0D f, x ≤ 1 := stuffN_bits _ (bodyD_bits f)
theorem rawD_bits (f : Fr) : ∀ x ∈ rawD f, x ≤ 1 := by
  intro x hx
  unfold rawD at hx
  rcases List.mem_append.1 hx with h | h
  · exact raw0D_bits f x h
  · unfold closeD fixN at h; exact fixE_bits 4 _ (sealD_bits _ _ _) _ _ x h
theorem rawD_zero (f : Fr) : ∃ l, rawD f = 0 :: l := by
  have e : ∃ l, bodyD f = 0 :: l := ⟨_, rfl⟩
  obtain ⟨l, hl⟩ := e
  have h : ∃ m, raw0D f = 0 :: m := by unfold raw0D; rw [hl]; exact ⟨_, rfl⟩
  obtain ⟨m, hm⟩ := h
  unfold rawD
  generalize closeD (raw0D f) ((raw0D f).length - (bodyD f).length) f.data.length = cl
  rw [hm]
  exact ⟨_, rfl⟩
theorem rawE_last (l : List Nat) : ∀ last run, l ≠ [] → (rawE last run l).1 = lastN l := by
  induction l with
  | nil => intro _ _ h; exact absurd rfl h
  | cons x l ih =>
    intro last run _
    by_cases hl : l = []
    · subst hl; rfl
    · simp only [rawE]
      rw [ih _ _ hl]
      unfold lastN
      have : 0 < l.length := List.length_pos_iff.2 hl
      rw [List.length_cons, show l.length + 1 - 1 = (l.length - 1) + 1 by omega, List.getElem?_cons_succ]
theorem rawD_runs (f : Fr) : runsM 5 0 0 (rawD f) = true ∧ (rawE 0 0 (rawD f)).2 ≤ 5 := by
  have hA := runsM_of 5 (by omega) _ 0 0 (stuffN_runs (bodyD f))
  have hA5 : (rawE 0 0 (stuffN (bodyD f))).2 ≤ 5 := by unfold stuffN; rw [rawE_stf _ 0 0 (by omega)]; exact stE_le _ 0 0 (by omega)
  have hne : stuffN (bodyD f) ≠ [] := by intro e; have := (raw0D_len f).1; unfold raw0D at this; rw [e] at this; simp at this
  have hl := rawE_last (stuffN (bodyD f)) 0 0 hne
  have hb := lastN_le _ (raw0D_bits f)
  obtain ⟨f1, f2, -⟩ := fix_runs 4 (by omega) (sealD (raw0D f) ((raw0D f).length - (bodyD f).length) f.data.length) (sealD_bits _ _ _) (lastN (raw0D f)) (rawE 0 0 (stuffN (bodyD f))).2 0 hb (by omega) (by omega)
  have hF : closeD (raw0D f) ((raw0D f).length - (bodyD f).length) f.data.length = fixE 4 (lastN (raw0D f)) 0 (sealD (raw0D f) ((raw0D f).length - (bodyD f).length) f.data.length) := rfl
  have e0 : raw0D f = stuffN (bodyD f) := rfl
  unfold rawD
  rw [hF, runsM_append, rawE_append]
  generalize sealD (raw0D f) ((raw0D f).length - (bodyD f).length) f.data.length = se at *
  rw [← e0] at hA hA5 hl f1 f2
  rw [hA, hl, f1]
  exact ⟨rfl, by omega⟩
theorem rawD_see (f : Fr) : SeeOk 5 (stuffN (headD f)).length (rawD f) := by
  intro k hk
  have h := runsM_at 5 _ (rawD_runs f).1 k hk
  exact ⟨h, fun _ => h⟩
theorem fdOrders_plain (f g : Fr) (hk : f.kind = 2) (hkg : g.kind = 2) (fo : okF f = true) (go : okF g = true) (f0 : 0 ≤ f.id) (g0 : 0 ≤ g.id) (hne : f.id ≠ g.id) :
    ∃ j, j < (stuffN (headD f)).length ∧ j < (stuffN (headD g)).length ∧ (∀ i, i < j → (wireD f)[i]? = (wireD g)[i]?) ∧ ∃ x y, (wireD f)[j]? = some x ∧ (wireD g)[j]? = some y ∧ x ≠ y ∧ (x = 0 ↔ f.id < g.id) := by
  have h := (headD_first f g f0 (okD f hk fo).1 g0 (okD g hkg go).1 hne).stuffed
  obtain ⟨j, h1, h2, h3, x, y, h4, h5, h6⟩ := h.at
  obtain ⟨l, el⟩ := wireD_head f
  obtain ⟨m, em⟩ := wireD_head g
  rw [el, em]
  refine ⟨j, h1, h2, fun i hi => ?_, x, y, ?_, ?_, h6⟩
  · rw [List.getElem?_append_left (by omega), List.getElem?_append_left (by omega)]; exact h3 i hi
  · rw [List.getElem?_append_left h1]; exact h4
  · rw [List.getElem?_append_left h2]; exact h5
theorem sameD (f g : Fr) (fk : f.kind = 2) (gk : g.kind = 2) (fo : okF f = true) (go : okF g = true) : sameF f g = decide (f.id = g.id ∧ f.brs = g.brs ∧ f.esi = g.esi ∧ f.data = g.data) := by
  obtain ⟨a1, a2, a3, a4, a5, a6⟩ := okD_bare f fk fo
  obtain ⟨b1, b2, b3, b4, b5, b6⟩ := okD_bare g gk go
  unfold sameF
  rw [fk, gk, a1, a2, a3, a4, a5, a6, b1, b2, b3, b4, b5, b6]
  rw [Bool.eq_iff_iff]
  simp only [decide_eq_true_eq]
  constructor
  · intro h; simp_all
  · intro h; simp_all
theorem codeD_lt (f : Fr) (hk : f.kind = 2) (hok : okF f = true) : codeD f < 16 ∧ fdSizes[codeD f]? = some (f.data.length : Int) := by
  obtain ⟨-, -, c, hc, h1, h2⟩ := okD f hk hok
  unfold codeD
  rw [h1]
  simpa using ⟨hc, h2⟩
theorem bodyD_diff (f g : Fr) (fk : f.kind = 2) (gk : g.kind = 2) (fo : okF f = true) (go : okF g = true) (fn : FrN f) (gn : FrN g) (h : ¬ (f.id = g.id ∧ f.brs = g.brs ∧ f.esi = g.esi ∧ f.data = g.data)) : Diff (bodyD f) (bodyD g) := by
  obtain ⟨fi, -⟩ := okD f fk fo
  obtain ⟨gi, -⟩ := okD g gk go
  obtain ⟨fc, fs⟩ := codeD_lt f fk fo
  obtain ⟨gc, gs⟩ := codeD_lt g gk go
  unfold bodyD
  by_cases hid : f.id = g.id
  · have hh : headD f = headD g := by unfold headD; rw [hid]
    rw [hh]
    by_cases hb : f.brs = g.brs
    · rw [hb]
      by_cases he : f.esi = g.esi
      · rw [he]
        by_cases hc : codeD f = codeD g
        · have hl : f.data.length = g.data.length := by rw [hc, gs] at fs; injection fs with fs; omega
          rw [hc]
          exact (bytesN_diff f.data g.data hl fn.data gn.data (fun hd => h ⟨hid, hb, he, hd⟩)).ahead _
        · exact Diff.behind (Diff.ahead (bitsN_diff 4 _ _ (by omega) (by omega) hc) _) _ _
      · exact Diff.behind (Diff.behind (Diff.ahead (bitsN_diff 1 _ _ (by cases f.esi <;> decide) (by cases g.esi <;> decide) (bitB_inj he)) _) _ _) _ _
    · exact Diff.behind (Diff.behind (Diff.behind (Diff.ahead (bitsN_diff 1 _ _ (by cases f.brs <;> decide) (by cases g.brs <;> decide) (bitB_inj hb)) _) _ _) _ _) _ _
  · exact (((((headD_first f g fn.id0 fi gn.id0 gi hid).diff).behind _ _).behind _ _).behind _ _).behind _ _
theorem wireD_same (f g : Fr) (fk : f.kind = 2) (gk : g.kind = 2) (h : f.id = g.id ∧ f.brs = g.brs ∧ f.esi = g.esi ∧ f.data = g.data) : wireD f = wireD g := by
  obtain ⟨h1, h2, h3, h4⟩ := h
  have hh : headD f = headD g := by unfold headD; rw [h1]
  have hc : codeD f = codeD g := by unfold codeD; rw [fk, gk, h4]
  have hb : bodyD f = bodyD g := by unfold bodyD; rw [hh, h2, h3, hc, h4]
  unfold wireD rawD raw0D
  rw [hb, h4]
theorem fdApart_plain (f g : Fr) (fk : f.kind = 2) (gk : g.kind = 2) (fo : okF f = true) (go : okF g = true) (fn : FrN f) (gn : FrN g) :
    diffB (wireD f) (wireD g) (min (wireD f).length (wireD g).length) = !sameF f g := by
  rw [sameD f g fk gk fo go]
  by_cases h : f.id = g.id ∧ f.brs = g.brs ∧ f.esi = g.esi ∧ f.data = g.data
  · rw [decide_eq_true h, wireD_same f g fk gk h, same_apart]; rfl
  · have hd : Diff (wireD f) (wireD g) := by
      unfold wireD rawD
      exact (((bodyD_diff f g fk gk fo go fn gn h).stuffed).behind _ _).behind _ _
    rw [decide_eq_false h, diff_apart hd]; rfl
end Go.Proofs.Ytmlkmcpcokjogaa
-- ConcatF: slices.Grow of nil, and slices.Concat over fd's fields. No condition.
namespace Go.Proofs.Ytmlkmcpcokjogaa
open Go.RowKit
set_option maxRecDepth 100000 in
set_option maxHeartbeats 400000 in
theorem growNilF_any (n : Nat) (w : World) (hn : n ≤ 1000000) :
    Calls Try.prog 142 #[.slice none 0 0, .int .i64 n] w fun e w' => (∃ A c, e = .returned (.slice A 0 c) ∧ Row w' w.heap.size 5 A c []) ∧ Below w.heap.size w w' := by
  by_cases h0 : n = 0
  · subst h0
    go_enter Try.func142, Try.ntmps142
    go_wp2_with fail
    go_ret
    exact ⟨⟨none, 0, rfl, Row.nil _ _ _⟩, Below.refl _ _⟩
  · obtain ⟨i0, hi, hz0, hz1, hz2⟩ := info_parts info_u8
    have hp : 0 < (n : Int) := by omega
    have hfit : Builtin.nextslicecap (0 + n) 0 * i0.bytes ≤ 281474976710656 := by
      rw [hz2]
      have : Builtin.nextslicecap (0 + n) 0 = n := by unfold Builtin.nextslicecap; simp; omega
      omega
    have hrun := Lib.run_append_grow_zeros (P := Try.prog) w 150 3 150 5 i0 (.int .u8 0) .i64 .i64 Try.underlying150 Try.underlying3 hi hz0 none 0 0 [] (by simp [Builtin.firstCells]) n (by omega) (by omega) (by omega) (by omega) (by rw [hz2]; omega) hfit
    have hcap : 0 + n ≤ grownCap w (0 + n) 0 5 := grownCap_ge _ _ _ _
    have hcm : grownCap w (0 + n) 0 5 ≤ maxLen := grownCap_le_maxLen _ _ _ _ (by unfold maxLen; omega)
    generalize grownCap w (0 + n) 0 5 = cap at *
    rw [Nat.zero_add] at *
    have hown := World.ownsRow_made (e := 5) (size := 1) (base := w.heap.size) w.drew (([] : List Value).toArray ++ Builtin.zeroCells (Value.int .u8 0).cells n ++ Builtin.zeroCells (Value.int .u8 0).cells (cap - n)) cap (Nat.le_refl _) hcm (by simp [size_zeroCells, Value.cells]; omega)
    rw [show (([] : List Value).toArray ++ Builtin.zeroCells (Value.int .u8 0).cells n) = Builtin.zeroCells #[Value.int .u8 0] n from by simp [Value.cells]] at hown
    have HRUN := Lib.hid hrun
    have HOWN := Lib.hid hown
    have hcm2 : (cap : Int) ≤ 9223372036854775807 := by unfold maxLen at hcm; omega
    clear hrun hown hfit hi hz0 hz1 hz2 h0 hcm
    go_enter Try.func142, Try.ntmps142
    go_wp2_with (at_builtin; refine wpList_append_run rfl (.tmp 20) (.tmp 21) 150 3 rfl _ _ _ _ rfl rfl HRUN.out ?_)
    go_ret
    exact ⟨⟨_, _, rfl, HOWN.out⟩, (below_alloc (Below.refl _ _) _).drew⟩
set_option maxRecDepth 100000 in
set_option maxHeartbeats 1000000 in
theorem concatF_any (A : Option Addr) (c n N : Nat) (ps : List Part) (w : World) (hr : Rd w A (ps.map partV)) (hn : ps.length = n) (hps : ∀ p ∈ ps, PartOk w p) (hN : (partsL ps).length = N) (hN2 : N ≤ 1000000) (hn2 : n ≤ 1000) :
    Calls Try.prog 115 #[.slice A n c] w fun e w' => (∃ A' c', e = .returned (.slice A' N c') ∧ Row w' w.heap.size 5 A' c' (bys (partsL ps))) ∧ Below w.heap.size w w' := by
  obtain ⟨i0, hi, hz0, hz1, hz2⟩ := info_parts info_u8
  have HR := Lib.hid hr
  have HN := Lib.hid hn
  have HPS := Lib.hid hps
  have HL := Lib.hid hN
  clear hr hn hps hN
  go_enter Try.func115, Try.ntmps115
  go_wp2_with fail
  go_loop [3, 11] (fun sv iv => ∃ k s : Nat, k ≤ n ∧ s ≤ N ∧ Hid (s = (partsL (ps.take k)).length) ∧ sv = .int .i64 s ∧ iv = .int .i64 k) (fun _ iv => n - (intOf iv).toNat)
  case atStart => exact ⟨0, 0, by omega, by omega, (by simp [partsL] : (0 : Nat) = (partsL (ps.take 0)).length), rfl, rfl⟩
  case round =>
    obtain ⟨k, s, hk, hs, HS, rfl, rfl⟩ := hrel
    by_cases hkn : k < n
    · have hkl : k < ps.length := by rw [HN.out]; exact hkn
      obtain ⟨p, hp⟩ : ∃ p, ps[k] = p := ⟨_, rfl⟩
      obtain ⟨ad, rfl, ca⟩ := HR.out k (partV p) (by simp [hkl, hp])
      obtain ⟨m, hm⟩ : ∃ m, p.2.2.length = m := ⟨_, rfl⟩
      have ca' : w.cell? (ad.add k) = some (.slice p.1 m p.2.1) := by rw [ca, partV, hm]
      have hsum : s + m = (partsL (ps.take (k + 1))).length := by rw [partsL_take ps k hkl, List.length_append, hp, hm, ← HS.out]
      have hle : s + m ≤ N := by rw [hsum, ← HL.out]; exact partsL_le ps (k + 1)
      have HSUM := Lib.hid hsum
      clear ca hsum hm hp
      obtain ⟨p1, p2, p3⟩ := p
      dsimp only at ca'
      go_wp2_with fail
      go_round
      case rel => exact ⟨k + 1, s + m, by omega, by omega, HSUM.out, by go_num, by go_num⟩
      case measure => simp [intOf]; omega
    · obtain rfl : n = k := by omega
      have hsN : s = N := by rw [HS.out, ← HL.out, ← HN.out, List.take_length]
      subst hsN
      clear HS
      go_wp2_with fail
      refine (growNilF_any s w hN2).mono ?_
      rintro x w1 ⟨⟨A0, c0, rfl, hrow⟩, hb⟩
      have HB := Lib.hid hb
      have HROW := Lib.hid hrow
      clear hb hrow
      go_wp2_with fail
      go_loopw [6, 27] (fun v iv wr => ∃ (k s' : Nat) (A' : Option Addr) (c' : Nat), k ≤ n ∧ s' ≤ s ∧ Hid (s' = (partsL (ps.take k)).length) ∧ v = .slice A' s' c' ∧ iv = .int .i64 k ∧ Hid (Row wr w.heap.size 5 A' c' (bys (partsL (ps.take k)))) ∧ Hid (Below w.heap.size w wr)) (fun _ iv _ => n - (intOf iv).toNat)
      case atStart => exact ⟨0, 0, A0, c0, by omega, by omega, (by simp [partsL] : (0 : Nat) = (partsL (ps.take 0)).length), rfl, rfl, by simpa [partsL, bys] using HROW, HB⟩
      case round =>
        obtain ⟨k, s', A', c', hk, hs', HS, rfl, rfl, HROW', HB'⟩ := hrel
        by_cases hkn : k < n
        · have hkl : k < ps.length := by rw [HN.out]; exact hkn
          obtain ⟨p, hp⟩ : ∃ p, ps[k] = p := ⟨_, rfl⟩
          obtain ⟨ad, rfl, ca⟩ := HR.out k (partV p) (by simp [hkl, hp])
          obtain ⟨m, hm⟩ : ∃ m, p.2.2.length = m := ⟨_, rfl⟩
          have ca' : wr.cell? (ad.add k) = some (.slice p.1 m p.2.1) := by rw [Below.cell_of HB'.out ca, partV, hm]
          have hsum : s' + m = (partsL (ps.take (k + 1))).length := by rw [partsL_take ps k hkl, List.length_append, hp, hm, ← HS.out]
          have hle : s' + m ≤ s := by rw [hsum, ← HL.out]; exact partsL_le ps (k + 1)
          have hpo : PartOk wr p := (HPS.out p (by rw [← hp]; exact List.getElem_mem hkl)).below HB'.out
          have hpl : bys (partsL (ps.take (k + 1))) = bys (partsL (ps.take k)) ++ bys p.2.2 := by rw [partsL_take ps k hkl, bys_append, hp]
          have HSUM := Lib.hid hsum
          have HPO := Lib.hid hpo
          have HPL := Lib.hid hpl
          have HM := Lib.hid hm
          clear ca hsum hm hp hpo hpl
          obtain ⟨p1, p2, p3⟩ := p
          dsimp only at ca' HPL HM
          go_wp2_with (at_builtin; refine wpList_appE (w0 := w) HB'.out rfl (.tmp 31) (.tmp 32) 150 rfl w.heap.size 5 i0 _ 1 Try.underlying150 hi hz0 hz1 hz2 rfl A' s' c' (bys (partsL (ps.take k))) rfl (by rw [bys_length]; exact HS.out.symm) HROW'.out p1 m p2 (bys p3) rfl (by rw [bys_length]; exact HM.out) HPO.out.rd (bys_one _) (fun e => HPO.out.nil (by cases p3 with | nil => rfl | cons x l => simp [bys] at e)) (s' + m) rfl (by unfold maxLen; omega) (by omega) (Nat.le_refl _) HB'.out.size ?_; intro e3 A3 c3 HO3)
          go_roundw
          case rel => exact ⟨k + 1, s' + m, A3, c3, by omega, by omega, HSUM.out, by go_num, by go_num, by rw [HPL.out]; exact HO3, e3.below⟩
          case measure => simp [intOf]; omega
        · obtain rfl : n = k := by omega
          go_wp2_with fail
          go_ret
          have e : ps.take n = ps := by rw [← HN.out, List.take_length]
          have h1 := HROW'.out
          have h2 := HS.out
          rw [e] at h1 h2
          rw [HL.out] at h2
          subst h2
          exact ⟨⟨A', c', rfl, h1⟩, HB'.out⟩
end Go.Proofs.Ytmlkmcpcokjogaa
