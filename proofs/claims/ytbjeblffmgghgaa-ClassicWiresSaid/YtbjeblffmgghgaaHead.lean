/- classic.head: a Classic frame's bits up to the last one that arbitrates. No condition. -/
import Derived.Test.YtbjeblffmgghgaaFields
import Derived.Test.YtbjeblffmgghgaaCheck2
import Derived.Test.YtbjeblffmgghgaaKey
namespace Go.Proofs.Ytbjeblffmgghgaa
open Go.RowKit
/-- A world in which of what lay below B only block b is turned. -/
structure KE (B b : Nat) (w : World) where
  W : World
  keep : Keep B b w W
theorem ke_cell {B b : Nat} {w : World} {a : Addr} {v : Value} (h : w.cell? a = some v) (h1 : a.block < B) (h2 : a.block ≠ b) (e : KE B b w) : e.W.cell? a = some v := e.keep.cell_of h h1 h2
theorem kec {P : Program} {f : FuncId} {args : Array Value} {B b : Nat} {w0 : World} {e : KE B b w0} {v : Value} {R : World → Prop} (h : Calls P f args e.W fun x w' => x = .returned v ∧ R w' ∧ Keep B b e.W w') :
    Calls P f args e.W fun x w' => ∃ e2 : KE B b w0, w' = e2.W ∧ x = .returned v ∧ R e2.W := h.mono fun _ w' ⟨hx, hr, hb⟩ => ⟨⟨w', e.keep.trans hb⟩, rfl, hx, hr⟩
theorem kec_same {P : Program} {f : FuncId} {args : Array Value} {B b : Nat} {w0 : World} {v : Value} {R : World → Prop} (h : Calls P f args w0 fun x w' => x = .returned v ∧ R w' ∧ Keep B b w0 w') :
    Calls P f args w0 fun x w' => ∃ e2 : KE B b w0, w' = e2.W ∧ x = .returned v ∧ R e2.W := h.mono fun _ w' ⟨hx, hr, hb⟩ => ⟨⟨w', hb⟩, rfl, hx, hr⟩
theorem fieldsPut_row (w : World) (B b t : Nat) (A : Option Addr) (c : Nat) (n size : Int) (N S : Nat) (l : List Nat) (eN : n = (N : Int)) (eS : size = (S : Int)) (h : Pot w B b t A c l) (hn : N < 18446744073709551616) (hs : S ≤ 64) (hlt : N < 2 ^ S) (hl : l.length + S ≤ 1000000) :
    Calls Try.prog 72 #[.pointer (some ⟨b, 0, none⟩), .int .u64 n, .int .i64 size] w fun e w' => e = .returned (.tuple #[]) ∧ (∃ A' c', Pot w' B b t A' c' (l ++ bitsN N S)) ∧ Keep B b w w' := by
  subst eN eS
  exact fieldsPut_any w B b t A c N S l h hn hs hlt hl
set_option maxRecDepth 100000 in
set_option maxHeartbeats 2000000 in
theorem head_any (f : Fr) (A : Option Addr) (n c : Nat) (w : World) (h0 : 0 ≤ f.id) (h1 : f.id < limF f) :
    Calls Try.prog 67 #[frv f (.slice A n c)] w fun e w' => e = .returned (.pointer (some ⟨w.heap.size + 1, 0, none⟩)) ∧ (∃ A' c', Pot w' (w.heap.size + 1 + 1) (w.heap.size + 1) 118 A' c' (headL f)) ∧ Below w.heap.size w w' := by
  have hl : headL f = if f.ext then [0] ++ bitsN (f.id.toNat / 262144) 11 ++ [1, 1] ++ bitsN (f.id.toNat % 262144) 18 ++ [bitB f.rtr] ++ [0, 0] else [0] ++ bitsN f.id.toNat 11 ++ [bitB f.rtr] ++ [0, 0] := rfl
  unfold limF at h1
  generalize headL f = l at *
  obtain ⟨kind, id, ext, rtr, brs, esi, sec, sdt, vcid, af, data⟩ := f
  dsimp only [frv] at *
  obtain ⟨m, rfl⟩ := Int.eq_ofNat_of_zero_le h0
  rw [Int.toNat_natCast] at hl
  cases ext
  · simp only [Bool.false_eq_true, if_false] at h1 hl
    have HL := Lib.hid hl
    clear hl h0
    go_enter Try.func67, Try.ntmps67
    go_wp2_with fail
    refine calls_blk2 (fun W0 q1 q2 hb => ?_)
    have hp : Pot W0 (w.heap.size + 1 + 1) (w.heap.size + 1) 118 none 0 [] := ⟨q2, fun _ e => (by cases e), heap_lt q2, Row.nil _ _ _⟩
    have HB := Lib.hid hb
    have HP := Lib.hid hp
    obtain ⟨a0, a1, a2, a3, a4, a5, a6, a7, a8, a9, a10⟩ := cells11 q1
    have b1 := fun e : KE (w.heap.size + 1 + 1) (w.heap.size + 1) W0 => ke_cell a1 (by show w.heap.size < _; omega) (by show w.heap.size ≠ _; omega) e
    have b2 := fun e : KE (w.heap.size + 1 + 1) (w.heap.size + 1) W0 => ke_cell a2 (by show w.heap.size < _; omega) (by show w.heap.size ≠ _; omega) e
    have b3 := fun e : KE (w.heap.size + 1 + 1) (w.heap.size + 1) W0 => ke_cell a3 (by show w.heap.size < _; omega) (by show w.heap.size ≠ _; omega) e
    clear hb hp q1 q2 a0 a1 a2 a3 a4 a5 a6 a7 a8 a9 a10
    refine (kec_same (fieldsPut_row _ _ _ _ _ _ _ _ 0 1 _ rfl rfl HP.out (by omega) (by omega) (by omega) (by simp))).mono ?_
    rintro x _ ⟨e1, rfl, rfl, A1, c1, hp1⟩
    have HP1 := Lib.hid hp1
    clear hp1
    go_wp2_with fail
    refine (kec (fieldsPut_row _ _ _ _ _ _ _ _ m 11 _ ?c1 rfl HP1.out (by omega) (by omega) (by omega) (by simp [bitsN_length]))).mono ?_
    case c1 => first | rfl | omega
    rintro x _ ⟨e2, rfl, rfl, A2, c2, hp2⟩
    have HP2 := Lib.hid hp2
    clear hp2
    go_wp2_with fail
    refine (kec (fieldsFlag_any _ _ _ _ _ _ rtr _ HP2.out (by simp [bitsN_length]))).mono ?_
    rintro x _ ⟨e3, rfl, rfl, A3, c3, hp3⟩
    have HP3 := Lib.hid hp3
    clear hp3
    go_wp2_with fail
    refine (kec (fieldsPut_row _ _ _ _ _ _ _ _ 0 2 _ rfl rfl HP3.out (by omega) (by omega) (by omega) (by simp [bitsN_length]))).mono ?_
    rintro x _ ⟨e4, rfl, rfl, A4, c4, hp4⟩
    have HP4 := Lib.hid hp4
    clear hp4
    go_wp2_with fail
    go_ret
    refine ⟨rfl, ⟨A4, c4, ?_⟩, HB.out.trans (e4.keep.below (by omega) (by omega))⟩
    have h := HP4.out
    rw [HL.out]
    exact h
  · simp only [if_true] at h1 hl
    have h18 := and18 (m : Int) (by omega) h1
    have HL := Lib.hid hl
    clear hl h0
    go_enter Try.func67, Try.ntmps67
    go_wp2_with fail
    refine calls_blk2 (fun W0 q1 q2 hb => ?_)
    have hp : Pot W0 (w.heap.size + 1 + 1) (w.heap.size + 1) 118 none 0 [] := ⟨q2, fun _ e => (by cases e), heap_lt q2, Row.nil _ _ _⟩
    have HB := Lib.hid hb
    have HP := Lib.hid hp
    obtain ⟨a0, a1, a2, a3, a4, a5, a6, a7, a8, a9, a10⟩ := cells11 q1
    have b1 := fun e : KE (w.heap.size + 1 + 1) (w.heap.size + 1) W0 => ke_cell a1 (by show w.heap.size < _; omega) (by show w.heap.size ≠ _; omega) e
    have b2 := fun e : KE (w.heap.size + 1 + 1) (w.heap.size + 1) W0 => ke_cell a2 (by show w.heap.size < _; omega) (by show w.heap.size ≠ _; omega) e
    have b3 := fun e : KE (w.heap.size + 1 + 1) (w.heap.size + 1) W0 => ke_cell a3 (by show w.heap.size < _; omega) (by show w.heap.size ≠ _; omega) e
    clear hb hp q1 q2 a0 a1 a2 a3 a4 a5 a6 a7 a8 a9 a10
    refine (kec_same (fieldsPut_row _ _ _ _ _ _ _ _ 0 1 _ rfl rfl HP.out (by omega) (by omega) (by omega) (by simp))).mono ?_
    rintro x _ ⟨e1, rfl, rfl, A1, c1, hp1⟩
    have HP1 := Lib.hid hp1
    clear hp1
    go_wp2_with fail
    refine (kec (fieldsPut_row _ _ _ _ _ _ _ _ (m / 262144) 11 _ ?c1 rfl HP1.out (by omega) (by omega) (by omega) (by simp [bitsN_length]))).mono ?_
    case c1 => first | rfl | omega
    rintro x _ ⟨e2, rfl, rfl, A2, c2, hp2⟩
    have HP2 := Lib.hid hp2
    clear hp2
    go_wp2_with fail
    refine (kec (fieldsPut_row _ _ _ _ _ _ _ _ 3 2 _ rfl rfl HP2.out (by omega) (by omega) (by omega) (by simp [bitsN_length]))).mono ?_
    rintro x _ ⟨e5, rfl, rfl, A5, c5, hp5⟩
    have HP5 := Lib.hid hp5
    clear hp5
    go_wp2_with fail
    refine (kec (fieldsPut_row _ _ _ _ _ _ _ _ (m % 262144) 18 _ ?c2 rfl HP5.out (by omega) (by omega) (by omega) (by simp [bitsN_length]))).mono ?_
    case c2 => first | rfl | omega
    rintro x _ ⟨e6, rfl, rfl, A6, c6, hp6⟩
    have HP6 := Lib.hid hp6
    clear hp6
    go_wp2_with fail
    refine (kec (fieldsFlag_any _ _ _ _ _ _ rtr _ HP6.out (by simp [bitsN_length]))).mono ?_
    rintro x _ ⟨e3, rfl, rfl, A3, c3, hp3⟩
    have HP3 := Lib.hid hp3
    clear hp3
    go_wp2_with fail
    refine (kec (fieldsPut_row _ _ _ _ _ _ _ _ 0 2 _ rfl rfl HP3.out (by omega) (by omega) (by omega) (by simp [bitsN_length]))).mono ?_
    rintro x _ ⟨e4, rfl, rfl, A4, c4, hp4⟩
    have HP4 := Lib.hid hp4
    clear hp4
    go_wp2_with fail
    go_ret
    refine ⟨rfl, ⟨A4, c4, ?_⟩, HB.out.trans (e4.keep.below (by omega) (by omega))⟩
    have h := HP4.out
    rw [HL.out]
    exact h
theorem headL_length (f : Fr) : (headL f).length = if f.ext then 35 else 15 := by unfold headL; split <;> simp [bitsN_length]
theorem headL_bits (f : Fr) : ∀ x ∈ headL f, x ≤ 1 := by
  have hb : ∀ b : Bool, bitB b ≤ 1 := by intro b; cases b <;> decide
  have h0 : ∀ x ∈ [0], x ≤ 1 := by simp
  have h00 : ∀ x ∈ [0, 0], x ≤ 1 := by simp
  have h11 : ∀ x ∈ [1, 1], x ≤ 1 := by simp
  unfold headL
  split <;> intro x hx <;> simp only [List.mem_append, List.mem_singleton] at hx
  · rcases hx with ((((rfl | hx) | hx) | hx) | rfl) | hx
    · omega
    · exact bitsN_bit _ _ x hx
    · exact h11 x hx
    · exact bitsN_bit _ _ x hx
    · exact hb _
    · exact h00 x hx
  · rcases hx with ((rfl | hx) | rfl) | hx
    · omega
    · exact bitsN_bit _ _ x hx
    · exact hb _
    · exact h00 x hx
end Go.Proofs.Ytbjeblffmgghgaa
