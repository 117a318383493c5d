/- fixed's line: how a row of raw bits is gone through. No condition. -/
import Derived.Test.YtlmdkmflbhnlgaaGreatBitsCheck
import Derived.Test.YtlmdkmflbhnlgaaGreatPFixed
import Derived.Test.YtlmdkmflbhnlgaaGreatAdd
namespace Go.Proofs.YtlmdkmflbhnlgaaGreat
open Go.RowKit
abbrev lineC (ev : Nat) (ah : Bool) (last left : Nat) : Obj := .cells #[.int .i64 ev, .bool ah, .int .u8 last, .int .i64 left] 144
theorem due_any (b ev last left : Nat) (ah : Bool) (w : World) (h : w.heap[b]? = some (lineC ev ah last left)) :
    Calls Tryz.prog 86 #[.pointer (some ⟨b, 0, none⟩)] w fun e w' => e = .returned (.bool (decide (left = 0))) ∧ w = w' := by
  have c3 : w.cell? ⟨b, 3, none⟩ = some (.int .i64 left) := cell_of_heap h 3 _ rfl
  go_enter Tryz.func86, Tryz.ntmps86
  go_wp2
  go_ret
  exact ⟨ret_bool (by rw [Bool.eq_iff_iff]; simp), rfl⟩
set_option maxHeartbeats 1000000 in
theorem lineSee_any (b ev last left x : Nat) (ah : Bool) (w : World) (h : w.heap[b]? = some (lineC ev ah last left)) (hl : 1 ≤ left) (hl2 : left ≤ 1000) :
    Calls Tryz.prog 88 #[.pointer (some ⟨b, 0, none⟩), .int .u8 x] w fun e w' => e = .returned (.tuple #[]) ∧ w'.heap[b]? = some (lineC ev ah x (left - 1)) ∧ Touch b b w w' := by
  have c2 : w.cell? ⟨b, 2, none⟩ = some (.int .u8 last) := cell_of_heap h 2 _ rfl
  have c3 : w.cell? ⟨b, 3, none⟩ = some (.int .i64 left) := cell_of_heap h 3 _ rfl
  have z2 : w.frozen? ⟨b, 2, none⟩ = false := by simp [World.frozen?, h]
  have z3 : w.frozen? ⟨b, 3, none⟩ = false := by simp [World.frozen?, h]
  have HH := Lib.hid h
  clear h
  go_enter Tryz.func88, Tryz.ntmps88
  go_wp2
  go_end0
  refine ⟨rfl, ?_, ((Touch.refl b b w).setCell (p := ⟨b, 2, none⟩) (.inl rfl) _).setCell (p := ⟨b, 3, none⟩) (.inl rfl) _⟩
  rw [heap_setCell (heap_setCell HH.out 2 _) 3 _]
  simp
  omega
set_option maxHeartbeats 1000000 in
theorem lineStuff_any (b ev last left : Nat) (ah : Bool) (w : World) (h : w.heap[b]? = some (lineC ev ah last left)) (hl : last ≤ 1) :
    Calls Tryz.prog 87 #[.pointer (some ⟨b, 0, none⟩)] w fun e w' => e = .returned (.int .u8 (1 - last : Nat)) ∧ w'.heap[b]? = some (lineC ev ah (1 - last) ev) ∧ Touch b b w w' := by
  have c0 : w.cell? ⟨b, 0, none⟩ = some (.int .i64 ev) := cell_of_heap h 0 _ rfl
  have c2 : w.cell? ⟨b, 2, none⟩ = some (.int .u8 last) := cell_of_heap h 2 _ rfl
  have c3 : w.cell? ⟨b, 3, none⟩ = some (.int .i64 left) := cell_of_heap h 3 _ rfl
  have z2 : w.frozen? ⟨b, 2, none⟩ = false := by simp [World.frozen?, h]
  have z3 : w.frozen? ⟨b, 3, none⟩ = false := by simp [World.frozen?, h]
  have HH := Lib.hid h
  clear h
  go_enter Tryz.func87, Tryz.ntmps87
  go_wp2
  go_region
  go_wp2
  have e1 : (1 : Int) - (last : Int) = ((1 - last : Nat) : Int) := by omega
  go_ret
  refine ⟨ret_int (by omega), ?_, (((Touch.refl b b w).setCell (p := ⟨b, 2, none⟩) (.inl rfl) _).setCell (p := ⟨b, 3, none⟩) (.inl rfl) _).drew⟩
  show ((w.setCell _ _).setCell _ _).heap[b]? = _
  rw [heap_setCell (heap_setCell HH.out 2 _) 3 _, e1]
  simp
abbrev wayV (ev : Nat) (ah : Bool) : Value := .agg #[.int .i64 ev, .bool ah]
theorem may_any (ev : Nat) (ah : Bool) (w : World) (h1 : 1 ≤ ev) (h2 : ev ≤ 64) :
    Calls Tryz.prog 101 #[wayV ev ah] w fun e w' => e = .returned (.bool true) ∧ Below w.heap.size w w' := by
  have a1 : (1 : Int) ≤ (ev : Int) := by omega
  have a2 : (ev : Int) ≤ 64 := by omega
  go_enter Tryz.func101, Tryz.ntmps101
  go_wp2
  go_ret
  exact ⟨by first | rfl | simp, below_alloc (Below.refl _ _) _⟩
theorem begin_any (ev prev : Nat) (ah : Bool) (w : World) :
    Calls Tryz.prog 85 #[wayV ev ah, .int .u8 prev] w fun e w' => e = .returned (.pointer (some ⟨w.heap.size + 1, 0, none⟩)) ∧ w'.heap[w.heap.size + 1]? = some (lineC ev ah prev (if ah then 0 else ev)) ∧ w'.heap.size = w.heap.size + 1 + 1 ∧ Below w.heap.size w w' := by
  have hb := below_alloc (below_alloc (Below.refl w.heap.size w) (.cells #[.int .i64 ev, .bool ah] 99)) (.cells #[.int .i64 ev, .bool ah, .int .u8 prev, .int .i64 ev] 144)
  cases ah
  · go_enter Tryz.func85, Tryz.ntmps85
    go_wp2
    go_ret
    exact ⟨rfl, heap_new_at (by simp), by simp, hb⟩
  · go_enter Tryz.func85, Tryz.ntmps85
    go_wp2
    go_ret
    exact ⟨rfl, heap_new_at (by simp), by simp, below_alloc (below_alloc (Below.refl _ _) _) _⟩
def fsize (n ev : Nat) (ah : Bool) : Nat := if n = 0 then 0 else n + (n - 1) / ev + (if ah then 1 else 0)
theorem FSize_any (n ev : Nat) (ah : Bool) (w : World) (h1 : 1 ≤ ev) (h2 : ev ≤ 64) (hn : n ≤ 65536) :
    Calls Tryz.prog 83 #[.int .i64 n, wayV ev ah] w fun e w' => e = .returned (.tuple #[.int .i64 (fsize n ev ah : Nat), .int .i64 0]) ∧ Below w.heap.size w w' := by
  have HM := Lib.hid (fun W => may_any ev ah W h1 h2)
  have a0 : ¬ (n : Int) < 0 := by omega
  have a1 : ¬ (65536 : Int) < (n : Int) := by omega
  have hev : ¬ (ev : Int) = 0 := by omega
  obtain ⟨q, hq⟩ : ∃ q, (n - 1) / ev = q := ⟨_, rfl⟩
  have hqle : q ≤ n := by rw [← hq]; exact Nat.le_trans (Nat.div_le_self _ _) (by omega)
  by_cases hn0 : n = 0
  · subst hn0
    clear hq hqle
    go_enter Tryz.func83, Tryz.ntmps83
    go_wp2_with fail
    refine (HM.out _).mono ?_
    rintro e w1 ⟨rfl, hb⟩
    have HB := Lib.hid (below_trans (below_alloc (Below.refl _ w) _) hb)
    clear hb
    go_wp2_with fail
    go_ret2
    exact ⟨rfl, HB.out⟩
  · have hnz : ((n : Int) == 0) = false := by rw [beq_eq_false_iff_ne]; omega
    have hdiv : ((n : Int) - 1).tdiv (ev : Int) = (q : Int) := by
      rw [Int.tdiv_eq_ediv_of_nonneg (by omega), ← hq]
      have : (n : Int) - 1 = ((n - 1 : Nat) : Int) := by omega
      rw [this]; simp
    have hfs : (fsize n ev ah : Int) = (n : Int) + (q : Int) + (if ah then 1 else 0) := by
      unfold fsize; rw [if_neg hn0, hq]; cases ah <;> simp
    have HFS := Lib.hid hfs
    clear hq hfs
    go_enter Tryz.func83, Tryz.ntmps83
    go_wp2_with fail
    refine calls_name (T := fun W1 => W1.heap[w.heap.size]? = some (.cells #[.int .i64 ev, .bool ah] 99) ∧ Below w.heap.size w W1) ⟨heap_new_at rfl, below_alloc (Below.refl _ _) _⟩ ?_
    rintro W1 ⟨q1, hb1⟩
    refine (HM.out _).mono ?_
    rintro e w1 ⟨rfl, hb⟩
    have c0 := cell_of_heap (heap_below hb q1) 0 _ rfl
    have c1 : w1.cell? ⟨w.heap.size, 1, none⟩ = some (.bool ah) := cell_of_heap (heap_below hb q1) 1 _ rfl
    have HB := Lib.hid (below_trans hb1 hb)
    clear hb q1 hb1
    cases ah
    · go_wp2_with fail
      go_ret2
      exact ⟨ret_fst (by have := HFS.out; simp at this; omega), HB.out⟩
    · go_wp2_with fail
      go_ret2
      exact ⟨ret_fst (by have := HFS.out; simp at this; omega), HB.out⟩
theorem fcheck_any (prev ev n c : Nat) (ah : Bool) (A : Option Addr) (l : List Nat) (w : World) (h1 : 1 ≤ ev) (h2 : ev ≤ 64) (hp : prev ≤ 1) (hr : Rd w A (bys l)) (hn : l.length = n) (hn2 : n ≤ 65536) (h01 : ∀ x ∈ l, x ≤ 1) :
    Calls Tryz.prog 84 #[.int .u8 prev, .slice A n c, wayV ev ah] w fun e w' => e = .returned (.bool true) ∧ Below w.heap.size w w' := by
  have hok : bitsOk l = true := by unfold bitsOk; rw [decide_eq_true (by omega : l.length ≤ 65536), decide_eq_true h01]; rfl
  have hC := fun W (hW : Rd W A (bys l)) => BitsCheck_any A n c l W hW hn (by omega)
  rw [hok, if_pos rfl] at hC
  have HC := Lib.hid hC
  have HM := Lib.hid (fun W => may_any ev ah W h1 h2)
  have HR := Lib.hid hr
  have hp1 : (prev : Int) ≤ 1 := by omega
  clear hok hC hr h01
  go_enter Tryz.func84, Tryz.ntmps84
  go_wp2_with fail
  refine (HC.out _ (HR.out.alloc _)).mono ?_
  rintro e _ ⟨rfl, rfl⟩
  go_wp2_with fail
  refine (HM.out _).mono ?_
  rintro e w1 ⟨rfl, hb⟩
  have HB := Lib.hid (below_trans (below_alloc (Below.refl _ w) _) hb)
  clear hb
  go_wp2_with fail
  go_ret
  exact ⟨by first | rfl | simp, HB.out⟩
end Go.Proofs.YtlmdkmflbhnlgaaGreat
