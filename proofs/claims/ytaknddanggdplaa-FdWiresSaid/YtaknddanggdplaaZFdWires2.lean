/- What the law FdWires needs, part 2: words, walks and plain facts, each with its own head. No condition. -/
import Derived.Test.YtaknddanggdplaaZFdWires1
import Derived.Maps.Own
import Derived.Maps.Views
import Derived.StillTailTactics
import Derived.RangeFuncNested
import Derived.RangeFuncBound
import Derived.RangeFuncCalls
import Derived.RangeFuncLeaves
import Derived.OwnWalkIn
import Derived.TacticsInMore
import Derived.LoopNIn
import Derived.LoopIn
import Derived.Sort.QuietIn
-- Check2: Which frames may be: what frame.Check answers. No condition.
namespace Go.Proofs.Ytaknddanggdplaa
open Go.RowKit

/-- An error's number: 0 is none. -/
def zeroF (k : Int) : Fr := { kind := k, id := 0, ext := false, rtr := false, brs := false, esi := false, sec := false, sdt := 0, vcid := 0, af := 0, data := [] }
def limF (f : Fr) : Int := if f.ext then 536870912 else 2048
/-- May a frame be? -/
def okF (f : Fr) : Bool := (codeF f.kind f.data.length).isSome && decide (f.id < limF f) && !(f.rtr && decide (0 < f.data.length)) && sameF (bareF f) (zeroF f.kind)
def errV (b : Bool) : Value := .int .i64 (if b then 0 else 2)
set_option maxRecDepth 100000 in
set_option maxHeartbeats 400000 in
theorem Check_none (kind id : Int) (ext rtr brs esi sec : Bool) (sdt vcid af : Int) (A : Option Addr) (n c : Nat) (w : World)
    (HC : Hid (∀ W : World, Calls Try.prog 54 #[.int .i64 kind, .int .i64 (n : Nat)] W fun e w' => e = .returned (codeV none) ∧ Below W.heap.size W w')) :
    Calls Try.prog 35 #[.agg #[.int .i64 kind, .int .u32 id, .bool ext, .bool rtr, .bool brs, .bool esi, .bool sec, .int .u8 sdt, .int .u8 vcid, .int .u32 af, .slice A n c]] w fun e w' => e = .returned (.int .i64 2) ∧ Below w.heap.size w w' := by
  cases ext
  all_goals
    go_enter Try.func35, Try.ntmps35
    go_wp2_with fail
    refine (HC.out _).mono ?_
    rintro e w1 ⟨rfl, hb⟩
    obtain ⟨hce, hfe⟩ := bcell hb
    have HB := Lib.hid hb
    clear hb
    simp only [codeV_none]
    go_wp2_with fail
    go_quiet (fail)
    go_wp2_with fail
    go_ret
    exact ⟨rfl, below_drewN (below_trans (below_alloc (Below.refl _ _) _) HB.out) _⟩
set_option maxRecDepth 100000 in
set_option maxHeartbeats 400000 in
theorem Check_id (kind id : Int) (ext rtr brs esi sec : Bool) (sdt vcid af : Int) (A : Option Addr) (n c : Nat) (w : World) (co : Int) (hid : (if ext then 536870912 else 2048) ≤ id)
    (HC : Hid (∀ W : World, Calls Try.prog 54 #[.int .i64 kind, .int .i64 (n : Nat)] W fun e w' => e = .returned (codeV (some co)) ∧ Below W.heap.size W w')) :
    Calls Try.prog 35 #[.agg #[.int .i64 kind, .int .u32 id, .bool ext, .bool rtr, .bool brs, .bool esi, .bool sec, .int .u8 sdt, .int .u8 vcid, .int .u32 af, .slice A n c]] w fun e w' => e = .returned (.int .i64 2) ∧ Below w.heap.size w w' := by
  cases ext
  all_goals
    simp only [Bool.false_eq_true, if_false, if_true] at hid
    go_enter Try.func35, Try.ntmps35
    go_wp2_with fail
    refine (HC.out _).mono ?_
    rintro e w1 ⟨rfl, hb⟩
    obtain ⟨hce, hfe⟩ := bcell hb
    have HB := Lib.hid hb
    clear hb
    simp only [codeV_some]
    go_wp2_with fail
    go_quiet (fail)
    go_wp2_with fail
    go_ret
    exact ⟨rfl, below_drewN (below_trans (below_alloc (Below.refl _ _) _) HB.out) _⟩
set_option maxRecDepth 100000 in
set_option maxHeartbeats 400000 in
theorem Check_rtr (kind id : Int) (ext brs esi sec : Bool) (sdt vcid af : Int) (A : Option Addr) (n c : Nat) (w : World) (co : Int) (hid : id < (if ext then 536870912 else 2048)) (hn : 0 < n)
    (HC : Hid (∀ W : World, Calls Try.prog 54 #[.int .i64 kind, .int .i64 (n : Nat)] W fun e w' => e = .returned (codeV (some co)) ∧ Below W.heap.size W w')) :
    Calls Try.prog 35 #[.agg #[.int .i64 kind, .int .u32 id, .bool ext, .bool true, .bool brs, .bool esi, .bool sec, .int .u8 sdt, .int .u8 vcid, .int .u32 af, .slice A n c]] w fun e w' => e = .returned (.int .i64 2) ∧ Below w.heap.size w w' := by
  cases ext
  · simp only [Bool.false_eq_true, if_false] at hid
    have hn' : decide (0 < n) = true := by simp [hn]
    have hd : decide (2048 ≤ id) = false := by simp; omega
    clear hn hid
    go_enter Try.func35, Try.ntmps35
    go_wp2_with fail
    refine (HC.out _).mono ?_
    rintro e w1 ⟨rfl, hb⟩
    obtain ⟨hce, hfe⟩ := bcell hb
    have HB := Lib.hid hb
    clear hb
    simp only [codeV_some]
    go_wp2_with fail
    go_quiet (fail)
    go_wp2_with fail
    go_ret
    exact ⟨rfl, below_drewN (below_trans (below_alloc (Below.refl _ _) _) HB.out) _⟩
  · simp only [if_true] at hid
    have hn' : decide (0 < n) = true := by simp [hn]
    have hd : decide (536870912 ≤ id) = false := by simp; omega
    clear hn hid
    go_enter Try.func35, Try.ntmps35
    go_wp2_with fail
    refine (HC.out _).mono ?_
    rintro e w1 ⟨rfl, hb⟩
    obtain ⟨hce, hfe⟩ := bcell hb
    have HB := Lib.hid hb
    clear hb
    simp only [codeV_some]
    go_wp2_with fail
    go_quiet (fail)
    go_wp2_with fail
    go_ret
    exact ⟨rfl, below_drewN (below_trans (below_alloc (Below.refl _ _) _) HB.out) _⟩

set_option maxRecDepth 100000 in
set_option maxHeartbeats 400000 in
theorem Check_callsF (kind id : Int) (brs esi sec : Bool) (sdt vcid af : Int) (A : Option Addr) (n c : Nat) (w : World) (co : Int) (sm : Bool) (vb : Value) (hid : id < 2048)
    (HC : Hid (∀ W : World, Calls Try.prog 54 #[.int .i64 kind, .int .i64 (n : Nat)] W fun e w' => e = .returned (codeV (some co)) ∧ Below W.heap.size W w'))
    (HBA : Hid (∀ W : World, Calls Try.prog 80 #[.agg #[.int .i64 kind, .int .u32 id, .bool false, .bool false, .bool brs, .bool esi, .bool sec, .int .u8 sdt, .int .u8 vcid, .int .u32 af, .slice A n c]] W fun e w' => e = .returned vb ∧ Below W.heap.size W w'))
    (HSA : Hid (∀ W : World, Calls Try.prog 18 #[vb, .agg #[.int .i64 kind, .int .u32 0, .bool false, .bool false, .bool false, .bool false, .bool false, .int .u8 0, .int .u8 0, .int .u32 0, .slice none 0 0]] W fun e w' => e = .returned (.bool sm) ∧ Below W.heap.size W w')) :
    Calls Try.prog 35 #[.agg #[.int .i64 kind, .int .u32 id, .bool false, .bool false, .bool brs, .bool esi, .bool sec, .int .u8 sdt, .int .u8 vcid, .int .u32 af, .slice A n c]] w fun e w' => e = .returned (errV sm) ∧ Below w.heap.size w w' := by
  have hd : decide (2048 ≤ id) = false := by simp; omega
  clear hid
  go_enter Try.func35, Try.ntmps35
  go_wp2_with fail
  refine (HC.out _).mono ?_
  rintro e w1 ⟨rfl, hb⟩
  obtain ⟨hce, hfe⟩ := bcell hb
  have HB := Lib.hid hb
  clear hb
  simp only [codeV_some]
  go_wp2_with fail
  have hB0 : w1.heap[w.heap.size]? = some (.cells #[.int .i64 kind, .int .u32 id, .bool false, .bool false, .bool brs, .bool esi, .bool sec, .int .u8 sdt, .int .u8 vcid, .int .u32 af, .slice A n c] 25 (0, 0)) := heap_below HB.out (heap_new_at rfl)
  have hE := fun e : Ext w1 => cells11 (ext_heap hB0 e)
  have e0 : ∀ e : Ext w1, e.W.cell? ⟨w.heap.size, 0, none⟩ = some (.int .i64 kind) := fun e => (hE e).1
  have e1 : ∀ e : Ext w1, e.W.cell? ⟨w.heap.size, 1, none⟩ = some (.int .u32 id) := fun e => (hE e).2.1
  have e2 : ∀ e : Ext w1, e.W.cell? ⟨w.heap.size, 2, none⟩ = some (.bool false) := fun e => (hE e).2.2.1
  have e3 : ∀ e : Ext w1, e.W.cell? ⟨w.heap.size, 3, none⟩ = some (.bool false) := fun e => (hE e).2.2.2.1
  have e4 : ∀ e : Ext w1, e.W.cell? ⟨w.heap.size, 4, none⟩ = some (.bool brs) := fun e => (hE e).2.2.2.2.1
  have e5 : ∀ e : Ext w1, e.W.cell? ⟨w.heap.size, 5, none⟩ = some (.bool esi) := fun e => (hE e).2.2.2.2.2.1
  have e6 : ∀ e : Ext w1, e.W.cell? ⟨w.heap.size, 6, none⟩ = some (.bool sec) := fun e => (hE e).2.2.2.2.2.2.1
  have e7 : ∀ e : Ext w1, e.W.cell? ⟨w.heap.size, 7, none⟩ = some (.int .u8 sdt) := fun e => (hE e).2.2.2.2.2.2.2.1
  have e8 : ∀ e : Ext w1, e.W.cell? ⟨w.heap.size, 8, none⟩ = some (.int .u8 vcid) := fun e => (hE e).2.2.2.2.2.2.2.2.1
  have e9 : ∀ e : Ext w1, e.W.cell? ⟨w.heap.size, 9, none⟩ = some (.int .u32 af) := fun e => (hE e).2.2.2.2.2.2.2.2.2.1
  have e10 : ∀ e : Ext w1, e.W.cell? ⟨w.heap.size, 10, none⟩ = some (.slice A n c) := fun e => (hE e).2.2.2.2.2.2.2.2.2.2
  clear hE hB0 hce hfe
  refine wp_region_ext (by kernel_rfl) (by kernel_rfl) ?_
  repeat (go_big_quiet_step (first | (go_at_call 80; exact ecall (HBA.out _)) | (go_at_call 18; exact ecall (HSA.out _))))
  refine wpQuiet_nil ?_
  rintro _ ⟨⟨w2, hb2⟩, rfl⟩
  have HB2 := Lib.hid hb2
  clear hb2
  cases sm
  all_goals
    go_wp2_with fail
    go_ret
    exact ⟨rfl, below_trans (below_trans (below_alloc (Below.refl _ _) _) HB.out) HB2.out⟩
set_option maxRecDepth 100000 in
set_option maxHeartbeats 400000 in
theorem Check_callsT (kind id : Int) (brs esi sec : Bool) (sdt vcid af : Int) (A : Option Addr) (n c : Nat) (w : World) (co : Int) (sm : Bool) (vb : Value) (hid : id < 536870912)
    (HC : Hid (∀ W : World, Calls Try.prog 54 #[.int .i64 kind, .int .i64 (n : Nat)] W fun e w' => e = .returned (codeV (some co)) ∧ Below W.heap.size W w'))
    (HBA : Hid (∀ W : World, Calls Try.prog 80 #[.agg #[.int .i64 kind, .int .u32 id, .bool true, .bool false, .bool brs, .bool esi, .bool sec, .int .u8 sdt, .int .u8 vcid, .int .u32 af, .slice A n c]] W fun e w' => e = .returned vb ∧ Below W.heap.size W w'))
    (HSA : Hid (∀ W : World, Calls Try.prog 18 #[vb, .agg #[.int .i64 kind, .int .u32 0, .bool false, .bool false, .bool false, .bool false, .bool false, .int .u8 0, .int .u8 0, .int .u32 0, .slice none 0 0]] W fun e w' => e = .returned (.bool sm) ∧ Below W.heap.size W w')) :
    Calls Try.prog 35 #[.agg #[.int .i64 kind, .int .u32 id, .bool true, .bool false, .bool brs, .bool esi, .bool sec, .int .u8 sdt, .int .u8 vcid, .int .u32 af, .slice A n c]] w fun e w' => e = .returned (errV sm) ∧ Below w.heap.size w w' := by
  have hd : decide (536870912 ≤ id) = false := by simp; omega
  clear hid
  go_enter Try.func35, Try.ntmps35
  go_wp2_with fail
  refine (HC.out _).mono ?_
  rintro e w1 ⟨rfl, hb⟩
  obtain ⟨hce, hfe⟩ := bcell hb
  have HB := Lib.hid hb
  clear hb
  simp only [codeV_some]
  go_wp2_with fail
  have hB0 : w1.heap[w.heap.size]? = some (.cells #[.int .i64 kind, .int .u32 id, .bool true, .bool false, .bool brs, .bool esi, .bool sec, .int .u8 sdt, .int .u8 vcid, .int .u32 af, .slice A n c] 25 (0, 0)) := heap_below HB.out (heap_new_at rfl)
  have hE := fun e : Ext w1 => cells11 (ext_heap hB0 e)
  have e0 : ∀ e : Ext w1, e.W.cell? ⟨w.heap.size, 0, none⟩ = some (.int .i64 kind) := fun e => (hE e).1
  have e1 : ∀ e : Ext w1, e.W.cell? ⟨w.heap.size, 1, none⟩ = some (.int .u32 id) := fun e => (hE e).2.1
  have e2 : ∀ e : Ext w1, e.W.cell? ⟨w.heap.size, 2, none⟩ = some (.bool true) := fun e => (hE e).2.2.1
  have e3 : ∀ e : Ext w1, e.W.cell? ⟨w.heap.size, 3, none⟩ = some (.bool false) := fun e => (hE e).2.2.2.1
  have e4 : ∀ e : Ext w1, e.W.cell? ⟨w.heap.size, 4, none⟩ = some (.bool brs) := fun e => (hE e).2.2.2.2.1
  have e5 : ∀ e : Ext w1, e.W.cell? ⟨w.heap.size, 5, none⟩ = some (.bool esi) := fun e => (hE e).2.2.2.2.2.1
  have e6 : ∀ e : Ext w1, e.W.cell? ⟨w.heap.size, 6, none⟩ = some (.bool sec) := fun e => (hE e).2.2.2.2.2.2.1
  have e7 : ∀ e : Ext w1, e.W.cell? ⟨w.heap.size, 7, none⟩ = some (.int .u8 sdt) := fun e => (hE e).2.2.2.2.2.2.2.1
  have e8 : ∀ e : Ext w1, e.W.cell? ⟨w.heap.size, 8, none⟩ = some (.int .u8 vcid) := fun e => (hE e).2.2.2.2.2.2.2.2.1
  have e9 : ∀ e : Ext w1, e.W.cell? ⟨w.heap.size, 9, none⟩ = some (.int .u32 af) := fun e => (hE e).2.2.2.2.2.2.2.2.2.1
  have e10 : ∀ e : Ext w1, e.W.cell? ⟨w.heap.size, 10, none⟩ = some (.slice A n c) := fun e => (hE e).2.2.2.2.2.2.2.2.2.2
  clear hE hB0 hce hfe
  refine wp_region_ext (by kernel_rfl) (by kernel_rfl) ?_
  repeat (go_big_quiet_step (first | (go_at_call 80; exact ecall (HBA.out _)) | (go_at_call 18; exact ecall (HSA.out _))))
  refine wpQuiet_nil ?_
  rintro _ ⟨⟨w2, hb2⟩, rfl⟩
  have HB2 := Lib.hid hb2
  clear hb2
  cases sm
  all_goals
    go_wp2_with fail
    go_ret
    exact ⟨rfl, below_trans (below_trans (below_alloc (Below.refl _ _) _) HB.out) HB2.out⟩
set_option maxRecDepth 100000 in
set_option maxHeartbeats 400000 in
theorem Check_callsRF (kind id : Int) (brs esi sec : Bool) (sdt vcid af : Int) (A : Option Addr) (c : Nat) (w : World) (co : Int) (sm : Bool) (vb : Value) (hid : id < 2048)
    (HC : Hid (∀ W : World, Calls Try.prog 54 #[.int .i64 kind, .int .i64 (0 : Nat)] W fun e w' => e = .returned (codeV (some co)) ∧ Below W.heap.size W w'))
    (HBA : Hid (∀ W : World, Calls Try.prog 80 #[.agg #[.int .i64 kind, .int .u32 id, .bool false, .bool true, .bool brs, .bool esi, .bool sec, .int .u8 sdt, .int .u8 vcid, .int .u32 af, .slice A 0 c]] W fun e w' => e = .returned vb ∧ Below W.heap.size W w'))
    (HSA : Hid (∀ W : World, Calls Try.prog 18 #[vb, .agg #[.int .i64 kind, .int .u32 0, .bool false, .bool false, .bool false, .bool false, .bool false, .int .u8 0, .int .u8 0, .int .u32 0, .slice none 0 0]] W fun e w' => e = .returned (.bool sm) ∧ Below W.heap.size W w')) :
    Calls Try.prog 35 #[.agg #[.int .i64 kind, .int .u32 id, .bool false, .bool true, .bool brs, .bool esi, .bool sec, .int .u8 sdt, .int .u8 vcid, .int .u32 af, .slice A 0 c]] w fun e w' => e = .returned (errV sm) ∧ Below w.heap.size w w' := by
  have hd : decide (2048 ≤ id) = false := by simp; omega
  clear hid
  go_enter Try.func35, Try.ntmps35
  go_wp2_with fail
  refine (HC.out _).mono ?_
  rintro e w1 ⟨rfl, hb⟩
  obtain ⟨hce, hfe⟩ := bcell hb
  have HB := Lib.hid hb
  clear hb
  simp only [codeV_some]
  go_wp2_with fail
  have hB0 : w1.heap[w.heap.size]? = some (.cells #[.int .i64 kind, .int .u32 id, .bool false, .bool true, .bool brs, .bool esi, .bool sec, .int .u8 sdt, .int .u8 vcid, .int .u32 af, .slice A 0 c] 25 (0, 0)) := heap_below HB.out (heap_new_at rfl)
  have hE := fun e : Ext w1 => cells11 (ext_heap hB0 e)
  have e0 : ∀ e : Ext w1, e.W.cell? ⟨w.heap.size, 0, none⟩ = some (.int .i64 kind) := fun e => (hE e).1
  have e1 : ∀ e : Ext w1, e.W.cell? ⟨w.heap.size, 1, none⟩ = some (.int .u32 id) := fun e => (hE e).2.1
  have e2 : ∀ e : Ext w1, e.W.cell? ⟨w.heap.size, 2, none⟩ = some (.bool false) := fun e => (hE e).2.2.1
  have e3 : ∀ e : Ext w1, e.W.cell? ⟨w.heap.size, 3, none⟩ = some (.bool true) := fun e => (hE e).2.2.2.1
  have e4 : ∀ e : Ext w1, e.W.cell? ⟨w.heap.size, 4, none⟩ = some (.bool brs) := fun e => (hE e).2.2.2.2.1
  have e5 : ∀ e : Ext w1, e.W.cell? ⟨w.heap.size, 5, none⟩ = some (.bool esi) := fun e => (hE e).2.2.2.2.2.1
  have e6 : ∀ e : Ext w1, e.W.cell? ⟨w.heap.size, 6, none⟩ = some (.bool sec) := fun e => (hE e).2.2.2.2.2.2.1
  have e7 : ∀ e : Ext w1, e.W.cell? ⟨w.heap.size, 7, none⟩ = some (.int .u8 sdt) := fun e => (hE e).2.2.2.2.2.2.2.1
  have e8 : ∀ e : Ext w1, e.W.cell? ⟨w.heap.size, 8, none⟩ = some (.int .u8 vcid) := fun e => (hE e).2.2.2.2.2.2.2.2.1
  have e9 : ∀ e : Ext w1, e.W.cell? ⟨w.heap.size, 9, none⟩ = some (.int .u32 af) := fun e => (hE e).2.2.2.2.2.2.2.2.2.1
  have e10 : ∀ e : Ext w1, e.W.cell? ⟨w.heap.size, 10, none⟩ = some (.slice A 0 c) := fun e => (hE e).2.2.2.2.2.2.2.2.2.2
  clear hE hB0 hce hfe
  refine wp_region_ext (by kernel_rfl) (by kernel_rfl) ?_
  repeat (go_big_quiet_step (first | (go_at_call 80; exact ecall (HBA.out _)) | (go_at_call 18; exact ecall (HSA.out _))))
  refine wpQuiet_nil ?_
  rintro _ ⟨⟨w2, hb2⟩, rfl⟩
  have HB2 := Lib.hid hb2
  clear hb2
  cases sm
  all_goals
    go_wp2_with fail
    go_ret
    exact ⟨rfl, below_trans (below_trans (below_alloc (Below.refl _ _) _) HB.out) HB2.out⟩
set_option maxRecDepth 100000 in
set_option maxHeartbeats 400000 in
theorem Check_callsRT (kind id : Int) (brs esi sec : Bool) (sdt vcid af : Int) (A : Option Addr) (c : Nat) (w : World) (co : Int) (sm : Bool) (vb : Value) (hid : id < 536870912)
    (HC : Hid (∀ W : World, Calls Try.prog 54 #[.int .i64 kind, .int .i64 (0 : Nat)] W fun e w' => e = .returned (codeV (some co)) ∧ Below W.heap.size W w'))
    (HBA : Hid (∀ W : World, Calls Try.prog 80 #[.agg #[.int .i64 kind, .int .u32 id, .bool true, .bool true, .bool brs, .bool esi, .bool sec, .int .u8 sdt, .int .u8 vcid, .int .u32 af, .slice A 0 c]] W fun e w' => e = .returned vb ∧ Below W.heap.size W w'))
    (HSA : Hid (∀ W : World, Calls Try.prog 18 #[vb, .agg #[.int .i64 kind, .int .u32 0, .bool false, .bool false, .bool false, .bool false, .bool false, .int .u8 0, .int .u8 0, .int .u32 0, .slice none 0 0]] W fun e w' => e = .returned (.bool sm) ∧ Below W.heap.size W w')) :
    Calls Try.prog 35 #[.agg #[.int .i64 kind, .int .u32 id, .bool true, .bool true, .bool brs, .bool esi, .bool sec, .int .u8 sdt, .int .u8 vcid, .int .u32 af, .slice A 0 c]] w fun e w' => e = .returned (errV sm) ∧ Below w.heap.size w w' := by
  have hd : decide (536870912 ≤ id) = false := by simp; omega
  clear hid
  go_enter Try.func35, Try.ntmps35
  go_wp2_with fail
  refine (HC.out _).mono ?_
  rintro e w1 ⟨rfl, hb⟩
  obtain ⟨hce, hfe⟩ := bcell hb
  have HB := Lib.hid hb
  clear hb
  simp only [codeV_some]
  go_wp2_with fail
  have hB0 : w1.heap[w.heap.size]? = some (.cells #[.int .i64 kind, .int .u32 id, .bool true, .bool true, .bool brs, .bool esi, .bool sec, .int .u8 sdt, .int .u8 vcid, .int .u32 af, .slice A 0 c] 25 (0, 0)) := heap_below HB.out (heap_new_at rfl)
  have hE := fun e : Ext w1 => cells11 (ext_heap hB0 e)
  have e0 : ∀ e : Ext w1, e.W.cell? ⟨w.heap.size, 0, none⟩ = some (.int .i64 kind) := fun e => (hE e).1
  have e1 : ∀ e : Ext w1, e.W.cell? ⟨w.heap.size, 1, none⟩ = some (.int .u32 id) := fun e => (hE e).2.1
  have e2 : ∀ e : Ext w1, e.W.cell? ⟨w.heap.size, 2, none⟩ = some (.bool true) := fun e => (hE e).2.2.1
  have e3 : ∀ e : Ext w1, e.W.cell? ⟨w.heap.size, 3, none⟩ = some (.bool true) := fun e => (hE e).2.2.2.1
  have e4 : ∀ e : Ext w1, e.W.cell? ⟨w.heap.size, 4, none⟩ = some (.bool brs) := fun e => (hE e).2.2.2.2.1
  have e5 : ∀ e : Ext w1, e.W.cell? ⟨w.heap.size, 5, none⟩ = some (.bool esi) := fun e => (hE e).2.2.2.2.2.1
  have e6 : ∀ e : Ext w1, e.W.cell? ⟨w.heap.size, 6, none⟩ = some (.bool sec) := fun e => (hE e).2.2.2.2.2.2.1
  have e7 : ∀ e : Ext w1, e.W.cell? ⟨w.heap.size, 7, none⟩ = some (.int .u8 sdt) := fun e => (hE e).2.2.2.2.2.2.2.1
  have e8 : ∀ e : Ext w1, e.W.cell? ⟨w.heap.size, 8, none⟩ = some (.int .u8 vcid) := fun e => (hE e).2.2.2.2.2.2.2.2.1
  have e9 : ∀ e : Ext w1, e.W.cell? ⟨w.heap.size, 9, none⟩ = some (.int .u32 af) := fun e => (hE e).2.2.2.2.2.2.2.2.2.1
  have e10 : ∀ e : Ext w1, e.W.cell? ⟨w.heap.size, 10, none⟩ = some (.slice A 0 c) := fun e => (hE e).2.2.2.2.2.2.2.2.2.2
  clear hE hB0 hce hfe
  refine wp_region_ext (by kernel_rfl) (by kernel_rfl) ?_
  repeat (go_big_quiet_step (first | (go_at_call 80; exact ecall (HBA.out _)) | (go_at_call 18; exact ecall (HSA.out _))))
  refine wpQuiet_nil ?_
  rintro _ ⟨⟨w2, hb2⟩, rfl⟩
  have HB2 := Lib.hid hb2
  clear hb2
  cases sm
  all_goals
    go_wp2_with fail
    go_ret
    exact ⟨rfl, below_trans (below_trans (below_alloc (Below.refl _ _) _) HB.out) HB2.out⟩

set_option maxHeartbeats 400000 in
theorem Check_any (f : Fr) (A : Option Addr) (c : Nat) (w : World) (hl : f.data.length ≤ 9223372036854775807) :
    Calls Try.prog 35 #[frv f (.slice A f.data.length c)] w fun e w' => e = .returned (errV (okF f)) ∧ Below w.heap.size w w' := by
  have hok : okF f = ((codeF f.kind f.data.length).isSome && decide (f.id < limF f) && !(f.rtr && decide (0 < f.data.length)) && sameF (bareF f) (zeroF f.kind)) := rfl
  have hc := fun W => Code_any f.kind f.data.length W (by omega) (by omega)
  have hbare := fun W => bare_any f A f.data.length c W
  have hsame := fun W => Same_any (bareF f) (zeroF f.kind) none none 0 0 W (Rd.nil _ _) (Rd.nil _ _) (by intro x hx; simp [bareF] at hx) (by intro x hx; simp [zeroF] at hx)
  have hlim : limF f = if f.ext then 536870912 else 2048 := rfl
  generalize okF f = r at *
  generalize sameF (bareF f) (zeroF f.kind) = sm at *
  generalize codeF f.kind f.data.length = co at *
  generalize limF f = lim at *
  obtain ⟨kind, id, ext, rtr, brs, esi, sec, sdt, vcid, af, data⟩ := f
  dsimp only [frv] at *
  generalize data.length = n at *
  cases co with
  | none =>
    have hr : r = false := by rw [hok]; rfl
    subst hr
    exact Check_none kind id ext rtr brs esi sec sdt vcid af A n c w (Lib.hid hc)
  | some co =>
    by_cases hid : id < lim
    · cases rtr with
      | true =>
        by_cases hn : 0 < n
        · have hr : r = false := by rw [hok]; simp [hn]
          subst hr hlim
          exact Check_rtr kind id ext brs esi sec sdt vcid af A n c w co hid hn (Lib.hid hc)
        · obtain rfl : n = 0 := by omega
          have hr : r = sm := by rw [hok]; simp [hid]
          subst hr hlim
          cases ext
          · exact Check_callsRF kind id brs esi sec sdt vcid af A c w co r _ hid (Lib.hid hc) (Lib.hid hbare) (Lib.hid hsame)
          · exact Check_callsRT kind id brs esi sec sdt vcid af A c w co r _ hid (Lib.hid hc) (Lib.hid hbare) (Lib.hid hsame)
      | false =>
        have hr : r = sm := by rw [hok]; simp [hid]
        subst hr hlim
        cases ext
        · exact Check_callsF kind id brs esi sec sdt vcid af A n c w co r _ hid (Lib.hid hc) (Lib.hid hbare) (Lib.hid hsame)
        · exact Check_callsT kind id brs esi sec sdt vcid af A n c w co r _ hid (Lib.hid hc) (Lib.hid hbare) (Lib.hid hsame)
    · have hr : r = false := by rw [hok]; simp [hid]
      subst hr hlim
      exact Check_id kind id ext rtr brs esi sec sdt vcid af A n c w co (by simpa using hid) (Lib.hid hc)
end Go.Proofs.Ytaknddanggdplaa
-- POk: What it means that a frame may be: plain facts. No condition.
namespace Go.Proofs.Ytaknddanggdplaa
open Go.RowKit
theorem codeF_kind (k n : Int) (h : (codeF k n).isSome = true) : (k = 1 ∧ 0 ≤ n ∧ n ≤ 8) ∨ (k = 2 ∧ 0 ≤ n ∧ n ≤ 64) ∨ (k = 3 ∧ 1 ≤ n ∧ n ≤ 2048) := by
  unfold codeF loOf hiOf at h
  by_cases h2 : k = 2
  · right; left
    rw [if_pos h2] at h
    refine ⟨h2, ?_⟩
    by_cases hs : fdSizes[lb fdSizes n]? = some n
    · have hm : n ∈ fdSizes := List.mem_of_getElem? hs
      simp [fdSizes] at hm
      omega
    · simp [hs] at h
  · rw [if_neg h2] at h
    by_cases h1 : k = 1
    · left
      simp only [h1, if_true] at h
      by_cases hc : (0 : Int) ≤ n ∧ n ≤ 8
      · exact ⟨h1, hc⟩
      · simp [hc] at h
    · by_cases h3 : k = 3
      · right; right
        subst h3
        by_cases hc : (1 : Int) ≤ n ∧ n ≤ 2048
        · exact ⟨rfl, hc⟩
        · simp [hc] at h
      · simp [h1, h3] at h
        exfalso
        omega
/-- What a frame that may be is like. -/
structure OkF (f : Fr) : Prop where
  kind : f.kind = 1 ∨ f.kind = 2 ∨ f.kind = 3
  size : (codeF f.kind f.data.length).isSome = true
  id : f.id < if f.ext then 536870912 else 2048
  ext : f.kind ≠ 1 → f.ext = false
  rtr : f.kind ≠ 1 → f.rtr = false
  rtr0 : f.rtr = true → f.data = []
  brs : f.kind ≠ 2 → f.brs = false
  esi : f.kind ≠ 2 → f.esi = false
  sec : f.kind ≠ 3 → f.sec = false
  sdt : f.kind ≠ 3 → f.sdt = 0
  vcid : f.kind ≠ 3 → f.vcid = 0
  af : f.kind ≠ 3 → f.af = 0
theorem okF_iff (f : Fr) : okF f = true ↔ OkF f := by
  obtain ⟨kind, id, ext, rtr, brs, esi, sec, sdt, vcid, af, data⟩ := f
  unfold okF limF sameF bareF zeroF
  constructor
  · intro h
    simp at h
    obtain ⟨⟨⟨h1, h2⟩, h3⟩, h4⟩ := h
    have hk := codeF_kind _ _ h1
    obtain ⟨⟨a1, a2, a3, a4, a5⟩, a6, a7, a8⟩ := h4
    refine ⟨?_, h1, h2, ?_, ?_, ?_, ?_, ?_, ?_, ?_, ?_, ?_⟩ <;> dsimp only
    · omega
    all_goals (intro hh; simp_all)
  · rintro ⟨k1, k2, k3, k4, k5, k6, k7, k8, k9, k10, k11, k12⟩
    dsimp only at *
    simp
    refine ⟨⟨⟨k2, k3⟩, ?_⟩, ⟨?_, ?_, ?_, ?_, ?_⟩, ?_, ?_, ?_⟩
    · cases hr : rtr
      · exact .inl rfl
      · exact .inr (k6 hr)
    · by_cases hk : kind = 1
      · exact .inl hk
      · exact .inr (k4 hk)
    · by_cases hk : kind = 1
      · exact .inl hk
      · exact .inr (k5 hk)
    all_goals (by_cases hk2 : kind = 2 <;> by_cases hk3 : kind = 3 <;> simp_all)
end Go.Proofs.Ytaknddanggdplaa
-- WiresAns: What a law about bits on the wire asks of the program and of the document alike. No condition.
namespace Go.Proofs.Ytaknddanggdplaa
open Go.RowKit
abbrev WireAns (g : FuncId) (f : Fr) (A : Option Addr) (c nw : Nat) (lw : List Nat) (ih ia ew : Int) : Prop :=
  ∀ W, Rd W A (bys f.data) → Calls Try.prog g #[frv f (.slice A f.data.length c)] W fun e w' => (∃ A' c', e = .returned (.tuple #[.agg #[.slice A' nw c', .int .i64 ih, .int .i64 ia], .int .i64 ew]) ∧ Rd w' A' (bys lw)) ∧ Below W.heap.size W w'
abbrev BodyAns (g : FuncId) (f : Fr) (A : Option Addr) (c nb : Nat) (lb : List Nat) (eb : Int) : Prop :=
  ∀ W, Rd W A (bys f.data) → Calls Try.prog g #[frv f (.slice A f.data.length c)] W fun e w' => (∃ A' c', e = .returned (.tuple #[.slice A' nb c', .int .i64 eb]) ∧ Rd w' A' (bys lb)) ∧ Below W.heap.size W w'
abbrev MostAns (g : FuncId) (size m me : Int) : Prop :=
  ∀ W, Calls Try.prog g #[.int .i64 size] W fun e w' => e = .returned (.tuple #[.int .i64 m, .int .i64 me]) ∧ Below W.heap.size W w'
end Go.Proofs.Ytaknddanggdplaa
-- Ke: A world in which only what lies above B, and block b, has turned. No condition.
namespace Go.Proofs.Ytaknddanggdplaa
open Go.RowKit
/-- A world in which of what lay below B only block b is turned. -/
structure KE (B b : Nat) (w : World) where
  W : World
  keep : Keep B b w W
theorem ke_cell {B b : Nat} {w : World} {a : Addr} {v : Value} (h : w.cell? a = some v) (h1 : a.block < B) (h2 : a.block ≠ b) (e : KE B b w) : e.W.cell? a = some v := e.keep.cell_of h h1 h2
theorem kec {P : Program} {f : FuncId} {args : Array Value} {B b : Nat} {w0 : World} {e : KE B b w0} {v : Value} {R : World → Prop} (h : Calls P f args e.W fun x w' => x = .returned v ∧ R w' ∧ Keep B b e.W w') :
    Calls P f args e.W fun x w' => ∃ e2 : KE B b w0, w' = e2.W ∧ x = .returned v ∧ R e2.W := h.mono fun _ w' ⟨hx, hr, hb⟩ => ⟨⟨w', e.keep.trans hb⟩, rfl, hx, hr⟩
theorem kec_same {P : Program} {f : FuncId} {args : Array Value} {B b : Nat} {w0 : World} {v : Value} {R : World → Prop} (h : Calls P f args w0 fun x w' => x = .returned v ∧ R w' ∧ Keep B b w0 w') :
    Calls P f args w0 fun x w' => ∃ e2 : KE B b w0, w' = e2.W ∧ x = .returned v ∧ R e2.W := h.mono fun _ w' ⟨hx, hr, hb⟩ => ⟨⟨w', hb⟩, rfl, hx, hr⟩
end Go.Proofs.Ytaknddanggdplaa
-- Pot2: append's law for a row behind a pointer, where the two slices are of two types. No condition.
namespace Go.Proofs.Ytaknddanggdplaa
open Go.RowKit
theorem append_types {P : Program} {t t2 ty e : TypeId} (ht : P.underlying t = some (.slice e)) (ht2 : P.underlying t2 = some (.slice e)) (args : Array Value) (w : World) :
    (Builtin.append_ #[t, t2] ty args).run P w = (Builtin.append_ #[t, t] ty args).run P w := by
  unfold Builtin.append_
  simp only [List.getElem?_toArray, List.getElem?_cons_zero, List.getElem?_cons_succ]
  cases h0 : args[0]? with
  | none => rfl
  | some s =>
    cases h1 : args[1]? with
    | none => rfl
    | some x =>
      simp only [Sem.run_bind, run_underlying ht, Result.andThen_ok]
      cases s <;> try rfl
      simp only [Sem.run_bind]
      cases hX : (sizeOf e).run P w with
      | halt y w1 => rfl
      | ok size w1 => simp only [Result.andThen_ok, run_underlying ht, run_underlying ht2]
theorem wp_types {P : Program} {t t2 e : TypeId} {o : Oper} {a : Act} {w : World} {K : Act → World → Prop} {Q : Exit → Act → World → Prop} (s x : Operand) (ht : P.underlying t = some (.slice e)) (ht2 : P.underlying t2 = some (.slice e))
    (ho : o.op = .call { callee := .builtin .append, args := #[s, x], argTypes := #[t, t2] })
    (h : Oper.wp P { o with op := .call { callee := .builtin .append, args := #[s, x], argTypes := #[t, t] } } a w K Q) : o.wp P a w K Q := by
  have he : (execOp a.eval o).run P w = (execOp a.eval { o with op := .call { callee := .builtin .append, args := #[s, x], argTypes := #[t, t] } }).run P w := by
    unfold execOp
    simp only [ho, resolve, invoke, builtin, Sem.run_bind, Sem.run_pure, Result.andThen_ok]
    rw [append_types ht ht2]
  unfold Oper.wp at h ⊢
  rw [he]
  exact h
theorem wpList_pot2 {P : Program} {W0 w : World} {B b t : Nat} {A : Option Addr} {c : Nat} {l : List Nat} (h : Pot w B b t A c l) (hW : Keep B b W0 w) {ops : Array Oper} {rest : List Oper} {o : Oper} {a : Act} {Q : Exit → Act → World → Prop} (hgd : o.guard = none) (s x : Operand) (ty ty2 : TypeId)
    (ho : o.op = .call { callee := .builtin .append, args := #[s, x], argTypes := #[ty, ty2] })
    (i : TypeInfo) (z : Value) (bytes : Nat) (ht : P.underlying ty = some (.slice 5)) (ht2 : P.underlying ty2 = some (.slice 5)) (hi : P.info? 5 = some i) (hz : i.zero = some z) (hsize : i.size = 1) (hby : i.bytes = bytes) (hzs : z.cells.size = 1)
    (n : Nat) (hn : l.length = n) (hs : a.eval s = .slice A n c)
    (A2 : Option Addr) (m d : Nat) (news : List Nat) (hx : a.eval x = .slice A2 m d) (hm : news.length = m) (hr : Rd w A2 (bys news)) (hd : news = [] → A2 = none → d = 0)
    (N : Nat) (hN : n + m = N) (h63 : N ≤ maxLen) (hbytes : N * bytes ≤ 140737488355328)
    (hk : ∀ w' A3 c3, Hid (Potd W0 w' B b t (.slice A n c) A3 c3 (l ++ news)) → w'.cell? ⟨b, 0, none⟩ = some (.slice A n c) → w'.frozen? ⟨b, 0, none⟩ = false → wpList P ops Q rest (a.put o.dst (.slice A3 N c3)) w') : wpList P ops Q (o :: rest) a w :=
  wpList_plain hgd fun _ hK => wp_types s x ht ht2 ho (wp_pot h hW s x ty rfl i z bytes ht hi hz hsize hby hzs n hn hs A2 m d news hx hm hr hd N hN h63 hbytes fun w' A3 c3 h2 h3 h4 => hK _ _ (hk w' A3 c3 h2 h3 h4))
end Go.Proofs.Ytaknddanggdplaa
-- FdFields: fd's fields: put, flag, and an FD frame's head. No condition.
namespace Go.Proofs.Ytaknddanggdplaa
open Go.RowKit Go.Maps
set_option maxRecDepth 100000 in
set_option maxHeartbeats 1000000 in
theorem fdPut_any (w : World) (B b t : Nat) (A : Option Addr) (c n size : Nat) (l : List Nat) (h : Pot w B b t A c l) (hn : n < 18446744073709551616) (hs : size ≤ 64) (hlt : n < 2 ^ size) (hl : l.length + size ≤ 1000000) :
    Calls Try.prog 71 #[.pointer (some ⟨b, 0, none⟩), .int .u64 n, .int .i64 size] w fun e w' => e = .returned (.tuple #[]) ∧ (∃ A' c', Pot w' B b t A' c' (l ++ bitsN n size)) ∧ Keep B b w w' := by
  obtain ⟨i0, hi, hz0, hz1, hz2⟩ := info_parts info_u8
  have HB := Lib.hid (bitsPut_any w n size hn hs hlt)
  have HP := Lib.hid h
  clear h hlt
  go_enter Try.func71, Try.ntmps71
  go_wp2_with fail
  refine HB.out.mono ?_
  rintro e w1 ⟨⟨A2, c2, rfl, hrow⟩, hb⟩
  have HQ := Lib.hid (HP.out.below hb)
  have HRow := Lib.hid hrow
  have HB1 := Lib.hid hb
  clear hrow hb
  obtain ⟨q, hq⟩ : ∃ q, l.length = q := ⟨_, rfl⟩
  have hq2 : q + size ≤ 1000000 := by omega
  have c0 : w1.cell? ⟨b, 0, none⟩ = some (.slice A q c) := by rw [← hq]; exact HQ.out.cell
  have z0 : w1.frozen? ⟨b, 0, none⟩ = false := HQ.out.frozen
  have sb : b < w1.heap.size := heap_lt HQ.out.box
  have HL := Lib.hid hq
  clear hq hl
  go_wp2_with (at_builtin; refine wpList_pot2 (W0 := w) HQ.out (.of HB1.out HP.out.size) rfl (.tmp 17) (.tmp 18) 54 23 rfl i0 _ 1 Try.underlying54 Try.underlying23 hi hz0 hz1 hz2 rfl q HL.out rfl A2 size c2 (bitsN n size) rfl (bitsN_length _ _) HRow.out.rd (fun _ e => HRow.out.none_ e) (q + size) rfl (by unfold maxLen; omega) (by omega) ?_; intro w3 A3 c3 HP3 c03 z03)
  go_end0
  obtain ⟨p1, p2⟩ := HP3.out.store (n := q + size) (by rw [List.length_append, HL.out, bitsN_length])
  exact ⟨rfl, ⟨_, _, p1⟩, p2⟩
theorem fdPut_row (w : World) (B b t : Nat) (A : Option Addr) (c : Nat) (n size : Int) (N S : Nat) (l : List Nat) (eN : n = (N : Int)) (eS : size = (S : Int)) (h : Pot w B b t A c l) (hn : N < 18446744073709551616) (hs : S ≤ 64) (hlt : N < 2 ^ S) (hl : l.length + S ≤ 1000000) :
    Calls Try.prog 71 #[.pointer (some ⟨b, 0, none⟩), .int .u64 n, .int .i64 size] w fun e w' => e = .returned (.tuple #[]) ∧ (∃ A' c', Pot w' B b t A' c' (l ++ bitsN N S)) ∧ Keep B b w w' := by
  subst eN eS
  exact fdPut_any w B b t A c N S l h hn hs hlt hl
theorem keyedB : Keyed Try.prog 4 := bool_keyed Try.underlying4
theorem zeroU64 (w : World) : (zeroValue 67).run Try.prog w = .ok (.int .u64 0) w := by kernel_rfl
/-- The map {true: 1}, laid by the call. -/
theorem wpList_insertF {w : World} {ops : Array Oper} {rest : List Oper} {o : Oper} {a : Act} {Q : Exit → Act → World → Prop} (hg : o.guard = none) (m x v : Operand) (hop : o.op = Op.insert 114 m x v)
    (hm : a.eval m = .map (some w.heap.size)) (hx : a.eval x = .bool true) (hv : a.eval v = .int .u64 1)
    (hK : ∀ w', (∀ b : Bool, (Instr.lookup 114 (.map (some w.heap.size)) (.bool b) false).run Try.prog w' = .ok (.int .u64 (bitB b)) w') → Hid (Below w.heap.size w w') → wpList Try.prog ops Q rest (a.put o.dst undef) w') : wpList Try.prog ops Q (o :: rest) a (w.alloc (.map #[] 0)) := by
  refine wpList_plain hg fun K' hK' => ?_
  have hw1 : (Lit.int .u64 1).wf = true := by decide
  obtain ⟨w', hrun, r1, r2⟩ := (World.ownsMap_made (H := Unit) w Try.prog 4 (plainElem Try.prog 67)).update keyedB Try.underlying114 (by decide) (keyOf_bool_mk Try.underlying4 true) (plainElem_int Try.underlying67 hw1)
  unfold Oper.wp
  simp [execOp, hop, hm, hx, hv, hrun, Result.andThen]
  refine hK' _ _ (hK w' (fun b => ?_) ?_)
  · obtain ⟨c, hc, hat, -⟩ := r1.lookup_int keyedB Try.underlying114 Try.underlying67 (zeroU64 w') (keyOf_bool_mk Try.underlying4 b)
    rw [hc]
    cases b
    · rw [atKey_put_other (by intro h; injection h with h; cases h)] at hat
      simp [DataW.atKey] at hat
      rw [← hat]; rfl
    · rw [atKey_put_same ⟨[], rfl⟩ (show WideAt.IsKeyLit (.bool true) from trivial)] at hat
      simp at hat
      rw [← hat]; rfl
  · exact (below_alloc (Below.refl w.heap.size w) (.map #[] 0)).grown r2 (by simp) (fun k hk => by injection hk with hk; omega)
set_option maxRecDepth 100000 in
set_option maxHeartbeats 1000000 in
theorem fdFlag_any (w : World) (B b t : Nat) (A : Option Addr) (c : Nat) (x : Bool) (l : List Nat) (h : Pot w B b t A c l) (hl : l.length + 1 ≤ 1000000) :
    Calls Try.prog 70 #[.pointer (some ⟨b, 0, none⟩), .bool x] w fun e w' => e = .returned (.tuple #[]) ∧ (∃ A' c', Pot w' B b t A' c' (l ++ bitsN (bitB x) 1)) ∧ Keep B b w w' := by
  have hb1 : bitB x < 2 := by cases x <;> decide
  have HP := Lib.hid (fun W (hW : Below w.heap.size w W) => fdPut_any W B b t A c (bitB x) 1 l (h.below hW) (by omega) (by omega) (by omega) hl)
  have HS := Lib.hid h.size
  have hmm := @run_makeMap Try.prog 114
  clear h hl
  go_enter Try.func70, Try.ntmps70
  go_wp2_with (refine wpList_insertF rfl (.tmp 5) _ _ rfl rfl rfl rfl ?_; intro w2 hlk HB2)
  refine (HP.out w2 HB2.out).mono ?_
  rintro e w3 ⟨rfl, h1, h2⟩
  have H1 := Lib.hid h1
  have H2 := Lib.hid h2
  clear h1 h2 hlk hmm
  go_wp2_with fail
  go_end0
  exact ⟨rfl, H1.out, (Keep.of HB2.out HS.out).trans H2.out⟩
/-- What arbitrates: a dominant bit, the identifier, 0010. -/
def headD (f : Fr) : List Nat := bitsN 0 1 ++ bitsN f.id.toNat 11 ++ bitsN 2 4
theorem headD_length (f : Fr) : (headD f).length = 16 := by simp [headD, bitsN_length]
set_option maxRecDepth 100000 in
set_option maxHeartbeats 2000000 in
theorem headD_any (f : Fr) (A : Option Addr) (n c : Nat) (w : World) (h0 : 0 ≤ f.id) (h1 : f.id < 2048) :
    Calls Try.prog 45 #[frv f (.slice A n c)] w fun e w' => (∃ A' c', e = .returned (.slice A' 16 c') ∧ Row w' w.heap.size 5 A' c' (bys (headD f))) ∧ Below w.heap.size w w' := by
  have hl : headD f = bitsN 0 1 ++ bitsN f.id.toNat 11 ++ bitsN 2 4 := rfl
  have hlen := headD_length f
  generalize headD f = l at *
  obtain ⟨kind, id, ext, rtr, brs, esi, sec, sdt, vcid, af, data⟩ := f
  dsimp only [frv] at *
  obtain ⟨m, rfl⟩ := Int.eq_ofNat_of_zero_le h0
  rw [Int.toNat_natCast] at hl
  have HL := Lib.hid hl
  have HLEN := Lib.hid hlen
  clear hl h0 hlen
  go_enter Try.func45, Try.ntmps45
  go_wp2_with fail
  refine calls_blk2 (fun W0 q1 q2 hb => ?_)
  have hp : Pot W0 (w.heap.size + 1 + 1) (w.heap.size + 1) 54 none 0 [] := ⟨q2, fun _ e => (by cases e), heap_lt q2, Row.nil _ _ _⟩
  have HB := Lib.hid hb
  have HP := Lib.hid hp
  obtain ⟨a0, a1, a2, a3, a4, a5, a6, a7, a8, a9, a10⟩ := cells11 q1
  have b1 := fun e : KE (w.heap.size + 1 + 1) (w.heap.size + 1) W0 => ke_cell a1 (by show w.heap.size < _; omega) (by show w.heap.size ≠ _; omega) e
  clear hb hp q1 q2 a0 a1 a2 a3 a4 a5 a6 a7 a8 a9 a10
  refine (kec_same (fdPut_row _ _ _ _ _ _ _ _ 0 1 _ rfl rfl HP.out (by omega) (by omega) (by omega) (by simp))).mono ?_
  rintro x _ ⟨e1, rfl, rfl, A1, c1, hp1⟩
  have HP1 := Lib.hid hp1
  clear hp1
  go_wp2_with fail
  refine (kec (fdPut_row _ _ _ _ _ _ _ _ m 11 _ ?c1 rfl HP1.out (by omega) (by omega) (by omega) (by simp [bitsN_length]))).mono ?_
  case c1 => first | rfl | omega
  rintro x _ ⟨e2, rfl, rfl, A2, c2, hp2⟩
  have HP2 := Lib.hid hp2
  clear hp2
  go_wp2_with fail
  refine (kec (fdPut_row _ _ _ _ _ _ _ _ 2 4 _ rfl rfl HP2.out (by omega) (by omega) (by omega) (by simp [bitsN_length]))).mono ?_
  rintro x _ ⟨e3, rfl, rfl, A3, c3, hp3⟩
  have hrow : Pot e3.W (w.heap.size + 1 + 1) (w.heap.size + 1) 54 A3 c3 l := by rw [HL.out]; exact hp3
  have d0 : e3.W.cell? ⟨w.heap.size + 1, 0, none⟩ = some (.slice A3 16 c3) := by rw [← HLEN.out]; exact hrow.cell
  have f0 : e3.W.frozen? ⟨w.heap.size + 1, 0, none⟩ = false := hrow.frozen
  have hsz : w.heap.size + 1 < e3.W.heap.size := heap_lt hrow.box
  have HP3 := Lib.hid hrow
  clear hp3 hrow
  go_wp2_with fail
  refine bodyPost_ret (v := .slice A3 16 c3) (by simp [results, Try.results45, go_sem, d0]) rfl ⟨⟨A3, c3, rfl, ?_⟩, ?_⟩
  · exact (HP3.out.row.setCell HP3.out.ne 0 _).mono (by omega)
  · exact (HB.out.trans (e3.keep.below (by omega) (by omega))).setCell (p := ⟨w.heap.size + 1, 0, none⟩) (by show w.heap.size ≤ w.heap.size + 1; omega) _
end Go.Proofs.Ytaknddanggdplaa
-- Tally: fixed.Tally: a number of stuff bits as four bits. No condition.
namespace Go.Proofs.Ytaknddanggdplaa
open Go.RowKit
def tallyV (n : Nat) : Nat := [0, 3, 6, 5, 12, 15, 10, 9].getD (n % 8) 0
def tallyN (n : Nat) : List Nat := bitsN (tallyV n) 4
theorem tallyN_length (n : Nat) : (tallyN n).length = 4 := bitsN_length _ _
theorem bitsPut_row (w : World) (n size : Int) (N S : Nat) (eN : n = (N : Int)) (eS : size = (S : Int)) (hn : N < 18446744073709551616) (hs : S ≤ 64) (hlt : N < 2 ^ S) :
    Calls Try.prog 95 #[.int .u64 n, .int .i64 size] w fun e w' => (∃ A' c', e = .returned (.tuple #[.slice A' S c', .int .i64 0]) ∧ Row w' w.heap.size 5 A' c' (bys (bitsN N S))) ∧ Below w.heap.size w w' := by
  subst eN eS
  exact bitsPut_any w N S hn hs hlt
set_option maxHeartbeats 2000000 in
theorem Tally_any (n : Nat) (w : World) (hn : n ≤ 1000000) :
    Calls Try.prog 55 #[.int .i64 n] w fun e w' => (∃ A' c', e = .returned (.tuple #[.slice A' 4 c', .int .i64 0]) ∧ Row w' w.heap.size 5 A' c' (bys (tallyN n))) ∧ Below w.heap.size w w' := by
  have h0 : ¬ (n : Int) < 0 := by omega
  have hm : n % 8 = 0 ∨ n % 8 = 1 ∨ n % 8 = 2 ∨ n % 8 = 3 ∨ n % 8 = 4 ∨ n % 8 = 5 ∨ n % 8 = 6 ∨ n % 8 = 7 := by omega
  have ht : tallyN n = bitsN ([0, 3, 6, 5, 12, 15, 10, 9].getD (n % 8) 0) 4 := rfl
  generalize tallyN n = tl at ht ⊢
  rcases hm with hm | hm | hm | hm | hm | hm | hm | hm
  all_goals
    rw [hm] at ht
    have HT := Lib.hid ht
    clear ht
  · have e1 : (n : Int) % 8 = 0 := by omega
    have e2 : (n : Int).tmod 8 = 0 := by rw [Int.tmod_eq_emod_of_nonneg (by omega)]; omega
    have ht2 : tl = bitsN 0 4 := HT.out
    clear hm HT
    go_enter Try.func55, Try.ntmps55
    go_wp2_with fail
    refine (bitsPut_row w _ 4 0 4 ?c1 rfl (by omega) (by omega) (by omega)).mono ?_
    case c1 => kernel_rfl
    rintro x w1 ⟨⟨A1, c1, rfl, hrow⟩, hb⟩
    have HROW := Lib.hid hrow
    have HB := Lib.hid hb
    clear hrow hb
    go_wp2_with fail
    go_ret2
    exact ⟨⟨A1, c1, rfl, by rw [ht2]; exact HROW.out⟩, HB.out⟩
  · have e1 : (n : Int) % 8 = 1 := by omega
    have e2 : (n : Int).tmod 8 = 1 := by rw [Int.tmod_eq_emod_of_nonneg (by omega)]; omega
    have ht2 : tl = bitsN 3 4 := HT.out
    clear hm HT
    go_enter Try.func55, Try.ntmps55
    go_wp2_with fail
    refine (bitsPut_row w _ 4 3 4 ?c1 rfl (by omega) (by omega) (by omega)).mono ?_
    case c1 => kernel_rfl
    rintro x w1 ⟨⟨A1, c1, rfl, hrow⟩, hb⟩
    have HROW := Lib.hid hrow
    have HB := Lib.hid hb
    clear hrow hb
    go_wp2_with fail
    go_ret2
    exact ⟨⟨A1, c1, rfl, by rw [ht2]; exact HROW.out⟩, HB.out⟩
  · have e1 : (n : Int) % 8 = 2 := by omega
    have e2 : (n : Int).tmod 8 = 2 := by rw [Int.tmod_eq_emod_of_nonneg (by omega)]; omega
    have ht2 : tl = bitsN 6 4 := HT.out
    clear hm HT
    go_enter Try.func55, Try.ntmps55
    go_wp2_with fail
    refine (bitsPut_row w _ 4 6 4 ?c1 rfl (by omega) (by omega) (by omega)).mono ?_
    case c1 => kernel_rfl
    rintro x w1 ⟨⟨A1, c1, rfl, hrow⟩, hb⟩
    have HROW := Lib.hid hrow
    have HB := Lib.hid hb
    clear hrow hb
    go_wp2_with fail
    go_ret2
    exact ⟨⟨A1, c1, rfl, by rw [ht2]; exact HROW.out⟩, HB.out⟩
  · have e1 : (n : Int) % 8 = 3 := by omega
    have e2 : (n : Int).tmod 8 = 3 := by rw [Int.tmod_eq_emod_of_nonneg (by omega)]; omega
    have ht2 : tl = bitsN 5 4 := HT.out
    clear hm HT
    go_enter Try.func55, Try.ntmps55
    go_wp2_with fail
    refine (bitsPut_row w _ 4 5 4 ?c1 rfl (by omega) (by omega) (by omega)).mono ?_
    case c1 => kernel_rfl
    rintro x w1 ⟨⟨A1, c1, rfl, hrow⟩, hb⟩
    have HROW := Lib.hid hrow
    have HB := Lib.hid hb
    clear hrow hb
    go_wp2_with fail
    go_ret2
    exact ⟨⟨A1, c1, rfl, by rw [ht2]; exact HROW.out⟩, HB.out⟩
  · have e1 : (n : Int) % 8 = 4 := by omega
    have e2 : (n : Int).tmod 8 = 4 := by rw [Int.tmod_eq_emod_of_nonneg (by omega)]; omega
    have ht2 : tl = bitsN 12 4 := HT.out
    clear hm HT
    go_enter Try.func55, Try.ntmps55
    go_wp2_with fail
    refine (bitsPut_row w _ 4 12 4 ?c1 rfl (by omega) (by omega) (by omega)).mono ?_
    case c1 => kernel_rfl
    rintro x w1 ⟨⟨A1, c1, rfl, hrow⟩, hb⟩
    have HROW := Lib.hid hrow
    have HB := Lib.hid hb
    clear hrow hb
    go_wp2_with fail
    go_ret2
    exact ⟨⟨A1, c1, rfl, by rw [ht2]; exact HROW.out⟩, HB.out⟩
  · have e1 : (n : Int) % 8 = 5 := by omega
    have e2 : (n : Int).tmod 8 = 5 := by rw [Int.tmod_eq_emod_of_nonneg (by omega)]; omega
    have ht2 : tl = bitsN 15 4 := HT.out
    clear hm HT
    go_enter Try.func55, Try.ntmps55
    go_wp2_with fail
    refine (bitsPut_row w _ 4 15 4 ?c1 rfl (by omega) (by omega) (by omega)).mono ?_
    case c1 => kernel_rfl
    rintro x w1 ⟨⟨A1, c1, rfl, hrow⟩, hb⟩
    have HROW := Lib.hid hrow
    have HB := Lib.hid hb
    clear hrow hb
    go_wp2_with fail
    go_ret2
    exact ⟨⟨A1, c1, rfl, by rw [ht2]; exact HROW.out⟩, HB.out⟩
  · have e1 : (n : Int) % 8 = 6 := by omega
    have e2 : (n : Int).tmod 8 = 6 := by rw [Int.tmod_eq_emod_of_nonneg (by omega)]; omega
    have ht2 : tl = bitsN 10 4 := HT.out
    clear hm HT
    go_enter Try.func55, Try.ntmps55
    go_wp2_with fail
    refine (bitsPut_row w _ 4 10 4 ?c1 rfl (by omega) (by omega) (by omega)).mono ?_
    case c1 => kernel_rfl
    rintro x w1 ⟨⟨A1, c1, rfl, hrow⟩, hb⟩
    have HROW := Lib.hid hrow
    have HB := Lib.hid hb
    clear hrow hb
    go_wp2_with fail
    go_ret2
    exact ⟨⟨A1, c1, rfl, by rw [ht2]; exact HROW.out⟩, HB.out⟩
  · have e1 : (n : Int) % 8 = 7 := by omega
    have e2 : (n : Int).tmod 8 = 7 := by rw [Int.tmod_eq_emod_of_nonneg (by omega)]; omega
    have ht2 : tl = bitsN 9 4 := HT.out
    clear hm HT
    go_enter Try.func55, Try.ntmps55
    go_wp2_with fail
    refine (bitsPut_row w _ 4 9 4 ?c1 rfl (by omega) (by omega) (by omega)).mono ?_
    case c1 => kernel_rfl
    rintro x w1 ⟨⟨A1, c1, rfl, hrow⟩, hb⟩
    have HROW := Lib.hid hrow
    have HB := Lib.hid hb
    clear hrow hb
    go_wp2_with fail
    go_ret2
    exact ⟨⟨A1, c1, rfl, by rw [ht2]; exact HROW.out⟩, HB.out⟩
end Go.Proofs.Ytaknddanggdplaa
-- PStuff: Stuffing as a law of lists: runs, lengths, and where two rows first differ. No condition.
namespace Go.Proofs.Ytaknddanggdplaa
open Go.RowKit
/-- The run behind one bit more. -/
def seeN (last run x : Nat) : Nat := if 0 < run ∧ last = x then run + 1 else 1
def stf : Nat → Nat → List Nat → List Nat
  | _, _, [] => []
  | last, run, b :: l => if run = 5 then (1 - last) :: b :: stf b (seeN (1 - last) 1 b) l else b :: stf b (seeN last run b) l
/-- The state of the raw row behind a list. -/
def stE : Nat → Nat → List Nat → Nat × Nat
  | last, run, [] => (last, run)
  | last, run, b :: l => if run = 5 then stE b (seeN (1 - last) 1 b) l else stE b (seeN last run b) l
/-- Bits with stuff bits. -/
def stuffN (l : List Nat) : List Nat := stf 0 0 l
theorem seeN_le (last run x : Nat) : seeN last run x ≤ run + 1 := by unfold seeN; split <;> omega
theorem seeN_pos (last run x : Nat) : 1 ≤ seeN last run x := by unfold seeN; split <;> omega
theorem stf_append (a b : List Nat) : ∀ last run, stf last run (a ++ b) = stf last run a ++ stf (stE last run a).1 (stE last run a).2 b := by
  induction a with
  | nil => intro last run; rfl
  | cons x a ih =>
    intro last run
    simp only [List.cons_append, stf, stE]
    split <;> rw [ih] <;> rfl
theorem stE_append (a b : List Nat) : ∀ last run, stE last run (a ++ b) = stE (stE last run a).1 (stE last run a).2 b := by
  induction a with
  | nil => intro last run; rfl
  | cons x a ih =>
    intro last run
    simp only [List.cons_append, stE]
    split <;> rw [ih]
theorem stE_le (l : List Nat) : ∀ last run, run ≤ 5 → (stE last run l).2 ≤ 5 := by
  induction l with
  | nil => intro last run h; exact h
  | cons x l ih =>
    intro last run h
    simp only [stE]
    split
    · exact ih _ _ (by have := seeN_le (1 - last) 1 x; omega)
    · exact ih _ _ (by have := seeN_le last run x; omega)
theorem stf_len (l : List Nat) : ∀ last run, run ≤ 5 → l ≠ [] → 4 * (stf last run l).length + 1 ≤ 5 * l.length + run := by
  induction l with
  | nil => intro _ _ _ h; exact absurd rfl h
  | cons x l ih =>
    intro last run h _
    simp only [stf]
    by_cases hl : l = []
    · subst hl
      split <;> simp [stf] <;> omega
    · split
      · have h1 := seeN_le (1 - last) 1 x
        have := ih x (seeN (1 - last) 1 x) (by omega) hl
        simp only [List.length_cons]; omega
      · have h1 := seeN_le last run x
        have := ih x (seeN last run x) (by omega) hl
        simp only [List.length_cons]; omega
theorem stf_ge (l : List Nat) : ∀ last run, l.length ≤ (stf last run l).length := by
  induction l with
  | nil => intro _ _; simp
  | cons x l ih =>
    intro last run
    simp only [stf]
    split
    · have := ih x (seeN (1 - last) 1 x); simp only [List.length_cons]; omega
    · have := ih x (seeN last run x); simp only [List.length_cons]; omega
theorem stuffN_len (l : List Nat) (h : l ≠ []) : (stuffN l).length ≤ l.length + (l.length - 1) / 4 := by
  have := stf_len l 0 0 (by omega) h
  unfold stuffN; omega
theorem stuffN_le (l : List Nat) : (stuffN l).length ≤ l.length + l.length / 4 := by
  by_cases h : l = []
  · subst h; simp [stuffN, stf]
  · have := stuffN_len l h; omega
theorem stuffN_ge (l : List Nat) : l.length ≤ (stuffN l).length := stf_ge l 0 0
theorem stf_bits (l : List Nat) (hl : ∀ x ∈ l, x ≤ 1) : ∀ last run, ∀ x ∈ stf last run l, x ≤ 1 := by
  induction l with
  | nil => intro _ _ x hx; simp [stf] at hx
  | cons b l ih =>
    intro last run x hx
    have hb := hl b (by simp)
    have hl' : ∀ x ∈ l, x ≤ 1 := fun x hx => hl x (by simp [hx])
    simp only [stf] at hx
    split at hx
    · simp only [List.mem_cons] at hx
      rcases hx with rfl | rfl | hx
      · omega
      · exact hb
      · exact ih hl' _ _ x hx
    · simp only [List.mem_cons] at hx
      rcases hx with rfl | hx
      · exact hb
      · exact ih hl' _ _ x hx
theorem stuffN_bits (l : List Nat) (hl : ∀ x ∈ l, x ≤ 1) : ∀ x ∈ stuffN l, x ≤ 1 := stf_bits l hl 0 0
theorem stf_diff (p a b : List Nat) (x y : Nat) : ∀ last run, ∃ q a' b', stf last run (p ++ x :: a) = q ++ x :: a' ∧ stf last run (p ++ y :: b) = q ++ y :: b' := by
  induction p with
  | nil =>
    intro last run
    simp only [List.nil_append, stf]
    split
    · exact ⟨[1 - last], _, _, rfl, rfl⟩
    · exact ⟨[], _, _, rfl, rfl⟩
  | cons z p ih =>
    intro last run
    simp only [List.cons_append, stf]
    split
    · obtain ⟨q, a', b', h1, h2⟩ := ih z (seeN (1 - last) 1 z)
      exact ⟨(1 - last) :: z :: q, a', b', by rw [h1]; rfl, by rw [h2]; rfl⟩
    · obtain ⟨q, a', b', h1, h2⟩ := ih z (seeN last run z)
      exact ⟨z :: q, a', b', by rw [h1]; rfl, by rw [h2]; rfl⟩
/-- Runs of a raw row: none is longer than five. -/
def runsB : Nat → Nat → List Nat → Bool
  | _, _, [] => true
  | last, run, b :: l => decide (seeN last run b ≤ 5) && runsB b (seeN last run b) l
theorem stf_runs (l : List Nat) : ∀ last run, run ≤ 5 → runsB last run (stf last run l) = true := by
  induction l with
  | nil => intro _ _ _; rfl
  | cons b l ih =>
    intro last run h
    simp only [stf]
    split
    · have e : seeN last run (1 - last) = 1 := by unfold seeN; rw [if_neg (by omega)]
      have h1 := seeN_le (1 - last) 1 b
      simp only [runsB, e]
      rw [ih _ _ (by omega)]
      simp; omega
    · have h1 := seeN_le last run b
      simp only [runsB]
      rw [ih _ _ (by omega)]
      simp; omega
theorem stuffN_runs (l : List Nat) : runsB 0 0 (stuffN l) = true := stf_runs l 0 0 (by omega)
/-- The state of a raw row. -/
def rawE : Nat → Nat → List Nat → Nat × Nat
  | last, run, [] => (last, run)
  | last, run, b :: l => rawE b (seeN last run b) l
theorem rawE_append (a b : List Nat) : ∀ last run, rawE last run (a ++ b) = rawE (rawE last run a).1 (rawE last run a).2 b := by
  induction a with
  | nil => intro last run; rfl
  | cons x a ih => intro last run; simp only [List.cons_append, rawE]; rw [ih]
theorem rawE_stf (l : List Nat) : ∀ last run, run ≤ 5 → rawE last run (stf last run l) = stE last run l := by
  induction l with
  | nil => intro _ _ _; rfl
  | cons b l ih =>
    intro last run h
    simp only [stf, stE]
    split
    · have e : seeN last run (1 - last) = 1 := by unfold seeN; rw [if_neg (by omega)]
      have h1 := seeN_le (1 - last) 1 b
      simp only [rawE, e]
      exact ih _ _ (by omega)
    · have h1 := seeN_le last run b
      simp only [rawE]
      exact ih _ _ (by omega)
theorem runsB_append (a b : List Nat) : ∀ last run, runsB last run (a ++ b) = (runsB last run a && runsB (rawE last run a).1 (rawE last run a).2 b) := by
  induction a with
  | nil => intro last run; simp [runsB, rawE]
  | cons x a ih => intro last run; simp only [List.cons_append, runsB, rawE]; rw [ih, Bool.and_assoc]
/-- How a raw row ends. -/
def Tails (last run : Nat) (out : List Nat) : Prop := (run = 0 ∧ out = []) ∨ (1 ≤ run ∧ ∃ pre, out = pre ++ List.replicate run last ∧ ∀ p y, pre = p ++ [y] → y ≠ last)
theorem Tails.see {last run : Nat} {out : List Nat} (h : Tails last run out) (b : Nat) : Tails b (seeN last run b) (out ++ [b]) := by
  right
  refine ⟨seeN_pos _ _ _, ?_⟩
  rcases h with ⟨rfl, rfl⟩ | ⟨h1, pre, rfl, hp⟩
  · exact ⟨[], by simp [seeN], fun p y h => by simp at h⟩
  · by_cases e : last = b
    · subst e
      refine ⟨pre, ?_, hp⟩
      have : seeN last run last = run + 1 := by unfold seeN; rw [if_pos ⟨by omega, rfl⟩]
      rw [this, List.replicate_succ', List.append_assoc]
    · have : seeN last run b = 1 := by unfold seeN; rw [if_neg (by simp [e])]
      rw [this]
      refine ⟨pre ++ List.replicate run last, by simp, fun p y h => ?_⟩
      obtain ⟨r, rfl⟩ : ∃ r, run = r + 1 := ⟨run - 1, by omega⟩
      rw [List.replicate_succ', ← List.append_assoc] at h
      have := List.append_inj_right' h rfl
      simp at this
      omega
theorem Tails.full {last run : Nat} {out : List Nat} (h : Tails last run out) (h5 : run ≤ 5) : run = 5 ↔ (5 ≤ out.length ∧ ∀ j, j < 5 → out[out.length - 1 - j]? = out[out.length - 1]?) := by
  rcases h with ⟨rfl, rfl⟩ | ⟨h1, pre, rfl, hp⟩
  · simp
  · have hlast : ∀ j, j < run → (pre ++ List.replicate run last)[(pre ++ List.replicate run last).length - 1 - j]? = some last := by
      intro j hj
      rw [List.getElem?_append_right (by simp; omega), List.getElem?_replicate, if_pos (by simp; omega)]
    constructor
    · rintro rfl
      refine ⟨by simp, fun j hj => ?_⟩
      have h0 := hlast 0 (by omega)
      rw [Nat.sub_zero] at h0
      rw [hlast j hj, h0]
    · rintro ⟨h6, h7⟩
      refine Classical.byContradiction fun hne => ?_
      have hr : run < 5 := by omega
      rcases List.eq_nil_or_concat pre with rfl | ⟨p, y, hpre⟩
      · simp at h6; omega
      · rw [List.concat_eq_append] at hpre
        subst hpre
        have h8 := h7 run hr
        have h9 := hlast 0 (by omega)
        rw [Nat.sub_zero] at h9
        rw [h9] at h8
        have hy := hp p y rfl
        rw [List.getElem?_append_left (by simp)] at h8
        have e : (p ++ [y] ++ List.replicate run last).length - 1 - run = p.length := by simp
        rw [e, List.getElem?_append_right (by omega)] at h8
        simp at h8
        exact hy h8
end Go.Proofs.Ytaknddanggdplaa
-- PFixed: Fixed stuffing, by definition: a stuff bit behind every so many bits (and ahead of all, where the way says so). No condition.
namespace Go.Proofs.Ytaknddanggdplaa
open Go.RowKit
/-- Bits with stuff bits; every: how many bits lie between two; left: how many are left ahead of the next. -/
def fixE (every : Nat) : Nat → Nat → List Nat → List Nat
  | _, _, [] => []
  | last, left, x :: l => if left = 0 then (1 - last) :: x :: fixE every x (every - 1) l else x :: fixE every x (left - 1) l
def fixN (every : Nat) (ahead : Bool) (prev : Nat) (l : List Nat) : List Nat := fixE every prev (if ahead then 0 else every) l
theorem fixE_bits (every : Nat) (l : List Nat) (h : ∀ x ∈ l, x ≤ 1) : ∀ last left, ∀ x ∈ fixE every last left l, x ≤ 1 := by
  induction l with
  | nil => intro last left x hx; simp [fixE] at hx
  | cons y l ih =>
    intro last left x hx
    have hy := h y (by simp)
    have hl := fun z hz => h z (List.mem_cons_of_mem y hz)
    unfold fixE at hx
    split at hx
    · rcases List.mem_cons.1 hx with rfl | hx
      · omega
      · rcases List.mem_cons.1 hx with rfl | hx
        · exact hy
        · exact ih hl _ _ x hx
    · rcases List.mem_cons.1 hx with rfl | hx
      · exact hy
      · exact ih hl _ _ x hx
/-- Of (left) bits none, then one behind each (every): how long it gets. -/
theorem fixE_length (every : Nat) (he : 1 ≤ every) (l : List Nat) : ∀ last left, left ≤ every → (fixE every last left l).length = l.length + (l.length + (every - left) - 1) / every - (if left = every then 0 else 0) + (if l.length = 0 then 0 else 0) ∨ l = [] := by
  induction l with
  | nil => intro last left _; exact .inr rfl
  | cons x l ih =>
    intro last left hle
    refine .inl ?_
    simp only [ite_self, Nat.sub_zero, Nat.add_zero]
    unfold fixE
    split
    · rename_i h0
      subst h0
      rcases ih x (every - 1) (by omega) with h | rfl
      · simp only [ite_self, Nat.sub_zero, Nat.add_zero] at h
        simp only [List.length_cons, h]
        have e1 : l.length + 1 + (every - 0) - 1 = l.length + every := by omega
        have e2 : l.length + (every - (every - 1)) - 1 = l.length := by omega
        rw [e1, e2, Nat.add_div_right _ (by omega)]
        omega
      · have e : 1 + (every - 0) - 1 = every := by omega
        simp [fixE, Nat.div_self (show 0 < every by omega)]
    · rename_i h0
      rcases ih x (left - 1) (by omega) with h | rfl
      · simp only [ite_self, Nat.sub_zero, Nat.add_zero] at h
        simp only [List.length_cons, h]
        have e1 : l.length + (every - (left - 1)) - 1 = l.length + 1 + (every - left) - 1 := by omega
        rw [e1]
        omega
      · have e : 1 + (every - left) - 1 = every - left := by omega
        simp [fixE, e, Nat.div_eq_of_lt (show every - left < every by omega)]
theorem fixN_length (every : Nat) (ahead : Bool) (prev : Nat) (l : List Nat) (he : 1 ≤ every) : (fixN every ahead prev l).length = if l.length = 0 then 0 else l.length + (l.length - 1) / every + (if ahead then 1 else 0) := by
  by_cases h0 : l = []
  · subst h0; simp [fixN, fixE]
  · have hl : l.length ≠ 0 := fun h => h0 (List.eq_nil_of_length_eq_zero h)
    rw [if_neg hl]
    unfold fixN
    rcases fixE_length every he l prev (if ahead then 0 else every) (by split <;> omega) with h | h
    · rw [h]
      cases ahead
      · simp
      · have e : l.length + every - 1 = (l.length - 1) + every := by omega
        simp [e, Nat.add_div_right _ (show 0 < every by omega)]
        omega
    · exact absurd h h0
end Go.Proofs.Ytaknddanggdplaa
-- PFirst: Where two rows of bits first differ; runs, bit by bit: plain laws of lists. No condition.
namespace Go.Proofs.Ytaknddanggdplaa
open Go.RowKit
theorem bitsN_mod (n k : Nat) : bitsN n k = bitsN (n % 2 ^ k) k := by
  have h : ∀ j, j ≤ k → bitsN n j = bitsN (n % 2 ^ k) j := by
    intro j
    induction j with
    | zero => intro _; rfl
    | succ j ih =>
      intro hj
      simp only [bitsN]
      rw [ih (by omega)]
      congr 1
      obtain ⟨m, rfl⟩ : ∃ m, k = j + (m + 1) := ⟨k - (j + 1), by omega⟩
      rw [Nat.pow_add, Nat.mod_mul_right_div_self, Nat.pow_succ, Nat.mul_comm (2 ^ m) 2, Nat.mod_mul_right_mod]
  exact h k (Nat.le_refl k)
/-- Where two numbers' bits first differ. -/
theorem bitsN_first (k : Nat) : ∀ n m : Nat, n < 2 ^ k → m < 2 ^ k → n ≠ m → ∃ p a b x y, bitsN n k = p ++ x :: a ∧ bitsN m k = p ++ y :: b ∧ x ≠ y ∧ (x = 0 ↔ n < m) ∧ x ≤ 1 ∧ y ≤ 1 := by
  induction k with
  | zero => intro n m hn hm hne; simp at hn hm; omega
  | succ k ih =>
    intro n m hn hm hne
    have hp : 0 < 2 ^ k := Nat.two_pow_pos _
    rw [Nat.pow_succ] at hn hm
    have hn1 : n / 2 ^ k < 2 := Nat.div_lt_of_lt_mul (by omega)
    have hm1 : m / 2 ^ k < 2 := Nat.div_lt_of_lt_mul (by omega)
    have en := Nat.div_add_mod n (2 ^ k)
    have em := Nat.div_add_mod m (2 ^ k)
    have rn := Nat.mod_lt n hp
    have rm := Nat.mod_lt m hp
    by_cases he : n / 2 ^ k = m / 2 ^ k
    · have hne2 : n % 2 ^ k ≠ m % 2 ^ k := by intro h; rw [he] at en; omega
      obtain ⟨p, a, b, x, y, h1, h2, h3, h4, h5, h6⟩ := ih (n % 2 ^ k) (m % 2 ^ k) rn rm hne2
      refine ⟨(n / 2 ^ k % 2) :: p, a, b, x, y, ?_, ?_, h3, ?_, h5, h6⟩
      · simp only [bitsN]; rw [bitsN_mod n k, h1]; rfl
      · simp only [bitsN]; rw [bitsN_mod m k, h2, he]; rfl
      · rw [h4]; rw [he] at en; omega
    · refine ⟨[], bitsN n k, bitsN m k, n / 2 ^ k % 2, m / 2 ^ k % 2, rfl, rfl, ?_, ?_, by omega, by omega⟩
      · rw [Nat.mod_eq_of_lt hn1, Nat.mod_eq_of_lt hm1]; exact he
      · rw [Nat.mod_eq_of_lt hn1]
        generalize n / 2 ^ k = u at *
        generalize m / 2 ^ k = v at *
        obtain rfl | rfl : u = 0 ∨ u = 1 := by omega
        · obtain rfl : v = 1 := by omega
          simp at en em
          constructor <;> intro <;> omega
        · obtain rfl : v = 0 := by omega
          simp at en em
          constructor <;> intro h <;> omega
theorem bitsN_inj (k n m : Nat) (hn : n < 2 ^ k) (hm : m < 2 ^ k) (h : bitsN n k = bitsN m k) : n = m := by
  refine Classical.byContradiction fun hne => ?_
  obtain ⟨p, a, b, x, y, h1, h2, h3, -⟩ := bitsN_first k n m hn hm hne
  rw [h1, h2] at h
  have := List.append_cancel_left h
  simp at this
  exact h3 this.1
/-- Two rows that differ first at one place, of which the first one has the dominant bit just if P. -/
def First (P : Prop) (l m : List Nat) : Prop := ∃ p a b x y, l = p ++ x :: a ∧ m = p ++ y :: b ∧ x ≠ y ∧ (x = 0 ↔ P) ∧ x ≤ 1 ∧ y ≤ 1
theorem First.behind {P : Prop} {l m : List Nat} (h : First P l m) (c d : List Nat) : First P (l ++ c) (m ++ d) := by
  obtain ⟨p, a, b, x, y, rfl, rfl, r⟩ := h
  exact ⟨p, a ++ c, b ++ d, x, y, by simp, by simp, r⟩
theorem First.ahead {P : Prop} {l m : List Nat} (h : First P l m) (c : List Nat) : First P (c ++ l) (c ++ m) := by
  obtain ⟨p, a, b, x, y, rfl, rfl, r⟩ := h
  exact ⟨c ++ p, a, b, x, y, by simp, by simp, r⟩
theorem First.stuffed {P : Prop} {l m : List Nat} (h : First P l m) : First P (stuffN l) (stuffN m) := by
  obtain ⟨p, a, b, x, y, rfl, rfl, r⟩ := h
  obtain ⟨q, a', b', h1, h2⟩ := stf_diff p a b x y 0 0
  exact ⟨q, a', b', x, y, h1, h2, r⟩
theorem First.iff {P Q : Prop} {l m : List Nat} (h : First P l m) (e : P ↔ Q) : First Q l m := by
  obtain ⟨p, a, b, x, y, h1, h2, h3, h4, h5, h6⟩ := h
  exact ⟨p, a, b, x, y, h1, h2, h3, h4.trans e, h5, h6⟩
/-- The place. -/
theorem First.at {P : Prop} {l m : List Nat} (h : First P l m) : ∃ j, j < l.length ∧ j < m.length ∧ (∀ i, i < j → l[i]? = m[i]?) ∧ ∃ x y, l[j]? = some x ∧ m[j]? = some y ∧ x ≠ y ∧ (x = 0 ↔ P) := by
  obtain ⟨p, a, b, x, y, rfl, rfl, h3, h4, -⟩ := h
  refine ⟨p.length, by simp, by simp, fun i hi => ?_, x, y, by simp, by simp, h3, h4⟩
  rw [List.getElem?_append_left hi, List.getElem?_append_left hi]
/-- Two rows that differ at a place within both. -/
def Diff (l m : List Nat) : Prop := ∃ p a b x y, l = p ++ x :: a ∧ m = p ++ y :: b ∧ x ≠ y
theorem First.diff {P : Prop} {l m : List Nat} (h : First P l m) : Diff l m := by
  obtain ⟨p, a, b, x, y, h1, h2, h3, -⟩ := h
  exact ⟨p, a, b, x, y, h1, h2, h3⟩
theorem Diff.behind {l m : List Nat} (h : Diff l m) (c d : List Nat) : Diff (l ++ c) (m ++ d) := by
  obtain ⟨p, a, b, x, y, rfl, rfl, r⟩ := h
  exact ⟨p, a ++ c, b ++ d, x, y, by simp, by simp, r⟩
theorem Diff.ahead {l m : List Nat} (h : Diff l m) (c : List Nat) : Diff (c ++ l) (c ++ m) := by
  obtain ⟨p, a, b, x, y, rfl, rfl, r⟩ := h
  exact ⟨c ++ p, a, b, x, y, by simp, by simp, r⟩
theorem Diff.stuffed {l m : List Nat} (h : Diff l m) : Diff (stuffN l) (stuffN m) := by
  obtain ⟨p, a, b, x, y, rfl, rfl, r⟩ := h
  obtain ⟨q, a', b', h1, h2⟩ := stf_diff p a b x y 0 0
  exact ⟨q, a', b', x, y, h1, h2, r⟩
theorem Diff.at {l m : List Nat} (h : Diff l m) : ∃ j x y : Nat, l[j]? = some x ∧ m[j]? = some y ∧ x ≠ y := by
  obtain ⟨p, a, b, x, y, rfl, rfl, h3⟩ := h
  exact ⟨p.length, x, y, by simp, by simp, h3⟩
theorem diff_of_at (j : Nat) : ∀ (l m : List Nat) (x y : Nat), l[j]? = some x → m[j]? = some y → x ≠ y → Diff l m := by
  induction j with
  | zero =>
    intro l m x y h1 h2 h3
    cases l with
    | nil => simp at h1
    | cons u l =>
      cases m with
      | nil => simp at h2
      | cons v m =>
        simp at h1 h2
        subst h1 h2
        exact ⟨[], l, m, u, v, rfl, rfl, h3⟩
  | succ j ih =>
    intro l m x y h1 h2 h3
    cases l with
    | nil => simp at h1
    | cons u l =>
      cases m with
      | nil => simp at h2
      | cons v m =>
        simp only [List.getElem?_cons_succ] at h1 h2
        by_cases e : u = v
        · subst e; exact (ih l m x y h1 h2 h3).ahead [u]
        · exact ⟨[], l, m, u, v, rfl, rfl, e⟩
theorem bytesN_diff : ∀ (l m : List Nat), l.length = m.length → (∀ x ∈ l, x < 256) → (∀ x ∈ m, x < 256) → l ≠ m → Diff (bytesN l) (bytesN m) := by
  intro l
  induction l with
  | nil => intro m h _ _ hne; cases m with
           | nil => exact absurd rfl hne
           | cons => simp at h
  | cons x l ih =>
    intro m h hl hm hne
    cases m with
    | nil => simp at h
    | cons y m =>
      have e1 : bytesN (x :: l) = bitsN x 8 ++ bytesN l := by simp [bytesN]
      have e2 : bytesN (y :: m) = bitsN y 8 ++ bytesN m := by simp [bytesN]
      rw [e1, e2]
      by_cases e : x = y
      · subst e
        exact (ih m (by simpa using h) (fun z hz => hl z (by simp [hz])) (fun z hz => hm z (by simp [hz])) (fun h => hne (by rw [h]))).ahead _
      · obtain ⟨p, a, b, u, v, h1, h2, h3, -⟩ := bitsN_first 8 x y (hl x (by simp)) (hm y (by simp)) e
        exact Diff.behind ⟨p, a, b, u, v, h1, h2, h3⟩ _ _
theorem bitB_inj {a b : Bool} (h : a ≠ b) : bitB a ≠ bitB b := by cases a <;> cases b <;> simp_all [bitB]
theorem runs_at (l : List Nat) (h : runsB 0 0 l = true) (k : Nat) (hk : k < l.length) : seeN (rawE 0 0 (l.take k)).1 (rawE 0 0 (l.take k)).2 l[k] ≤ 5 := by
  have e : l = l.take k ++ (l[k] :: l.drop (k + 1)) := by rw [← List.drop_eq_getElem_cons hk, List.take_append_drop]
  rw [e, runsB_append] at h
  simp only [Bool.and_eq_true, runsB, decide_eq_true_eq] at h
  exact h.2.1
theorem rawE_step (l : List Nat) (k : Nat) (hk : k < l.length) : rawE 0 0 (l.take (k + 1)) = (l[k], seeN (rawE 0 0 (l.take k)).1 (rawE 0 0 (l.take k)).2 l[k]) := by
  rw [List.take_succ_eq_append_getElem hk, rawE_append]
  rfl
theorem tails_raw (l : List Nat) : ∀ (last run : Nat) (out : List Nat), Tails last run out → Tails (rawE last run l).1 (rawE last run l).2 (out ++ l) := by
  induction l with
  | nil => intro last run out h; simpa [rawE] using h
  | cons x l ih =>
    intro last run out h
    have := ih x (seeN last run x) (out ++ [x]) (h.see x)
    simpa [rawE] using this
theorem rd_left {w : World} {A : Option Addr} {a b : List Nat} (h : Rd w A (bys (a ++ b))) : Rd w A (bys a) := by
  intro j u hj
  refine h j u ?_
  rw [bys_append, List.getElem?_append_left (List.getElem?_eq_some_iff.1 hj).1]
  exact hj
/-- Do two rows differ within their first k? -/
def diffB (l m : List Nat) (k : Nat) : Bool := (List.range k).any fun i => l[i]? != m[i]?
theorem diffB_succ (l m : List Nat) (k : Nat) : diffB l m (k + 1) = (diffB l m k || (l[k]? != m[k]?)) := by unfold diffB; rw [List.range_succ, List.any_append]; simp
theorem rawE_pos (l : List Nat) (k : Nat) (hk : k < l.length) (h0 : 0 < k) : (rawE 0 0 (l.take k)).1 = l[k - 1] ∧ 1 ≤ (rawE 0 0 (l.take k)).2 := by
  obtain ⟨j, rfl⟩ : ∃ j, k = j + 1 := ⟨k - 1, by omega⟩
  rw [rawE_step l j (by omega)]
  exact ⟨rfl, seeN_pos _ _ _⟩
/-- A frame with another identifier. -/
def withId (f : Fr) (id : Int) : Fr := { f with id := id }
end Go.Proofs.Ytaknddanggdplaa
-- PRuns: Runs of a raw row up to a bound; fixed stuffing's runs, and where two stuffed rows first differ: plain laws of lists. No condition.
namespace Go.Proofs.Ytaknddanggdplaa
open Go.RowKit
/-- No run is longer than M. -/
def runsM (M : Nat) : Nat → Nat → List Nat → Bool
  | _, _, [] => true
  | last, run, b :: l => decide (seeN last run b ≤ M) && runsM M b (seeN last run b) l
theorem runsM_append (M : Nat) (a b : List Nat) : ∀ last run, runsM M last run (a ++ b) = (runsM M last run a && runsM M (rawE last run a).1 (rawE last run a).2 b) := by
  induction a with
  | nil => intro last run; simp [runsM, rawE]
  | cons x a ih => intro last run; simp only [List.cons_append, runsM, rawE]; rw [ih, Bool.and_assoc]
theorem runsM_of (M : Nat) (h : 5 ≤ M) (l : List Nat) : ∀ last run, runsB last run l = true → runsM M last run l = true := by
  induction l with
  | nil => intro _ _ _; rfl
  | cons x l ih =>
    intro last run h1
    simp only [runsB, Bool.and_eq_true, decide_eq_true_eq] at h1
    simp only [runsM, Bool.and_eq_true, decide_eq_true_eq]
    exact ⟨by omega, ih _ _ h1.2⟩
theorem runsM_at (M : Nat) (l : List Nat) (h : runsM M 0 0 l = true) (k : Nat) (hk : k < l.length) : seeN (rawE 0 0 (l.take k)).1 (rawE 0 0 (l.take k)).2 l[k] ≤ M := by
  have e : l = l.take k ++ (l[k] :: l.drop (k + 1)) := by rw [← List.drop_eq_getElem_cons hk, List.take_append_drop]
  rw [e, runsM_append] at h
  simp only [Bool.and_eq_true, runsM, decide_eq_true_eq] at h
  exact h.2.1
/-- How many bits are left ahead of the next stuff bit, behind so many. -/
def leftE (every : Nat) : Nat → Nat → Nat
  | left, 0 => left
  | left, n + 1 => leftE every (if left = 0 then every - 1 else left - 1) n
/-- Fixed stuffing: a run has at most (every + 1) bits, less those that are left ahead of the next stuff bit. -/
theorem fix_runs (every : Nat) (he : 2 ≤ every) (l : List Nat) (h01 : ∀ x ∈ l, x ≤ 1) : ∀ last run left, last ≤ 1 → run + left ≤ every + 1 → left ≤ every →
    runsM (every + 1) last run (fixE every last left l) = true ∧ (rawE last run (fixE every last left l)).2 + leftE every left l.length ≤ every + 1 ∧ (rawE last run (fixE every last left l)).1 ≤ 1 := by
  induction l with
  | nil => intro last run left h1 h2 _; exact ⟨rfl, by simpa [fixE, rawE, leftE] using h2, by simpa [fixE, rawE] using h1⟩
  | cons x l ih =>
    intro last run left h1 h2 h3
    have hx := h01 x (by simp)
    have ih' := ih (fun z hz => h01 z (by simp [hz]))
    by_cases h0 : left = 0
    · subst h0
      have e : seeN last run (1 - last) = 1 := by unfold seeN; rw [if_neg (by omega)]
      have hs := seeN_le (1 - last) 1 x
      obtain ⟨i1, i2, i3⟩ := ih' x (seeN (1 - last) 1 x) (every - 1) hx (by omega) (by omega)
      rw [fixE, if_pos rfl]
      simp only [runsM, rawE, e, List.length_cons, leftE, if_true]
      refine ⟨?_, i2, i3⟩
      rw [i1]; simp; omega
    · have hs := seeN_le last run x
      obtain ⟨i1, i2, i3⟩ := ih' x (seeN last run x) (left - 1) hx (by omega) (by omega)
      rw [fixE, if_neg h0]
      simp only [runsM, rawE, List.length_cons, leftE, if_neg h0]
      refine ⟨?_, i2, i3⟩
      rw [i1]; simp; omega
theorem fixE_diff (every : Nat) (p a b : List Nat) (x y : Nat) : ∀ last left, ∃ q a' b', fixE every last left (p ++ x :: a) = q ++ x :: a' ∧ fixE every last left (p ++ y :: b) = q ++ y :: b' := by
  induction p with
  | nil =>
    intro last left
    simp only [List.nil_append, fixE]
    by_cases h0 : left = 0
    · rw [if_pos h0, if_pos h0]; exact ⟨[1 - last], _, _, rfl, rfl⟩
    · rw [if_neg h0, if_neg h0]; exact ⟨[], _, _, rfl, rfl⟩
  | cons z p ih =>
    intro last left
    simp only [List.cons_append, fixE]
    by_cases h0 : left = 0
    · obtain ⟨q, a', b', h1, h2⟩ := ih z (every - 1)
      rw [if_pos h0, if_pos h0, h1, h2]; exact ⟨(1 - last) :: z :: q, a', b', rfl, rfl⟩
    · obtain ⟨q, a', b', h1, h2⟩ := ih z (left - 1)
      rw [if_neg h0, if_neg h0, h1, h2]; exact ⟨z :: q, a', b', rfl, rfl⟩
theorem Diff.fixed {l m : List Nat} (h : Diff l m) (every : Nat) (ah : Bool) (prev : Nat) : Diff (fixN every ah prev l) (fixN every ah prev m) := by
  obtain ⟨p, a, b, x, y, rfl, rfl, h3⟩ := h
  obtain ⟨q, a', b', h1, h2⟩ := fixE_diff every p a b x y prev (if ah then 0 else every)
  exact ⟨q, a', b', x, y, h1, h2, h3⟩
theorem bitsN_diff (k n m : Nat) (hn : n < 2 ^ k) (hm : m < 2 ^ k) (h : n ≠ m) : Diff (bitsN n k) (bitsN m k) := by
  obtain ⟨p, a, b, x, y, h1, h2, h3, -⟩ := bitsN_first k n m hn hm h
  exact ⟨p, a, b, x, y, h1, h2, h3⟩
/-- How long the runs of a raw row get: at most M, and at most five among its first n bits. -/
def SeeOk (M n : Nat) (ra : List Nat) : Prop := ∀ k (hk : k < ra.length), seeN (rawE 0 0 (ra.take k)).1 (rawE 0 0 (ra.take k)).2 ra[k] ≤ M ∧ (k < n → seeN (rawE 0 0 (ra.take k)).1 (rawE 0 0 (ra.take k)).2 ra[k] ≤ 5)
/-- What a frame's numbers are. -/
structure FrN (f : Fr) : Prop where
  id0 : 0 ≤ f.id
  sdt : 0 ≤ f.sdt ∧ f.sdt < 256
  vcid : 0 ≤ f.vcid ∧ f.vcid < 256
  af : 0 ≤ f.af ∧ f.af < 4294967296
  data : isBytes f.data
theorem diff_apart {l m : List Nat} (h : Diff l m) : diffB l m (min l.length m.length) = true := by
  obtain ⟨j, x, y, h1, h2, h3⟩ := h.at
  have j1 := (List.getElem?_eq_some_iff.1 h1).1
  have j2 := (List.getElem?_eq_some_iff.1 h2).1
  unfold diffB
  exact List.any_eq_true.2 ⟨j, List.mem_range.2 (by omega), by rw [h1, h2]; simp [h3]⟩
theorem same_apart (l : List Nat) (k : Nat) : diffB l l k = false := by
  unfold diffB
  exact List.any_eq_false.2 (by simp)
end Go.Proofs.Ytaknddanggdplaa
-- PCrc: Check sums as folds: a table that takes four bits at once makes what bit by bit makes. No condition.
namespace Go.Proofs.Ytaknddanggdplaa
open Go.RowKit
/-- A bit taken in. -/
def oneN (size poly sum b : Nat) : Nat := (sum * 2 % 2 ^ size) ^^^ (if sum / 2 ^ (size - 1) % 2 = b then 0 else poly)
/-- Bits taken in. -/
def crcN (size poly sum : Nat) (l : List Nat) : Nat := l.foldl (oneN size poly) sum
theorem crcN_append (size poly sum : Nat) (a b : List Nat) : crcN size poly sum (a ++ b) = crcN size poly (crcN size poly sum a) b := by simp [crcN]
theorem crcN_cons (size poly sum x : Nat) (l : List Nat) : crcN size poly sum (x :: l) = crcN size poly (oneN size poly sum x) l := rfl
theorem oneN_lt (size poly sum b : Nat) (hp : poly < 2 ^ size) : oneN size poly sum b < 2 ^ size := by
  unfold oneN
  refine Nat.xor_lt_two_pow (Nat.mod_lt _ (Nat.two_pow_pos _)) ?_
  split
  · exact Nat.two_pow_pos _
  · exact hp
theorem crcN_lt (size poly : Nat) (l : List Nat) (hp : poly < 2 ^ size) : ∀ sum, sum < 2 ^ size → crcN size poly sum l < 2 ^ size := by
  induction l with
  | nil => intro sum h; exact h
  | cons x l ih => intro sum _; rw [crcN_cons]; exact ih _ (oneN_lt size poly sum x hp)
theorem bit_xor (s t k : Nat) : (s ^^^ t) / 2 ^ k % 2 = (s / 2 ^ k % 2) ^^^ (t / 2 ^ k % 2) := by
  rw [← Nat.shiftRight_eq_div_pow, ← Nat.shiftRight_eq_div_pow, ← Nat.shiftRight_eq_div_pow, Nat.shiftRight_xor_distrib]
  have := Nat.xor_mod_two_pow (a := s >>> k) (b := t >>> k) (n := 1)
  simpa using this
theorem oneN_xor (size poly s t b c : Nat) (hb : b ≤ 1) (hc : c ≤ 1) : oneN size poly (s ^^^ t) (b ^^^ c) = oneN size poly s b ^^^ oneN size poly t c := by
  have h1 : (s ^^^ t) * 2 % 2 ^ size = (s * 2 % 2 ^ size) ^^^ (t * 2 % 2 ^ size) := by
    have e : ∀ x : Nat, x * 2 = x <<< 1 := fun x => by rw [Nat.shiftLeft_eq]
    rw [e, e, e, Nat.shiftLeft_xor_distrib, Nat.xor_mod_two_pow]
  unfold oneN
  rw [h1, bit_xor]
  have hs : s / 2 ^ (size - 1) % 2 < 2 := Nat.mod_lt _ (by omega)
  have ht : t / 2 ^ (size - 1) % 2 < 2 := Nat.mod_lt _ (by omega)
  generalize s / 2 ^ (size - 1) % 2 = u at *
  generalize t / 2 ^ (size - 1) % 2 = v at *
  generalize s * 2 % 2 ^ size = x at *
  generalize t * 2 % 2 ^ size = y at *
  obtain rfl | rfl : u = 0 ∨ u = 1 := by omega
  all_goals
    obtain rfl | rfl : v = 0 ∨ v = 1 := by omega
    all_goals
      obtain rfl | rfl : b = 0 ∨ b = 1 := by omega
      all_goals
        obtain rfl | rfl : c = 0 ∨ c = 1 := by omega
        all_goals
          refine Nat.eq_of_testBit_eq fun j => ?_
          simp [Nat.testBit_xor] <;> cases x.testBit j <;> cases y.testBit j <;> cases poly.testBit j <;> rfl
/-- A row bit by bit. -/
theorem crcN_xor (size poly : Nat) : ∀ (l m : List Nat) (s t : Nat), l.length = m.length → (∀ x ∈ l, x ≤ 1) → (∀ x ∈ m, x ≤ 1) → crcN size poly (s ^^^ t) (List.zipWith (· ^^^ ·) l m) = crcN size poly s l ^^^ crcN size poly t m := by
  intro l
  induction l with
  | nil => intro m s t h _ _; cases m with
           | nil => rfl
           | cons => simp at h
  | cons x l ih =>
    intro m s t h hl hm
    cases m with
    | nil => simp at h
    | cons y m =>
      simp only [List.zipWith_cons_cons, crcN_cons]
      rw [oneN_xor size poly s t x y (hl x (by simp)) (hm y (by simp))]
      exact ih m _ _ (by simpa using h) (fun x hx => hl x (by simp [hx])) (fun x hx => hm x (by simp [hx]))
theorem oneN_zero (size poly s : Nat) (h0 : 1 ≤ size) (h : s < 2 ^ (size - 1)) : oneN size poly s 0 = s * 2 := by
  unfold oneN
  rw [Nat.div_eq_of_lt h, if_pos rfl, Nat.xor_zero]
  refine Nat.mod_eq_of_lt ?_
  obtain ⟨k, rfl⟩ : ∃ k, size = k + 1 := ⟨size - 1, by omega⟩
  rw [Nat.pow_succ]
  simp at h
  omega
theorem crcN_zeros (size poly : Nat) : ∀ (k s : Nat), k ≤ size → s < 2 ^ (size - k) → crcN size poly s (List.replicate k 0) = s * 2 ^ k := by
  intro k
  induction k with
  | zero => intro s _ _; simp [crcN]
  | succ k ih =>
    intro s hk hs
    rw [List.replicate_succ, crcN_cons, oneN_zero size poly s (by omega) ?_, ih _ (by omega) ?_]
    · rw [Nat.pow_succ, Nat.mul_assoc, Nat.mul_comm 2]
    · have e : size - k = (size - (k + 1)) + 1 := by omega
      rw [e, Nat.pow_succ]; omega
    · exact Nat.lt_of_lt_of_le hs (Nat.pow_le_pow_right (by omega) (by omega))
/-- Four bits whose number is the sum's highest four. -/
theorem crcN_own (size poly : Nat) (h : 4 ≤ size) (b3 b2 b1 b0 : Nat) (h3 : b3 ≤ 1) (h2 : b2 ≤ 1) (h1 : b1 ≤ 1) (h0 : b0 ≤ 1) : crcN size poly ((b3 * 8 + b2 * 4 + b1 * 2 + b0) * 2 ^ (size - 4)) [b3, b2, b1, b0] = 0 := by
  obtain ⟨k, rfl⟩ : ∃ k, size = k + 4 := ⟨size - 4, by omega⟩
  have hp : 0 < 2 ^ k := Nat.two_pow_pos _
  have e3 : 2 ^ (k + 4 - 1) = 8 * 2 ^ k := by rw [show k + 4 - 1 = k + 3 from by omega, Nat.pow_add]; omega
  have e4 : 2 ^ (k + 4) = 16 * 2 ^ k := by rw [Nat.pow_add]; omega
  have e0 : k + 4 - 4 = k := by omega
  rw [e0]
  generalize hP : 2 ^ k = P at *
  have step : ∀ n b : Nat, n < 16 → n / 8 = b → oneN (k + 4) poly (n * P) b = (n * 2 % 16) * P := by
    intro n b hn hb
    unfold oneN
    rw [e3, e4, Nat.mul_div_mul_right _ _ hp, if_pos (by omega), Nat.xor_zero, Nat.mul_right_comm, Nat.mul_mod_mul_right]
  simp only [crcN, List.foldl_cons, List.foldl_nil]
  rw [step _ b3 (by omega) (by omega), step _ b2 (by omega) (by omega), step _ b1 (by omega) (by omega), step _ b0 (by omega) (by omega)]
  have : (((b3 * 8 + b2 * 4 + b1 * 2 + b0) * 2 % 16 * 2 % 16 * 2 % 16) * 2 % 16) = 0 := by omega
  rw [this, Nat.zero_mul]
theorem crcN_flip (size poly : Nat) (h : 4 ≤ size) (hi : Nat) (b3 b2 b1 b0 : Nat) (h3 : b3 ≤ 1) (h2 : b2 ≤ 1) (h1 : b1 ≤ 1) (h0 : b0 ≤ 1) :
    crcN size poly (hi * 2 ^ (size - 4)) [b3, b2, b1, b0] = crcN size poly ((hi ^^^ (b3 * 8 + b2 * 4 + b1 * 2 + b0)) * 2 ^ (size - 4)) [0, 0, 0, 0] := by
  have h1' := crcN_xor size poly [b3, b2, b1, b0] [b3, b2, b1, b0] (hi * 2 ^ (size - 4)) ((b3 * 8 + b2 * 4 + b1 * 2 + b0) * 2 ^ (size - 4)) rfl (by simp; omega) (by simp; omega)
  rw [crcN_own size poly h b3 b2 b1 b0 h3 h2 h1 h0, Nat.xor_zero] at h1'
  rw [← h1']
  simp only [List.zipWith_cons_cons, List.zipWith_nil_left, Nat.xor_self]
  rw [← Nat.shiftLeft_eq, ← Nat.shiftLeft_eq, ← Nat.shiftLeft_eq, ← Nat.shiftLeft_xor_distrib]
/-- The table's row. -/
def tabN (size poly i : Nat) : Nat := crcN size poly (i * 2 ^ (size - 4)) [0, 0, 0, 0]
theorem numN_four (b3 b2 b1 b0 : Nat) : numN [b3, b2, b1, b0] = b3 * 8 + b2 * 4 + b1 * 2 + b0 := by simp [numN]; omega
theorem crcN_four (size poly sum : Nat) (h : 4 ≤ size) (hs : sum < 2 ^ size) (l : List Nat) (hl : l.length = 4) (h01 : ∀ x ∈ l, x ≤ 1) :
    crcN size poly sum l = (sum * 16 % 2 ^ size) ^^^ tabN size poly ((sum / 2 ^ (size - 4)) ^^^ numN l) := by
  match l, hl with
  | [b3, b2, b1, b0], _ =>
    have h3 := h01 b3 (by simp)
    have h2 := h01 b2 (by simp)
    have h1 := h01 b1 (by simp)
    have h0 := h01 b0 (by simp)
    rw [numN_four]
    unfold tabN
    rw [← crcN_flip size poly h _ b3 b2 b1 b0 h3 h2 h1 h0]
    have hsplit : sum = (sum % 2 ^ (size - 4)) ^^^ (sum / 2 ^ (size - 4) * 2 ^ (size - 4)) := by
      refine Nat.eq_of_testBit_eq fun j => ?_
      rw [Nat.testBit_xor, Nat.testBit_mod_two_pow, Nat.testBit_mul_two_pow, Nat.testBit_div_two_pow]
      by_cases hj : j < size - 4
      · simp [hj, show ¬ size - 4 ≤ j by omega]
      · have e2 : j - (size - 4) + (size - 4) = j := by omega
        simp only [hj, decide_false, Bool.false_and, Bool.false_xor, decide_eq_true (show size - 4 ≤ j by omega), Bool.true_and, e2]
    have hz : crcN size poly (sum % 2 ^ (size - 4)) [0, 0, 0, 0] = sum * 16 % 2 ^ size := by
      have := crcN_zeros size poly 4 (sum % 2 ^ (size - 4)) h (Nat.mod_lt _ (Nat.two_pow_pos _))
      rw [show List.replicate 4 0 = [0, 0, 0, 0] from rfl] at this
      rw [this]
      obtain ⟨k, rfl⟩ : ∃ k, size = k + 4 := ⟨size - 4, by omega⟩
      rw [show k + 4 - 4 = k from by omega, Nat.pow_add, show (2 : Nat) ^ 4 = 16 from rfl, Nat.mul_mod_mul_right]
    have hx := crcN_xor size poly [0, 0, 0, 0] [b3, b2, b1, b0] (sum % 2 ^ (size - 4)) (sum / 2 ^ (size - 4) * 2 ^ (size - 4)) rfl (by simp) (by simp; omega)
    rw [← hsplit, hz] at hx
    simp only [List.zipWith_cons_cons, List.zipWith_nil_left, Nat.zero_xor] at hx
    exact hx
end Go.Proofs.Ytaknddanggdplaa
-- Crc: Check sums bit by bit, and the table's rows. No condition.
namespace Go.Proofs.Ytaknddanggdplaa
open Go.RowKit
abbrev kindV (size poly start : Nat) : Value := .agg #[.int .i64 size, .int .u64 poly, .int .u64 start]
theorem pow32 {size : Nat} (h32 : size ≤ 32) : 2 ^ size ≤ 4294967296 := by
  have h1 : 2 ^ size ≤ 2 ^ 32 := Nat.pow_le_pow_right (by omega) h32
  have h2 : (2 : Nat) ^ 32 = 4294967296 := by decide
  omega
theorem mask_u64 (size x : Nat) (h32 : size ≤ 32) (hx : x < 18446744073709551616) : bits .and .u64 (x : Int) (IntKind.u64.wrap (IntKind.u64.wrap (2 ^ size) - 1)) = ((x % 2 ^ size : Nat) : Int) := by
  have hp := pow32 h32
  have hp1 : 0 < 2 ^ size := Nat.two_pow_pos _
  have e1 : ((2 : Int) ^ size) = ((2 ^ size : Nat) : Int) := by simp
  have e2 : IntKind.u64.wrap ((2 ^ size : Nat) : Int) = ((2 ^ size : Nat) : Int) := IntWalk.u64_in _ ⟨by omega, by omega⟩
  have e3 : IntKind.u64.wrap (((2 ^ size : Nat) : Int) - 1) = ((2 ^ size - 1 : Nat) : Int) := by
    rw [IntWalk.u64_in _ ⟨by omega, by omega⟩]; omega
  rw [e1, e2, e3, u64_and_nat _ _ hx (by omega), Nat.and_two_pow_sub_one_eq_mod]
theorem top_u64 (k sum : Nat) (hs : sum < 18446744073709551616) : bits .and .u64 ((sum : Int) / 2 ^ k) 1 = ((sum / 2 ^ k % 2 : Nat) : Int) := by
  have e : ((sum : Int) / 2 ^ k) = ((sum / 2 ^ k : Nat) : Int) := by simp
  have hle : sum / 2 ^ k ≤ sum := Nat.div_le_self _ _
  rw [e, and_one_u64 _ (Int.natCast_nonneg _) (by omega)]; simp
set_option maxRecDepth 100000 in
set_option maxHeartbeats 1000000 in
theorem one_any (size poly start sum b : Nat) (w : World) (h4 : 4 ≤ size) (h32 : size ≤ 32) (hp : poly < 2 ^ size) (hs : sum < 2 ^ size) :
    Calls Try.prog 123 #[kindV size poly start, .int .u64 sum, .int .u8 b] w fun e w' => e = .returned (.int .u64 (oneN size poly sum b : Nat)) ∧ Below w.heap.size w w' := by
  have hpw := pow32 h32
  have hand := top_u64 (size - 1) sum (by omega)
  have hmask : bits .and .u64 (IntKind.u64.wrap ((sum : Int) * 2)) (IntKind.u64.wrap (IntKind.u64.wrap (2 ^ size) - 1)) = ((sum * 2 % 2 ^ size : Nat) : Int) := by
    have e : IntKind.u64.wrap ((sum : Int) * 2) = ((sum * 2 : Nat) : Int) := by rw [IntWalk.u64_in _ ⟨by omega, by omega⟩]; omega
    rw [e, mask_u64 size _ h32 (by omega)]
  have hlt : sum * 2 % 2 ^ size < 2 ^ size := Nat.mod_lt _ (Nat.two_pow_pos _)
  have hxor : bits .xor .u64 ((sum * 2 % 2 ^ size : Nat) : Int) (poly : Int) = ((sum * 2 % 2 ^ size ^^^ poly : Nat) : Int) := u64_xor_nat _ _ (by omega) (by omega)
  have hh : sum / 2 ^ (size - 1) % 2 ≤ 1 := by omega
  have hone : oneN size poly sum b = (sum * 2 % 2 ^ size) ^^^ (if sum / 2 ^ (size - 1) % 2 = b then 0 else poly) := rfl
  generalize oneN size poly sum b = r at *
  generalize sum / 2 ^ (size - 1) % 2 = h at *
  generalize sum * 2 % 2 ^ size = s2 at *
  have hmod : (h : Int) % 256 = h := by omega
  have HO := Lib.hid hone
  clear hone hlt hpw hs hp
  by_cases e : h = b
  · have hd : ((h : Int) != (b : Int)) = false := by rw [e]; simp
    have HE := Lib.hid e
    clear e
    go_enter Try.func123, Try.ntmps123
    go_wp2_with fail
    go_ret
    exact ⟨ret_int (by rw [HO.out, if_pos HE.out, Nat.xor_zero]), below_alloc (Below.refl _ _) _⟩
  · have hd : ((h : Int) != (b : Int)) = true := by rw [bne_iff_ne]; omega
    have HE := Lib.hid e
    clear e
    go_enter Try.func123, Try.ntmps123
    go_wp2_with fail
    go_ret
    exact ⟨ret_int (by rw [HO.out, if_neg HE.out]), below_alloc (Below.refl _ _) _⟩

set_option maxHeartbeats 1000000 in
theorem all_any (size poly start sum : Nat) (A : Option Addr) (n c : Nat) (l : List Nat) (w : World) (h4 : 4 ≤ size) (h32 : size ≤ 32) (hp : poly < 2 ^ size) (hs : sum < 2 ^ size) (hr : Rd w A (bys l)) (hn : l.length = n) (hn2 : n ≤ 1000000) (hb : ∀ x ∈ l, x ≤ 1) :
    Calls Try.prog 122 #[.int .u64 sum, .slice A n c, .func (.func 123) #[kindV size poly start] #[]] w fun e w' => e = .returned (.int .u64 (crcN size poly sum l : Nat)) ∧ Below w.heap.size w w' := by
  have HR := Lib.hid hr
  have HN := Lib.hid hn
  have HB := Lib.hid hb
  have HP := Lib.hid hp
  have HS := Lib.hid hs
  clear hr hn hb hp hs
  go_enter Try.func122, Try.ntmps122
  go_wp2_with fail
  go_loopw [0, 11] (fun sv iv wr => ∃ k s : Nat, k ≤ n ∧ Hid (s < 2 ^ size) ∧ Hid (s = crcN size poly sum (l.take k)) ∧ sv = .int .u64 s ∧ iv = .int .i64 k ∧ Hid (Below w.heap.size w wr)) (fun _ iv _ => n - (intOf iv).toNat)
  case atStart => exact ⟨0, sum, by omega, HS, rfl, rfl, rfl, Below.refl _ _⟩
  case round =>
    obtain ⟨k, s, hk, hs, HC, rfl, rfl, HW⟩ := hrel
    by_cases hkn : k < n
    · have hkl : k < l.length := by rw [HN.out]; exact hkn
      obtain ⟨ad, rfl, ca⟩ := (HR.out.below HW.out).at_ k hkl
      have hx := HB.out l[k] (List.getElem_mem hkl)
      have hnext : oneN size poly s l[k] = crcN size poly sum (l.take (k + 1)) := by
        rw [List.take_succ_eq_append_getElem hkl, crcN_append, ← HC.out]; rfl
      obtain ⟨x, hxe⟩ : ∃ x, l[k] = x := ⟨_, rfl⟩
      rw [hxe] at ca hx hnext
      have HX := Lib.hid hnext
      clear hnext hxe
      go_wp2_with fail
      refine (one_any size poly start s x _ h4 h32 HP.out hs.out).mono ?_
      rintro e w2 ⟨rfl, hb2⟩
      have HB2 := Lib.hid hb2
      clear hb2
      go_wp2_with fail
      go_roundw
      case rel => exact ⟨k + 1, _, by omega, oneN_lt size poly s x HP.out, HX.out, rfl, by go_num, below_trans HW.out HB2.out⟩
      case measure => simp [intOf]; omega
    · obtain rfl : n = k := by omega
      go_wp2_with fail
      go_ret
      have h1 := HC.out
      rw [← HN.out, List.take_length] at h1
      exact ⟨ret_int (by rw [h1]), HW.out⟩
end Go.Proofs.Ytaknddanggdplaa
-- Table: The check sums' table. No condition.
namespace Go.Proofs.Ytaknddanggdplaa
open Go.RowKit
def tabV (size poly k : Nat) : List Value := (List.range 16).map fun i => .int .u64 ((if i < k then tabN size poly i else 0 : Nat) : Int)
theorem tabV_length (size poly k : Nat) : (tabV size poly k).length = 16 := by simp [tabV]
theorem tabV_set (size poly k : Nat) (_hk : k < 16) : (tabV size poly k).set k (.int .u64 (tabN size poly k : Nat)) = tabV size poly (k + 1) := by
  refine List.ext_getElem? fun i => ?_
  unfold tabV
  rw [List.getElem?_set]
  by_cases hi : i < 16
  · by_cases e : k = i
    · subst e; simp [hi]
    · simp [hi, e, show (i < k + 1) ↔ i < k by omega]
  · simp [hi]; omega
set_option maxRecDepth 100000 in
set_option maxHeartbeats 2000000 in
theorem table_any (size poly start : Nat) (w : World) (h4 : 4 ≤ size) (h32 : size ≤ 32) (hp : poly < 2 ^ size) :
    Calls Try.prog 120 #[kindV size poly start] w fun e w' => e = .returned (.agg (tabV size poly 16).toArray) ∧ Below w.heap.size w w' := by
  have HP := Lib.hid hp
  clear hp
  have hz : tabV size poly 0 = List.replicate 16 (.int .u64 0) := by simp [tabV]; rfl
  have HZ := Lib.hid hz
  clear hz
  go_enter Try.func120, Try.ntmps120
  go_wp2_with fail
  obtain ⟨g, hg⟩ : ∃ g, w.heap.size = g := ⟨_, rfl⟩
  go_loopw [4] (fun iv wr => ∃ k : Nat, k ≤ 16 ∧ iv = .int .i64 k ∧ Hid (wr.heap[g]? = some (.cells #[.int .i64 size, .int .u64 poly, .int .u64 start] 118)) ∧ Hid (wr.heap[g + 1]? = some (.cells (tabV size poly k).toArray 140)) ∧ Hid (Below g w wr)) (fun iv _ => 16 - (intOf iv).toNat)
  case atStart =>
    refine ⟨0, by omega, rfl, ?_, ?_, ?_⟩
    · exact heap_push (heap_new_at hg.symm)
    · rw [HZ.out]; exact heap_new_at (by simp [hg])
    · subst hg; exact below_alloc (below_alloc (Below.refl _ _) _) _
  case round =>
    obtain ⟨k, hk, rfl, HK, HT, HW⟩ := hrel
    by_cases hk16 : k < 16
    · obtain ⟨a0, a1, a2⟩ : wr.cell? ⟨g, 0, none⟩ = some (.int .i64 size) ∧ wr.cell? ⟨g, 1, none⟩ = some (.int .u64 poly) ∧ wr.cell? ⟨g, 2, none⟩ = some (.int .u64 start) := ⟨cell_of_heap HK.out 0 _ rfl, cell_of_heap HK.out 1 _ rfl, cell_of_heap HK.out 2 _ rfl⟩
      obtain ⟨u, hu⟩ : ∃ u, wr.cell? ⟨g + 1, k, none⟩ = some u := ⟨_, cell_of_heap HT.out k ((tabV size poly k)[k]'(by rw [tabV_length]; exact hk16)) (by simp)⟩
      have hf : wr.frozen? ⟨g + 1, k, none⟩ = false := by simp [World.frozen?, HT.out]
      subst hg
      have hpw := pow32 h32
      obtain ⟨p, hp4⟩ : ∃ p, size - 4 = p := ⟨_, rfl⟩
      have hlt : k * 2 ^ p < 2 ^ size := by
        obtain rfl : size = p + 4 := by omega
        rw [Nat.pow_add]
        have h0 : 0 < 2 ^ p := Nat.two_pow_pos _
        have := Nat.mul_lt_mul_of_pos_right hk16 h0
        omega
      have hwk : IntKind.u64.wrap (k : Int) = k := IntWalk.u64_in _ ⟨by omega, by omega⟩
      have hs4 : IntKind.i64.wrap ((size : Int) - 4) = (p : Int) := by rw [IntWalk.i64_in _ (by omega)]; omega
      have hsh : IntKind.u64.wrap ((k : Int) * 2 ^ p) = ((k * 2 ^ p : Nat) : Int) := by
        have e : ((k : Int) * 2 ^ p) = ((k * 2 ^ p : Nat) : Int) := by simp
        rw [e, IntWalk.u64_in _ ⟨by omega, by omega⟩]
      have hpb : p ≤ 32 := by omega
      have hdec : decide ((k : Int) < 16) = true := by simp; omega
      have hall := fun W (hW : Rd W (some ⟨wr.heap.size, 0, none⟩) (bys [0, 0, 0, 0])) => all_any size poly start (k * 2 ^ p) (some ⟨wr.heap.size, 0, none⟩) 4 4 [0, 0, 0, 0] W h4 h32 HP.out hlt hW rfl (by omega) (by simp)
      have hset := tabV_set size poly k hk16
      have htab : tabN size poly k = crcN size poly (k * 2 ^ p) [0, 0, 0, 0] := by rw [← hp4]; rfl
      rw [← htab] at hall
      generalize tabN size poly k = r at *
      generalize k * 2 ^ p = q at *
      have hmk : ∀ W : World, Sem.run Try.prog (Instr.makeSlice 23 (.int .i64 4) (.int .i64 4)) W = .ok (.slice (some ⟨W.heap.size, 0, none⟩) 4 4) (W.alloc (.cells #[.int .u8 0, .int .u8 0, .int .u8 0, .int .u8 0] 5)) := fun _ => by kernel_rfl
      have hk16i : (k : Int) < 16 := by omega
      have hk0 : (0 : Int) ≤ (k : Int) := by omega
      have hu2 : (wr.alloc (.cells #[.int .u8 0, .int .u8 0, .int .u8 0, .int .u8 0] 5)).drew.cell? ⟨w.heap.size + 1, k, none⟩ = some u := Below.cell_of (below_alloc (Below.refl _ _) _).drew hu
      have hlt1 : w.heap.size + 1 < wr.heap.size := heap_lt HT.out
      have hbl : w.heap.size + 1 < (wr.alloc (.cells #[.int .u8 0, .int .u8 0, .int .u8 0, .int .u8 0] 5)).drew.heap.size := Nat.lt_of_lt_of_le hlt1 (below_alloc (Below.refl _ _) _).drew.size
      have hf2 : (wr.alloc (.cells #[.int .u8 0, .int .u8 0, .int .u8 0, .int .u8 0] 5)).drew.frozen? ⟨w.heap.size + 1, k, none⟩ = false := ((below_alloc (Below.refl _ _) _).drew.frozen (p := ⟨w.heap.size + 1, k, none⟩) hlt1).trans hf
      have HALL := Lib.hid hall
      have HTAB := Lib.hid htab
      have HSET := Lib.hid hset
      clear hall htab hlt hpw hp4 hset
      go_wp2_with fail
      go_region_held3 (fun w' => w'.cell? ⟨w.heap.size, 0, none⟩ = some (.int .i64 size) ∧ w'.cell? ⟨w.heap.size, 1, none⟩ = some (.int .u64 poly) ∧ w'.cell? ⟨w.heap.size, 2, none⟩ = some (.int .u64 start))
        (first
          | go_keep
          | exact ⟨a0, a1, a2⟩
          | (refine ⟨Below.cell_of hb2 (by assumption), Below.cell_of hb2 (by assumption), Below.cell_of hb2 (by assumption)⟩)
          | (refine ⟨Below.cell_of hb2 ?_, Below.cell_of hb2 ?_, Below.cell_of hb2 ?_⟩ <;> simp [*]))
        (first
          | (go_at_call 122; refine (HALL.out _ (Rd.drew (Rd.blk (heap_new_at rfl)))).mono ?_; rintro x w2 ⟨rfl, hb2⟩; have hs2 : w2.cell? ⟨w.heap.size + 1, k, none⟩ = some u := Below.cell_of hb2 hu2; have hz2 : w2.frozen? ⟨w.heap.size + 1, k, none⟩ = false := (hb2.frozen hbl).trans hf2))
      all_goals
        go_wp2_with fail
        go_roundw
        case rel =>
          refine ⟨k + 1, by omega, by go_num, ?_, ?_, ?_⟩
          · show _ = _
            rw [Below.heap_setCell _ _ _ _ (by show w.heap.size ≠ w.heap.size + 1; omega)]
            exact heap_below hb2 (heap_below (below_alloc (Below.refl _ _) _).drew HK.out)
          · show _ = _
            rw [heap_setCell (heap_below hb2 (heap_below (below_alloc (Below.refl _ _) _).drew HT.out)) k _, ← HSET.out]
            simp
          · show Below _ _ _
            exact (below_trans HW.out (below_trans (below_alloc (Below.refl _ _) _).drew hb2)).setCell (p := ⟨w.heap.size + 1, k, none⟩) (by show w.heap.size ≤ w.heap.size + 1; omega) _
        case measure => simp [intOf]; omega
    · obtain rfl : k = 16 := by omega
      subst hg
      have hT := HT.out
      have hu : Try.prog.underlying 140 = some (.array 16 67) := Try.underlying140
      have hi : (Try.prog.info? 140).map (·.size) = some (tabV size poly 16).toArray.size := by
        have : (Try.prog.info? 140).map (·.size) = some 16 := by kernel_rfl
        rw [this]; simp [tabV_length]
      have h1 : (tabV size poly 16).toArray.all (·.oneCell') = true := by simp [tabV]; intros; rfl
      obtain ⟨cs, hcs⟩ : ∃ cs, (tabV size poly 16).toArray = cs := ⟨_, rfl⟩
      rw [hcs] at hT hi h1
      have HCS := Lib.hid hcs
      clear hcs
      have HT2 := Lib.hid hT
      have HI := Lib.hid hi
      have HU := Lib.hid hu
      have H1 := Lib.hid h1
      clear hT hi hu h1 HT HK
      go_wp2_with (first
        | (with_reducible refine wpList_load_row rfl 140 (.tmp 2) rfl (w.heap.size + 1) rfl 140 cs (0, 0) _ HT2.out HU.out rfl HI.out ?_)
        | (with_reducible refine wpList_store_row rfl 140 (.tmp 2) (.tmp 20) rfl (w.heap.size + 1) cs rfl rfl 140 cs HT2.out HI.out rfl H1.out ?_))
      refine bodyPost_ret (v := .agg cs) (results_cell_row rfl _ _ (w.heap.size + 1) _ cs _ _ rfl (setRow_heap _ _ _ _ _ _ HT2.out) HU.out rfl HI.out) rfl ⟨by rw [HCS.out], ?_⟩
      have hw := HW.out
      exact ⟨hw.os, hw.tape, hw.output, by rw [setRow_size]; exact hw.size, fun j hj => by rw [setRow_other _ _ _ _ (by omega)]; exact hw.block j hj⟩
end Go.Proofs.Ytaknddanggdplaa
-- Get: bits.Get: bits' number. No condition.
namespace Go.Proofs.Ytaknddanggdplaa
open Go.RowKit
set_option maxHeartbeats 400000 in
theorem add_any (b N x t : Nat) (w : World) (h : w.heap[b]? = some (.cells #[.int .u64 N] t)) (hN : N < 9223372036854775808) (hx : x ≤ 1) :
    Calls Try.prog 126 #[.pointer (some ⟨b, 0, none⟩), .int .u8 x] w fun e w' => e = .returned (.tuple #[]) ∧ w'.heap[b]? = some (.cells #[.int .u64 (N * 2 + x : Nat)] t) ∧ Keep w.heap.size b w w' := by
  have c0 := cell_of_heap h 0 _ rfl
  have z0 : w.frozen? ⟨b, 0, none⟩ = false := by simp [World.frozen?, h]
  have hor : bits .or .u64 ((N : Int) * 2) (x : Int) = ((N * 2 + x : Nat) : Int) := by
    have e : ((N : Int) * 2) = ((N * 2 : Nat) : Int) := by omega
    rw [e, u64_or_nat _ _ (by omega) (by omega), nat_join 1 _ _ (by omega) (by omega)]
  have hw2 : IntKind.u64.wrap ((N : Int) * 2) = (N : Int) * 2 := IntWalk.u64_in _ ⟨by omega, by omega⟩
  have HH := Lib.hid h
  clear h
  go_enter Try.func126, Try.ntmps126
  go_wp2_with fail
  go_end0
  refine ⟨rfl, ?_, (Keep.refl _ _ _).setCell (p := ⟨b, 0, none⟩) (.inl rfl) _⟩
  rw [heap_setCell HH.out 0 _]
  rfl
set_option maxHeartbeats 1000000 in
theorem eachAdd_any (w : World) (b t : Nat) (A2 : Option Addr) (c2 n : Nat) (src : List Nat) (h : w.heap[b]? = some (.cells #[.int .u64 0] t)) (hr : Rd w A2 (bys src)) (ha : ∀ ad, A2 = some ad → bys src ≠ [] → ad.block < w.heap.size ∧ ad.block ≠ b) (hn : src.length = n) (h8 : n ≤ 64) (hb : ∀ x ∈ src, x ≤ 1) :
    Calls Try.prog 97 #[.slice A2 n c2, .func (.func 126) #[.pointer (some ⟨b, 0, none⟩)] #[]] w fun e w' => e = .returned (.tuple #[]) ∧ w'.heap[b]? = some (.cells #[.int .u64 (numN src : Nat)] t) ∧ Keep w.heap.size b w w' := by
  have HP := Lib.hid h
  have HR := Lib.hid hr
  have HA := Lib.hid ha
  have HN := Lib.hid hn
  have HB := Lib.hid hb
  clear h hr ha hn hb
  go_enter Try.func97, Try.ntmps97
  go_wp2_with fail
  go_loopw [8] (fun iv wr => ∃ (k N : Nat), k ≤ n ∧ iv = .int .i64 k ∧ Hid (N = numN (src.take k)) ∧ Hid (wr.heap[b]? = some (.cells #[.int .u64 N] t)) ∧ Hid (Keep w.heap.size b w wr)) (fun iv _ => n - (intOf iv).toNat)
  case atStart => exact ⟨0, 0, by omega, rfl, rfl, HP, Keep.refl _ _ _⟩
  case round =>
    obtain ⟨k, N, hk, rfl, HNum, HQ, HK⟩ := hrel
    by_cases hkn : k < n
    · have hkl : k < src.length := by rw [HN.out]; exact hkn
      obtain ⟨ad, rfl, ca⟩ := (HR.out.keep HK.out HA.out).at_ k hkl
      have hx := HB.out src[k] (List.getElem_mem hkl)
      have hs : N * 2 + src[k] = numN (src.take (k + 1)) := by rw [List.take_succ_eq_append_getElem hkl, numN_snoc, ← HNum.out]
      have hNb : N < 9223372036854775808 := by
        have h1 := numN_lt (src.take k) (fun x hx => HB.out x (List.mem_of_mem_take hx))
        rw [← HNum.out] at h1
        have h2 : (src.take k).length ≤ 63 := by rw [List.length_take]; omega
        have h3 : 2 ^ (src.take k).length ≤ 2 ^ 63 := Nat.pow_le_pow_right (by omega) h2
        have h4 : (2 : Nat) ^ 63 = 9223372036854775808 := by decide
        omega
      obtain ⟨x, hxe⟩ : ∃ x, src[k] = x := ⟨_, rfl⟩
      rw [hxe] at ca hx hs
      have HS := Lib.hid hs
      clear hs hxe
      go_wp2_with fail
      refine (add_any b N x t wr HQ.out hNb hx).mono ?_
      rintro e w2 ⟨rfl, h1, h2⟩
      have H1 := Lib.hid h1
      have H2 := Lib.hid h2
      clear h1 h2
      go_wp2_with fail
      go_roundw
      case rel => exact ⟨k + 1, N * 2 + x, by omega, by go_num, HS.out, H1, HK.out.trans (H2.out.mono HK.out.size)⟩
      case measure => simp [intOf]; omega
    · obtain rfl : n = k := by omega
      go_wp2_with fail
      go_end0
      have h1 := HNum.out
      rw [← HN.out, List.take_length] at h1
      subst h1
      exact ⟨rfl, HQ.out, HK.out⟩
theorem ret_fst2 {k : IntKind} {a b : Int} {v : Value} (h : a = b) : Ending.returned (.tuple #[.int k a, v]) = .returned (.tuple #[.int k b, v]) := by rw [h]
set_option maxHeartbeats 1000000 in
theorem Get_any (w : World) (A2 : Option Addr) (c2 n : Nat) (src : List Nat) (hr : Rd w A2 (bys src)) (hn : src.length = n) (h8 : n ≤ 64) (hb : ∀ x ∈ src, x ≤ 1) :
    Calls Try.prog 124 #[.slice A2 n c2] w fun e w' => e = .returned (.tuple #[.int .u64 (numN src : Nat), .int .i64 0]) ∧ Below w.heap.size w w' := by
  have hok : bitsOk src = true := by unfold bitsOk; rw [decide_eq_true (by omega : src.length ≤ 65536), decide_eq_true hb]; rfl
  have hC := BitsCheck_any A2 n c2 src w hr hn (by omega)
  rw [hok, if_pos rfl] at hC
  have HC := Lib.hid hC
  have HE := Lib.hid (eachAdd_any (w.alloc (.cells #[.int .u64 0] 148)) w.heap.size 148 A2 c2 n src (heap_new_at rfl) (hr.alloc _) (fun ad e hne => by have := hr.lt ad e hne; simp; omega) hn h8 hb)
  clear hr hn hb hok hC
  go_enter Try.func124, Try.ntmps124
  go_wp2_with fail
  refine HC.out.mono ?_
  rintro e _ ⟨rfl, rfl⟩
  go_wp2_with fail
  refine HE.out.mono ?_
  rintro e w' ⟨rfl, h1, h2⟩
  have hc := cell_of_heap h1 0 _ rfl
  have H2 := Lib.hid h2
  clear h1 h2
  go_wp2_with fail
  go_ret2
  exact ⟨rfl, (below_alloc (Below.refl _ _) _).trans (H2.out.below (by omega) (by simp))⟩
end Go.Proofs.Ytaknddanggdplaa
-- Fence: A region that draws its order, of plain operations, in a round of a loop over a function: one walk in the text's order. No condition.
namespace Go.Proofs.Ytaknddanggdplaa
open Go Go.RowKit
/-- An operation that calls nothing and defers nothing. -/
def plainB : Op → Bool
  | .move _ | .assign _ | .load _ _ | .store _ _ _ | .binOp _ _ _ _ _ | .convert _ _ _ | .fieldAddr _ _ _ | .indexAddr _ _ _ => true
  | _ => false
section
variable {F : Fence} {n : Nat} {P : Program} {ops : Array Oper} {md : Region.Mode}
theorem value_noenter {s : Sem Value} {w w' : World} {f : FuncId} {args : Array Value} : ((do let x ← s; pure (Next.value x)) : Sem Next).run P w ≠ .ok (.enter f args) w' := by
  rw [Sem.run_bind]
  cases s.run P w with
  | ok v w1 => simp [Result.andThen]
  | halt h w1 => simp [Result.andThen]
theorem skip_noenter {s : Sem Unit} {w w' : World} {f : FuncId} {args : Array Value} : ((do s; pure Next.skip) : Sem Next).run P w ≠ .ok (.enter f args) w' := by
  rw [Sem.run_bind]
  cases s.run P w with
  | ok v w1 => simp [Result.andThen]
  | halt h w1 => simp [Result.andThen]
theorem plain_noenter {o : Oper} (h : plainB o.op = true) (ρ : Operand → Value) (w w' : World) (f : FuncId) (args : Array Value) : (execOp ρ o).run P w ≠ .ok (.enter f args) w' := by
  unfold execOp
  cases ho : o.op <;> rw [ho] at h <;> simp only [plainB] at h <;> first | exact absurd h (by decide) | skip
  all_goals first
    | exact value_noenter
    | exact skip_noenter
    | simp
theorem plain_about {o : Oper} (h : plainB o.op = true) (w : World) (ρ : Operand → Value) : o.about P w ρ = none := by
  unfold Oper.about
  cases ho : o.op <;> rw [ho] at h <;> simp only [plainB] at h <;> first | exact absurd h (by decide) | rfl
theorem plain_defer {o : Oper} (h : plainB o.op = true) (c : Call) : o.op ≠ .defer c := by
  intro e; rw [e] at h; simp [plainB] at h
theorem wpIn_of_still {o : Oper} {a : Act} {w : World} {K : Act → Prop} {K' : Act → World → Prop} {Q' : Exit → Act → World → Prop} (hp : plainB o.op = true) (h : ∀ a, K a → K' a w) (hh : o.still P a w K) : o.wpIn F n P a w K' Q' := by
  refine ⟨fun f hf => (by rw [plain_about hp] at hf; cases hf), ?_⟩
  rw [Oper.semAt_eq _ _ _ (plain_defer hp)]
  have hne := plain_noenter (P := P) hp a.eval w
  unfold Oper.still at hh
  generalize (execOp a.eval o).run P w = r at *
  cases r with
  | ok x w' =>
    cases x <;> simp only [Oper.stillUpon] at hh <;> simp only [Oper.uponIn]
    case enter f args => exact absurd rfl (hne w' f args)
    all_goals (obtain ⟨rfl, h2⟩ := hh; exact h _ h2)
  | halt x w' => simp only [Oper.stillUpon] at hh
theorem wpOpIn_of_stOp {i : Nat} {a : Act} {w : World} {K : Act → Prop} {K' : Act → World → Prop} {Q' : Exit → Act → World → Prop} (hp : ∀ (j : Nat) (o : Oper), ops[j]? = some o → plainB o.op = true) (h : ∀ a, K a → K' a w) (hh : stOp P ops w i K a) : wpOpIn F n P ops Q' i K' a w := by
  unfold stOp at hh
  unfold wpOpIn
  split
  · rename_i ho; simp only [ho] at hh; exact h _ hh
  · rename_i o ho
    simp only [ho] at hh
    split
    · rename_i hw; simp only [hw, if_true] at hh; exact wpIn_of_still (hp i o ho) h hh
    · rename_i hw; simp only [hw] at hh
      exact ⟨fun f hf => (by rw [plain_about (hp i o ho)] at hf; cases hf), h _ hh⟩
theorem wpAnyIn_of_head {k g : Nat} {w : World} {L : Array Bool → Act → Prop} {Q' : Exit → Act → World → Prop} (hp : ∀ (j : Nat) (o : Oper), ops[j]? = some o → plainB o.op = true) (hL : ∀ listed a, L listed a → wpAnyIn F n P md ops Q' g listed a w) :
    ∀ (f : Nat) (listed : Array Bool) (a : Act), wpAnyL P md ops w k L f listed a → wpAnyIn F n P md ops Q' (f + g) listed a w
  | 0, listed, a, h => by rw [Nat.zero_add]; exact hL _ _ h
  | f + 1, listed, a, h => by
    rw [show f + 1 + g = (f + g) + 1 by omega]
    exact ⟨fun h0 => absurd h0 h.1, fun i hi => wpOpIn_of_stOp hp (fun a' h' => wpAnyIn_of_head hp hL f _ a' h') (h.2 i hi).2⟩
theorem wpOpIn_mono' {i : Nat} {a : Act} {w : World} {K K' : Act → World → Prop} {Q : Exit → Act → World → Prop} (h : ∀ a w, K a w → K' a w) (hh : wpOpIn F n P ops Q i K a w) : wpOpIn F n P ops Q i K' a w := wpOpIn_mono h hh
theorem wpAnyIn_of_seq {Q' : Exit → Act → World → Prop} : ∀ (l : List Oper) (k : Nat) (listed : Array Bool) (a : Act) (w : World), (∀ j, l[j]? = ops[k + j]?) →
    Region.seqB md ops l.length k listed = true → wpListIn F n P ops Q' l a w → wpAnyIn F n P md ops Q' l.length listed a w
  | [], _, _, _, _, _, hB, h => ⟨by simpa [Region.seqB] using hB, h⟩
  | o :: l, k, listed, a, w, hl, hB, h => by
    have h0 : ops[k]? = some o := by simpa using (hl 0).symm
    simp only [List.length_cons, Region.seqB, Bool.and_eq_true, decide_eq_true_eq] at hB
    refine ⟨fun h1 => (by rw [hB.1] at h1; cases h1), fun i hi => ?_⟩
    rw [hB.1] at hi
    have hik : i = k := by simpa using hi
    subst hik
    have hw : wpOpIn F n P ops Q' i (wpListIn F n P ops Q' l) a w := by unfold wpOpIn; simp only [h0]; exact h
    exact wpOpIn_mono (fun a' w' h' => wpAnyIn_of_seq l (i + 1) _ a' w' (fun j => by have := hl (j + 1); simpa [Nat.add_assoc, Nat.add_comm 1 j] using this) hB.2 h') hw
theorem wpIn_region_still_tail {id : Nat} {Q : Exit → Act → World → Prop} {a : Act} {w : World} {l : List Oper} (k : Nat) (hp : (l.all fun o => plainB o.op) = true) (hm : P.follows .mixedOrders = true) (hB : Region.lexTailB .any l.toArray k = true)
    (h : wpStill P l.toArray w.drew (fun a' => wpListIn F n P l.toArray Q (l.drop k) a' w.drew) (l.take k) a) : (Code.region id l.toArray true).wpIn F n P Q a w := by
  have hp' : ∀ (j : Nat) (o : Oper), l.toArray[j]? = some o → plainB o.op = true := fun j o ho => by
    have : o ∈ l := List.mem_of_getElem? (i := j) (by simpa using ho)
    exact List.all_eq_true.1 hp o this
  simp only [Region.lexTailB, Bool.and_eq_true, decide_eq_true_eq] at hB
  obtain ⟨⟨⟨⟨hsel, hn⟩, hs⟩, hc⟩, hlex⟩ := hB
  have hn' : k < l.length := by simpa using hn
  have htl : (l.take k).length = k := by simp; omega
  have hdl : (l.drop k).length = l.toArray.size - k := by simp
  have inv0 : HeadInv .any l.toArray k (Array.replicate l.toArray.size false) :=
    ⟨by simp, fun j oj _ hl => (by rw [getD_replicate_false] at hl; cases hl), fun t _ ht => getD_in (by simpa using ht) (getD_replicate_false _ _)⟩
  have H := wpAnyL_lex (md := .any) (g := l.toArray.size - k) hsel hs hc hn (l.take k) 0 _ a (fun j hj => by
    have hj' : j < k := by rw [htl] at hj; exact hj
    simp [hj']) (by simpa using htl) inv0 (by rw [htl]; exact hlex) h
  refine wpIn_region_any hm ?_
  have := wpAnyIn_of_head (F := F) (n := n) (Q' := Q) (g := l.toArray.size - k) hp' (fun listed a' hL => by
    have := wpAnyIn_of_seq (F := F) (n := n) (md := .any) (Q' := Q) (l.drop k) k listed a' w.drew (fun j => by simp [List.getElem?_drop]) (by rw [hdl]; exact hL.1) hL.2
    rwa [hdl] at this) _ _ _ H
  rw [htl, show k + (l.toArray.size - k) = l.toArray.size by omega] at this
  exact this
end
end Go.Proofs.Ytaknddanggdplaa
-- Chunk: slices.Chunk over rows of bytes: its contract as an iterator. No condition.
namespace Go.Proofs.Ytaknddanggdplaa
open Go.RowKit
attribute [local go_sem] Oper.semAt_some
/-- The k-th piece's value. -/
abbrev chunkV (b off len sz k : Nat) : Value := .slice (some ⟨b, off + sz * k, none⟩) (min sz (len - sz * k)) (min sz (len - sz * k))
theorem chunk_lt {sz nch len : Nat} (h1 : sz * nch < len + sz) (h2 : len ≤ sz * nch) (k : Nat) : k < nch ↔ sz * k < len := by
  constructor
  · intro h
    have := Nat.mul_le_mul_left sz (show k + 1 ≤ nch by omega)
    rw [Nat.mul_add] at this
    omega
  · intro h
    refine Nat.lt_of_not_le fun hle => ?_
    have := Nat.mul_le_mul_left sz hle
    omega
set_option maxRecDepth 100000 in
set_option maxHeartbeats 2000000 in
theorem chunk1_in (n : Nat) (hn : 1 ≤ n) (l Bs Bn n₀ b off len cap sz nch : Nat) (hsz : 1 ≤ sz) (hszb : sz ≤ 1000) (hlen : len ≤ 1000000) (hlc : len ≤ cap) (hcap : cap ≤ 9223372036854775807)
    (hn1 : sz * nch < len + sz) (hn2 : len ≤ sz * nch) (x₀ : Nat) (hBsn : Bs < n₀ ∧ Bs ≠ x₀) (hBnn : Bn < n₀ ∧ Bn ≠ x₀) (J Jx : List Nat → World → Prop)
    (hY : ∀ pre x W, J pre W → pre.length < nch → YieldAt Fence.wide (n - 1) Try.prog l #[chunkV b off len sz x] W fun e W' =>
      (e = .returned (.bool true) ∧ J (pre ++ [x]) W' ∧ Keep n₀ x₀ W W') ∨ (e = .returned (.bool false) ∧ Jx (pre ++ [x]) W'))
    (hJd : ∀ pre W k, J pre W → J pre (World.drewN W k)) (W : World) (hBs : W.cell? ⟨Bs, 0, none⟩ = some (.slice (some ⟨b, off, none⟩) len cap)) (hBn : W.cell? ⟨Bn, 0, none⟩ = some (.int .i64 sz)) (h0 : J [] W) :
    CallsIn Fence.wide n Try.prog 125 #[.func (.yield l) #[] #[], .pointer (some ⟨Bs, 0, none⟩), .pointer (some ⟨Bn, 0, none⟩)] W fun e W' => (∃ v, e = .returned v) ∧
      ((∃ ys, ys = List.range nch ∧ J ys W') ∨ (∃ pre, (∃ k, k ≤ nch ∧ pre = List.range k) ∧ Jx pre W')) := by
  refine callsIn_of_wp Try.func125 rfl trivial ?_ rfl
  simp only [Try.ntmps125, List.size_toArray, List.length_cons, List.length_nil, Nat.reduceAdd, Nat.reduceSub, Array.replicate_succ, Array.replicate_zero, List.push_toArray, List.append_toArray, List.nil_append, List.cons_append]
  have HN := Lib.hid (chunk_lt hn1 hn2)
  have H1 := Lib.hid hn1
  have H2 := Lib.hid hn2
  have H0 := Lib.hid h0
  clear hn1 hn2 h0
  gi_wp2
  gi_loopw [4] (fun i wr => ∃ k : Nat, k ≤ nch ∧ i = .int .i64 (sz * k : Nat) ∧ Hid (J (List.range k) wr) ∧ Hid (Keep n₀ x₀ W wr)) (fun i _ => len + sz - (intOf i).toNat)
  case atStart => exact ⟨0, Nat.zero_le _, rfl, H0.out, Keep.refl _ _ _⟩
  case round =>
    obtain ⟨k, hk, rfl, hJs, hnx⟩ := hrel
    have c1 : wr.cell? ⟨Bs, 0, none⟩ = some (.slice (some ⟨b, off, none⟩) len cap) := hnx.out.cell_of hBs hBsn.1 hBsn.2
    have c2 : wr.cell? ⟨Bn, 0, none⟩ = some (.int .i64 sz) := hnx.out.cell_of hBn hBnn.1 hBnn.2
    obtain ⟨q, hq⟩ : ∃ q, sz * k = q := ⟨_, rfl⟩
    rw [hq]
    have HQ := Lib.hid hq
    by_cases hlt : q < len
    · have hkn : k < nch := (HN.out k).2 (by rw [hq]; exact hlt)
      have hqc : (q : Int) ≤ (cap : Int) := by omega
      have hql : (q : Int) ≤ (len : Int) := by omega
      have hlc' : (len : Int) ≤ (cap : Int) := by omega
      clear hq hBs hBn
      by_cases hm : len - q < sz
      · have HM := Lib.hid hm
        gi_wp2
        gi_quiet (fail)
        obtain ⟨fn, tmps, assign, body, hy, hR⟩ := hY _ k (wr.drewN nq) (hJd _ _ _ hJs.out) (by rw [List.length_range]; exact hkn)
        dsimp only [chunkV] at hy
        rw [HQ.out, Nat.min_eq_right (by have := HM.out; omega)] at hy
        gi_wp2
        refine hR.mono ?_
        rintro e W3 (⟨rfl, hJ3, hk3⟩ | ⟨rfl, hJx3⟩)
        · have HJ3 := Lib.hid hJ3
          have HK3 := Lib.hid hk3
          clear hJ3 hk3
          have c2' : W3.cell? ⟨Bn, 0, none⟩ = some (.int .i64 sz) := HK3.out.cell_of (Below.cell_of (below_drewN (Below.refl _ _) _) c2) hBnn.1 hBnn.2
          gi_wp2
          go_roundw
          case rel => exact ⟨k + 1, by omega, by rw [Nat.mul_add, HQ.out]; go_num, by show J _ _; rw [List.range_succ]; exact HJ3.out, hnx.out.trans ((Keep.of (below_drewN (Below.refl n₀ _) nq) (Nat.le_refl _)).trans HK3.out)⟩
          case measure => simp [intOf]; omega
        · have HJX := Lib.hid hJx3
          clear hJx3
          gi_wp2
          refine bodyPost_ret (results_none rfl _ _ _) rfl ?_
          exact ⟨⟨_, rfl⟩, .inr ⟨_, ⟨k + 1, by omega, rfl⟩, by rw [List.range_succ]; exact HJX.out⟩⟩
      · have HM := Lib.hid hm
        gi_wp2
        gi_quiet (fail)
        obtain ⟨fn, tmps, assign, body, hy, hR⟩ := hY _ k (wr.drewN nq) (hJd _ _ _ hJs.out) (by rw [List.length_range]; exact hkn)
        dsimp only [chunkV] at hy
        rw [HQ.out, Nat.min_eq_left (by have := HM.out; omega)] at hy
        gi_wp2
        refine hR.mono ?_
        rintro e W3 (⟨rfl, hJ3, hk3⟩ | ⟨rfl, hJx3⟩)
        · have HJ3 := Lib.hid hJ3
          have HK3 := Lib.hid hk3
          clear hJ3 hk3
          have c2' : W3.cell? ⟨Bn, 0, none⟩ = some (.int .i64 sz) := HK3.out.cell_of (Below.cell_of (below_drewN (Below.refl _ _) _) c2) hBnn.1 hBnn.2
          gi_wp2
          go_roundw
          case rel => exact ⟨k + 1, by omega, by rw [Nat.mul_add, HQ.out]; go_num, by show J _ _; rw [List.range_succ]; exact HJ3.out, hnx.out.trans ((Keep.of (below_drewN (Below.refl n₀ _) nq) (Nat.le_refl _)).trans HK3.out)⟩
          case measure => simp [intOf]; omega
        · have HJX := Lib.hid hJx3
          clear hJx3
          gi_wp2
          refine bodyPost_ret (results_none rfl _ _ _) rfl ?_
          exact ⟨⟨_, rfl⟩, .inr ⟨_, ⟨k + 1, by omega, rfl⟩, by rw [List.range_succ]; exact HJX.out⟩⟩
    · have hkn : k = nch := by
        have h1 : ¬ k < nch := fun h => hlt (by rw [← hq]; exact (HN.out k).1 h)
        omega
      have HK := Lib.hid hkn
      clear hq hBs hBn hkn
      have hle : (len : Int) ≤ (q : Int) := by omega
      gi_wp2
      go_end0
      exact ⟨⟨_, rfl⟩, .inl ⟨_, rfl, by rw [← HK.out]; exact hJs.out⟩⟩
set_option maxRecDepth 100000 in
set_option maxHeartbeats 1000000 in
theorem chunk1_nil_in (n : Nat) (l Bs Bn : Nat) (A : Option Addr) (cap : Nat) (J : List Nat → World → Prop) (W : World) (hBs : W.cell? ⟨Bs, 0, none⟩ = some (.slice A 0 cap)) (h0 : J [] W) :
    CallsIn Fence.wide n Try.prog 125 #[.func (.yield l) #[] #[], .pointer (some ⟨Bs, 0, none⟩), .pointer (some ⟨Bn, 0, none⟩)] W fun e W' => (∃ v, e = .returned v) ∧ J [] W' := by
  refine callsIn_of_wp Try.func125 rfl trivial ?_ rfl
  simp only [Try.ntmps125, List.size_toArray, List.length_cons, List.length_nil, Nat.reduceAdd, Nat.reduceSub, Array.replicate_succ, Array.replicate_zero, List.push_toArray, List.append_toArray, List.nil_append, List.cons_append]
  have H0 := Lib.hid h0
  clear h0
  gi_wp2
  gi_loopw [4] (fun i wr => i = .int .i64 0 ∧ wr = W) (fun _ _ => 0)
  case atStart => exact ⟨rfl, rfl⟩
  case round =>
    obtain ⟨rfl, rfl⟩ := hrel
    gi_wp2
    go_end0
    exact ⟨⟨_, rfl⟩, H0.out⟩
theorem Chunk_any (A : Option Addr) (len cap sz : Nat) (w : World) (hsz : 1 ≤ sz) (hszb : sz ≤ 1000) :
    Calls Try.prog 121 #[.slice A len cap, .int .i64 sz] w fun e w' => e = .returned (.func (.func 125) #[] #[.pointer (some ⟨w.heap.size, 0, none⟩), .pointer (some ⟨w.heap.size + 1, 0, none⟩)]) ∧ (w.alloc (.cells #[.slice A len cap] 23)).alloc (.cells #[.int .i64 sz] 3) = w' := by
  have h1 : ¬ (sz : Int) < 1 := by omega
  go_enter Try.func121, Try.ntmps121
  go_wp2_with fail
  go_ret
  exact ⟨rfl, rfl⟩
/-- How many pieces there are. -/
def nchN (len sz : Nat) : Nat := (len + sz - 1) / sz
theorem nchN_spec (len sz : Nat) (h : 1 ≤ sz) : sz * nchN len sz < len + sz ∧ len ≤ sz * nchN len sz := by
  unfold nchN
  have h1 := Nat.div_add_mod (len + sz - 1) sz
  have h2 := Nat.mod_lt (len + sz - 1) (show sz > 0 by omega)
  omega
theorem abides_drewN {β : Type} {B : Nat} {J : β → World → Prop} (h : AbidesFrom B J) {s : β} {W : World} (k : Nat) (hs : J s W) : J s (W.drewN k) :=
  h s W _ none hs ⟨rfl, rfl, rfl, Nat.le_refl _, fun _ _ _ => rfl⟩ (fun r e => by cases e)
theorem chunk_stops (n : Nat) (hn : 1 ≤ n) (Bs Bn n₀ x₀ b off len cap sz : Nat) (A : Option Addr) (hA : A = some ⟨b, off, none⟩ ∨ len = 0) (hsz : 1 ≤ sz) (hszb : sz ≤ 1000) (hlen : len ≤ 1000000) (hlc : len ≤ cap) (hcap : cap ≤ 9223372036854775807)
    (hBsn : Bs < n₀ ∧ Bs ≠ x₀) (hBnn : Bn < n₀ ∧ Bn ≠ x₀) (w : World) (hBs : w.cell? ⟨Bs, 0, none⟩ = some (.slice A len cap)) (hBn : w.cell? ⟨Bn, 0, none⟩ = some (.int .i64 sz)) :
    SeqStopsK Fence.wide n Try.prog 125 #[.pointer (some ⟨Bs, 0, none⟩), .pointer (some ⟨Bn, 0, none⟩)] (fun x : Nat => #[chunkV b off len sz x]) (Keep n₀ x₀) (fun ys => ys = List.range (nchN len sz))
      (fun pre => ∃ k, k ≤ nchN len sz ∧ pre = List.range k) (nchN len sz) w := fun l J Jx W hW hJ _ hY h0 => by
  have c1 := Below.cell_of hW hBs
  have c2 := Below.cell_of hW hBn
  obtain ⟨s1, s2⟩ := nchN_spec len sz hsz
  rcases hA with rfl | rfl
  · exact chunk1_in n hn l Bs Bn n₀ b off len cap sz (nchN len sz) hsz hszb hlen hlc hcap s1 s2 x₀ hBsn hBnn J Jx hY (fun pre W k h => abides_drewN hJ k h) W c1 c2 h0
  · have h0' : nchN 0 sz = 0 := by unfold nchN; exact Nat.div_eq_of_lt (by omega)
    rw [h0']
    exact (chunk1_nil_in n l Bs Bn A cap J W c1 h0).mono fun e W' ⟨he, hj⟩ => ⟨he, .inl ⟨[], rfl, hj⟩⟩
end Go.Proofs.Ytaknddanggdplaa
