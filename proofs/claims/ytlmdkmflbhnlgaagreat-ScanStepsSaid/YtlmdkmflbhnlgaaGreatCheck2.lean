/- Which frames may be: what frame.Check answers. No condition. -/
import Derived.Test.YtlmdkmflbhnlgaaGreatProg
import Derived.Test.YtlmdkmflbhnlgaaGreatSame
namespace Go.Proofs.YtlmdkmflbhnlgaaGreat
open Go.RowKit

/-- A frame without what its kind may have. -/
def bareF (f : Fr) : Fr :=
  { kind := f.kind, id := 0, ext := if f.kind = 1 then false else f.ext, rtr := if f.kind = 1 then false else f.rtr, brs := if f.kind = 2 then false else f.brs, esi := if f.kind = 2 then false else f.esi,
    sec := if f.kind = 3 then false else f.sec, sdt := if f.kind = 3 then 0 else f.sdt, vcid := if f.kind = 3 then 0 else f.vcid, af := if f.kind = 3 then 0 else f.af, data := [] }
set_option maxRecDepth 100000 in
set_option maxHeartbeats 1000000 in
theorem bare_any (f : Fr) (s : Option Addr) (n c : Nat) (w : World) :
    Calls Tryz.prog 30 #[frv f (.slice s n c)] w fun e w' => e = .returned (frv (bareF f) (.slice none 0 0)) ∧ Below w.heap.size w w' := by
  by_cases h1 : f.kind = 1
  · have hb : bareF f = { kind := 1, id := 0, ext := false, rtr := false, brs := f.brs, esi := f.esi, sec := f.sec, sdt := f.sdt, vcid := f.vcid, af := f.af, data := [] } := by simp [bareF, h1]
    rw [hb]
    dsimp only [frv]
    rw [h1]
    clear hb h1
    go_enter Tryz.func30, Tryz.ntmps30
    go_wp2
    exact bodyPost_ret (v := .agg #[.int .i64 1, .int .u32 0, .bool false, .bool false, .bool f.brs, .bool f.esi, .bool f.sec, .int .u8 f.sdt, .int .u8 f.vcid, .int .u32 f.af, .slice none 0 0]) (by simp [results, Tryz.results30, go_sem]) rfl ⟨rfl, below_alloc (below_alloc (Below.refl _ _) _) _⟩
  · by_cases h2 : f.kind = 2
    · have hb : bareF f = { kind := 2, id := 0, ext := f.ext, rtr := f.rtr, brs := false, esi := false, sec := f.sec, sdt := f.sdt, vcid := f.vcid, af := f.af, data := [] } := by simp [bareF, h2]
      rw [hb]
      dsimp only [frv]
      rw [h2]
      clear hb h1 h2
      go_enter Tryz.func30, Tryz.ntmps30
      go_wp2
      exact bodyPost_ret (v := .agg #[.int .i64 2, .int .u32 0, .bool f.ext, .bool f.rtr, .bool false, .bool false, .bool f.sec, .int .u8 f.sdt, .int .u8 f.vcid, .int .u32 f.af, .slice none 0 0]) (by simp [results, Tryz.results30, go_sem]) rfl ⟨rfl, below_alloc (below_alloc (Below.refl _ _) _) _⟩
    · by_cases h3 : f.kind = 3
      · have hb : bareF f = { kind := 3, id := 0, ext := f.ext, rtr := f.rtr, brs := f.brs, esi := f.esi, sec := false, sdt := 0, vcid := 0, af := 0, data := [] } := by simp [bareF, h3]
        rw [hb]
        dsimp only [frv]
        rw [h3]
        clear hb h1 h2 h3
        go_enter Tryz.func30, Tryz.ntmps30
        go_wp2
        exact bodyPost_ret (v := .agg #[.int .i64 3, .int .u32 0, .bool f.ext, .bool f.rtr, .bool f.brs, .bool f.esi, .bool false, .int .u8 0, .int .u8 0, .int .u32 0, .slice none 0 0]) (by simp [results, Tryz.results30, go_sem]) rfl ⟨rfl, below_alloc (below_alloc (Below.refl _ _) _) _⟩
      · have hb : bareF f = { kind := f.kind, id := 0, ext := f.ext, rtr := f.rtr, brs := f.brs, esi := f.esi, sec := f.sec, sdt := f.sdt, vcid := f.vcid, af := f.af, data := [] } := by simp [bareF, h1, h2, h3]
        rw [hb]
        dsimp only [frv]
        have k1 : (f.kind == 1) = false := by simp [h1]
        have k2 : (f.kind == 2) = false := by simp [h2]
        have k3 : (f.kind == 3) = false := by simp [h3]
        clear hb h1 h2 h3
        go_enter Tryz.func30, Tryz.ntmps30
        go_wp2
        exact bodyPost_ret (v := .agg #[.int .i64 f.kind, .int .u32 0, .bool f.ext, .bool f.rtr, .bool f.brs, .bool f.esi, .bool f.sec, .int .u8 f.sdt, .int .u8 f.vcid, .int .u32 f.af, .slice none 0 0]) (by simp [results, Tryz.results30, go_sem]) rfl ⟨rfl, below_alloc (below_alloc (Below.refl _ _) _) _⟩
end Go.Proofs.YtlmdkmflbhnlgaaGreat
namespace Go.Proofs.YtlmdkmflbhnlgaaGreat
open Go.RowKit

/-- An error's number: 0 is none. -/
def zeroF (k : Int) : Fr := { kind := k, id := 0, ext := false, rtr := false, brs := false, esi := false, sec := false, sdt := 0, vcid := 0, af := 0, data := [] }
def limF (f : Fr) : Int := if f.ext then 536870912 else 2048
/-- May a frame be? -/
def okF (f : Fr) : Bool := (codeF f.kind f.data.length).isSome && decide (f.id < limF f) && !(f.rtr && decide (0 < f.data.length)) && sameF (bareF f) (zeroF f.kind)
def errV (b : Bool) : Value := .int .i64 (if b then 0 else 2)
set_option maxRecDepth 100000 in
set_option maxHeartbeats 400000 in
theorem Check_none (kind id : Int) (ext rtr brs esi sec : Bool) (sdt vcid af : Int) (A : Option Addr) (n c : Nat) (w : World)
    (HC : Hid (∀ W : World, Calls Tryz.prog 29 #[.int .i64 kind, .int .i64 (n : Nat)] W fun e w' => e = .returned (codeV none) ∧ Below W.heap.size W w')) :
    Calls Tryz.prog 16 #[.agg #[.int .i64 kind, .int .u32 id, .bool ext, .bool rtr, .bool brs, .bool esi, .bool sec, .int .u8 sdt, .int .u8 vcid, .int .u32 af, .slice A n c]] w fun e w' => e = .returned (.int .i64 2) ∧ Below w.heap.size w w' := by
  cases ext
  all_goals
    go_enter Tryz.func16, Tryz.ntmps16
    go_wp2_with fail
    refine (HC.out _).mono ?_
    rintro e w1 ⟨rfl, hb⟩
    obtain ⟨hce, hfe⟩ := bcell hb
    have HB := Lib.hid hb
    clear hb
    simp only [codeV_none]
    go_wp2_with fail
    go_quiet (fail)
    go_wp2_with fail
    go_ret
    exact ⟨rfl, below_drewN (below_trans (below_alloc (Below.refl _ _) _) HB.out) _⟩
set_option maxRecDepth 100000 in
set_option maxHeartbeats 400000 in
theorem Check_id (kind id : Int) (ext rtr brs esi sec : Bool) (sdt vcid af : Int) (A : Option Addr) (n c : Nat) (w : World) (co : Int) (hid : (if ext then 536870912 else 2048) ≤ id)
    (HC : Hid (∀ W : World, Calls Tryz.prog 29 #[.int .i64 kind, .int .i64 (n : Nat)] W fun e w' => e = .returned (codeV (some co)) ∧ Below W.heap.size W w')) :
    Calls Tryz.prog 16 #[.agg #[.int .i64 kind, .int .u32 id, .bool ext, .bool rtr, .bool brs, .bool esi, .bool sec, .int .u8 sdt, .int .u8 vcid, .int .u32 af, .slice A n c]] w fun e w' => e = .returned (.int .i64 2) ∧ Below w.heap.size w w' := by
  cases ext
  all_goals
    simp only [Bool.false_eq_true, if_false, if_true] at hid
    go_enter Tryz.func16, Tryz.ntmps16
    go_wp2_with fail
    refine (HC.out _).mono ?_
    rintro e w1 ⟨rfl, hb⟩
    obtain ⟨hce, hfe⟩ := bcell hb
    have HB := Lib.hid hb
    clear hb
    simp only [codeV_some]
    go_wp2_with fail
    go_quiet (fail)
    go_wp2_with fail
    go_ret
    exact ⟨rfl, below_drewN (below_trans (below_alloc (Below.refl _ _) _) HB.out) _⟩
set_option maxRecDepth 100000 in
set_option maxHeartbeats 400000 in
theorem Check_rtr (kind id : Int) (ext brs esi sec : Bool) (sdt vcid af : Int) (A : Option Addr) (n c : Nat) (w : World) (co : Int) (hid : id < (if ext then 536870912 else 2048)) (hn : 0 < n)
    (HC : Hid (∀ W : World, Calls Tryz.prog 29 #[.int .i64 kind, .int .i64 (n : Nat)] W fun e w' => e = .returned (codeV (some co)) ∧ Below W.heap.size W w')) :
    Calls Tryz.prog 16 #[.agg #[.int .i64 kind, .int .u32 id, .bool ext, .bool true, .bool brs, .bool esi, .bool sec, .int .u8 sdt, .int .u8 vcid, .int .u32 af, .slice A n c]] w fun e w' => e = .returned (.int .i64 2) ∧ Below w.heap.size w w' := by
  cases ext
  · simp only [Bool.false_eq_true, if_false] at hid
    have hn' : decide (0 < n) = true := by simp [hn]
    have hd : decide (2048 ≤ id) = false := by simp; omega
    clear hn hid
    go_enter Tryz.func16, Tryz.ntmps16
    go_wp2_with fail
    refine (HC.out _).mono ?_
    rintro e w1 ⟨rfl, hb⟩
    obtain ⟨hce, hfe⟩ := bcell hb
    have HB := Lib.hid hb
    clear hb
    simp only [codeV_some]
    go_wp2_with fail
    go_quiet (fail)
    go_wp2_with fail
    go_ret
    exact ⟨rfl, below_drewN (below_trans (below_alloc (Below.refl _ _) _) HB.out) _⟩
  · simp only [if_true] at hid
    have hn' : decide (0 < n) = true := by simp [hn]
    have hd : decide (536870912 ≤ id) = false := by simp; omega
    clear hn hid
    go_enter Tryz.func16, Tryz.ntmps16
    go_wp2_with fail
    refine (HC.out _).mono ?_
    rintro e w1 ⟨rfl, hb⟩
    obtain ⟨hce, hfe⟩ := bcell hb
    have HB := Lib.hid hb
    clear hb
    simp only [codeV_some]
    go_wp2_with fail
    go_quiet (fail)
    go_wp2_with fail
    go_ret
    exact ⟨rfl, below_drewN (below_trans (below_alloc (Below.refl _ _) _) HB.out) _⟩

set_option maxRecDepth 100000 in
set_option maxHeartbeats 400000 in
theorem Check_callsF (kind id : Int) (brs esi sec : Bool) (sdt vcid af : Int) (A : Option Addr) (n c : Nat) (w : World) (co : Int) (sm : Bool) (vb : Value) (hid : id < 2048)
    (HC : Hid (∀ W : World, Calls Tryz.prog 29 #[.int .i64 kind, .int .i64 (n : Nat)] W fun e w' => e = .returned (codeV (some co)) ∧ Below W.heap.size W w'))
    (HBA : Hid (∀ W : World, Calls Tryz.prog 30 #[.agg #[.int .i64 kind, .int .u32 id, .bool false, .bool false, .bool brs, .bool esi, .bool sec, .int .u8 sdt, .int .u8 vcid, .int .u32 af, .slice A n c]] W fun e w' => e = .returned vb ∧ Below W.heap.size W w'))
    (HSA : Hid (∀ W : World, Calls Tryz.prog 18 #[vb, .agg #[.int .i64 kind, .int .u32 0, .bool false, .bool false, .bool false, .bool false, .bool false, .int .u8 0, .int .u8 0, .int .u32 0, .slice none 0 0]] W fun e w' => e = .returned (.bool sm) ∧ Below W.heap.size W w')) :
    Calls Tryz.prog 16 #[.agg #[.int .i64 kind, .int .u32 id, .bool false, .bool false, .bool brs, .bool esi, .bool sec, .int .u8 sdt, .int .u8 vcid, .int .u32 af, .slice A n c]] w fun e w' => e = .returned (errV sm) ∧ Below w.heap.size w w' := by
  have hd : decide (2048 ≤ id) = false := by simp; omega
  clear hid
  go_enter Tryz.func16, Tryz.ntmps16
  go_wp2_with fail
  refine (HC.out _).mono ?_
  rintro e w1 ⟨rfl, hb⟩
  obtain ⟨hce, hfe⟩ := bcell hb
  have HB := Lib.hid hb
  clear hb
  simp only [codeV_some]
  go_wp2_with fail
  have hB0 : w1.heap[w.heap.size]? = some (.cells #[.int .i64 kind, .int .u32 id, .bool false, .bool false, .bool brs, .bool esi, .bool sec, .int .u8 sdt, .int .u8 vcid, .int .u32 af, .slice A n c] 28 (0, 0)) := heap_below HB.out (heap_new_at rfl)
  have hE := fun e : Ext w1 => cells11 (ext_heap hB0 e)
  have e0 : ∀ e : Ext w1, e.W.cell? ⟨w.heap.size, 0, none⟩ = some (.int .i64 kind) := fun e => (hE e).1
  have e1 : ∀ e : Ext w1, e.W.cell? ⟨w.heap.size, 1, none⟩ = some (.int .u32 id) := fun e => (hE e).2.1
  have e2 : ∀ e : Ext w1, e.W.cell? ⟨w.heap.size, 2, none⟩ = some (.bool false) := fun e => (hE e).2.2.1
  have e3 : ∀ e : Ext w1, e.W.cell? ⟨w.heap.size, 3, none⟩ = some (.bool false) := fun e => (hE e).2.2.2.1
  have e4 : ∀ e : Ext w1, e.W.cell? ⟨w.heap.size, 4, none⟩ = some (.bool brs) := fun e => (hE e).2.2.2.2.1
  have e5 : ∀ e : Ext w1, e.W.cell? ⟨w.heap.size, 5, none⟩ = some (.bool esi) := fun e => (hE e).2.2.2.2.2.1
  have e6 : ∀ e : Ext w1, e.W.cell? ⟨w.heap.size, 6, none⟩ = some (.bool sec) := fun e => (hE e).2.2.2.2.2.2.1
  have e7 : ∀ e : Ext w1, e.W.cell? ⟨w.heap.size, 7, none⟩ = some (.int .u8 sdt) := fun e => (hE e).2.2.2.2.2.2.2.1
  have e8 : ∀ e : Ext w1, e.W.cell? ⟨w.heap.size, 8, none⟩ = some (.int .u8 vcid) := fun e => (hE e).2.2.2.2.2.2.2.2.1
  have e9 : ∀ e : Ext w1, e.W.cell? ⟨w.heap.size, 9, none⟩ = some (.int .u32 af) := fun e => (hE e).2.2.2.2.2.2.2.2.2.1
  have e10 : ∀ e : Ext w1, e.W.cell? ⟨w.heap.size, 10, none⟩ = some (.slice A n c) := fun e => (hE e).2.2.2.2.2.2.2.2.2.2
  clear hE hB0 hce hfe
  refine wp_region_ext (by kernel_rfl) (by kernel_rfl) ?_
  repeat (go_big_quiet_step (first | (go_at_call 30; exact ecall (HBA.out _)) | (go_at_call 18; exact ecall (HSA.out _))))
  refine wpQuiet_nil ?_
  rintro _ ⟨⟨w2, hb2⟩, rfl⟩
  have HB2 := Lib.hid hb2
  clear hb2
  cases sm
  all_goals
    go_wp2_with fail
    go_ret
    exact ⟨rfl, below_trans (below_trans (below_alloc (Below.refl _ _) _) HB.out) HB2.out⟩
set_option maxRecDepth 100000 in
set_option maxHeartbeats 400000 in
theorem Check_callsT (kind id : Int) (brs esi sec : Bool) (sdt vcid af : Int) (A : Option Addr) (n c : Nat) (w : World) (co : Int) (sm : Bool) (vb : Value) (hid : id < 536870912)
    (HC : Hid (∀ W : World, Calls Tryz.prog 29 #[.int .i64 kind, .int .i64 (n : Nat)] W fun e w' => e = .returned (codeV (some co)) ∧ Below W.heap.size W w'))
    (HBA : Hid (∀ W : World, Calls Tryz.prog 30 #[.agg #[.int .i64 kind, .int .u32 id, .bool true, .bool false, .bool brs, .bool esi, .bool sec, .int .u8 sdt, .int .u8 vcid, .int .u32 af, .slice A n c]] W fun e w' => e = .returned vb ∧ Below W.heap.size W w'))
    (HSA : Hid (∀ W : World, Calls Tryz.prog 18 #[vb, .agg #[.int .i64 kind, .int .u32 0, .bool false, .bool false, .bool false, .bool false, .bool false, .int .u8 0, .int .u8 0, .int .u32 0, .slice none 0 0]] W fun e w' => e = .returned (.bool sm) ∧ Below W.heap.size W w')) :
    Calls Tryz.prog 16 #[.agg #[.int .i64 kind, .int .u32 id, .bool true, .bool false, .bool brs, .bool esi, .bool sec, .int .u8 sdt, .int .u8 vcid, .int .u32 af, .slice A n c]] w fun e w' => e = .returned (errV sm) ∧ Below w.heap.size w w' := by
  have hd : decide (536870912 ≤ id) = false := by simp; omega
  clear hid
  go_enter Tryz.func16, Tryz.ntmps16
  go_wp2_with fail
  refine (HC.out _).mono ?_
  rintro e w1 ⟨rfl, hb⟩
  obtain ⟨hce, hfe⟩ := bcell hb
  have HB := Lib.hid hb
  clear hb
  simp only [codeV_some]
  go_wp2_with fail
  have hB0 : w1.heap[w.heap.size]? = some (.cells #[.int .i64 kind, .int .u32 id, .bool true, .bool false, .bool brs, .bool esi, .bool sec, .int .u8 sdt, .int .u8 vcid, .int .u32 af, .slice A n c] 28 (0, 0)) := heap_below HB.out (heap_new_at rfl)
  have hE := fun e : Ext w1 => cells11 (ext_heap hB0 e)
  have e0 : ∀ e : Ext w1, e.W.cell? ⟨w.heap.size, 0, none⟩ = some (.int .i64 kind) := fun e => (hE e).1
  have e1 : ∀ e : Ext w1, e.W.cell? ⟨w.heap.size, 1, none⟩ = some (.int .u32 id) := fun e => (hE e).2.1
  have e2 : ∀ e : Ext w1, e.W.cell? ⟨w.heap.size, 2, none⟩ = some (.bool true) := fun e => (hE e).2.2.1
  have e3 : ∀ e : Ext w1, e.W.cell? ⟨w.heap.size, 3, none⟩ = some (.bool false) := fun e => (hE e).2.2.2.1
  have e4 : ∀ e : Ext w1, e.W.cell? ⟨w.heap.size, 4, none⟩ = some (.bool brs) := fun e => (hE e).2.2.2.2.1
  have e5 : ∀ e : Ext w1, e.W.cell? ⟨w.heap.size, 5, none⟩ = some (.bool esi) := fun e => (hE e).2.2.2.2.2.1
  have e6 : ∀ e : Ext w1, e.W.cell? ⟨w.heap.size, 6, none⟩ = some (.bool sec) := fun e => (hE e).2.2.2.2.2.2.1
  have e7 : ∀ e : Ext w1, e.W.cell? ⟨w.heap.size, 7, none⟩ = some (.int .u8 sdt) := fun e => (hE e).2.2.2.2.2.2.2.1
  have e8 : ∀ e : Ext w1, e.W.cell? ⟨w.heap.size, 8, none⟩ = some (.int .u8 vcid) := fun e => (hE e).2.2.2.2.2.2.2.2.1
  have e9 : ∀ e : Ext w1, e.W.cell? ⟨w.heap.size, 9, none⟩ = some (.int .u32 af) := fun e => (hE e).2.2.2.2.2.2.2.2.2.1
  have e10 : ∀ e : Ext w1, e.W.cell? ⟨w.heap.size, 10, none⟩ = some (.slice A n c) := fun e => (hE e).2.2.2.2.2.2.2.2.2.2
  clear hE hB0 hce hfe
  refine wp_region_ext (by kernel_rfl) (by kernel_rfl) ?_
  repeat (go_big_quiet_step (first | (go_at_call 30; exact ecall (HBA.out _)) | (go_at_call 18; exact ecall (HSA.out _))))
  refine wpQuiet_nil ?_
  rintro _ ⟨⟨w2, hb2⟩, rfl⟩
  have HB2 := Lib.hid hb2
  clear hb2
  cases sm
  all_goals
    go_wp2_with fail
    go_ret
    exact ⟨rfl, below_trans (below_trans (below_alloc (Below.refl _ _) _) HB.out) HB2.out⟩
set_option maxRecDepth 100000 in
set_option maxHeartbeats 400000 in
theorem Check_callsRF (kind id : Int) (brs esi sec : Bool) (sdt vcid af : Int) (A : Option Addr) (c : Nat) (w : World) (co : Int) (sm : Bool) (vb : Value) (hid : id < 2048)
    (HC : Hid (∀ W : World, Calls Tryz.prog 29 #[.int .i64 kind, .int .i64 (0 : Nat)] W fun e w' => e = .returned (codeV (some co)) ∧ Below W.heap.size W w'))
    (HBA : Hid (∀ W : World, Calls Tryz.prog 30 #[.agg #[.int .i64 kind, .int .u32 id, .bool false, .bool true, .bool brs, .bool esi, .bool sec, .int .u8 sdt, .int .u8 vcid, .int .u32 af, .slice A 0 c]] W fun e w' => e = .returned vb ∧ Below W.heap.size W w'))
    (HSA : Hid (∀ W : World, Calls Tryz.prog 18 #[vb, .agg #[.int .i64 kind, .int .u32 0, .bool false, .bool false, .bool false, .bool false, .bool false, .int .u8 0, .int .u8 0, .int .u32 0, .slice none 0 0]] W fun e w' => e = .returned (.bool sm) ∧ Below W.heap.size W w')) :
    Calls Tryz.prog 16 #[.agg #[.int .i64 kind, .int .u32 id, .bool false, .bool true, .bool brs, .bool esi, .bool sec, .int .u8 sdt, .int .u8 vcid, .int .u32 af, .slice A 0 c]] w fun e w' => e = .returned (errV sm) ∧ Below w.heap.size w w' := by
  have hd : decide (2048 ≤ id) = false := by simp; omega
  clear hid
  go_enter Tryz.func16, Tryz.ntmps16
  go_wp2_with fail
  refine (HC.out _).mono ?_
  rintro e w1 ⟨rfl, hb⟩
  obtain ⟨hce, hfe⟩ := bcell hb
  have HB := Lib.hid hb
  clear hb
  simp only [codeV_some]
  go_wp2_with fail
  have hB0 : w1.heap[w.heap.size]? = some (.cells #[.int .i64 kind, .int .u32 id, .bool false, .bool true, .bool brs, .bool esi, .bool sec, .int .u8 sdt, .int .u8 vcid, .int .u32 af, .slice A 0 c] 28 (0, 0)) := heap_below HB.out (heap_new_at rfl)
  have hE := fun e : Ext w1 => cells11 (ext_heap hB0 e)
  have e0 : ∀ e : Ext w1, e.W.cell? ⟨w.heap.size, 0, none⟩ = some (.int .i64 kind) := fun e => (hE e).1
  have e1 : ∀ e : Ext w1, e.W.cell? ⟨w.heap.size, 1, none⟩ = some (.int .u32 id) := fun e => (hE e).2.1
  have e2 : ∀ e : Ext w1, e.W.cell? ⟨w.heap.size, 2, none⟩ = some (.bool false) := fun e => (hE e).2.2.1
  have e3 : ∀ e : Ext w1, e.W.cell? ⟨w.heap.size, 3, none⟩ = some (.bool true) := fun e => (hE e).2.2.2.1
  have e4 : ∀ e : Ext w1, e.W.cell? ⟨w.heap.size, 4, none⟩ = some (.bool brs) := fun e => (hE e).2.2.2.2.1
  have e5 : ∀ e : Ext w1, e.W.cell? ⟨w.heap.size, 5, none⟩ = some (.bool esi) := fun e => (hE e).2.2.2.2.2.1
  have e6 : ∀ e : Ext w1, e.W.cell? ⟨w.heap.size, 6, none⟩ = some (.bool sec) := fun e => (hE e).2.2.2.2.2.2.1
  have e7 : ∀ e : Ext w1, e.W.cell? ⟨w.heap.size, 7, none⟩ = some (.int .u8 sdt) := fun e => (hE e).2.2.2.2.2.2.2.1
  have e8 : ∀ e : Ext w1, e.W.cell? ⟨w.heap.size, 8, none⟩ = some (.int .u8 vcid) := fun e => (hE e).2.2.2.2.2.2.2.2.1
  have e9 : ∀ e : Ext w1, e.W.cell? ⟨w.heap.size, 9, none⟩ = some (.int .u32 af) := fun e => (hE e).2.2.2.2.2.2.2.2.2.1
  have e10 : ∀ e : Ext w1, e.W.cell? ⟨w.heap.size, 10, none⟩ = some (.slice A 0 c) := fun e => (hE e).2.2.2.2.2.2.2.2.2.2
  clear hE hB0 hce hfe
  refine wp_region_ext (by kernel_rfl) (by kernel_rfl) ?_
  repeat (go_big_quiet_step (first | (go_at_call 30; exact ecall (HBA.out _)) | (go_at_call 18; exact ecall (HSA.out _))))
  refine wpQuiet_nil ?_
  rintro _ ⟨⟨w2, hb2⟩, rfl⟩
  have HB2 := Lib.hid hb2
  clear hb2
  cases sm
  all_goals
    go_wp2_with fail
    go_ret
    exact ⟨rfl, below_trans (below_trans (below_alloc (Below.refl _ _) _) HB.out) HB2.out⟩
set_option maxRecDepth 100000 in
set_option maxHeartbeats 400000 in
theorem Check_callsRT (kind id : Int) (brs esi sec : Bool) (sdt vcid af : Int) (A : Option Addr) (c : Nat) (w : World) (co : Int) (sm : Bool) (vb : Value) (hid : id < 536870912)
    (HC : Hid (∀ W : World, Calls Tryz.prog 29 #[.int .i64 kind, .int .i64 (0 : Nat)] W fun e w' => e = .returned (codeV (some co)) ∧ Below W.heap.size W w'))
    (HBA : Hid (∀ W : World, Calls Tryz.prog 30 #[.agg #[.int .i64 kind, .int .u32 id, .bool true, .bool true, .bool brs, .bool esi, .bool sec, .int .u8 sdt, .int .u8 vcid, .int .u32 af, .slice A 0 c]] W fun e w' => e = .returned vb ∧ Below W.heap.size W w'))
    (HSA : Hid (∀ W : World, Calls Tryz.prog 18 #[vb, .agg #[.int .i64 kind, .int .u32 0, .bool false, .bool false, .bool false, .bool false, .bool false, .int .u8 0, .int .u8 0, .int .u32 0, .slice none 0 0]] W fun e w' => e = .returned (.bool sm) ∧ Below W.heap.size W w')) :
    Calls Tryz.prog 16 #[.agg #[.int .i64 kind, .int .u32 id, .bool true, .bool true, .bool brs, .bool esi, .bool sec, .int .u8 sdt, .int .u8 vcid, .int .u32 af, .slice A 0 c]] w fun e w' => e = .returned (errV sm) ∧ Below w.heap.size w w' := by
  have hd : decide (536870912 ≤ id) = false := by simp; omega
  clear hid
  go_enter Tryz.func16, Tryz.ntmps16
  go_wp2_with fail
  refine (HC.out _).mono ?_
  rintro e w1 ⟨rfl, hb⟩
  obtain ⟨hce, hfe⟩ := bcell hb
  have HB := Lib.hid hb
  clear hb
  simp only [codeV_some]
  go_wp2_with fail
  have hB0 : w1.heap[w.heap.size]? = some (.cells #[.int .i64 kind, .int .u32 id, .bool true, .bool true, .bool brs, .bool esi, .bool sec, .int .u8 sdt, .int .u8 vcid, .int .u32 af, .slice A 0 c] 28 (0, 0)) := heap_below HB.out (heap_new_at rfl)
  have hE := fun e : Ext w1 => cells11 (ext_heap hB0 e)
  have e0 : ∀ e : Ext w1, e.W.cell? ⟨w.heap.size, 0, none⟩ = some (.int .i64 kind) := fun e => (hE e).1
  have e1 : ∀ e : Ext w1, e.W.cell? ⟨w.heap.size, 1, none⟩ = some (.int .u32 id) := fun e => (hE e).2.1
  have e2 : ∀ e : Ext w1, e.W.cell? ⟨w.heap.size, 2, none⟩ = some (.bool true) := fun e => (hE e).2.2.1
  have e3 : ∀ e : Ext w1, e.W.cell? ⟨w.heap.size, 3, none⟩ = some (.bool true) := fun e => (hE e).2.2.2.1
  have e4 : ∀ e : Ext w1, e.W.cell? ⟨w.heap.size, 4, none⟩ = some (.bool brs) := fun e => (hE e).2.2.2.2.1
  have e5 : ∀ e : Ext w1, e.W.cell? ⟨w.heap.size, 5, none⟩ = some (.bool esi) := fun e => (hE e).2.2.2.2.2.1
  have e6 : ∀ e : Ext w1, e.W.cell? ⟨w.heap.size, 6, none⟩ = some (.bool sec) := fun e => (hE e).2.2.2.2.2.2.1
  have e7 : ∀ e : Ext w1, e.W.cell? ⟨w.heap.size, 7, none⟩ = some (.int .u8 sdt) := fun e => (hE e).2.2.2.2.2.2.2.1
  have e8 : ∀ e : Ext w1, e.W.cell? ⟨w.heap.size, 8, none⟩ = some (.int .u8 vcid) := fun e => (hE e).2.2.2.2.2.2.2.2.1
  have e9 : ∀ e : Ext w1, e.W.cell? ⟨w.heap.size, 9, none⟩ = some (.int .u32 af) := fun e => (hE e).2.2.2.2.2.2.2.2.2.1
  have e10 : ∀ e : Ext w1, e.W.cell? ⟨w.heap.size, 10, none⟩ = some (.slice A 0 c) := fun e => (hE e).2.2.2.2.2.2.2.2.2.2
  clear hE hB0 hce hfe
  refine wp_region_ext (by kernel_rfl) (by kernel_rfl) ?_
  repeat (go_big_quiet_step (first | (go_at_call 30; exact ecall (HBA.out _)) | (go_at_call 18; exact ecall (HSA.out _))))
  refine wpQuiet_nil ?_
  rintro _ ⟨⟨w2, hb2⟩, rfl⟩
  have HB2 := Lib.hid hb2
  clear hb2
  cases sm
  all_goals
    go_wp2_with fail
    go_ret
    exact ⟨rfl, below_trans (below_trans (below_alloc (Below.refl _ _) _) HB.out) HB2.out⟩

set_option maxHeartbeats 400000 in
theorem Check_any (f : Fr) (A : Option Addr) (c : Nat) (w : World) (hl : f.data.length ≤ 9223372036854775807) :
    Calls Tryz.prog 16 #[frv f (.slice A f.data.length c)] w fun e w' => e = .returned (errV (okF f)) ∧ Below w.heap.size w w' := by
  have hok : okF f = ((codeF f.kind f.data.length).isSome && decide (f.id < limF f) && !(f.rtr && decide (0 < f.data.length)) && sameF (bareF f) (zeroF f.kind)) := rfl
  have hc := fun W => Code_any f.kind f.data.length W (by omega) (by omega)
  have hbare := fun W => bare_any f A f.data.length c W
  have hsame := fun W => Same_any (bareF f) (zeroF f.kind) none none 0 0 W (Rd.nil _ _) (Rd.nil _ _) (by intro x hx; simp [bareF] at hx) (by intro x hx; simp [zeroF] at hx)
  have hlim : limF f = if f.ext then 536870912 else 2048 := rfl
  generalize okF f = r at *
  generalize sameF (bareF f) (zeroF f.kind) = sm at *
  generalize codeF f.kind f.data.length = co at *
  generalize limF f = lim at *
  obtain ⟨kind, id, ext, rtr, brs, esi, sec, sdt, vcid, af, data⟩ := f
  dsimp only [frv] at *
  generalize data.length = n at *
  cases co with
  | none =>
    have hr : r = false := by rw [hok]; rfl
    subst hr
    exact Check_none kind id ext rtr brs esi sec sdt vcid af A n c w (Lib.hid hc)
  | some co =>
    by_cases hid : id < lim
    · cases rtr with
      | true =>
        by_cases hn : 0 < n
        · have hr : r = false := by rw [hok]; simp [hn]
          subst hr hlim
          exact Check_rtr kind id ext brs esi sec sdt vcid af A n c w co hid hn (Lib.hid hc)
        · obtain rfl : n = 0 := by omega
          have hr : r = sm := by rw [hok]; simp [hid]
          subst hr hlim
          cases ext
          · exact Check_callsRF kind id brs esi sec sdt vcid af A c w co r _ hid (Lib.hid hc) (Lib.hid hbare) (Lib.hid hsame)
          · exact Check_callsRT kind id brs esi sec sdt vcid af A c w co r _ hid (Lib.hid hc) (Lib.hid hbare) (Lib.hid hsame)
      | false =>
        have hr : r = sm := by rw [hok]; simp [hid]
        subst hr hlim
        cases ext
        · exact Check_callsF kind id brs esi sec sdt vcid af A n c w co r _ hid (Lib.hid hc) (Lib.hid hbare) (Lib.hid hsame)
        · exact Check_callsT kind id brs esi sec sdt vcid af A n c w co r _ hid (Lib.hid hc) (Lib.hid hbare) (Lib.hid hsame)
    · have hr : r = false := by rw [hok]; simp [hid]
      subst hr hlim
      exact Check_id kind id ext rtr brs esi sec sdt vcid af A n c w co (by simpa using hid) (Lib.hid hc)
end Go.Proofs.YtlmdkmflbhnlgaaGreat
