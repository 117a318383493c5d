/- Who wins hangs neither on the data, nor on what else a frame bears behind: the law OrderData answers true. No condition. -/
import Derived.Test.YtbjeblffmgghgaaLaw10a
import Derived.Test.YtbjeblffmgghgaaPlain10
import Derived.BigRegion
import Derived.Test.YtbjeblffmgghgaaAppend
namespace Go.Proofs.Ytbjeblffmgghgaa
open Go.RowKit
/-- The frame that the law holds against one: other data, and other fields that don't arbitrate. -/
def otherF (f : Fr) : Fr :=
  { kind := f.kind, id := f.id, ext := f.ext, rtr := f.rtr, brs := decide (f.kind = 2) && !f.brs, esi := decide (f.kind = 2) && !f.esi, sec := if f.kind = 3 then !f.sec else f.sec,
    sdt := if f.kind = 3 then (f.sdt + 1) % 256 else f.sdt, vcid := if f.kind = 3 then (f.vcid + 1) % 256 else f.vcid, af := if f.kind = 3 then (f.af + 1) % 4294967296 else f.af, data := if f.rtr then [] else [1, 2, 3] }
theorem keyF_other (f : Fr) : keyF (otherF f) = keyF f := rfl
theorem otherF_ok (f : Fr) (h : OkF f) : OkF (otherF f) := by
  obtain ⟨k1, k2, k3, k4, k5, k6, k7, k8, k9, k10, k11, k12⟩ := h
  refine ⟨k1, ?_, k3, k4, k5, ?_, ?_, ?_, ?_, ?_, ?_, ?_⟩
  · show (codeF f.kind ((otherF f).data.length : Nat)).isSome = true
    unfold otherF
    dsimp only
    cases hr : f.rtr
    · rcases k1 with h | h | h <;> rw [h] <;> decide
    · have hk : f.kind = 1 := by
        by_cases h : f.kind = 1
        · exact h
        · have := k5 h; rw [hr] at this; cases this
      rw [hk]; decide
  · intro h; show (if f.rtr then _ else _) = _; rw [show f.rtr = true from h]; rfl
  · intro h; simp [otherF, show f.kind ≠ 2 from h]
  · intro h; simp [otherF, show f.kind ≠ 2 from h]
  · intro h; simp [otherF, show f.kind ≠ 3 from h, k9 h]
  · intro h; simp [otherF, show f.kind ≠ 3 from h, k10 h]
  · intro h; simp [otherF, show f.kind ≠ 3 from h, k11 h]
  · intro h; simp [otherF, show f.kind ≠ 3 from h, k12 h]

set_option maxRecDepth 100000 in
set_option maxHeartbeats 2000000 in
theorem data_no (f g : Fr) (A B : Option Addr) (c d : Nat) (w : World) (hf : f.data.length ≤ 9223372036854775807) (hg : g.data.length ≤ 9223372036854775807) (hno : okF f = false ∨ okF g = false) :
    Calls Try.prog 5 #[frv f (.slice A f.data.length c), frv g (.slice B g.data.length d)] w fun e w' => e = .returned (.bool true) ∧ Below w.heap.size w w' := by
  have H1 := fun W => Check_any f A c W hf
  have H2 := fun W => Check_any g B d W hg
  obtain ⟨fk, fi, fe, fr, f4, f5, f6, f7, f8, f9, fd⟩ := f
  obtain ⟨gk, gi, ge, gr, g4, g5, g6, g7, g8, g9, gd⟩ := g
  dsimp only [frv] at *
  cases ho : okF ⟨fk, fi, fe, fr, f4, f5, f6, f7, f8, f9, fd⟩
  all_goals
    rw [ho] at H1 hno
  · have HH1 := Lib.hid H1
    clear H1 H2 hno hf hg ho
    go_enter Try.func5, Try.ntmps5
    go_wp2_with fail
    refine calls_blk2 (fun W0 q1 q2 hb => ?_)
    have HB := Lib.hid hb
    obtain ⟨a0, a1, a2, a3, a4, a5, a6, a7, a8, a9, a10⟩ := ext11 q1
    obtain ⟨b0, b1, b2, b3, b4, b5, b6, b7, b8, b9, b10⟩ := ext11 q2
    clear hb q1 q2
    refine (extc_same (alive10 _)).mono ?_
    rintro x _ ⟨e1, rfl, rfl⟩
    go_wp2_with fail
    refine (extc (HH1.out _)).mono ?_
    rintro x _ ⟨e2, rfl, rfl⟩
    simp only [errV]
    go_wp2_with fail
    go_ret
    exact ⟨rfl, ext_end HB.out⟩
  · have ho2 : okF ⟨gk, gi, ge, gr, g4, g5, g6, g7, g8, g9, gd⟩ = false := by simpa using hno
    rw [ho2] at H2
    have HH1 := Lib.hid H1
    have HH2 := Lib.hid H2
    clear H1 H2 hno hf hg ho ho2
    go_enter Try.func5, Try.ntmps5
    go_wp2_with fail
    refine calls_blk2 (fun W0 q1 q2 hb => ?_)
    have HB := Lib.hid hb
    obtain ⟨a0, a1, a2, a3, a4, a5, a6, a7, a8, a9, a10⟩ := ext11 q1
    obtain ⟨b0, b1, b2, b3, b4, b5, b6, b7, b8, b9, b10⟩ := ext11 q2
    clear hb q1 q2
    refine (extc_same (alive10 _)).mono ?_
    rintro x _ ⟨e1, rfl, rfl⟩
    go_wp2_with fail
    refine (extc (HH1.out _)).mono ?_
    rintro x _ ⟨e2, rfl, rfl⟩
    simp only [errV]
    go_wp2_with fail
    refine (extc (HH2.out _)).mono ?_
    rintro x _ ⟨e3, rfl, rfl⟩
    simp only [errV]
    go_wp2_with fail
    go_ret
    exact ⟨rfl, ext_end HB.out⟩
theorem calls_blk2d {P : Program} {f : FuncId} {args : Array Value} {w : World} {o1 o2 : Obj} {R : Ending → World → Prop}
    (h : ∀ W, W.heap[w.heap.size]? = some o1 → Below w.heap.size w W → Calls P f args W R) : Calls P f args (((w.alloc o1).alloc o2).drew) R :=
  h _ (heap_push (heap_new_at rfl)) (below_alloc (below_alloc (Below.refl _ _) _) _).drew
theorem calls_blk2dd {P : Program} {f : FuncId} {args : Array Value} {w : World} {o1 o2 : Obj} {R : Ending → World → Prop}
    (h : ∀ W, W.heap[w.heap.size]? = some o1 → Below w.heap.size w W → Calls P f args W R) : Calls P f args ((((w.alloc o1).alloc o2).drew).drew) R :=
  h _ (heap_push (heap_new_at rfl)) (below_alloc (below_alloc (Below.refl _ _) _) _).drew.drew
theorem calls_blk2' {P : Program} {f : FuncId} {args : Array Value} {w : World} {o1 o2 : Obj} {R : Ending → World → Prop}
    (h : ∀ W, W.heap[w.heap.size]? = some o1 → Below w.heap.size w W → Calls P f args W R) : Calls P f args ((w.alloc o1).alloc o2) R :=
  h _ (heap_push (heap_new_at rfl)) (below_alloc (below_alloc (Below.refl _ _) _) _)
/-- What the calls of the law come to, where both frames may be. -/
structure DataC (vf vg : Value) (v : Int) (vo : Value → Value) (L : Nat) : Prop where
  alive : ∀ W, Calls Try.prog 15 #[] W fun e w' => e = .returned (.bool true) ∧ Below W.heap.size W w'
  ok1 : ∀ W, Calls Try.prog 20 #[vf] W fun e w' => e = .returned (.int .i64 0) ∧ Below W.heap.size W w'
  ok2 : ∀ W, Calls Try.prog 20 #[vg] W fun e w' => e = .returned (.int .i64 0) ∧ Below W.heap.size W w'
  cmp : ∀ W, Calls Try.prog 18 #[vf, vg] W fun e w' => e = .returned (.tuple #[.int .i64 v, .int .i64 0]) ∧ Below W.heap.size W w'
  cmp2 : ∀ C c W, Calls Try.prog 18 #[vo (.slice C L c), vg] W fun e w' => e = .returned (.tuple #[.int .i64 v, .int .i64 0]) ∧ Below W.heap.size W w'
  cmp3 : ∀ C c W, Calls Try.prog 18 #[vf, vo (.slice C L c)] W fun e w' => e = .returned (.tuple #[.int .i64 0, .int .i64 0]) ∧ Below W.heap.size W w'
set_option maxRecDepth 100000 in
set_option maxHeartbeats 4000000 in
theorem data_1 (fi : Int) (fe : Bool) (A : Option Addr) (n c : Nat) (gk gi : Int) (ge gr g4 g5 g6 : Bool) (g7 g8 g9 : Int) (B : Option Addr) (m d : Nat) (v : Int) (w : World)
    (H : DataC (.agg #[.int .i64 1, .int .u32 fi, .bool fe, .bool false, .bool false, .bool false, .bool false, .int .u8 0, .int .u8 0, .int .u32 0, .slice A n c]) (.agg #[.int .i64 gk, .int .u32 gi, .bool ge, .bool gr, .bool g4, .bool g5, .bool g6, .int .u8 g7, .int .u8 g8, .int .u32 g9, .slice B m d]) v (fun s => .agg #[.int .i64 1, .int .u32 fi, .bool fe, .bool false, .bool false, .bool false, .bool false, .int .u8 0, .int .u8 0, .int .u32 0, s]) 3) :
    Calls Try.prog 5 #[.agg #[.int .i64 1, .int .u32 fi, .bool fe, .bool false, .bool false, .bool false, .bool false, .int .u8 0, .int .u8 0, .int .u32 0, .slice A n c], .agg #[.int .i64 gk, .int .u32 gi, .bool ge, .bool gr, .bool g4, .bool g5, .bool g6, .int .u8 g7, .int .u8 g8, .int .u32 g9, .slice B m d]] w fun e w' => e = .returned (.bool true) ∧ Below w.heap.size w w' := by
  have HH := Lib.hid H
  clear H
  go_enter Try.func5, Try.ntmps5
  go_wp2_with fail
  refine calls_blk2 (fun W0 q1 q2 hb => ?_)
  have HB := Lib.hid hb
  obtain ⟨a0, a1, a2, a3, a4, a5, a6, a7, a8, a9, a10⟩ := ext11 q1
  obtain ⟨b0, b1, b2, b3, b4, b5, b6, b7, b8, b9, b10⟩ := ext11 q2
  have s1 := fun e : Ext W0 => heap_lt (ext_heap q1 e)
  have s2 := fun e : Ext W0 => heap_lt (ext_heap q2 e)
  clear hb q1 q2
  refine (extc_same (HH.out.alive _)).mono ?_
  rintro x _ ⟨e1, rfl, rfl⟩
  go_wp2_with fail
  refine (extc (HH.out.ok1 _)).mono ?_
  rintro x _ ⟨e2, rfl, rfl⟩
  go_wp2_with fail
  refine (extc (HH.out.ok2 _)).mono ?_
  rintro x _ ⟨e3, rfl, rfl⟩
  go_wp2_with fail
  refine (extc (HH.out.cmp _)).mono ?_
  rintro x _ ⟨e4, rfl, rfl⟩
  go_wp2_with fail
  go_region
  go_wp2_with fail
  refine calls_blk2d (fun W5 r1 hb5 => ?_)
  obtain ⟨d0, d1, d2, d3, d4, d5, d6, d7, d8, d9, d10⟩ := ext11 r1
  have HB5 := Lib.hid (below_trans e4.below hb5)
  replace a0 := liftE HB5.out a0
  replace a1 := liftE HB5.out a1
  replace a2 := liftE HB5.out a2
  replace a3 := liftE HB5.out a3
  replace a4 := liftE HB5.out a4
  replace a5 := liftE HB5.out a5
  replace a6 := liftE HB5.out a6
  replace a7 := liftE HB5.out a7
  replace a8 := liftE HB5.out a8
  replace a9 := liftE HB5.out a9
  replace a10 := liftE HB5.out a10
  clear hb5 r1 b0 b1 b2 b3 b4 b5 b6 b7 b8 b9 b10 s1 s2
  refine (extc_same (HH.out.cmp2 _ _ _)).mono ?_
  rintro x _ ⟨e6, rfl, rfl⟩
  go_wp2_with fail
  refine (extc (HH.out.cmp3 _ _ _)).mono ?_
  rintro x _ ⟨e7, rfl, rfl⟩
  go_wp2_with fail
  go_ret
  exact ⟨ret_bool (by simp), below_trans HB.out (below_trans HB5.out e7.below)⟩
set_option maxRecDepth 100000 in
set_option maxHeartbeats 4000000 in
theorem data_1r (fi : Int) (fe : Bool) (A : Option Addr) (n c : Nat) (gk gi : Int) (ge gr g4 g5 g6 : Bool) (g7 g8 g9 : Int) (B : Option Addr) (m d : Nat) (v : Int) (w : World)
    (H : DataC (.agg #[.int .i64 1, .int .u32 fi, .bool fe, .bool true, .bool false, .bool false, .bool false, .int .u8 0, .int .u8 0, .int .u32 0, .slice A n c]) (.agg #[.int .i64 gk, .int .u32 gi, .bool ge, .bool gr, .bool g4, .bool g5, .bool g6, .int .u8 g7, .int .u8 g8, .int .u32 g9, .slice B m d]) v (fun s => .agg #[.int .i64 1, .int .u32 fi, .bool fe, .bool true, .bool false, .bool false, .bool false, .int .u8 0, .int .u8 0, .int .u32 0, s]) 0) :
    Calls Try.prog 5 #[.agg #[.int .i64 1, .int .u32 fi, .bool fe, .bool true, .bool false, .bool false, .bool false, .int .u8 0, .int .u8 0, .int .u32 0, .slice A n c], .agg #[.int .i64 gk, .int .u32 gi, .bool ge, .bool gr, .bool g4, .bool g5, .bool g6, .int .u8 g7, .int .u8 g8, .int .u32 g9, .slice B m d]] w fun e w' => e = .returned (.bool true) ∧ Below w.heap.size w w' := by
  have HH := Lib.hid H
  clear H
  go_enter Try.func5, Try.ntmps5
  go_wp2_with fail
  refine calls_blk2 (fun W0 q1 q2 hb => ?_)
  have HB := Lib.hid hb
  obtain ⟨a0, a1, a2, a3, a4, a5, a6, a7, a8, a9, a10⟩ := ext11 q1
  obtain ⟨b0, b1, b2, b3, b4, b5, b6, b7, b8, b9, b10⟩ := ext11 q2
  have s1 := fun e : Ext W0 => heap_lt (ext_heap q1 e)
  have s2 := fun e : Ext W0 => heap_lt (ext_heap q2 e)
  clear hb q1 q2
  refine (extc_same (HH.out.alive _)).mono ?_
  rintro x _ ⟨e1, rfl, rfl⟩
  go_wp2_with fail
  refine (extc (HH.out.ok1 _)).mono ?_
  rintro x _ ⟨e2, rfl, rfl⟩
  go_wp2_with fail
  refine (extc (HH.out.ok2 _)).mono ?_
  rintro x _ ⟨e3, rfl, rfl⟩
  go_wp2_with fail
  refine (extc (HH.out.cmp _)).mono ?_
  rintro x _ ⟨e4, rfl, rfl⟩
  go_wp2_with fail
  go_region
  go_wp2_with fail
  refine calls_blk2d (fun W5 r1 hb5 => ?_)
  obtain ⟨d0, d1, d2, d3, d4, d5, d6, d7, d8, d9, d10⟩ := ext11 r1
  have HB5 := Lib.hid (below_trans e4.below hb5)
  replace a0 := liftE HB5.out a0
  replace a1 := liftE HB5.out a1
  replace a2 := liftE HB5.out a2
  replace a3 := liftE HB5.out a3
  replace a4 := liftE HB5.out a4
  replace a5 := liftE HB5.out a5
  replace a6 := liftE HB5.out a6
  replace a7 := liftE HB5.out a7
  replace a8 := liftE HB5.out a8
  replace a9 := liftE HB5.out a9
  replace a10 := liftE HB5.out a10
  clear hb5 r1 b0 b1 b2 b3 b4 b5 b6 b7 b8 b9 b10 s1 s2
  refine (extc_same (HH.out.cmp2 _ _ _)).mono ?_
  rintro x _ ⟨e6, rfl, rfl⟩
  go_wp2_with fail
  refine (extc (HH.out.cmp3 _ _ _)).mono ?_
  rintro x _ ⟨e7, rfl, rfl⟩
  go_wp2_with fail
  go_ret
  exact ⟨ret_bool (by simp), below_trans HB.out (below_trans HB5.out e7.below)⟩
set_option maxRecDepth 100000 in
set_option maxHeartbeats 4000000 in
theorem data_2 (fi : Int) (fb fs : Bool) (A : Option Addr) (n c : Nat) (gk gi : Int) (ge gr g4 g5 g6 : Bool) (g7 g8 g9 : Int) (B : Option Addr) (m d : Nat) (v : Int) (w : World)
    (H : DataC (.agg #[.int .i64 2, .int .u32 fi, .bool false, .bool false, .bool fb, .bool fs, .bool false, .int .u8 0, .int .u8 0, .int .u32 0, .slice A n c]) (.agg #[.int .i64 gk, .int .u32 gi, .bool ge, .bool gr, .bool g4, .bool g5, .bool g6, .int .u8 g7, .int .u8 g8, .int .u32 g9, .slice B m d]) v (fun s => .agg #[.int .i64 2, .int .u32 fi, .bool false, .bool false, .bool (!fb), .bool (!fs), .bool false, .int .u8 0, .int .u8 0, .int .u32 0, s]) 3) :
    Calls Try.prog 5 #[.agg #[.int .i64 2, .int .u32 fi, .bool false, .bool false, .bool fb, .bool fs, .bool false, .int .u8 0, .int .u8 0, .int .u32 0, .slice A n c], .agg #[.int .i64 gk, .int .u32 gi, .bool ge, .bool gr, .bool g4, .bool g5, .bool g6, .int .u8 g7, .int .u8 g8, .int .u32 g9, .slice B m d]] w fun e w' => e = .returned (.bool true) ∧ Below w.heap.size w w' := by
  have HH := Lib.hid H
  clear H
  go_enter Try.func5, Try.ntmps5
  go_wp2_with fail
  refine calls_blk2 (fun W0 q1 q2 hb => ?_)
  have HB := Lib.hid hb
  obtain ⟨a0, a1, a2, a3, a4, a5, a6, a7, a8, a9, a10⟩ := ext11 q1
  obtain ⟨b0, b1, b2, b3, b4, b5, b6, b7, b8, b9, b10⟩ := ext11 q2
  have s1 := fun e : Ext W0 => heap_lt (ext_heap q1 e)
  have s2 := fun e : Ext W0 => heap_lt (ext_heap q2 e)
  clear hb q1 q2
  refine (extc_same (HH.out.alive _)).mono ?_
  rintro x _ ⟨e1, rfl, rfl⟩
  go_wp2_with fail
  refine (extc (HH.out.ok1 _)).mono ?_
  rintro x _ ⟨e2, rfl, rfl⟩
  go_wp2_with fail
  refine (extc (HH.out.ok2 _)).mono ?_
  rintro x _ ⟨e3, rfl, rfl⟩
  go_wp2_with fail
  refine (extc (HH.out.cmp _)).mono ?_
  rintro x _ ⟨e4, rfl, rfl⟩
  go_wp2_with fail
  go_region
  go_wp2_with fail
  refine calls_blk2d (fun W5 r1 hb5 => ?_)
  obtain ⟨d0, d1, d2, d3, d4, d5, d6, d7, d8, d9, d10⟩ := ext11 r1
  have HB5 := Lib.hid (below_trans e4.below hb5)
  replace a0 := liftE HB5.out a0
  replace a1 := liftE HB5.out a1
  replace a2 := liftE HB5.out a2
  replace a3 := liftE HB5.out a3
  replace a4 := liftE HB5.out a4
  replace a5 := liftE HB5.out a5
  replace a6 := liftE HB5.out a6
  replace a7 := liftE HB5.out a7
  replace a8 := liftE HB5.out a8
  replace a9 := liftE HB5.out a9
  replace a10 := liftE HB5.out a10
  clear hb5 r1 b0 b1 b2 b3 b4 b5 b6 b7 b8 b9 b10 s1 s2
  refine (extc_same (HH.out.cmp2 _ _ _)).mono ?_
  rintro x _ ⟨e6, rfl, rfl⟩
  go_wp2_with fail
  refine (extc (HH.out.cmp3 _ _ _)).mono ?_
  rintro x _ ⟨e7, rfl, rfl⟩
  go_wp2_with fail
  go_ret
  exact ⟨ret_bool (by simp), below_trans HB.out (below_trans HB5.out e7.below)⟩
set_option maxRecDepth 100000 in
set_option maxHeartbeats 4000000 in
theorem data_3 (fi : Int) (fb : Bool) (sd vc af : Int) (A : Option Addr) (n c : Nat) (gk gi : Int) (ge gr g4 g5 g6 : Bool) (g7 g8 g9 : Int) (B : Option Addr) (m d : Nat) (v : Int) (w : World)
    (H : DataC (.agg #[.int .i64 3, .int .u32 fi, .bool false, .bool false, .bool false, .bool false, .bool fb, .int .u8 sd, .int .u8 vc, .int .u32 af, .slice A n c]) (.agg #[.int .i64 gk, .int .u32 gi, .bool ge, .bool gr, .bool g4, .bool g5, .bool g6, .int .u8 g7, .int .u8 g8, .int .u32 g9, .slice B m d]) v (fun s => .agg #[.int .i64 3, .int .u32 fi, .bool false, .bool false, .bool false, .bool false, .bool (!fb), .int .u8 (IntKind.u8.wrap (sd + 1)), .int .u8 (IntKind.u8.wrap (vc + 1)), .int .u32 (IntKind.u32.wrap (af + 1)), s]) 3) :
    Calls Try.prog 5 #[.agg #[.int .i64 3, .int .u32 fi, .bool false, .bool false, .bool false, .bool false, .bool fb, .int .u8 sd, .int .u8 vc, .int .u32 af, .slice A n c], .agg #[.int .i64 gk, .int .u32 gi, .bool ge, .bool gr, .bool g4, .bool g5, .bool g6, .int .u8 g7, .int .u8 g8, .int .u32 g9, .slice B m d]] w fun e w' => e = .returned (.bool true) ∧ Below w.heap.size w w' := by
  have HH := Lib.hid H
  clear H
  go_enter Try.func5, Try.ntmps5
  go_wp2_with fail
  refine calls_blk2 (fun W0 q1 q2 hb => ?_)
  have HB := Lib.hid hb
  obtain ⟨a0, a1, a2, a3, a4, a5, a6, a7, a8, a9, a10⟩ := ext11 q1
  obtain ⟨b0, b1, b2, b3, b4, b5, b6, b7, b8, b9, b10⟩ := ext11 q2
  have s1 := fun e : Ext W0 => heap_lt (ext_heap q1 e)
  have s2 := fun e : Ext W0 => heap_lt (ext_heap q2 e)
  clear hb q1 q2
  refine (extc_same (HH.out.alive _)).mono ?_
  rintro x _ ⟨e1, rfl, rfl⟩
  go_wp2_with fail
  refine (extc (HH.out.ok1 _)).mono ?_
  rintro x _ ⟨e2, rfl, rfl⟩
  go_wp2_with fail
  refine (extc (HH.out.ok2 _)).mono ?_
  rintro x _ ⟨e3, rfl, rfl⟩
  go_wp2_with fail
  refine (extc (HH.out.cmp _)).mono ?_
  rintro x _ ⟨e4, rfl, rfl⟩
  go_wp2_with fail
  go_region
  go_wp2_with fail
  go_region
  go_wp2_with fail
  refine calls_blk2dd (fun W5 r1 hb5 => ?_)
  obtain ⟨d0, d1, d2, d3, d4, d5, d6, d7, d8, d9, d10⟩ := ext11 r1
  have HB5 := Lib.hid (below_trans e4.below hb5)
  replace a0 := liftE HB5.out a0
  replace a1 := liftE HB5.out a1
  replace a2 := liftE HB5.out a2
  replace a3 := liftE HB5.out a3
  replace a4 := liftE HB5.out a4
  replace a5 := liftE HB5.out a5
  replace a6 := liftE HB5.out a6
  replace a7 := liftE HB5.out a7
  replace a8 := liftE HB5.out a8
  replace a9 := liftE HB5.out a9
  replace a10 := liftE HB5.out a10
  clear hb5 r1 b0 b1 b2 b3 b4 b5 b6 b7 b8 b9 b10 s1 s2
  refine (extc_same (HH.out.cmp2 _ _ _)).mono ?_
  rintro x _ ⟨e6, rfl, rfl⟩
  go_wp2_with fail
  refine (extc (HH.out.cmp3 _ _ _)).mono ?_
  rintro x _ ⟨e7, rfl, rfl⟩
  go_wp2_with fail
  go_ret
  exact ⟨ret_bool (by simp), below_trans HB.out (below_trans HB5.out e7.below)⟩
theorem dataC (f g : Fr) (A B : Option Addr) (c d : Nat) (hf : f.data.length ≤ 9223372036854775807) (hg : g.data.length ≤ 9223372036854775807) (h0 : 0 ≤ f.id) (h1 : 0 ≤ g.id) (o1 : okF f = true) (o2 : okF g = true) :
    DataC (frv f (.slice A f.data.length c)) (frv g (.slice B g.data.length d)) (cmpF f g) (fun s => frv (otherF f) s) (otherF f).data.length := by
  have o3 : okF (otherF f) = true := (okF_iff _).2 (otherF_ok f ((okF_iff f).1 o1))
  have hl : (otherF f).data.length ≤ 9223372036854775807 := by unfold otherF; dsimp only; split <;> simp
  have z1 : cmpF (otherF f) g = cmpF f g := rfl
  have z2 : cmpF f (otherF f) = 0 := by
    show cmpI (keyF f) (keyF f) = 0
    unfold cmpI; split <;> first | rfl | omega
  refine ⟨alive10, fun W => ?_, fun W => ?_, fun W => ?_, fun C c' W => ?_, fun C c' W => ?_⟩
  · have := Check_any f A c W hf; rw [o1] at this; exact this
  · have := Check_any g B d W hg; rw [o2] at this; exact this
  · have := Compare_any f g A B c d W hf hg h0 h1; rw [o1, o2] at this; exact this
  · have := Compare_any (otherF f) g C B c' d W hl hg h0 h1; rw [o3, o2, z1] at this; exact this
  · have := Compare_any f (otherF f) A C c c' W hf hl h0 h0; rw [o1, o3, z2] at this; exact this
theorem data_walk (f g : Fr) (A B : Option Addr) (c d : Nat) (w : World) (hf : f.data.length ≤ 9223372036854775807) (hg : g.data.length ≤ 9223372036854775807) (h0 : 0 ≤ f.id) (h1 : 0 ≤ g.id) :
    Calls Try.prog 5 #[frv f (.slice A f.data.length c), frv g (.slice B g.data.length d)] w fun e w' => e = .returned (.bool true) ∧ Below w.heap.size w w' := by
  cases o1 : okF f
  · exact data_no f g A B c d w hf hg (Or.inl o1)
  cases o2 : okF g
  · exact data_no f g A B c d w hf hg (Or.inr o2)
  have HD := dataC f g A B c d hf hg h0 h1 o1 o2
  obtain ⟨k1, k2, k3, k4, k5, k6, k7, k8, k9, k10, k11, k12⟩ := (okF_iff f).1 o1
  clear o1 o2 hf hg h0 h1 k2 k3 k6
  generalize cmpF f g = v at *
  obtain ⟨fk, fi, fe, fr, f4, f5, f6, f7, f8, f9, fd⟩ := f
  obtain ⟨gk, gi, ge, gr, g4, g5, g6, g7, g8, g9, gd⟩ := g
  dsimp only at k1 k4 k5 k7 k8 k9 k10 k11 k12
  rcases k1 with rfl | rfl | rfl
  · obtain rfl := k7 (by decide); obtain rfl := k8 (by decide); obtain rfl := k9 (by decide); obtain rfl := k10 (by decide); obtain rfl := k11 (by decide); obtain rfl := k12 (by decide)
    cases fr
    · exact data_1 fi fe A _ c gk gi ge gr g4 g5 g6 g7 g8 g9 B _ d v w HD
    · exact data_1r fi fe A _ c gk gi ge gr g4 g5 g6 g7 g8 g9 B _ d v w HD
  · obtain rfl := k4 (by decide); obtain rfl := k5 (by decide); obtain rfl := k9 (by decide); obtain rfl := k10 (by decide); obtain rfl := k11 (by decide); obtain rfl := k12 (by decide)
    exact data_2 fi f4 f5 A _ c gk gi ge gr g4 g5 g6 g7 g8 g9 B _ d v w HD
  · obtain rfl := k4 (by decide); obtain rfl := k5 (by decide); obtain rfl := k7 (by decide); obtain rfl := k8 (by decide)
    exact data_3 fi f6 f7 f8 f9 A _ c gk gi ge gr g4 g5 g6 g7 g8 g9 B _ d v w HD
end Go.Proofs.Ytbjeblffmgghgaa
