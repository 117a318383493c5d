/- What the functions of layer 5 (frame) answer: sizes, codes, and which frames may be. No condition. -/
import Derived.Test.YtlmdkmflbhnlgaaGreatProg
import Derived.Test.YtlmdkmflbhnlgaaGreatFrame
namespace Go.Proofs.YtlmdkmflbhnlgaaGreat
open Go.RowKit



/-! ### frames -/
structure Fr where
  kind : Int
  id : Int
  ext : Bool
  rtr : Bool
  brs : Bool
  esi : Bool
  sec : Bool
  sdt : Int
  vcid : Int
  af : Int
  data : List Nat
/-- A frame's value, whose data lie at a slice. -/
abbrev frv (f : Fr) (s : Value) : Value := .agg #[.int .i64 f.kind, .int .u32 f.id, .bool f.ext, .bool f.rtr, .bool f.brs, .bool f.esi, .bool f.sec, .int .u8 f.sdt, .int .u8 f.vcid, .int .u32 f.af, s]
def isBytes (l : List Nat) : Prop := ∀ x ∈ l, x < 256
set_option maxHeartbeats 400000 in
theorem bytesEqual_any (A B : Option Addr) (c d : Nat) (a b : List Nat) (w : World) (ha : Rd w A (bys a)) (hb : Rd w B (bys b)) (ba : isBytes a) (bb : isBytes b) :
    Calls Tryz.prog 33 #[.slice A a.length c, .slice B b.length d] w fun e w' => e = .returned (.bool (decide (a = b))) ∧ w = w' := by
  rw [← strOf_inj ba bb]
  have h1 := ha.conv (P := Tryz.prog) (src := 22) (e := 5) (dst := 9) Tryz.underlying22 Tryz.underlying5 Tryz.underlying9 c
  have h2 := hb.conv (P := Tryz.prog) (src := 22) (e := 5) (dst := 9) Tryz.underlying22 Tryz.underlying5 Tryz.underlying9 d
  clear ha hb ba bb
  go_enter Tryz.func33, Tryz.ntmps33
  go_wp2
  go_ret
  exact ⟨rfl, rfl⟩
def sameF (a b : Fr) : Bool := decide (a.kind = b.kind ∧ a.id = b.id ∧ ([a.ext, a.rtr, a.brs, a.esi, a.sec] = [b.ext, b.rtr, b.brs, b.esi, b.sec]) ∧ a.sdt = b.sdt ∧ a.vcid = b.vcid ∧ a.af = b.af ∧ a.data = b.data)
theorem info_bool : (Tryz.prog.info? 4).map (fun i => (i.zero, i.size, i.bytes)) = some (some (.bool false), 1, 1) := by kernel_rfl
theorem guard_bools : Tryz.prog.eqGuardType Tryz.prog.depth 64 = false := by kernel_rfl
set_option maxRecDepth 100000 in
set_option maxHeartbeats 1000000 in
theorem Same_any (a b : Fr) (A B : Option Addr) (c d : Nat) (w : World) (ha : Rd w A (bys a.data)) (hb : Rd w B (bys b.data)) (ba : isBytes a.data) (bb : isBytes b.data) :
    Calls Tryz.prog 18 #[frv a (.slice A a.data.length c), frv b (.slice B b.data.length d)] w fun e w' => e = .returned (.bool (sameF a b)) ∧ Below w.heap.size w w' := by
  obtain ⟨i0, hi, hz0, hz1, hz2⟩ := info_parts info_bool
  have he := fun (w : World) => run_eql_bools5 (P := Tryz.prog) w (t := 64) (tb := 4) Tryz.underlying64 Tryz.underlying4 hi hz1
  have hg := guard_bools
  have HE := Lib.hid (fun W hW1 hW2 => bytesEqual_any A B c d a.data b.data W hW1 hW2 ba bb)
  clear ba bb hi hz0 hz1 hz2
  have HA := Lib.hid ha
  have HB := Lib.hid hb
  clear ha hb
  go_enter Tryz.func18, Tryz.ntmps18
  go_upto_region 1 with (fail)
  simp only [List.append_eq, List.cons_append, List.nil_append]
  go_wp2_with (go_at_call 33; refine (HE.out _ ((HA.out.alloc _).alloc _) ((HB.out.alloc _).alloc _)).mono ?_; rintro e w' ⟨rfl, rfl⟩)
  all_goals
    go_ret
    exact ⟨ret_bool (by simp [sameF, *]), (below_alloc (below_alloc (Below.refl _ _) _) _)⟩
end Go.Proofs.YtlmdkmflbhnlgaaGreat
