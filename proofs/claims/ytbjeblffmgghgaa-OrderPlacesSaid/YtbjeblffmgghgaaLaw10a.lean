/- The document's example of layer 10, as the law asks it. No condition. -/
import Derived.Test.YtbjeblffmgghgaaKey
namespace Go.Proofs.Ytbjeblffmgghgaa
open Go.RowKit
def exC : Fr := { kind := 1, id := 5, ext := false, rtr := false, brs := false, esi := false, sec := false, sdt := 0, vcid := 0, af := 0, data := [] }
def exD : Fr := { kind := 2, id := 5, ext := false, rtr := false, brs := false, esi := false, sec := false, sdt := 0, vcid := 0, af := 0, data := [] }
def exX : Fr := { kind := 3, id := 5, ext := false, rtr := false, brs := false, esi := false, sec := false, sdt := 0, vcid := 0, af := 0, data := [1] }
def exE : Fr := { kind := 1, id := 1310720, ext := true, rtr := false, brs := false, esi := false, sec := false, sdt := 0, vcid := 0, af := 0, data := [] }
theorem ex1 (w : World) : Calls Try.prog 18 #[.agg #[.int .i64 1, .int .u32 5, .bool false, .bool false, .bool false, .bool false, .bool false, .int .u8 0, .int .u8 0, .int .u32 0, .slice none 0 0], .agg #[.int .i64 2, .int .u32 5, .bool false, .bool false, .bool false, .bool false, .bool false, .int .u8 0, .int .u8 0, .int .u32 0, .slice none 0 0]] w
    fun e w' => e = .returned (.tuple #[.int .i64 (-1), .int .i64 0]) ∧ Below w.heap.size w w' := by
  have h := Compare_any exC exD none none 0 0 w (by decide) (by decide) (by decide) (by decide)
  have e1 : (okF exC && okF exD) = true := by decide
  have e2 : cmpF exC exD = -1 := by decide
  rw [e1, e2] at h
  exact h
theorem ex2 (A : Option Addr) (c : Nat) (w : World) : Calls Try.prog 18 #[.agg #[.int .i64 3, .int .u32 5, .bool false, .bool false, .bool false, .bool false, .bool false, .int .u8 0, .int .u8 0, .int .u32 0, .slice A 1 c], .agg #[.int .i64 2, .int .u32 5, .bool false, .bool false, .bool false, .bool false, .bool false, .int .u8 0, .int .u8 0, .int .u32 0, .slice none 0 0]] w
    fun e w' => e = .returned (.tuple #[.int .i64 1, .int .i64 0]) ∧ Below w.heap.size w w' := by
  have h := Compare_any exX exD A none c 0 w (by decide) (by decide) (by decide) (by decide)
  have e1 : (okF exX && okF exD) = true := by decide
  have e2 : cmpF exX exD = 1 := by decide
  rw [e1, e2] at h
  exact h
theorem ex3 (A : Option Addr) (c : Nat) (w : World) : Calls Try.prog 18 #[.agg #[.int .i64 1, .int .u32 1310720, .bool true, .bool false, .bool false, .bool false, .bool false, .int .u8 0, .int .u8 0, .int .u32 0, .slice none 0 0], .agg #[.int .i64 3, .int .u32 5, .bool false, .bool false, .bool false, .bool false, .bool false, .int .u8 0, .int .u8 0, .int .u32 0, .slice A 1 c]] w
    fun e w' => e = .returned (.tuple #[.int .i64 1, .int .i64 0]) ∧ Below w.heap.size w w' := by
  have h := Compare_any exE exX none A 0 c w (by decide) (by decide) (by decide) (by decide)
  have e1 : (okF exE && okF exX) = true := by decide
  have e2 : cmpF exE exX = 1 := by decide
  rw [e1, e2] at h
  exact h
set_option maxHeartbeats 1000000 in
theorem alive10 (w : World) : Calls Try.prog 15 #[] w fun e w' => e = .returned (.bool true) ∧ Below w.heap.size w w' := by
  go_enter Try.func15, Try.ntmps15
  go_wp2_with fail
  refine (ex1 _).mono ?_
  rintro e w1 ⟨rfl, hb1⟩
  have HB1 := Lib.hid hb1
  clear hb1
  go_wp2_with fail
  refine (ex2 _ _ _).mono ?_
  rintro e w2 ⟨rfl, hb2⟩
  have HB2 := Lib.hid hb2
  clear hb2
  go_wp2_with fail
  refine (ex3 _ _ _).mono ?_
  rintro e w3 ⟨rfl, hb3⟩
  have HB3 := Lib.hid hb3
  clear hb3
  go_wp2_with fail
  go_ret
  exact ⟨rfl, below_trans (below_alloc (below_trans (below_alloc HB1.out _) HB2.out) _) HB3.out⟩
end Go.Proofs.Ytbjeblffmgghgaa
