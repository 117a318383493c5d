/- Words, walks and plain facts that several laws need, part 11: each with its own head. No condition. -/
import Derived.Test.YtlmdkmflbhnlgaaGreatZScan10
import Derived.Test.YtlmdkmflbhnlgaaGreatRows
import Derived.ProofKit
import Derived.OpenShut
import Derived.ChangeOld
import Derived.SizedLaws
-- Row: How a law's arguments read as frames, for the laws' rows. No condition.
namespace Go.Proofs.YtlmdkmflbhnlgaaGreat
open Go.ChangeShapes Go.WideShapes Go.ChangeAt Go.RowKit

theorem own : ownKnob Tryz.prog.godebug = none := by kernel_rfl
theorem laidOut : laidOutB Tryz.prog = true := by kernel_rfl
/-- The numbers of a frame that was read are of their kinds. -/
structure FrWf (f : Fr) : Prop where
  id0 : 0 ≤ f.id
  id1 : f.id < 4294967296
  kind0 : -9223372036854775808 ≤ f.kind
  kind1 : f.kind ≤ 9223372036854775807
  sdt0 : 0 ≤ f.sdt
  sdt1 : f.sdt < 256
  vcid0 : 0 ≤ f.vcid
  vcid1 : f.vcid < 256
  af0 : 0 ≤ f.af
  af1 : f.af < 4294967296
  data : isBytes f.data
  len : f.data.length ≤ 9223372036854775807
section
variable {H : Type} {enc : TypeId × Value → H} {W : World} {base : Nat} {spare : Nat → Bool} {held : Bool}
theorem one_cell (t : TypeId) (h : Tryz.prog.cellsOf t = 1) (cs : List Value) (k : Nat) (v : Value) (hv : cs[k]? = some v) : List.take (Tryz.prog.cellsOf t) (List.drop k cs) = [v] := by
  rw [h]
  have hk : k < cs.length := (List.getElem?_eq_some_iff.1 hv).1
  rw [List.drop_eq_getElem_cons hk]
  simp [List.getElem?_eq_getElem hk] at hv
  simp [hv]
theorem cells_frame : Tryz.prog.cellsOf 28 = 11 := by kernel_rfl
theorem cells_int : Tryz.prog.cellsOf 3 = 1 := by kernel_rfl
theorem cells_u32 : Tryz.prog.cellsOf 26 = 1 := by kernel_rfl
theorem cells_u8 : Tryz.prog.cellsOf 5 = 1 := by kernel_rfl
theorem cells_bool : Tryz.prog.cellsOf 4 = 1 := by kernel_rfl
theorem cells_bytes : Tryz.prog.cellsOf 22 = 1 := by kernel_rfl
/-- A slice of bytes that reads. -/
theorem read_bytes {fuel : Nat} {v : Value} {x : DataW H × List MemPlace} (h : DataW.trod enc Tryz.prog W base spare held fuel 22 [v] = some x) :
    ∃ (A : Option Addr) (l : List Nat) (c : Nat), v = .slice A l.length c ∧ Rd W A (bys l) ∧ isBytes l ∧ l.length ≤ c ∧ c ≤ 9223372036854775807 := by
  rcases open_ints Tryz.underlying22 Tryz.underlying5 cells_u8 h with ⟨hcs, _⟩ | ⟨a, len, cap, zs, hcs, _, hl, hm, hz, _, hcell, hwz⟩
  · simp at hcs
    subst hcs
    exact ⟨none, [], 0, rfl, Rd.nil _ _, by intro x hx; simp at hx, by simp, by omega⟩
  · simp at hcs
    subst hcs
    have hzl : len ≤ zs.length := by rw [hz]; split <;> omega
    have hbd : ∀ n ∈ zs, 0 ≤ n ∧ n < 256 := fun n hn => by have := bounds_u8 (hwz n hn); omega
    refine ⟨some a, (zs.take len).map Int.toNat, cap, by simp [hzl], ?_, ?_, by simp [hzl]; exact hl, by unfold maxLen at hm; omega⟩
    · intro j u hj
      refine ⟨a, rfl, ?_⟩
      simp only [bys, List.map_map] at hj
      have hj' : j < len := by
        have := (List.getElem?_eq_some_iff.1 hj).1
        simp at this
        omega
      rw [hcell j (by omega)]
      rw [← hj]
      have hjz : j < zs.length := by omega
      simp [hj', List.getElem?_eq_getElem hjz, List.getD]
      have := hbd zs[j] (List.getElem_mem hjz)
      omega
    · intro x hx
      rw [List.mem_map] at hx
      obtain ⟨n, hn, rfl⟩ := hx
      have := hbd n (List.mem_of_mem_take hn)
      omega
set_option maxRecDepth 100000 in
/-- A frame's eleven cells that read. -/
theorem read_frame {fuel : Nat} {cs : List Value} {x : DataW H × List MemPlace} (h : DataW.trod enc Tryz.prog W base spare held fuel 28 cs = some x) :
    ∃ (f : Fr) (A : Option Addr) (c : Nat), cs = [.int .i64 f.kind, .int .u32 f.id, .bool f.ext, .bool f.rtr, .bool f.brs, .bool f.esi, .bool f.sec, .int .u8 f.sdt, .int .u8 f.vcid, .int .u32 f.af, .slice A f.data.length c] ∧
      Rd W A (bys f.data) ∧ FrWf f ∧ f.data.length ≤ c := by
  obtain ⟨xs, n, _, _, hlen, hxl, hg⟩ := DataW.trod_struct Tryz.underlying28 h
  rw [cells_frame] at hlen
  match cs, hlen with
  | [v0, v1, v2, v3, v4, v5, v6, v7, v8, v9, v10], _ =>
    match xs, hxl with
    | [y0, y1, y2, y3, y4, y5, y6, y7, y8, y9, y10], _ =>
      have g0 : DataW.trod enc Tryz.prog W base spare held n 3 (List.take (Tryz.prog.cellsOf 3) (List.drop 0 [v0, v1, v2, v3, v4, v5, v6, v7, v8, v9, v10])) = some y0 := hg 0 _ rfl
      have g1 : DataW.trod enc Tryz.prog W base spare held n 26 (List.take (Tryz.prog.cellsOf 26) (List.drop 1 [v0, v1, v2, v3, v4, v5, v6, v7, v8, v9, v10])) = some y1 := hg 1 _ rfl
      have g2 : DataW.trod enc Tryz.prog W base spare held n 4 (List.take (Tryz.prog.cellsOf 4) (List.drop 2 [v0, v1, v2, v3, v4, v5, v6, v7, v8, v9, v10])) = some y2 := hg 2 _ rfl
      have g3 : DataW.trod enc Tryz.prog W base spare held n 4 (List.take (Tryz.prog.cellsOf 4) (List.drop 3 [v0, v1, v2, v3, v4, v5, v6, v7, v8, v9, v10])) = some y3 := hg 3 _ rfl
      have g4 : DataW.trod enc Tryz.prog W base spare held n 4 (List.take (Tryz.prog.cellsOf 4) (List.drop 4 [v0, v1, v2, v3, v4, v5, v6, v7, v8, v9, v10])) = some y4 := hg 4 _ rfl
      have g5 : DataW.trod enc Tryz.prog W base spare held n 4 (List.take (Tryz.prog.cellsOf 4) (List.drop 5 [v0, v1, v2, v3, v4, v5, v6, v7, v8, v9, v10])) = some y5 := hg 5 _ rfl
      have g6 : DataW.trod enc Tryz.prog W base spare held n 4 (List.take (Tryz.prog.cellsOf 4) (List.drop 6 [v0, v1, v2, v3, v4, v5, v6, v7, v8, v9, v10])) = some y6 := hg 6 _ rfl
      have g7 : DataW.trod enc Tryz.prog W base spare held n 5 (List.take (Tryz.prog.cellsOf 5) (List.drop 7 [v0, v1, v2, v3, v4, v5, v6, v7, v8, v9, v10])) = some y7 := hg 7 _ rfl
      have g8 : DataW.trod enc Tryz.prog W base spare held n 5 (List.take (Tryz.prog.cellsOf 5) (List.drop 8 [v0, v1, v2, v3, v4, v5, v6, v7, v8, v9, v10])) = some y8 := hg 8 _ rfl
      have g9 : DataW.trod enc Tryz.prog W base spare held n 26 (List.take (Tryz.prog.cellsOf 26) (List.drop 9 [v0, v1, v2, v3, v4, v5, v6, v7, v8, v9, v10])) = some y9 := hg 9 _ rfl
      have g10 : DataW.trod enc Tryz.prog W base spare held n 22 (List.take (Tryz.prog.cellsOf 22) (List.drop 10 [v0, v1, v2, v3, v4, v5, v6, v7, v8, v9, v10])) = some y10 := hg 10 _ rfl
      rw [one_cell _ cells_int _ 0 v0 rfl] at g0
      rw [one_cell _ cells_u32 _ 1 v1 rfl] at g1
      rw [one_cell _ cells_bool _ 2 v2 rfl] at g2
      rw [one_cell _ cells_bool _ 3 v3 rfl] at g3
      rw [one_cell _ cells_bool _ 4 v4 rfl] at g4
      rw [one_cell _ cells_bool _ 5 v5 rfl] at g5
      rw [one_cell _ cells_bool _ 6 v6 rfl] at g6
      rw [one_cell _ cells_u8 _ 7 v7 rfl] at g7
      rw [one_cell _ cells_u8 _ 8 v8 rfl] at g8
      rw [one_cell _ cells_u32 _ 9 v9 rfl] at g9
      rw [one_cell _ cells_bytes _ 10 v10 rfl] at g10
      obtain ⟨n0, e0, _, w0⟩ := DataW.trod_int Tryz.underlying3 g0
      obtain ⟨n1, e1, _, w1⟩ := DataW.trod_int Tryz.underlying26 g1
      obtain ⟨b2, e2, _⟩ := DataW.trod_bool Tryz.underlying4 g2
      obtain ⟨b3, e3, _⟩ := DataW.trod_bool Tryz.underlying4 g3
      obtain ⟨b4, e4, _⟩ := DataW.trod_bool Tryz.underlying4 g4
      obtain ⟨b5, e5, _⟩ := DataW.trod_bool Tryz.underlying4 g5
      obtain ⟨b6, e6, _⟩ := DataW.trod_bool Tryz.underlying4 g6
      obtain ⟨n7, e7, _, w7⟩ := DataW.trod_int Tryz.underlying5 g7
      obtain ⟨n8, e8, _, w8⟩ := DataW.trod_int Tryz.underlying5 g8
      obtain ⟨n9, e9, _, w9⟩ := DataW.trod_int Tryz.underlying26 g9
      obtain ⟨A, l, c, e10, hr, hb, hlc, hcm⟩ := read_bytes g10
      simp only [List.cons.injEq, and_true] at e0 e1 e2 e3 e4 e5 e6 e7 e8 e9
      subst e0 e1 e2 e3 e4 e5 e6 e7 e8 e9 e10
      have k0 := bounds_i64 w0
      have k1 := bounds_u32 w1
      have k7 := bounds_u8 w7
      have k8 := bounds_u8 w8
      have k9 := bounds_u32 w9
      exact ⟨⟨n0, n1, b2, b3, b4, b5, b6, n7, n8, n9, l⟩, A, c, rfl, hr, by constructor <;> first | exact hb | (dsimp only; omega), hlc⟩
set_option maxRecDepth 100000 in
/-- A frame by value. -/
theorem open_frame {r : Reach} {b0 : Nat} {v : Value} {d : DataW H} {p : List MemPlace} (hv : Value.okWide Tryz.prog W r b0 28 v) (h : DataW.Trod enc Tryz.prog W base spare held 28 v d p) :
    ∃ (f : Fr) (A : Option Addr) (c : Nat), v = frv f (.slice A f.data.length c) ∧ Rd W A (bys f.data) ∧ FrWf f ∧ f.data.length ≤ c := by
  obtain ⟨cs, rfl, _⟩ := okWide_struct Tryz.underlying28 hv
  obtain ⟨fuel, hf⟩ := h
  obtain ⟨f, A, c, hcs, hr, hw, hc⟩ := read_frame hf
  refine ⟨f, A, c, ?_, hr, hw, hc⟩
  obtain ⟨l⟩ := cs
  simp only [Value.cells] at hcs
  rw [hcs]
end
/-- The frame of zeros. -/
abbrev zeroV : Value := .agg #[.int .i64 0, .int .u32 0, .bool false, .bool false, .bool false, .bool false, .bool false, .int .u8 0, .int .u8 0, .int .u32 0, .slice none 0 0]
end Go.Proofs.YtlmdkmflbhnlgaaGreat
-- RowBytes: How a law's arguments read as bytes. No condition.
namespace Go.Proofs.YtlmdkmflbhnlgaaGreat
open Go.ChangeShapes Go.WideShapes Go.ChangeAt Go.RowKit
section
variable {H : Type} {enc : TypeId × Value → H} {W : World} {base : Nat} {spare : Nat → Bool} {held : Bool}
/-- A slice of bytes that reads, and what it has if it is nil. -/
theorem read_bytesZ {fuel : Nat} {v : Value} {x : DataW H × List MemPlace} (h : DataW.trod enc Tryz.prog W base spare held fuel 22 [v] = some x) :
    ∃ (A : Option Addr) (l : List Nat) (c : Nat), v = .slice A l.length c ∧ Rd W A (bys l) ∧ isBytes l ∧ l.length ≤ c ∧ c ≤ 9223372036854775807 ∧ (A = none → c = 0) := by
  rcases open_ints Tryz.underlying22 Tryz.underlying5 cells_u8 h with ⟨hcs, _⟩ | ⟨a, len, cap, zs, hcs, _, hl, hm, hz, _, hcell, hwz⟩
  · simp at hcs
    subst hcs
    exact ⟨none, [], 0, rfl, Rd.nil _ _, by intro x hx; simp at hx, by simp, by omega, fun _ => rfl⟩
  · simp at hcs
    subst hcs
    have hzl : len ≤ zs.length := by rw [hz]; split <;> omega
    have hbd : ∀ n ∈ zs, 0 ≤ n ∧ n < 256 := fun n hn => by have := bounds_u8 (hwz n hn); omega
    refine ⟨some a, (zs.take len).map Int.toNat, cap, by simp [hzl], ?_, ?_, by simp [hzl]; exact hl, by unfold maxLen at hm; omega, fun e => by cases e⟩
    · intro j u hj
      refine ⟨a, rfl, ?_⟩
      simp only [bys, List.map_map] at hj
      have hj' : j < len := by
        have := (List.getElem?_eq_some_iff.1 hj).1
        simp at this
        omega
      rw [hcell j (by omega)]
      rw [← hj]
      have hjz : j < zs.length := by omega
      simp [hj', List.getElem?_eq_getElem hjz, List.getD]
      have := hbd zs[j] (List.getElem_mem hjz)
      omega
    · intro x hx
      rw [List.mem_map] at hx
      obtain ⟨n, hn, rfl⟩ := hx
      have := hbd n (List.mem_of_mem_take hn)
      omega
set_option maxRecDepth 100000 in
theorem open_bytesZ {r : Reach} {b0 : Nat} {v : Value} {d : DataW H} {p : List MemPlace} (hv : Value.okWide Tryz.prog W r b0 22 v) (h : DataW.Trod enc Tryz.prog W base spare held 22 v d p) :
    ∃ (A : Option Addr) (l : List Nat) (c : Nat), v = .slice A l.length c ∧ Rd W A (bys l) ∧ isBytes l ∧ l.length ≤ c ∧ c ≤ 9223372036854775807 ∧ (A = none → c = 0) := by
  obtain ⟨a, len, cap, rfl⟩ := okWide_slice Tryz.underlying22 hv
  obtain ⟨fuel, hf⟩ := h
  exact read_bytesZ (v := .slice a len cap) hf
end
end Go.Proofs.YtlmdkmflbhnlgaaGreat
