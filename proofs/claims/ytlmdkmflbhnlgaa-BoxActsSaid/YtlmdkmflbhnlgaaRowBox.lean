/- How a law's arguments read as what a box is to be, and as frames. No condition. -/
import Derived.Test.YtlmdkmflbhnlgaaRow
import Derived.Test.YtlmdkmflbhnlgaaLawBoxF0
import Derived.Deep.SlicePairs
namespace Go.Proofs.Ytlmdkmflbhnlgaa
open Go.ChangeShapes Go.WideShapes Go.ChangeAt Go.RowKit Go.Deep
section
variable {H : Type} {enc : TypeId × Value → H} {W : World} {base : Nat} {spare : Nat → Bool} {held : Bool}
/-- A slice of bytes that reads. -/
theorem read_bytes2 {fuel : Nat} {v : Value} {x : DataW H × List MemPlace} (h : DataW.trod enc Try.prog W base spare held fuel 40 [v] = some x) :
    ∃ (A : Option Addr) (l : List Nat) (c : Nat), v = .slice A l.length c ∧ Rd W A (bys l) ∧ isBytes l ∧ l.length ≤ c ∧ c ≤ 9223372036854775807 ∧ (A = none → c = 0) := by
  rcases open_ints Try.underlying40 Try.underlying5 cells_u8 h with ⟨hcs, _⟩ | ⟨a, len, cap, zs, hcs, _, hl, hm, hz, _, hcell, hwz⟩
  · simp at hcs
    subst hcs
    exact ⟨none, [], 0, rfl, Rd.nil _ _, by intro x hx; simp at hx, by simp, by omega, fun _ => rfl⟩
  · simp at hcs
    subst hcs
    have hzl : len ≤ zs.length := by rw [hz]; split <;> omega
    have hbd : ∀ n ∈ zs, 0 ≤ n ∧ n < 256 := fun n hn => by have := bounds_u8 (hwz n hn); omega
    refine ⟨some a, (zs.take len).map Int.toNat, cap, by simp [hzl], ?_, ?_, by simp [hzl]; exact hl, by unfold maxLen at hm; omega, fun h => by cases h⟩
    · intro j u hj
      refine ⟨a, rfl, ?_⟩
      simp only [bys, List.map_map] at hj
      have hj' : j < len := by
        have := (List.getElem?_eq_some_iff.1 hj).1
        simp at this
        omega
      rw [hcell j (by omega)]
      rw [← hj]
      have hjz : j < zs.length := by omega
      simp [hj', List.getElem?_eq_getElem hjz, List.getD]
      have := hbd zs[j] (List.getElem_mem hjz)
      omega
    · intro x hx
      rw [List.mem_map] at hx
      obtain ⟨n, hn, rfl⟩ := hx
      have := hbd n (List.mem_of_mem_take hn)
      omega
set_option maxRecDepth 100000 in
/-- A frame's eleven cells that read. -/
theorem read_frame2 {fuel : Nat} {cs : List Value} {x : DataW H × List MemPlace} (h : DataW.trod enc Try.prog W base spare held fuel 42 cs = some x) :
    ∃ (f : Fr) (A : Option Addr) (c : Nat), cs = [.int .i64 f.kind, .int .u32 f.id, .bool f.ext, .bool f.rtr, .bool f.brs, .bool f.esi, .bool f.sec, .int .u8 f.sdt, .int .u8 f.vcid, .int .u32 f.af, .slice A f.data.length c] ∧
      Rd W A (bys f.data) ∧ FrWf f ∧ (A = none → c = 0) := by
  obtain ⟨xs, n, _, _, hlen, hxl, hg⟩ := DataW.trod_struct Try.underlying42 h
  rw [cells_frame] at hlen
  match cs, hlen with
  | [v0, v1, v2, v3, v4, v5, v6, v7, v8, v9, v10], _ =>
    match xs, hxl with
    | [y0, y1, y2, y3, y4, y5, y6, y7, y8, y9, y10], _ =>
      have g0 : DataW.trod enc Try.prog W base spare held n 3 (List.take (Try.prog.cellsOf 3) (List.drop 0 [v0, v1, v2, v3, v4, v5, v6, v7, v8, v9, v10])) = some y0 := hg 0 _ rfl
      have g1 : DataW.trod enc Try.prog W base spare held n 39 (List.take (Try.prog.cellsOf 39) (List.drop 1 [v0, v1, v2, v3, v4, v5, v6, v7, v8, v9, v10])) = some y1 := hg 1 _ rfl
      have g2 : DataW.trod enc Try.prog W base spare held n 4 (List.take (Try.prog.cellsOf 4) (List.drop 2 [v0, v1, v2, v3, v4, v5, v6, v7, v8, v9, v10])) = some y2 := hg 2 _ rfl
      have g3 : DataW.trod enc Try.prog W base spare held n 4 (List.take (Try.prog.cellsOf 4) (List.drop 3 [v0, v1, v2, v3, v4, v5, v6, v7, v8, v9, v10])) = some y3 := hg 3 _ rfl
      have g4 : DataW.trod enc Try.prog W base spare held n 4 (List.take (Try.prog.cellsOf 4) (List.drop 4 [v0, v1, v2, v3, v4, v5, v6, v7, v8, v9, v10])) = some y4 := hg 4 _ rfl
      have g5 : DataW.trod enc Try.prog W base spare held n 4 (List.take (Try.prog.cellsOf 4) (List.drop 5 [v0, v1, v2, v3, v4, v5, v6, v7, v8, v9, v10])) = some y5 := hg 5 _ rfl
      have g6 : DataW.trod enc Try.prog W base spare held n 4 (List.take (Try.prog.cellsOf 4) (List.drop 6 [v0, v1, v2, v3, v4, v5, v6, v7, v8, v9, v10])) = some y6 := hg 6 _ rfl
      have g7 : DataW.trod enc Try.prog W base spare held n 5 (List.take (Try.prog.cellsOf 5) (List.drop 7 [v0, v1, v2, v3, v4, v5, v6, v7, v8, v9, v10])) = some y7 := hg 7 _ rfl
      have g8 : DataW.trod enc Try.prog W base spare held n 5 (List.take (Try.prog.cellsOf 5) (List.drop 8 [v0, v1, v2, v3, v4, v5, v6, v7, v8, v9, v10])) = some y8 := hg 8 _ rfl
      have g9 : DataW.trod enc Try.prog W base spare held n 39 (List.take (Try.prog.cellsOf 39) (List.drop 9 [v0, v1, v2, v3, v4, v5, v6, v7, v8, v9, v10])) = some y9 := hg 9 _ rfl
      have g10 : DataW.trod enc Try.prog W base spare held n 40 (List.take (Try.prog.cellsOf 40) (List.drop 10 [v0, v1, v2, v3, v4, v5, v6, v7, v8, v9, v10])) = some y10 := hg 10 _ rfl
      rw [one_cell _ cells_int _ 0 v0 rfl] at g0
      rw [one_cell _ cells_u32 _ 1 v1 rfl] at g1
      rw [one_cell _ cells_bool _ 2 v2 rfl] at g2
      rw [one_cell _ cells_bool _ 3 v3 rfl] at g3
      rw [one_cell _ cells_bool _ 4 v4 rfl] at g4
      rw [one_cell _ cells_bool _ 5 v5 rfl] at g5
      rw [one_cell _ cells_bool _ 6 v6 rfl] at g6
      rw [one_cell _ cells_u8 _ 7 v7 rfl] at g7
      rw [one_cell _ cells_u8 _ 8 v8 rfl] at g8
      rw [one_cell _ cells_u32 _ 9 v9 rfl] at g9
      rw [one_cell _ cells_bytes _ 10 v10 rfl] at g10
      obtain ⟨n0, e0, _, w0⟩ := DataW.trod_int Try.underlying3 g0
      obtain ⟨n1, e1, _, w1⟩ := DataW.trod_int Try.underlying39 g1
      obtain ⟨b2, e2, _⟩ := DataW.trod_bool Try.underlying4 g2
      obtain ⟨b3, e3, _⟩ := DataW.trod_bool Try.underlying4 g3
      obtain ⟨b4, e4, _⟩ := DataW.trod_bool Try.underlying4 g4
      obtain ⟨b5, e5, _⟩ := DataW.trod_bool Try.underlying4 g5
      obtain ⟨b6, e6, _⟩ := DataW.trod_bool Try.underlying4 g6
      obtain ⟨n7, e7, _, w7⟩ := DataW.trod_int Try.underlying5 g7
      obtain ⟨n8, e8, _, w8⟩ := DataW.trod_int Try.underlying5 g8
      obtain ⟨n9, e9, _, w9⟩ := DataW.trod_int Try.underlying39 g9
      obtain ⟨A, l, c, e10, hr, hb, hlc, hcm, hnz⟩ := read_bytes2 g10
      simp only [List.cons.injEq, and_true] at e0 e1 e2 e3 e4 e5 e6 e7 e8 e9
      subst e0 e1 e2 e3 e4 e5 e6 e7 e8 e9 e10
      have k0 := bounds_i64 w0
      have k1 := bounds_u32 w1
      have k7 := bounds_u8 w7
      have k8 := bounds_u8 w8
      have k9 := bounds_u32 w9
      exact ⟨⟨n0, n1, b2, b3, b4, b5, b6, n7, n8, n9, l⟩, A, c, rfl, hr, by constructor <;> first | exact hb | (dsimp only; omega), hnz⟩
instance : Inhabited Ru := ⟨⟨0, 0, 0, 0, 0, 0, 0, 0, 0, false⟩⟩
instance : Inhabited SF := ⟨⟨⟨0, 0, false, false, false, false, false, 0, 0, 0, []⟩, none, 0⟩⟩
theorem cells_rule : Try.prog.cellsOf 120 = 10 := by kernel_rfl
theorem cells_rules : Try.prog.cellsOf 22 = 1 := by kernel_rfl
theorem cells_bank : Try.prog.cellsOf 24 = 2 := by kernel_rfl
theorem cells_conf : Try.prog.cellsOf 26 = 5 := by kernel_rfl
theorem bytes_rule : Try.prog.bytesOf 120 = 32 := by kernel_rfl
theorem wf_of {f : Fr} (h : FrWf f) : FrIn f := ⟨h.id0, h.id1, h.sdt0, h.sdt1, h.vcid0, h.vcid1, h.af0, h.af1, h.data, h.len⟩
set_option maxRecDepth 100000 in
/-- A slice of frames that reads. -/
theorem read_sfs {fuel : Nat} {v : Value} {x : DataW H × List MemPlace} (h : DataW.trod enc Try.prog W base spare held fuel 27 [v] = some x) :
    ∃ (gs : List SF) (A : Option Addr) (c : Nat), v = .slice A gs.length c ∧ RdSF W A gs ∧ (∀ s ∈ gs, SFIn W s) ∧ gs.length ≤ 9223372036854775807 := by
  rcases open_slice Try.underlying27 h with ⟨hcs, _⟩ | ⟨a, len, cap, m, n, D, Pl, hcs, hb, hl, hm, hmm, _, hx⟩
  · simp at hcs
    subst hcs
    exact ⟨[], none, 0, rfl, fun j hj => by simp at hj, fun f hf => by simp at hf, by simp⟩
  · simp at hcs
    subst hcs
    have hlm : len ≤ m := by rw [hmm]; split <;> omega
    have each : ∀ i, i < len → ∃ s : SF, SFIn W s ∧ ∀ k u, (frL s)[k]? = some u → W.cell? ((a.add (i * 11)).add k) = some u := by
      intro i hi
      obtain ⟨cs', h1, h2⟩ := hx i (by omega)
      rw [cells_frame] at h1
      obtain ⟨_, hlen, hcell⟩ := World.cells?_some h1
      obtain ⟨f, B, c, rfl, hrd, hw, hnz⟩ := read_frame2 h2
      refine ⟨⟨f, B, c⟩, ⟨hrd, hnz, wf_of hw⟩, fun k u hk => ?_⟩
      have hk11 : k < 11 := by have := (List.getElem?_eq_some_iff.1 hk).1; simpa [frL] using this
      rw [hcell k hk11]
      exact hk
    obtain ⟨q, hq⟩ := choose_lt each
    refine ⟨(List.range len).map q, some a, cap, by simp, fun j hj => ?_, fun s hs => ?_, by unfold maxLen at hm; simp; omega⟩
    · have hj' : j < len := by simpa using hj
      refine ⟨a, rfl, ?_⟩
      simp only [List.getElem_map, List.getElem_range]
      exact (hq j hj').2
    · obtain ⟨i, hi, rfl⟩ := List.mem_map.1 hs
      exact (hq i (List.mem_range.1 hi)).1
set_option maxRecDepth 100000 in
/-- A rule's ten cells that read. -/
theorem read_rule {fuel : Nat} {cs : List Value} {x : DataW H × List MemPlace} (h : DataW.trod enc Try.prog W base spare held fuel 120 cs = some x) : ∃ r : Ru, cs = ruL r ∧ RuWf r := by
  obtain ⟨xs, n, _, _, hlen, hxl, hg⟩ := DataW.trod_struct Try.underlying120 h
  rw [cells_rule] at hlen
  match cs, hlen with
  | [v0, v1, v2, v3, v4, v5, v6, v7, v8, v9], _ =>
    match xs, hxl with
    | [y0, y1, y2, y3, y4, y5, y6, y7, y8, y9], _ =>
      have g0 : DataW.trod enc Try.prog W base spare held n 3 (List.take (Try.prog.cellsOf 3) (List.drop 0 [v0, v1, v2, v3, v4, v5, v6, v7, v8, v9])) = some y0 := hg 0 _ rfl
      have g1 : DataW.trod enc Try.prog W base spare held n 39 (List.take (Try.prog.cellsOf 39) (List.drop 1 [v0, v1, v2, v3, v4, v5, v6, v7, v8, v9])) = some y1 := hg 1 _ rfl
      have g2 : DataW.trod enc Try.prog W base spare held n 39 (List.take (Try.prog.cellsOf 39) (List.drop 2 [v0, v1, v2, v3, v4, v5, v6, v7, v8, v9])) = some y2 := hg 2 _ rfl
      have g3 : DataW.trod enc Try.prog W base spare held n 5 (List.take (Try.prog.cellsOf 5) (List.drop 3 [v0, v1, v2, v3, v4, v5, v6, v7, v8, v9])) = some y3 := hg 3 _ rfl
      have g4 : DataW.trod enc Try.prog W base spare held n 5 (List.take (Try.prog.cellsOf 5) (List.drop 4 [v0, v1, v2, v3, v4, v5, v6, v7, v8, v9])) = some y4 := hg 4 _ rfl
      have g5 : DataW.trod enc Try.prog W base spare held n 5 (List.take (Try.prog.cellsOf 5) (List.drop 5 [v0, v1, v2, v3, v4, v5, v6, v7, v8, v9])) = some y5 := hg 5 _ rfl
      have g6 : DataW.trod enc Try.prog W base spare held n 5 (List.take (Try.prog.cellsOf 5) (List.drop 6 [v0, v1, v2, v3, v4, v5, v6, v7, v8, v9])) = some y6 := hg 6 _ rfl
      have g7 : DataW.trod enc Try.prog W base spare held n 39 (List.take (Try.prog.cellsOf 39) (List.drop 7 [v0, v1, v2, v3, v4, v5, v6, v7, v8, v9])) = some y7 := hg 7 _ rfl
      have g8 : DataW.trod enc Try.prog W base spare held n 39 (List.take (Try.prog.cellsOf 39) (List.drop 8 [v0, v1, v2, v3, v4, v5, v6, v7, v8, v9])) = some y8 := hg 8 _ rfl
      have g9 : DataW.trod enc Try.prog W base spare held n 4 (List.take (Try.prog.cellsOf 4) (List.drop 9 [v0, v1, v2, v3, v4, v5, v6, v7, v8, v9])) = some y9 := hg 9 _ rfl
      rw [one_cell _ cells_int _ 0 v0 rfl] at g0
      rw [one_cell _ cells_u32 _ 1 v1 rfl] at g1
      rw [one_cell _ cells_u32 _ 2 v2 rfl] at g2
      rw [one_cell _ cells_u8 _ 3 v3 rfl] at g3
      rw [one_cell _ cells_u8 _ 4 v4 rfl] at g4
      rw [one_cell _ cells_u8 _ 5 v5 rfl] at g5
      rw [one_cell _ cells_u8 _ 6 v6 rfl] at g6
      rw [one_cell _ cells_u32 _ 7 v7 rfl] at g7
      rw [one_cell _ cells_u32 _ 8 v8 rfl] at g8
      rw [one_cell _ cells_bool _ 9 v9 rfl] at g9
      obtain ⟨n0, e0, _, w0⟩ := DataW.trod_int Try.underlying3 g0
      obtain ⟨n1, e1, _, w1⟩ := DataW.trod_int Try.underlying39 g1
      obtain ⟨n2, e2, _, w2⟩ := DataW.trod_int Try.underlying39 g2
      obtain ⟨n3, e3, _, w3⟩ := DataW.trod_int Try.underlying5 g3
      obtain ⟨n4, e4, _, w4⟩ := DataW.trod_int Try.underlying5 g4
      obtain ⟨n5, e5, _, w5⟩ := DataW.trod_int Try.underlying5 g5
      obtain ⟨n6, e6, _, w6⟩ := DataW.trod_int Try.underlying5 g6
      obtain ⟨n7, e7, _, w7⟩ := DataW.trod_int Try.underlying39 g7
      obtain ⟨n8, e8, _, w8⟩ := DataW.trod_int Try.underlying39 g8
      obtain ⟨b9, e9, _⟩ := DataW.trod_bool Try.underlying4 g9
      simp only [List.cons.injEq, and_true] at e0 e1 e2 e3 e4 e5 e6 e7 e8 e9
      subst e0 e1 e2 e3 e4 e5 e6 e7 e8 e9
      have k1 := bounds_u32 w1
      have k2 := bounds_u32 w2
      have k3 := bounds_u8 w3
      have k4 := bounds_u8 w4
      have k5 := bounds_u8 w5
      have k6 := bounds_u8 w6
      have k7 := bounds_u32 w7
      have k8 := bounds_u32 w8
      exact ⟨⟨n0, n1, n2, n3, n4, n5, n6, n7, n8, b9⟩, rfl, by constructor <;> (dsimp only; omega)⟩
set_option maxRecDepth 100000 in
/-- A slice of rules that reads. -/
theorem read_rules {fuel : Nat} {v : Value} {x : DataW H × List MemPlace} (h : DataW.trod enc Try.prog W base spare held fuel 22 [v] = some x) :
    ∃ (rs : List Ru) (A : Option Addr) (c : Nat), v = .slice A rs.length c ∧ RdRu W A rs ∧ (∀ r ∈ rs, RuWf r) ∧ (x.1 = .nil ∧ rs = [] ∨ ∃ elems rest, x.1 = .slice elems rest ∧ elems.length = rs.length) := by
  rcases open_slice Try.underlying22 h with ⟨hcs, hx0⟩ | ⟨a, len, cap, m, n, D, Pl, hcs, hb, hl, hm, hmm, hx0, hx⟩
  · simp at hcs
    subst hcs
    exact ⟨[], none, 0, rfl, fun j hj => by simp at hj, fun f hf => by simp at hf, .inl ⟨by rw [hx0], rfl⟩⟩
  · simp at hcs
    subst hcs
    have hlm : len ≤ m := by rw [hmm]; split <;> omega
    have each : ∀ i, i < len → ∃ r : Ru, RuWf r ∧ ∀ k u, (ruL r)[k]? = some u → W.cell? ((a.add (i * 10)).add k) = some u := by
      intro i hi
      obtain ⟨cs', h1, h2⟩ := hx i (by omega)
      rw [cells_rule] at h1
      obtain ⟨_, hlen, hcell⟩ := World.cells?_some h1
      obtain ⟨r, rfl, hw⟩ := read_rule h2
      refine ⟨r, hw, fun k u hk => ?_⟩
      have hk10 : k < 10 := by have := (List.getElem?_eq_some_iff.1 hk).1; rwa [ruL_length] at this
      rw [hcell k hk10]
      exact hk
    obtain ⟨q, hq⟩ := choose_lt each
    refine ⟨(List.range len).map q, some a, cap, by simp, fun j hj => ?_, fun s hs => ?_, .inr ⟨_, _, by rw [hx0], by simp⟩⟩
    · have hj' : j < len := by simpa using hj
      refine ⟨a, rfl, ?_⟩
      simp only [List.getElem_map, List.getElem_range]
      exact (hq j hj').2
    · obtain ⟨i, hi, rfl⟩ := List.mem_map.1 hs
      exact (hq i (List.mem_range.1 hi)).1
set_option maxRecDepth 100000 in
/-- What a box is to be, that reads. -/
theorem read_conf {fuel : Nat} {cs : List Value} {x : DataW H × List MemPlace} (h : DataW.trod enc Try.prog W base spare held fuel 26 cs = some x) :
    ∃ (out inn : Int) (els xl : Bool) (rs : List Ru) (A : Option Addr) (c : Nat), cs = [.int .i64 out, .int .i64 inn, .slice A rs.length c, .bool els, .bool xl] ∧ RdRu W A rs ∧ (∀ r ∈ rs, RuWf r) ∧
      (rs = [] ∨ ∃ p0 p1 p3 q1 elems rest, x.1 = .agg [p0, p1, .agg [.slice elems rest, q1], p3] ∧ elems.length = rs.length) := by
  obtain ⟨xs, n, _, hx, hlen, hxl, hg⟩ := DataW.trod_struct Try.underlying26 h
  rw [cells_conf] at hlen
  match cs, hlen with
  | [v0, v1, v2, v3, v4], _ =>
    match xs, hxl with
    | [y0, y1, y2, y3], _ =>
      have g0 : DataW.trod enc Try.prog W base spare held n 3 (List.take (Try.prog.cellsOf 3) (List.drop 0 [v0, v1, v2, v3, v4])) = some y0 := hg 0 _ rfl
      have g1 : DataW.trod enc Try.prog W base spare held n 3 (List.take (Try.prog.cellsOf 3) (List.drop 1 [v0, v1, v2, v3, v4])) = some y1 := hg 1 _ rfl
      have g2 : DataW.trod enc Try.prog W base spare held n 24 (List.take (Try.prog.cellsOf 24) (List.drop 2 [v0, v1, v2, v3, v4])) = some y2 := hg 2 _ rfl
      have g3 : DataW.trod enc Try.prog W base spare held n 4 (List.take (Try.prog.cellsOf 4) (List.drop 4 [v0, v1, v2, v3, v4])) = some y3 := hg 3 _ rfl
      rw [one_cell _ cells_int _ 0 v0 rfl] at g0
      rw [one_cell _ cells_int _ 1 v1 rfl] at g1
      rw [cells_bank] at g2
      rw [one_cell _ cells_bool _ 4 v4 rfl] at g3
      obtain ⟨n0, e0, _, w0⟩ := DataW.trod_int Try.underlying3 g0
      obtain ⟨n1, e1, _, w1⟩ := DataW.trod_int Try.underlying3 g1
      obtain ⟨b3, e3, _⟩ := DataW.trod_bool Try.underlying4 g3
      obtain ⟨zs, n2, _, hz, hzlen, hzl, hzg⟩ := DataW.trod_struct Try.underlying24 g2
      match zs, hzl with
      | [z0, z1], _ =>
        have k0 : DataW.trod enc Try.prog W base spare held n2 22 (List.take (Try.prog.cellsOf 22) (List.drop 0 [v2, v3])) = some z0 := hzg 0 _ rfl
        have k1 : DataW.trod enc Try.prog W base spare held n2 4 (List.take (Try.prog.cellsOf 4) (List.drop 1 [v2, v3])) = some z1 := hzg 1 _ rfl
        rw [one_cell _ cells_rules _ 0 v2 rfl] at k0
        rw [one_cell _ cells_bool _ 1 v3 rfl] at k1
        obtain ⟨b4, e4, _⟩ := DataW.trod_bool Try.underlying4 k1
        obtain ⟨rs, A, c, e5, hr, hw, hd⟩ := read_rules k0
        simp only [List.cons.injEq, and_true] at e0 e1 e3 e4
        subst e0 e1 e3 e4 e5
        refine ⟨n0, n1, b4, b3, rs, A, c, rfl, hr, hw, ?_⟩
        rcases hd with ⟨_, h0⟩ | ⟨elems, rest, h1, h2⟩
        · exact .inl h0
        · exact .inr ⟨y0.1, y1.1, y3.1, z1.1, elems, rest, by rw [hx]; simp [hz, h1], h2⟩
set_option maxRecDepth 100000 in
/-- What a box is to be, by value: as many rules as fit into memory. -/
theorem open_conf {r : Reach} {b0 : Nat} {v : Value} {d : DataW H} {p : List MemPlace} (hv : Value.okWide Try.prog W r b0 26 v) (h : DataW.Trod enc Try.prog W base spare held 26 v d p)
    {ts : List TypeId} {ds : List (DataW H)} (hs : (DataW.weightsEach Try.prog (26 :: ts) (d :: ds)).all (· ≤ reachBytes) = true) :
    ∃ (out inn : Int) (els xl : Bool) (rs : List Ru) (A : Option Addr) (c : Nat), v = confV out inn A rs.length c els xl ∧ RdRu W A rs ∧ (∀ r ∈ rs, RuWf r) ∧ rs.length * 32 ≤ 140737488351232 := by
  obtain ⟨cs, rfl, _⟩ := okWide_struct Try.underlying26 hv
  obtain ⟨fuel, hf⟩ := h
  obtain ⟨out, inn, els, xl, rs, A, c, hcs, hr, hw, hd⟩ := read_conf hf
  refine ⟨out, inn, els, xl, rs, A, c, ?_, hr, hw, ?_⟩
  · obtain ⟨l⟩ := cs
    simp only [Value.cells] at hcs
    rw [hcs]
  · rcases hd with rfl | ⟨p0, p1, p3, q1, elems, rest, hx, hl⟩
    · simp
    · have hd2 : d = .agg [p0, p1, .agg [.slice elems rest, q1], p3] := hx
      subst hd2
      have hm : (elems.length + rest.length) * Try.prog.bytesOf 120 ∈ DataW.weightsEach Try.prog (26 :: ts) (.agg [p0, p1, .agg [.slice elems rest, q1], p3] :: ds) := by
        refine DataW.weights_mem_each (j := 0) rfl rfl _ ?_
        simp [DataW.weights, DataW.weightsEach, Try.underlying26, Try.underlying24, Try.underlying22]
      have h7 := of_decide_eq_true (List.all_eq_true.1 hs _ hm)
      rw [bytes_rule] at h7
      unfold reachBytes at h7
      omega
set_option maxRecDepth 100000 in
theorem open_sfs {r : Reach} {b0 : Nat} {v : Value} {d : DataW H} {p : List MemPlace} (hv : Value.okWide Try.prog W r b0 27 v) (h : DataW.Trod enc Try.prog W base spare held 27 v d p) :
    ∃ (gs : List SF) (A : Option Addr) (c : Nat), v = .slice A gs.length c ∧ RdSF W A gs ∧ (∀ s ∈ gs, SFIn W s) ∧ gs.length ≤ 9223372036854775807 := by
  obtain ⟨a, len, cap, rfl⟩ := okWide_slice Try.underlying27 hv
  obtain ⟨fuel, hf⟩ := h
  exact read_sfs (v := .slice a len cap) hf
end
abbrev confZ : Value := .agg #[.int .i64 0, .int .i64 0, .slice none 0 0, .bool false, .bool false]
end Go.Proofs.Ytlmdkmflbhnlgaa
