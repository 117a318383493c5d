/- How a law's argument reads as acts. No condition. -/
import Derived.Test.YtlmdkmflbhnlgaaRowBox
import Derived.Test.YtlmdkmflbhnlgaaActs
namespace Go.Proofs.Ytlmdkmflbhnlgaa
open Go.ChangeShapes Go.WideShapes Go.ChangeAt Go.RowKit Go.Deep
section
variable {H : Type} {enc : TypeId × Value → H} {W : World} {base : Nat} {spare : Nat → Bool} {held : Bool}
instance : Inhabited Ac := ⟨⟨0, 0, default⟩⟩
theorem cells_act : Try.prog.cellsOf 73 = 13 := by kernel_rfl
set_option maxRecDepth 100000 in
theorem read_act {fuel : Nat} {cs : List Value} {x : DataW H × List MemPlace} (h : DataW.trod enc Try.prog W base spare held fuel 73 cs = some x) : ∃ a : Ac, cs = acL a ∧ SFIn W a.s := by
  obtain ⟨xs, n, _, _, hlen, hxl, hg⟩ := DataW.trod_struct Try.underlying73 h
  rw [cells_act] at hlen
  match cs, hlen with
  | [v0, v1, v2, v3, v4, v5, v6, v7, v8, v9, v10, v11, v12], _ =>
    match xs, hxl with
    | [y0, y1, y2], _ =>
      have g0 : DataW.trod enc Try.prog W base spare held n 3 (List.take (Try.prog.cellsOf 3) (List.drop 0 [v0, v1, v2, v3, v4, v5, v6, v7, v8, v9, v10, v11, v12])) = some y0 := hg 0 _ rfl
      have g1 : DataW.trod enc Try.prog W base spare held n 3 (List.take (Try.prog.cellsOf 3) (List.drop 1 [v0, v1, v2, v3, v4, v5, v6, v7, v8, v9, v10, v11, v12])) = some y1 := hg 1 _ rfl
      have g2 : DataW.trod enc Try.prog W base spare held n 42 (List.take (Try.prog.cellsOf 42) (List.drop 2 [v0, v1, v2, v3, v4, v5, v6, v7, v8, v9, v10, v11, v12])) = some y2 := hg 2 _ rfl
      rw [one_cell _ cells_int _ 0 v0 rfl] at g0
      rw [one_cell _ cells_int _ 1 v1 rfl] at g1
      rw [cells_frame] at g2
      obtain ⟨n0, e0, _, w0⟩ := DataW.trod_int Try.underlying3 g0
      obtain ⟨n1, e1, _, w1⟩ := DataW.trod_int Try.underlying3 g1
      obtain ⟨f, B, c, e2, hrd, hw, hnz⟩ := read_frame2 g2
      simp only [List.drop_succ_cons, List.drop_zero, List.take_succ_cons, List.take_zero, List.cons.injEq, and_true] at e0 e1 e2
      obtain ⟨rfl, rfl, rfl, rfl, rfl, rfl, rfl, rfl, rfl, rfl, rfl⟩ := e2
      subst e0 e1
      exact ⟨⟨n0, n1, ⟨f, B, c⟩⟩, rfl, ⟨hrd, hnz, wf_of hw⟩⟩
set_option maxRecDepth 100000 in
theorem read_acts {fuel : Nat} {v : Value} {x : DataW H × List MemPlace} (h : DataW.trod enc Try.prog W base spare held fuel 67 [v] = some x) :
    ∃ (acs : List Ac) (A : Option Addr) (c : Nat), v = .slice A acs.length c ∧ RdAc W A acs ∧ (∀ a ∈ acs, SFIn W a.s) ∧ acs.length ≤ 9223372036854775807 := by
  rcases open_slice Try.underlying67 h with ⟨hcs, _⟩ | ⟨a, len, cap, m, n, D, Pl, hcs, hb, hl, hm, hmm, _, hx⟩
  · simp at hcs
    subst hcs
    exact ⟨[], none, 0, rfl, fun j hj => by simp at hj, fun f hf => by simp at hf, by simp⟩
  · simp at hcs
    subst hcs
    have hlm : len ≤ m := by rw [hmm]; split <;> omega
    have each : ∀ i, i < len → ∃ s : Ac, SFIn W s.s ∧ ∀ k u, (acL s)[k]? = some u → W.cell? ((a.add (i * 13)).add k) = some u := by
      intro i hi
      obtain ⟨cs', h1, h2⟩ := hx i (by omega)
      rw [cells_act] at h1
      obtain ⟨_, hlen, hcell⟩ := World.cells?_some h1
      obtain ⟨s, rfl, hs⟩ := read_act h2
      refine ⟨s, hs, fun k u hk => ?_⟩
      have hk13 : k < 13 := by have := (List.getElem?_eq_some_iff.1 hk).1; rwa [acL_length] at this
      rw [hcell k hk13]
      exact hk
    obtain ⟨q, hq⟩ := choose_lt each
    refine ⟨(List.range len).map q, some a, cap, by simp, fun j hj => ?_, fun s hs => ?_, by unfold maxLen at hm; simp; omega⟩
    · have hj' : j < len := by simpa using hj
      refine ⟨a, rfl, ?_⟩
      simp only [List.getElem_map, List.getElem_range]
      exact (hq j hj').2
    · obtain ⟨i, hi, rfl⟩ := List.mem_map.1 hs
      exact (hq i (List.mem_range.1 hi)).1
set_option maxRecDepth 100000 in
theorem open_acts {r : Reach} {b0 : Nat} {v : Value} {d : DataW H} {p : List MemPlace} (hv : Value.okWide Try.prog W r b0 67 v) (h : DataW.Trod enc Try.prog W base spare held 67 v d p) :
    ∃ (acs : List Ac) (A : Option Addr) (c : Nat), v = .slice A acs.length c ∧ RdAc W A acs ∧ (∀ a ∈ acs, SFIn W a.s) ∧ acs.length ≤ 9223372036854775807 := by
  obtain ⟨a, len, cap, rfl⟩ := okWide_slice Try.underlying67 hv
  obtain ⟨fuel, hf⟩ := h
  exact read_acts (v := .slice a len cap) hf
end
end Go.Proofs.Ytlmdkmflbhnlgaa
