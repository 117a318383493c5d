/- How a law's argument reads as a slice of frames. No condition. -/
import Derived.Test.YtbjeblffmgghgaaRow
import Derived.Test.YtbjeblffmgghgaaOrderAll
import Derived.Deep.SlicePairs
namespace Go.Proofs.Ytbjeblffmgghgaa
open Go.ChangeShapes Go.WideShapes Go.ChangeAt Go.RowKit Go.Deep
section
variable {H : Type} {enc : TypeId × Value → H} {W : World} {base : Nat} {spare : Nat → Bool} {held : Bool}
instance : Inhabited Fr := ⟨{ kind := 0, id := 0, ext := false, rtr := false, brs := false, esi := false, sec := false, sdt := 0, vcid := 0, af := 0, data := [] }⟩
set_option maxRecDepth 100000 in
theorem read_frames {fuel : Nat} {v : Value} {x : DataW H × List MemPlace} (h : DataW.trod enc Try.prog W base spare held fuel 36 [v] = some x) :
    ∃ (fs : List Fr) (A : Option Addr) (c : Nat), v = .slice A fs.length c ∧ RdFs W A fs ∧ (∀ f ∈ fs, FrWf f) ∧ fs.length ≤ 9223372036854775807 := by
  rcases open_slice Try.underlying36 h with ⟨hcs, _⟩ | ⟨a, len, cap, m, n, D, Pl, hcs, hb, hl, hm, hmm, _, hx⟩
  · simp at hcs
    subst hcs
    exact ⟨[], none, 0, rfl, fun j hj => by simp at hj, fun f hf => by simp at hf, by simp⟩
  · simp at hcs
    subst hcs
    have hlm : len ≤ m := by rw [hmm]; split <;> omega
    have each : ∀ i, i < len → ∃ q : Fr × Option Addr × Nat, FrWf q.1 ∧ ∀ k u, [Value.int .i64 q.1.kind, .int .u32 q.1.id, .bool q.1.ext, .bool q.1.rtr, .bool q.1.brs, .bool q.1.esi, .bool q.1.sec, .int .u8 q.1.sdt, .int .u8 q.1.vcid, .int .u32 q.1.af, .slice q.2.1 q.1.data.length q.2.2][k]? = some u →
        W.cell? ((a.add (i * 11)).add k) = some u := by
      intro i hi
      obtain ⟨cs', h1, h2⟩ := hx i (by omega)
      rw [cells_frame] at h1
      obtain ⟨_, hlen, hcell⟩ := World.cells?_some h1
      obtain ⟨f, B, c, rfl, -, hw, -⟩ := read_frame h2
      refine ⟨(f, B, c), hw, fun k u hk => ?_⟩
      have hk11 : k < 11 := by have := (List.getElem?_eq_some_iff.1 hk).1; simpa using this
      rw [hcell k hk11]
      exact hk
    obtain ⟨q, hq⟩ := choose_lt each
    refine ⟨(List.range len).map fun i => (q i).1, some a, cap, by simp, fun j hj => ?_, fun f hf => ?_, by unfold maxLen at hm; simp; omega⟩
    · have hj' : j < len := by simpa using hj
      refine ⟨a, (q j).2.1, (q j).2.2, rfl, ?_⟩
      simp only [List.getElem_map, List.getElem_range]
      exact (hq j hj').2
    · obtain ⟨i, hi, rfl⟩ := List.mem_map.1 hf
      exact (hq i (List.mem_range.1 hi)).1
set_option maxRecDepth 100000 in
theorem open_frames {r : Reach} {b0 : Nat} {v : Value} {d : DataW H} {p : List MemPlace} (hv : Value.okWide Try.prog W r b0 36 v) (h : DataW.Trod enc Try.prog W base spare held 36 v d p) :
    ∃ (fs : List Fr) (A : Option Addr) (c : Nat), v = .slice A fs.length c ∧ RdFs W A fs ∧ FsIn fs ∧ fs.length ≤ 9223372036854775807 := by
  obtain ⟨a, len, cap, rfl⟩ := okWide_slice Try.underlying36 hv
  obtain ⟨fuel, hf⟩ := h
  obtain ⟨fs, A, c, e, hr, hw, hl⟩ := read_frames (v := .slice a len cap) hf
  exact ⟨fs, A, c, e, hr, fun f hf => ⟨(hw f hf).id0, (hw f hf).len⟩, hl⟩
end
end Go.Proofs.Ytbjeblffmgghgaa
