/- What waits and what came are apart: plain facts. No condition. -/
import Derived.Test.YtlmdkmflbhnlgaaLawBoxF0
import Derived.Test.YtlmdkmflbhnlgaaPBoxInv
namespace Go.Proofs.Ytlmdkmflbhnlgaa
open Go.RowKit
/-- What waits in the one, and what came in the other. -/
def joinX (To Ti : BX) : BX := { To with l := Ti.l, came := Ti.came, kept := Ti.kept, refused := Ti.refused, over := Ti.over, taken := Ti.taken }
/-- Two boxes let the same in. -/
def CfX (To Ti : BX) : Prop := To.rules = Ti.rules ∧ To.els = Ti.els ∧ To.iroom = Ti.iroom
theorem apply4 (T : BX) {a : Ac} (h : a.kind = 4) : applyT T a = comeT T a.s.f := by
  unfold applyT
  rw [h, if_neg (by decide), if_neg (by decide), if_neg (by decide), if_pos (by decide)]
theorem apply5 (T : BX) {a : Ac} (h : a.kind = 5) : applyT T a = takeT T := by
  unfold applyT
  rw [h, if_neg (by decide), if_neg (by decide), if_neg (by decide), if_neg (by decide), if_pos (by decide)]
theorem join_in {To Ti : BX} (h : CfX To Ti) (a : Ac) (hk : a.kind = 4 ∨ a.kind = 5) : applyT (joinX To Ti) a = joinX To (applyT Ti a) := by
  obtain ⟨r, e, x, o, la, q, io, l, p, s, g, c, k, rf, ov, tk⟩ := To
  obtain ⟨r', e', x', o', la', q', io', l', p', s', g', c', k', rf', ov', tk'⟩ := Ti
  obtain ⟨h1, h2, h3⟩ := h
  dsimp only at h1 h2 h3
  subst h1 h2 h3
  rcases hk with hk | hk
  · rw [apply4 _ hk, apply4 _ hk]
    by_cases h1 : okF a.s.f = true
    · by_cases h2 : inR r e a.s.f = true
      · by_cases h3 : l'.length < io
        · simp only [comeT, joinX, h1, h2, h3, if_true]
        · simp only [comeT, joinX, h1, h2, h3, if_true, if_false]
      · simp only [comeT, joinX, h1, h2, if_true, if_false, Bool.false_eq_true]
    · simp only [comeT, joinX, h1, if_false, Bool.false_eq_true]
  · rw [apply5 _ hk, apply5 _ hk]
    cases l' <;> rfl
theorem join_gone (To Ti : BX) (no : Int) : goneT (joinX To Ti) no = joinX (goneT To no) Ti := by
  have e : (joinX To Ti).q = To.q := rfl
  unfold goneT
  rw [e]
  cases hasQ no To.q <;> rfl
theorem join_sent (To Ti : BX) (no : Int) : sentT (joinX To Ti) no = joinX (sentT To no) Ti := by
  have e : (joinX To Ti).q = To.q := rfl
  unfold sentT
  rw [e]
  cases hasQ no To.q <;> rfl
theorem join_put (To Ti : BX) (f : Fr) : putT (joinX To Ti) f = joinX (putT To f) Ti := by
  have e : alienB (joinX To Ti) f = alienB To f := rfl
  have e2 : (joinX To Ti).q = To.q := rfl
  have e3 : (joinX To Ti).oroom = To.oroom := rfl
  unfold putT
  rw [e, e2, e3]
  cases alienB To f
  · cases okF f
    · rfl
    · by_cases h : To.q.length < To.oroom
      · simp only [if_pos h, Bool.false_eq_true, if_false, if_true]; rfl
      · simp only [if_neg h, Bool.false_eq_true, if_false, if_true]
  · rfl
theorem join_out {To Ti : BX} (a : Ac) (hk : ¬ (a.kind = 4 ∨ a.kind = 5)) : applyT (joinX To Ti) a = joinX (applyT To a) Ti := by
  have h4 : ¬ a.kind = 4 := fun h => hk (.inl h)
  have h5 : ¬ a.kind = 5 := fun h => hk (.inr h)
  unfold applyT
  rw [if_neg h4, if_neg h5, if_neg h4, if_neg h5]
  by_cases h1 : a.kind = 1
  · rw [if_pos h1, if_pos h1]; exact join_gone _ _ _
  · rw [if_neg h1, if_neg h1]
    by_cases h2 : a.kind = 2
    · rw [if_pos h2, if_pos h2]
    · rw [if_neg h2, if_neg h2]
      by_cases h3 : a.kind = 3
      · rw [if_pos h3, if_pos h3]; exact join_sent _ _ _
      · rw [if_neg h3, if_neg h3]; exact join_put _ _ _
theorem CfX.in_ {To Ti : BX} (h : CfX To Ti) (a : Ac) : CfX To (applyT Ti a) := by
  obtain ⟨c1, c2, c3, c4, c5⟩ := applyT_conf Ti a
  exact ⟨h.1.trans c1.symm, h.2.1.trans c2.symm, h.2.2.trans c5.symm⟩
theorem CfX.out {To Ti : BX} (h : CfX To Ti) (a : Ac) : CfX (applyT To a) Ti := by
  obtain ⟨c1, c2, c3, c4, c5⟩ := applyT_conf To a
  exact ⟨c1.trans h.1, c2.trans h.2.1, c5.trans h.2.2⟩
/-- Three boxes lie side by side. -/
structure ThreeI (w wr : World) (cf : Array Value) (fm fo fi : List Nat) (m o i N : Nat) (Tm To Ti : BX) : Prop where
  conf : wr.heap[w.heap.size]? = some (.cells cf 26 (0, 0))
  m : BoxA wr (w.heap.size + 1) N fm m Tm
  o : BoxA wr (w.heap.size + 1) N fo o To
  i : BoxA wr (w.heap.size + 1) N fi i Ti
  mo : ∀ k ∈ fm, k ∉ fo
  mi : ∀ k ∈ fm, k ∉ fi
  oi : ∀ k ∈ fo, k ∉ fi
  below : Below w.heap.size w wr
theorem ThreeI.step {w wr wr' : World} {cf : Array Value} {fm fo fi : List Nat} {m o i N : Nat} {Tm To Ti : BX} (h : ThreeI w wr cf fm fo fi m o i N Tm To Ti) (hb : Below wr.heap.size wr wr') : ThreeI w wr' cf fm fo fi m o i N Tm To Ti :=
  ⟨heap_below hb h.conf, h.m.below hb, h.o.below hb, h.i.below hb, h.mo, h.mi, h.oi, below_trans h.below hb⟩
theorem ThreeI.mono {w wr : World} {cf : Array Value} {fm fo fi : List Nat} {m o i N M : Nat} {Tm To Ti : BX} (h : ThreeI w wr cf fm fo fi m o i N Tm To Ti) (hm : N ≤ M) : ThreeI w wr cf fm fo fi m o i M Tm To Ti :=
  ⟨h.conf, h.m.mono hm, h.o.mono hm, h.i.mono hm, h.mo, h.mi, h.oi, h.below⟩
theorem ThreeI.rot {w wr : World} {cf : Array Value} {fm fo fi : List Nat} {m o i N : Nat} {Tm To Ti : BX} (h : ThreeI w wr cf fm fo fi m o i N Tm To Ti) : ThreeI w wr cf fo fi fm o i m N To Ti Tm :=
  ⟨h.conf, h.o, h.i, h.m, h.oi, fun k hk hm => h.mo k hm hk, fun k hk hm => h.mi k hm hk, h.below⟩
theorem ThreeI.act {w wr wr' : World} {cf : Array Value} {fm fo fi : List Nat} {m o i N : Nat} {Tm To Ti T' : BX} (h : ThreeI w wr cf fm fo fi m o i N Tm To Ti) (ha : Acted wr (w.heap.size + 1) (N + 1) fm m T' wr') : ∃ fm', ThreeI w wr' cf fm' fo fi m o i (N + 1) T' To Ti := by
  obtain ⟨ft', hA, hf, ht⟩ := ha
  obtain ⟨f1, f2, f3, f4⟩ := h.m.foot
  have g3 := h.o.foot.2.2.1
  have k3 := h.i.foot.2.2.1
  refine ⟨ft', ht.heap h.conf (fun hm => by have := f2 _ hm; omega), hA, (h.o.turn ht f1 (fun k hk hm => h.mo k hm hk)).mono (by omega), (h.i.turn ht f1 (fun k hk hm => h.mi k hm hk)).mono (by omega), fun k hk hm => ?_, fun k hk hm => ?_, h.oi, h.below.trans (ht.below (fun k hk => by have := f2 k hk; omega) h.below.size)⟩
  · rcases hf k hk with h1 | h1
    · exact h.mo k h1 hm
    · have := g3 k hm; omega
  · rcases hf k hk with h1 | h1
    · exact h.mi k h1 hm
    · have := k3 k hm; omega
theorem ThreeI.actO {w wr wr' : World} {cf : Array Value} {fm fo fi : List Nat} {m o i N : Nat} {Tm To Ti T' : BX} (h : ThreeI w wr cf fm fo fi m o i N Tm To Ti) (ha : Acted wr (w.heap.size + 1) (N + 1) fo o T' wr') : ∃ fo', ThreeI w wr' cf fm fo' fi m o i (N + 1) Tm T' Ti :=
  let ⟨f', h'⟩ := h.rot.act ha
  ⟨f', h'.rot.rot⟩
theorem ThreeI.actI {w wr wr' : World} {cf : Array Value} {fm fo fi : List Nat} {m o i N : Nat} {Tm To Ti T' : BX} (h : ThreeI w wr cf fm fo fi m o i N Tm To Ti) (ha : Acted wr (w.heap.size + 1) (N + 1) fi i T' wr') : ∃ fi', ThreeI w wr' cf fm fo fi' m o i (N + 1) Tm To T' :=
  let ⟨f', h'⟩ := h.rot.rot.act ha
  ⟨f', h'.rot⟩
/-- An act's cells, in a block of its own. -/
theorem cells13 {w : World} {g : Nat} {v0 v1 v2 v3 v4 v5 v6 v7 v8 v9 v10 v11 v12 : Value} {t : TypeId} {fr : Nat × Nat} (h : w.heap[g]? = some (.cells #[v0, v1, v2, v3, v4, v5, v6, v7, v8, v9, v10, v11, v12] t fr)) :
    w.cell? ⟨g, 0, none⟩ = some v0 ∧ w.cell? ⟨g, 1, none⟩ = some v1 ∧ w.cell? ⟨g, 2, none⟩ = some v2 ∧ w.cell? ⟨g, 3, none⟩ = some v3 ∧ w.cell? ⟨g, 4, none⟩ = some v4 ∧ w.cell? ⟨g, 5, none⟩ = some v5 ∧ w.cell? ⟨g, 6, none⟩ = some v6 ∧ w.cell? ⟨g, 7, none⟩ = some v7 ∧ w.cell? ⟨g, 8, none⟩ = some v8 ∧ w.cell? ⟨g, 9, none⟩ = some v9 ∧ w.cell? ⟨g, 10, none⟩ = some v10 ∧ w.cell? ⟨g, 11, none⟩ = some v11 ∧ w.cell? ⟨g, 12, none⟩ = some v12 :=
  ⟨cell_of_heap h 0 _ rfl, cell_of_heap h 1 _ rfl, cell_of_heap h 2 _ rfl, cell_of_heap h 3 _ rfl, cell_of_heap h 4 _ rfl, cell_of_heap h 5 _ rfl, cell_of_heap h 6 _ rfl, cell_of_heap h 7 _ rfl, cell_of_heap h 8 _ rfl, cell_of_heap h 9 _ rfl, cell_of_heap h 10 _ rfl, cell_of_heap h 11 _ rfl, cell_of_heap h 12 _ rfl⟩
theorem cells12 {w : World} {g : Nat} {v0 v1 v2 v3 v4 v5 v6 v7 v8 v9 v10 v11 : Value} {t : TypeId} {fr : Nat × Nat} (h : w.heap[g]? = some (.cells #[v0, v1, v2, v3, v4, v5, v6, v7, v8, v9, v10, v11] t fr)) :
    w.cell? ⟨g, 0, none⟩ = some v0 ∧ w.cell? ⟨g, 1, none⟩ = some v1 ∧ w.cell? ⟨g, 2, none⟩ = some v2 ∧ w.cell? ⟨g, 3, none⟩ = some v3 ∧ w.cell? ⟨g, 4, none⟩ = some v4 ∧ w.cell? ⟨g, 5, none⟩ = some v5 ∧ w.cell? ⟨g, 6, none⟩ = some v6 ∧ w.cell? ⟨g, 7, none⟩ = some v7 ∧ w.cell? ⟨g, 8, none⟩ = some v8 ∧ w.cell? ⟨g, 9, none⟩ = some v9 ∧ w.cell? ⟨g, 10, none⟩ = some v10 ∧ w.cell? ⟨g, 11, none⟩ = some v11 :=
  ⟨cell_of_heap h 0 _ rfl, cell_of_heap h 1 _ rfl, cell_of_heap h 2 _ rfl, cell_of_heap h 3 _ rfl, cell_of_heap h 4 _ rfl, cell_of_heap h 5 _ rfl, cell_of_heap h 6 _ rfl, cell_of_heap h 7 _ rfl, cell_of_heap h 8 _ rfl, cell_of_heap h 9 _ rfl, cell_of_heap h 10 _ rfl, cell_of_heap h 11 _ rfl⟩
theorem cells10 {w : World} {g : Nat} {v0 v1 v2 v3 v4 v5 v6 v7 v8 v9 : Value} {t : TypeId} {fr : Nat × Nat} (h : w.heap[g]? = some (.cells #[v0, v1, v2, v3, v4, v5, v6, v7, v8, v9] t fr)) :
    w.cell? ⟨g, 0, none⟩ = some v0 ∧ w.cell? ⟨g, 1, none⟩ = some v1 ∧ w.cell? ⟨g, 2, none⟩ = some v2 ∧ w.cell? ⟨g, 3, none⟩ = some v3 ∧ w.cell? ⟨g, 4, none⟩ = some v4 ∧ w.cell? ⟨g, 5, none⟩ = some v5 ∧ w.cell? ⟨g, 6, none⟩ = some v6 ∧ w.cell? ⟨g, 7, none⟩ = some v7 ∧ w.cell? ⟨g, 8, none⟩ = some v8 ∧ w.cell? ⟨g, 9, none⟩ = some v9 :=
  ⟨cell_of_heap h 0 _ rfl, cell_of_heap h 1 _ rfl, cell_of_heap h 2 _ rfl, cell_of_heap h 3 _ rfl, cell_of_heap h 4 _ rfl, cell_of_heap h 5 _ rfl, cell_of_heap h 6 _ rfl, cell_of_heap h 7 _ rfl, cell_of_heap h 8 _ rfl, cell_of_heap h 9 _ rfl⟩
end Go.Proofs.Ytlmdkmflbhnlgaa
