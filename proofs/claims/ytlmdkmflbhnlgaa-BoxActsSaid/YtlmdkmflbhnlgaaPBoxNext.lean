/- A box and the document's queue side by side: plain facts. No condition. -/
import Derived.Test.YtlmdkmflbhnlgaaRef14g
import Derived.Test.YtlmdkmflbhnlgaaPBoxInv
namespace Go.Proofs.Ytlmdkmflbhnlgaa
open Go.RowKit
/-- They lie side by side. -/
structure NxI (w wr : World) (ft : List Nat) (b qb N last c : Nat) (A : Option Addr) (L : List QI) (cs : Array Value) (T : BX) : Prop where
  box : BoxA wr w.heap.size N ft b T
  ref : RefQ wr w.heap.size qb 0 64 last A c L cs 58
  dq : qb ∉ ft
  dA : ∀ k ∈ blkA A, k ∉ ft
  below : Below w.heap.size w wr
theorem NxI.step {w wr wr' : World} {ft : List Nat} {b qb N last c : Nat} {A : Option Addr} {L : List QI} {cs : Array Value} {T : BX} (h : NxI w wr ft b qb N last c A L cs T) (hb : Below wr.heap.size wr wr') : NxI w wr' ft b qb N last c A L cs T :=
  ⟨h.box.below hb, h.ref.below hb, h.dq, h.dA, below_trans h.below hb⟩
theorem NxI.mono {w wr : World} {ft : List Nat} {b qb N M last c : Nat} {A : Option Addr} {L : List QI} {cs : Array Value} {T : BX} (h : NxI w wr ft b qb N last c A L cs T) (hm : N ≤ M) : NxI w wr ft b qb M last c A L cs T :=
  ⟨h.box.mono hm, h.ref, h.dq, h.dA, h.below⟩
theorem NxI.act {w wr wr' : World} {ft : List Nat} {b qb N M last c : Nat} {A : Option Addr} {L : List QI} {cs : Array Value} {T T' : BX} (h : NxI w wr ft b qb N last c A L cs T) (ha : Acted wr w.heap.size M ft b T' wr') : ∃ ft', NxI w wr' ft' b qb M last c A L cs T' ∧ (∀ k ∈ ft', k ∈ ft ∨ wr.heap.size ≤ k) ∧ Turn ft wr wr' := by
  obtain ⟨ft', hA, hf, ht⟩ := ha
  obtain ⟨f1, f2, f3, f4⟩ := h.box.foot
  obtain ⟨l1, l2⟩ := h.ref.lt
  refine ⟨ft', ⟨hA, h.ref.turn ht f1 h.dq h.dA, fun hm => ?_, fun k hk hm => ?_, h.below.trans (ht.below f2 h.below.size)⟩, hf, ht⟩
  · rcases hf _ hm with h1 | h1
    · exact h.dq h1
    · omega
  · rcases hf _ hm with h1 | h1
    · exact h.dA k hk h1
    · have := l1 k hk; omega
theorem NxI.put {w wr wr' : World} {ft : List Nat} {b qb N last last' c c' : Nat} {A A' : Option Addr} {L L' : List QI} {cs cs' : Array Value} {T : BX} (h : NxI w wr ft b qb N last c A L cs T) (h1 : RefQ wr' w.heap.size qb 0 64 last' A' c' L' cs' 58) (ht : Turn [qb] wr wr') (hA : ∀ k ∈ blkA A', k ∈ blkA A ∨ wr.heap.size ≤ k) : NxI w wr' ft b qb N last' c' A' L' cs' T := by
  obtain ⟨f1, f2, f3, f4⟩ := h.box.foot
  refine ⟨h.box.turn ht h.ref.foot (fun k hk hm => h.dq (by rw [← List.mem_singleton.1 hm]; exact hk)), h1, h.dq, fun k hk hm => ?_, h.below.trans (ht.below (fun k hk => by rw [List.mem_singleton.1 hk]; exact h.ref.lo) h.below.size)⟩
  rcases hA k hk with h2 | h2
  · exact h.dA k h2 hm
  · have := f3 k hm; omega
/-- What the box and the queue have in common. -/
structure PL (T : BX) (last : Nat) (q : List QE) : Prop where
  eq : T.q = q
  el : T.last = last
  oroom : T.oroom = 64
  xl : T.xl = true
  inv : InvB T
  srt : q.Pairwise leQ
  ok : ∀ y ∈ q, okF y.f = true ∧ 0 ≤ y.f.id
  sent : T.sent = 0
theorem PL.put {T : BX} {last : Nat} {q : List QE} (h : PL T last q) (f : Fr) (hf : 0 ≤ f.id) : PL (putT T f) (insN q last 64 f) (insP q last 64 f) := by
  have ha : alienB T f = false := by simp [alienB, h.xl]
  have hi := h.inv.putF f
  have e1 := h.eq
  have e2 := h.el
  have e3 := h.oroom
  unfold insN insP
  unfold putT at hi ⊢
  rw [ha, e1, e2, e3] at hi ⊢
  simp only [Bool.false_eq_true, if_false] at hi ⊢
  by_cases hq : okF f = true
  · rw [if_pos hq] at hi ⊢
    rw [if_pos hq, if_pos hq]
    by_cases hl : q.length < 64
    · rw [if_pos hl] at hi ⊢
      rw [if_pos hl, if_pos hl]
      refine ⟨rfl, rfl, rfl, h.xl, hi, insQ_sorted h.srt (fun y hy => ?_), fun y hy => ?_, h.sent⟩
      · have := h.inv.nos y (by rw [e1]; exact hy)
        rw [e2] at this
        show y.no ≤ (last : Int) + 1
        omega
      · rcases List.mem_append.1 ((insQ_perm _ _).mem_iff.1 hy) with hy | hy
        · exact h.ok y hy
        · rw [List.mem_singleton.1 hy]; exact ⟨hq, hf⟩
    · rw [if_neg hl, if_neg hl, if_neg hl]; exact h
  · rw [if_neg hq, if_neg hq, if_neg hq]; exact h
theorem insP_length (q : List QE) (last room : Nat) (f : Fr) : (insP q last room f).length ≤ q.length + 1 := by
  unfold insP
  (repeat' split) <;> (try rw [insQ_length]) <;> omega
theorem insN_le (q : List QE) (last room : Nat) (f : Fr) : insN q last room f ≤ last + 1 := by
  unfold insN
  (repeat' split) <;> omega
/-- .. while it is sent. -/
structure PS (T : BX) (q : List QE) (k : Nat) : Prop where
  eq : T.q = q.drop k
  sent : T.sent = k
  nodup : (q.map (·.no)).Nodup
theorem PL.start {T : BX} {last : Nat} {q : List QE} (h : PL T last q) : PS T q 0 := ⟨by rw [h.eq]; rfl, h.sent, by have := h.inv.nodup; rwa [h.eq] at this⟩
theorem PS.next {T : BX} {q : List QE} {k : Nat} (h : PS T q k) (hk : k < q.length) : T.q = q[k] :: q.drop (k + 1) ∧ hasQ q[k].no T.q = true ∧ PS (sentT T q[k].no) q (k + 1) ∧ hasQ q[k].no (sentT T q[k].no).q = false ∧ sentT (sentT T q[k].no) q[k].no = sentT T q[k].no ∧ goneT (sentT T q[k].no) q[k].no = sentT T q[k].no := by
  have e := h.eq
  rw [List.drop_eq_getElem_cons hk] at e
  have hnd : ((q[k] :: q.drop (k + 1)).map (·.no)).Nodup := by
    rw [← List.drop_eq_getElem_cons hk]
    exact h.nodup.sublist ((List.drop_sublist k q).map _)
  rw [List.map_cons, List.nodup_cons] at hnd
  have hno : ∀ y ∈ q.drop (k + 1), y.no ≠ q[k].no := fun y hy e => hnd.1 (by rw [← e]; exact List.mem_map_of_mem hy)
  have h1 : hasQ q[k].no T.q = true := by rw [e]; unfold hasQ; rw [List.any_cons, decide_eq_true rfl, Bool.true_or]
  have h2 : rmQ q[k].no T.q = q.drop (k + 1) := by
    rw [e]
    have : rmQ q[k].no (q[k] :: q.drop (k + 1)) = rmQ q[k].no (q.drop (k + 1)) := by unfold rmQ; rw [List.filter_cons, if_neg (by simp)]
    rw [this]; exact rmQ_none hno
  have hs : sentT T q[k].no = { T with q := q.drop (k + 1), sent := T.sent + 1 } := by unfold sentT; rw [h1, h2]; simp
  have h3 : hasQ q[k].no (sentT T q[k].no).q = false := by
    rw [hs]
    unfold hasQ
    rw [List.any_eq_false]
    intro y hy; simpa using hno y hy
  refine ⟨e, h1, ?_, h3, ?_, ?_⟩
  · rw [hs]; exact ⟨rfl, by rw [h.sent], h.nodup⟩
  · rw [sentT, h3]; simp
  · rw [goneT, h3]; simp
theorem cells12n {w : World} {g : Nat} {v0 v1 v2 v3 v4 v5 v6 v7 v8 v9 v10 v11 : Value} {t : TypeId} {fr : Nat × Nat} (h : w.heap[g]? = some (.cells #[v0, v1, v2, v3, v4, v5, v6, v7, v8, v9, v10, v11] t fr)) :
    w.cell? ⟨g, 0, none⟩ = some v0 ∧ w.cell? ⟨g, 1, none⟩ = some v1 ∧ w.cell? ⟨g, 2, none⟩ = some v2 ∧ w.cell? ⟨g, 3, none⟩ = some v3 ∧ w.cell? ⟨g, 4, none⟩ = some v4 ∧ w.cell? ⟨g, 5, none⟩ = some v5 ∧ w.cell? ⟨g, 6, none⟩ = some v6 ∧ w.cell? ⟨g, 7, none⟩ = some v7 ∧ w.cell? ⟨g, 8, none⟩ = some v8 ∧ w.cell? ⟨g, 9, none⟩ = some v9 ∧ w.cell? ⟨g, 10, none⟩ = some v10 ∧ w.cell? ⟨g, 11, none⟩ = some v11 :=
  ⟨cell_of_heap h 0 _ rfl, cell_of_heap h 1 _ rfl, cell_of_heap h 2 _ rfl, cell_of_heap h 3 _ rfl, cell_of_heap h 4 _ rfl, cell_of_heap h 5 _ rfl, cell_of_heap h 6 _ rfl, cell_of_heap h 7 _ rfl, cell_of_heap h 8 _ rfl, cell_of_heap h 9 _ rfl, cell_of_heap h 10 _ rfl, cell_of_heap h 11 _ rfl⟩
end Go.Proofs.Ytlmdkmflbhnlgaa
