/- box: how a box lies, with what is in it. No condition. -/
import Derived.Test.YtlmdkmflbhnlgaaQueue8
import Derived.Test.YtlmdkmflbhnlgaaFifo2
namespace Go.Proofs.Ytlmdkmflbhnlgaa
open Go.RowKit
theorem ruL_length (r : Ru) : (ruL r).length = 10 := rfl
theorem ruL_one (r : Ru) : ∀ v ∈ ruL r, v.oneCell' = true := by
  intro v hv; simp [ruL] at hv; rcases hv with rfl | rfl | rfl | rfl | rfl | rfl | rfl | rfl | rfl | rfl <;> rfl
/-- The rules of a box, in memory of its own. -/
def RRow (w : World) (base : Nat) (A : Option Addr) (c : Nat) (rs : List Ru) : Prop :=
  (A = none ∧ c = 0 ∧ rs = []) ∨ ∃ g cur, A = some ⟨g, 0, none⟩ ∧ w.heap[g]? = some (.cells cur 91 (0, 0)) ∧ base ≤ g ∧ rs.length ≤ c ∧ c ≤ maxLen ∧ ∀ k (h : k < rs.length) j u, (ruL rs[k])[j]? = some u → cur[k * 10 + j]? = some u
theorem RRow.of {w : World} {base n : Nat} {v : Value} {rs : List Ru} (h : w.ownsRow base 91 10 v n (rs.flatMap ruL)) (hn : rs.length = n) : ∃ A c, v = .slice A n c ∧ RRow w base A c rs := by
  rcases h.2 with ⟨rfl, h0⟩ | ⟨g, cap, cur, hv, hg, hh, hnc, hm, hs, ht⟩
  · subst h0
    have : rs = [] := List.eq_nil_of_length_eq_zero (by omega)
    subst this
    exact ⟨none, 0, rfl, .inl ⟨rfl, rfl, rfl⟩⟩
  · refine ⟨_, cap, hv, .inr ⟨g, cur, rfl, hh, hg, by omega, hm, fun k hk j u hu => ?_⟩⟩
    have hj : j < 10 := by have := (List.getElem?_eq_some_iff.1 hu).1; rwa [ruL_length] at this
    have h1 := flat_get ruL_length rs k hk j hj
    rw [hu] at h1
    have h2 : (cur.toList.take (n * 10))[k * 10 + j]? = some u := by rw [ht]; exact h1
    have hlt : k * 10 + j < n * 10 := by have := Nat.mul_le_mul_right 10 (show k + 1 ≤ n by omega); omega
    rw [List.getElem?_take_of_lt hlt] at h2
    simpa using h2
theorem RRow.rd {w : World} {base c : Nat} {A : Option Addr} {rs : List Ru} (h : RRow w base A c rs) : RdRu w A rs := by
  intro j hj
  rcases h with ⟨_, _, rfl⟩ | ⟨g, cur, rfl, hh, _, _, _, hat⟩
  · simp at hj
  · refine ⟨_, rfl, fun k u hk => ?_⟩
    rw [add_of_add, Addr.add_mid]
    exact cell_of_heap hh _ _ (by rw [Nat.zero_add]; exact hat j hj k u hk)
theorem RRow.cap {w : World} {base c : Nat} {A : Option Addr} {rs : List Ru} (h : RRow w base A c rs) : rs.length ≤ c ∧ c ≤ 9223372036854775807 := by
  rcases h with ⟨_, rfl, rfl⟩ | ⟨g, cur, rfl, _, _, h1, h2, _⟩
  · exact ⟨by simp, by omega⟩
  · exact ⟨h1, by unfold maxLen at h2; omega⟩
/-- Blocks whose turning leaves rows of bytes and of rules. -/
def Foot (s : List Nat) (w : World) : Prop := ∀ k ∈ s, ∃ cs u fr, w.heap[k]? = some (.cells cs u fr) ∧ u ≠ 5 ∧ u ≠ 91
theorem Foot.bytes {s : List Nat} {w : World} (h : Foot s w) : ∀ k ∈ s, ∃ cs u fr, w.heap[k]? = some (.cells cs u fr) ∧ u ≠ 5 := fun k hk => by
  obtain ⟨cs, u, fr, h1, h2, -⟩ := h k hk
  exact ⟨cs, u, fr, h1, h2⟩
theorem RRow.turn {w w' : World} {base c : Nat} {A : Option Addr} {rs : List Ru} {s : List Nat} (h : RRow w base A c rs) (ht : Turn s w w') (hf : Foot s w) : RRow w' base A c rs := by
  rcases h with h | ⟨g, cur, rfl, hh, r⟩
  · exact .inl h
  · refine .inr ⟨g, cur, rfl, ht.heap hh (fun hm => ?_), r⟩
    obtain ⟨cs, u, fr, h1, -, h2⟩ := hf _ hm
    exact ne_of_type h1 hh h2 rfl
/-- An item that waits. -/
structure QE where
  no : Int
  f : Fr
def absQ (x : QN) : QE := ⟨x.no, x.f⟩
def leQ (a b : QE) : Prop := leE (keyF a.f, a.no) (keyF b.f, b.no)
/-- What a box is. -/
structure BX where
  rules : List Ru
  els : Bool
  xl : Bool
  oroom : Nat
  last : Nat
  q : List QE
  iroom : Nat
  l : List Fr
  put : Nat
  sent : Nat
  gone : Nat
  came : Nat
  kept : Nat
  refused : Nat
  over : Nat
  taken : Nat
def boxL (RA : Option Addr) (rc qb fb : Nat) (T : BX) : List Value :=
  [.slice RA T.rules.length rc, .bool T.els, .bool T.xl, .pointer (some ⟨qb, 0, none⟩), .pointer (some ⟨fb, 0, none⟩), .int .i64 0, .int .i64 0, .int .i64 T.put, .int .i64 T.sent, .int .i64 T.gone, .int .i64 T.came, .int .i64 T.kept, .int .i64 T.refused, .int .i64 T.over, .int .i64 T.taken]
/-- How a box lies. -/
structure BoxI (w : World) (base b qb fb : Nat) (RA : Option Addr) (rc : Nat) (QA : Option Addr) (cap : Nat) (ql : List QN) (fl : List SF) (first fov : Nat) (T : BX) : Prop where
  box : w.heap[b]? = some (.cells (boxL RA rc qb fb T).toArray 86 (0, 0))
  rules : RRow w base RA rc T.rules
  queue : QueueI w base qb T.oroom T.last QA cap ql
  fifo : FifoI w fb T.iroom first fov fl
  data : ∀ s ∈ fl, Row w base 5 s.A s.c (bys s.f.data)
  fok : ∀ s ∈ fl, okF s.f = true ∧ FrIn s.f
  bank : bankOk T.rules = true
  wf : ∀ r ∈ T.rules, RuWf r
  hq : (ql.map absQ).Perm T.q
  hs : T.q.Pairwise leQ
  hl : fl.map (·.f) = T.l
  lo : base ≤ b ∧ base ≤ qb ∧ base ≤ fb
/-- The counters are not great. -/
def BndB (N fov : Nat) (T : BX) : Prop := T.last ≤ N ∧ T.put ≤ N ∧ T.sent ≤ N ∧ T.gone ≤ N ∧ T.came ≤ N ∧ T.kept ≤ N ∧ T.refused ≤ N ∧ T.over ≤ N ∧ T.taken ≤ N ∧ fov ≤ N
def footB (b qb fb : Nat) (QA : Option Addr) : List Nat := b :: qb :: fb :: blkA QA
/-- A box, with what may be turned. -/
def BoxA (w : World) (base N : Nat) (ft : List Nat) (b : Nat) (T : BX) : Prop :=
  ∃ qb fb RA rc QA cap ql fl first fov, BoxI w base b qb fb RA rc QA cap ql fl first fov T ∧ BndB N fov T ∧ ft = footB b qb fb QA
theorem BoxI.foot {w : World} {base b qb fb rc cap first fov : Nat} {RA QA : Option Addr} {ql : List QN} {fl : List SF} {T : BX} (h : BoxI w base b qb fb RA rc QA cap ql fl first fov T) : Foot (footB b qb fb QA) w ∧ (∀ k ∈ footB b qb fb QA, base ≤ k) ∧ b ≠ qb ∧ b ≠ fb ∧ qb ≠ fb ∧ b ∉ blkA QA ∧ qb ∉ blkA QA ∧ fb ∉ blkA QA := by
  obtain ⟨cs, hf, -⟩ := h.fifo
  have hb := h.box
  have hq := h.queue.heap.box
  have hA := h.queue.heap.blk
  refine ⟨?_, ?_, ne_of_type hb hq (by decide), ne_of_type hb hf (by decide), ne_of_type hq hf (by decide), ?_, ?_, ?_⟩
  · intro k hk
    simp only [footB, List.mem_cons] at hk
    rcases hk with rfl | rfl | rfl | hk
    · exact ⟨_, _, _, hb, by decide, by decide⟩
    · exact ⟨_, _, _, hq, by decide, by decide⟩
    · exact ⟨_, _, _, hf, by decide, by decide⟩
    · obtain ⟨-, -, cs, h1⟩ := hA k hk
      exact ⟨_, _, _, h1, by decide, by decide⟩
  · intro k hk
    simp only [footB, List.mem_cons] at hk
    rcases hk with rfl | rfl | rfl | hk
    · exact h.lo.1
    · exact h.lo.2.1
    · exact h.lo.2.2
    · exact (hA k hk).2.1
  · intro hm; obtain ⟨-, -, cs, h1⟩ := hA _ hm; exact ne_of_type hb h1 (by decide) rfl
  · intro hm; exact (hA _ hm).1 rfl
  · intro hm; obtain ⟨-, -, cs, h1⟩ := hA _ hm; exact ne_of_type hf h1 (by decide) rfl
theorem QueueI.turn {w w' : World} {s : List Nat} {base qb room last cap : Nat} {A : Option Addr} {l : List QN} (h : QueueI w base qb room last A cap l) (ht : Turn s w w') (h1 : qb ∉ s) (h2 : ∀ a ∈ blkA A, a ∉ s) (hf : Foot s w) : QueueI w' base qb room last A cap l :=
  ⟨h.heap.turn ht h1 h2, h.ord, fun e he => (h.data e he).turn_ty ht hf.bytes, h.len, h.room, h.ok, h.nos, h.nodup⟩
/-- A box stands if other blocks are turned. -/
theorem BoxI.turn {w w' : World} {s : List Nat} {base b qb fb rc cap first fov : Nat} {RA QA : Option Addr} {ql : List QN} {fl : List SF} {T : BX} (h : BoxI w base b qb fb RA rc QA cap ql fl first fov T) (ht : Turn s w w') (hf : Foot s w) (hd : ∀ k ∈ footB b qb fb QA, k ∉ s) :
    BoxI w' base b qb fb RA rc QA cap ql fl first fov T :=
  ⟨ht.heap h.box (hd b (by simp [footB])), h.rules.turn ht hf, h.queue.turn ht (hd qb (by simp [footB])) (fun a ha => hd a (by simp [footB, ha])) hf, h.fifo.turn ht (hd fb (by simp [footB])), fun x hx => (h.data x hx).turn_ty ht hf.bytes, h.fok, h.bank, h.wf, h.hq, h.hs, h.hl, h.lo⟩
theorem BoxI.below {w w' : World} {base b qb fb rc cap first fov : Nat} {RA QA : Option Addr} {ql : List QN} {fl : List SF} {T : BX} (h : BoxI w base b qb fb RA rc QA cap ql fl first fov T) (hb : Below w.heap.size w w') :
    BoxI w' base b qb fb RA rc QA cap ql fl first fov T := h.turn (Turn.of (s := []) hb) (fun k hk => by simp at hk) (fun k _ => by simp)
theorem BoxA.turn {w w' : World} {s ft : List Nat} {base N b : Nat} {T : BX} (h : BoxA w base N ft b T) (ht : Turn s w w') (hf : Foot s w) (hd : ∀ k ∈ ft, k ∉ s) : BoxA w' base N ft b T := by
  obtain ⟨qb, fb, RA, rc, QA, cap, ql, fl, first, fov, h1, h2, rfl⟩ := h
  exact ⟨qb, fb, RA, rc, QA, cap, ql, fl, first, fov, h1.turn ht hf hd, h2, rfl⟩
theorem BoxA.below {w w' : World} {ft : List Nat} {base N b : Nat} {T : BX} (h : BoxA w base N ft b T) (hb : Below w.heap.size w w') : BoxA w' base N ft b T := h.turn (Turn.of (s := []) hb) (fun k hk => by simp at hk) (fun k _ => by simp)
theorem BoxA.foot {w : World} {ft : List Nat} {base N b : Nat} {T : BX} (h : BoxA w base N ft b T) : Foot ft w ∧ (∀ k ∈ ft, base ≤ k) ∧ (∀ k ∈ ft, k < w.heap.size) ∧ b ∈ ft := by
  obtain ⟨qb, fb, RA, rc, QA, cap, ql, fl, first, fov, h1, h2, rfl⟩ := h
  obtain ⟨f1, f2, -⟩ := h1.foot
  exact ⟨f1, f2, fun k hk => by obtain ⟨cs, u, fr, hh, -⟩ := f1 k hk; exact heap_lt hh, by simp [footB]⟩
theorem BndB.mono {N M fov : Nat} {T : BX} (h : BndB N fov T) (hm : N ≤ M) : BndB M fov T := by
  unfold BndB at *; omega
theorem BoxA.mono {w : World} {ft : List Nat} {base N M b : Nat} {T : BX} (h : BoxA w base N ft b T) (hm : N ≤ M) : BoxA w base M ft b T := by
  obtain ⟨qb, fb, RA, rc, QA, cap, ql, fl, first, fov, h1, h2, h3⟩ := h
  exact ⟨qb, fb, RA, rc, QA, cap, ql, fl, first, fov, h1, h2.mono hm, h3⟩
theorem Foot.turn {s t : List Nat} {w w' : World} (h : Foot s w) (ht : Turn t w w') (hd : ∀ k ∈ s, k ∉ t) : Foot s w' := fun k hk => by
  obtain ⟨cs, u, fr, h1, h2⟩ := h k hk
  exact ⟨cs, u, fr, ht.heap h1 (hd k hk), h2⟩
end Go.Proofs.Ytlmdkmflbhnlgaa
