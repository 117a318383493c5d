/- The document's queue (ref14): how it lies, and Head. No condition. -/
import Derived.Test.YtlmdkmflbhnlgaaLawBoxF0
import Derived.Test.YtlmdkmflbhnlgaaActs
import Derived.Test.YtlmdkmflbhnlgaaRefCheck
import Derived.Test.YtlmdkmflbhnlgaaAppK
import Derived.Test.YtlmdkmflbhnlgaaRefKey4
import Derived.Test.YtlmdkmflbhnlgaaAppB
namespace Go.Proofs.Ytlmdkmflbhnlgaa
open Go.RowKit
/-- An item of the document's queue. -/
structure QI where
  no : Int
  s : SF
def qiL (x : QI) : List Value := itL x.no x.s.f x.s.A x.s.c
theorem qiL_length (x : QI) : (qiL x).length = 12 := rfl
def absI (x : QI) : QE := ⟨x.no, x.s.f⟩
/-- How it lies: at some offset of a block. -/
structure RefQ (w : World) (base qb o room last : Nat) (A : Option Addr) (c : Nat) (L : List QI) (cs : Array Value) (ty : TypeId) : Prop where
  box : w.heap[qb]? = some (.cells cs ty (0, 0))
  c0 : cs[o]? = some (.int .i64 room)
  c1 : cs[o + 1]? = some (.int .i64 last)
  c2 : cs[o + 2]? = some (.slice A L.length c)
  ne : ty ≠ 5 ∧ ty ≠ 60 ∧ ty ≠ 91
  own : w.ownsRow base 60 12 (.slice A L.length c) L.length (L.flatMap qiL)
  data : ∀ x ∈ L, Row w base 5 x.s.A x.s.c (bys x.s.f.data)
  lo : base ≤ qb
theorem own_cells12 {w : World} {base c : Nat} {A : Option Addr} {L : List QI} (h : w.ownsRow base 60 12 (.slice A L.length c) L.length (L.flatMap qiL)) (j : Nat) (hj : j < L.length) : ∃ g, A = some ⟨g, 0, none⟩ ∧ ∀ k u, (qiL L[j])[k]? = some u → w.cell? ⟨g, j * 12 + k, none⟩ = some u := by
  rcases h.2 with ⟨hv, h0⟩ | ⟨g, cap, cur, hv, hg, hh, hnc, hm, hs, ht⟩
  · injection hv with h1 h2; omega
  · refine ⟨g, by injection hv, fun k u hu => ?_⟩
    have hk : k < 12 := by have := (List.getElem?_eq_some_iff.1 hu).1; rwa [qiL_length] at this
    have h1 := flat_get qiL_length L j hj k hk
    rw [hu] at h1
    have h2 : (cur.toList.take (L.length * 12))[j * 12 + k]? = some u := by rw [ht]; exact h1
    have hlt : j * 12 + k < L.length * 12 := by have := Nat.mul_le_mul_right 12 (show j + 1 ≤ L.length by omega); omega
    rw [List.getElem?_take_of_lt hlt] at h2
    exact cell_of_heap hh _ _ (by simpa using h2)
theorem RefQ.below {w w' : World} {base qb o room last c : Nat} {A : Option Addr} {L : List QI} {cs : Array Value} {ty : TypeId} (h : RefQ w base qb o room last A c L cs ty) (hb : Below w.heap.size w w') : RefQ w' base qb o room last A c L cs ty :=
  ⟨heap_below hb h.box, h.c0, h.c1, h.c2, h.ne, own_turn h.own (Turn.of (s := []) hb) (fun _ _ => by simp), fun x hx => (h.data x hx).turn (Turn.of (s := []) hb) (fun _ _ => by simp), h.lo⟩
set_option maxRecDepth 100000 in
set_option maxHeartbeats 4000000 in
theorem RHead_nil (w : World) (base qb o room last c : Nat) (A : Option Addr) (cs : Array Value) (ty : TypeId) (h : RefQ w base qb o room last A c [] cs ty) :
    Calls Try.prog 52 #[.pointer (some ⟨qb, o, none⟩)] w fun e w' => e = .returned (.tuple #[.agg #[.int .i64 0, .int .i64 0, .int .u32 0, .bool false, .bool false, .bool false, .bool false, .bool false, .int .u8 0, .int .u8 0, .int .u32 0, .slice none 0 0], .int .i64 9]) ∧ Below w.heap.size w w' := by
  have hbl : qb < w.heap.size := heap_lt h.box
  have c2 : w.cell? ⟨qb, o + 2, none⟩ = some (.slice A 0 c) := cell_of_heap h.box (o + 2) _ h.c2
  go_enter Try.func52, Try.ntmps52
  go_wp2_with fail
  refine bodyPost_ret (v := .tuple #[.agg #[.int .i64 0, .int .i64 0, .int .u32 0, .bool false, .bool false, .bool false, .bool false, .bool false, .int .u8 0, .int .u8 0, .int .u32 0, .slice none 0 0], .int .i64 9]) (by simp [results, Try.results52, go_sem, *]) rfl ⟨rfl, ?_⟩
  repeat (refine Below.setCell ?_ (by simp) _)
  exact below_alloc (Below.refl _ _) _
set_option maxRecDepth 100000 in
set_option maxHeartbeats 4000000 in
theorem RHead_cons (w : World) (base qb o room last c n : Nat) (A : Option Addr) (x : QI) (r : List QI) (cs : Array Value) (ty : TypeId) (h : RefQ w base qb o room last A c (x :: r) cs ty) (hn : (x :: r).length = n) :
    Calls Try.prog 52 #[.pointer (some ⟨qb, o, none⟩)] w fun e w' => e = .returned (.tuple #[.agg #[.int .i64 x.no, .int .i64 x.s.f.kind, .int .u32 x.s.f.id, .bool x.s.f.ext, .bool x.s.f.rtr, .bool x.s.f.brs, .bool x.s.f.esi, .bool x.s.f.sec, .int .u8 x.s.f.sdt, .int .u8 x.s.f.vcid, .int .u32 x.s.f.af, .slice x.s.A x.s.f.data.length x.s.c], .int .i64 0]) ∧ Below w.heap.size w w' := by
  have hbl : qb < w.heap.size := heap_lt h.box
  have c2 : w.cell? ⟨qb, o + 2, none⟩ = some (.slice A n c) := by rw [← hn]; exact cell_of_heap h.box (o + 2) _ h.c2
  have hn0 : 0 < n := by rw [← hn]; simp
  have hn1 : ¬ n = 0 := by omega
  obtain ⟨g, rfl, hc⟩ := own_cells12 h.own 0 (by simp)
  have a0 : w.cell? ⟨g, 0, none⟩ = some (.int .i64 x.no) := by simpa using hc 0 _ rfl
  simp only [Nat.zero_mul, Nat.zero_add, List.getElem_cons_zero] at hc
  have a1 := hc 1 _ rfl
  have a2 := hc 2 _ rfl
  have a3 := hc 3 _ rfl
  have a4 := hc 4 _ rfl
  have a5 := hc 5 _ rfl
  have a6 := hc 6 _ rfl
  have a7 := hc 7 _ rfl
  have a8 := hc 8 _ rfl
  have a9 := hc 9 _ rfl
  have a10 := hc 10 _ rfl
  have a11 := hc 11 _ rfl
  have hgl : g < w.heap.size := cell_lt a0
  clear h hc hn
  go_enter Try.func52, Try.ntmps52
  go_wp2_with fail
  refine bodyPost_ret (v := .tuple #[.agg #[.int .i64 x.no, .int .i64 x.s.f.kind, .int .u32 x.s.f.id, .bool x.s.f.ext, .bool x.s.f.rtr, .bool x.s.f.brs, .bool x.s.f.esi, .bool x.s.f.sec, .int .u8 x.s.f.sdt, .int .u8 x.s.f.vcid, .int .u32 x.s.f.af, .slice x.s.A x.s.f.data.length x.s.c], .int .i64 0]) (by simp [results, Try.results52, go_sem, *]) rfl ⟨rfl, ?_⟩
  repeat (refine Below.setCell ?_ (by simp) _)
  exact below_alloc (Below.refl _ _) _
end Go.Proofs.Ytlmdkmflbhnlgaa
namespace Go.Proofs.Ytlmdkmflbhnlgaa
open Go.RowKit
theorem insQ_at {x : QE} : ∀ {q : List QE} {j : Nat}, j ≤ q.length → q.Pairwise (fun a b => keyF a.f ≤ keyF b.f) → (∀ i (h : i < q.length), i + 1 = j → keyF q[i].f ≤ keyF x.f) → (∀ i (h : i < q.length), j ≤ i → keyF x.f < keyF q[i].f) → insQ x q = q.take j ++ x :: q.drop j
  | [], j, _, _, _, _ => by simp [insQ]
  | y :: q, 0, _, _, _, h2 => by
    have := h2 0 (by simp) (by omega)
    unfold insQ
    rw [if_neg (by simpa using this)]
    simp
  | y :: q, j + 1, hj, hs, h1, h2 => by
    obtain ⟨s1, s2⟩ := List.pairwise_cons.1 hs
    have hj' : j ≤ q.length := by simpa using hj
    have hy : keyF y.f ≤ keyF x.f := by
      have := h1 j (by simp; omega) rfl
      cases j with
      | zero => simpa using this
      | succ k =>
        have hk : k < q.length := by omega
        have h3 := s1 q[k] (List.getElem_mem hk)
        simp at this
        omega
    unfold insQ
    rw [if_pos hy, insQ_at hj' s2 (fun i h e => by have := h1 (i + 1) (by simp; omega) (by omega); simpa using this) (fun i h e => by have := h2 (i + 1) (by simp; omega) (by omega); simpa using this)]
    simp
/-- A row of items while it is filled: what is known of it. -/
def MvI (W : World) (base g N cap : Nat) (G : Nat → Option QI) : Prop :=
  base ≤ g ∧ N ≤ cap ∧ cap ≤ maxLen ∧ ∃ cur : Array Value, W.heap[g]? = some (.cells cur 60 (0, 0)) ∧ cur.size = cap * 12 ∧ ∀ i, i < N → ∀ x, G i = some x → ∀ k u, (qiL x)[k]? = some u → cur[i * 12 + k]? = some u
theorem MvI.cell {W : World} {base g N cap : Nat} {G : Nat → Option QI} (h : MvI W base g N cap G) (i : Nat) (hi : i < N) (x : QI) (hx : G i = some x) : ∀ k u, (qiL x)[k]? = some u → W.cell? ⟨g, i * 12 + k, none⟩ = some u := fun k u hk => by
  obtain ⟨_, _, _, cur, hh, _, hc⟩ := h
  exact cell_of_heap hh _ _ (hc i hi x hx k u hk)
theorem MvI.turn {W W' : World} {base g N cap : Nat} {G : Nat → Option QI} {s : List Nat} (h : MvI W base g N cap G) (ht : Turn s W W') (hs : g ∉ s) : MvI W' base g N cap G := by
  obtain ⟨h1, h2, h3, cur, hh, h4, hc⟩ := h
  exact ⟨h1, h2, h3, cur, ht.heap hh hs, h4, hc⟩
theorem MvI.below {W W' : World} {base g N cap : Nat} {G : Nat → Option QI} (h : MvI W base g N cap G) (hb : Below W.heap.size W W') : MvI W' base g N cap G := h.turn (s := []) (Turn.of hb) (by simp)
theorem MvI.lt {W : World} {base g N cap : Nat} {G : Nat → Option QI} (h : MvI W base g N cap G) : g < W.heap.size := by
  obtain ⟨_, _, _, cur, hh, _, _⟩ := h
  exact heap_lt hh
theorem MvI.there {W : World} {base g N cap : Nat} {G : Nat → Option QI} (h : MvI W base g N cap G) (j : Nat) (hj : j < N) : W.there g (j * 12) 12 := by
  obtain ⟨_, h2, _, cur, hh, h4, _⟩ := h
  refine there_of hh _ _ ?_
  rw [h4]; have := Nat.mul_le_mul_right 12 (show j + 1 ≤ cap by omega); omega
theorem MvI.set {W : World} {base g N cap : Nat} {G : Nat → Option QI} (h : MvI W base g N cap G) (j : Nat) (x : QI) : MvI (W.setCells g (j * 12) (qiL x)) base g N cap (fun i => if i = j then some x else G i) := by
  obtain ⟨h1, h2, h3, cur, hh, h4, hc⟩ := h
  obtain ⟨ds, d1, d2, d3⟩ := heap_setCells (qiL x) (j * 12) hh
  refine ⟨h1, h2, h3, ds, d1, by rw [d2, h4], fun i hi y hy k u hk => ?_⟩
  have hk12 : k < 12 := by have := (List.getElem?_eq_some_iff.1 hk).1; rwa [qiL_length] at this
  rw [d3 (i * 12 + k), qiL_length]
  dsimp only at hy
  by_cases e : i = j
  · subst e
    rw [if_pos rfl] at hy
    have hxy : x = y := Option.some.inj hy
    rw [← hxy] at hk
    clear hy hxy
    have hlt : i * 12 + k < cur.size := by rw [h4]; have := Nat.mul_le_mul_right 12 (show i + 1 ≤ cap by omega); omega
    rw [if_pos (by omega), show i * 12 + k - i * 12 = k by omega]
    exact hk
  · rw [if_neg e] at hy
    rw [if_neg ?_]
    · exact hc i hi y hy k u hk
    · intro hcc
      rcases Nat.lt_or_gt_of_ne e with h5 | h5
      · have := Nat.mul_le_mul_right 12 (show i + 1 ≤ j by omega); omega
      · have := Nat.mul_le_mul_right 12 (show j + 1 ≤ i by omega); omega
theorem MvI.mono {W : World} {base g N cap : Nat} {G G' : Nat → Option QI} (h : MvI W base g N cap G) (hg : ∀ i, i < N → ∀ x, G' i = some x → G i = some x) : MvI W base g N cap G' := by
  obtain ⟨h1, h2, h3, cur, hh, h4, hc⟩ := h
  exact ⟨h1, h2, h3, cur, hh, h4, fun i hi x hx => hc i hi x (hg i hi x hx)⟩
theorem flat_len : ∀ (L : List QI), (L.flatMap qiL).length = L.length * 12
  | [] => rfl
  | x :: r => by rw [List.flatMap_cons, List.length_append, flat_len r, qiL_length, List.length_cons]; omega
theorem MvI.own {W : World} {base g N cap : Nat} {G : Nat → Option QI} (h : MvI W base g N cap G) (M : List QI) (hM : M.length = N) (hG : ∀ i (hi : i < M.length), G i = some M[i]) : W.ownsRow base 60 12 (.slice (some ⟨g, 0, none⟩) N cap) N (M.flatMap qiL) := by
  obtain ⟨h1, h2, h3, cur, hh, h4, hc⟩ := h
  refine ⟨by rw [flat_len, hM], .inr ⟨g, cap, cur, rfl, h1, hh, h2, h3, h4, ?_⟩⟩
  apply List.ext_getElem?
  intro t
  by_cases ht : t < N * 12
  · rw [List.getElem?_take_of_lt ht]
    have hi : t / 12 < M.length := by rw [hM]; omega
    have e : t = t / 12 * 12 + t % 12 := by omega
    have hk : t % 12 < 12 := Nat.mod_lt _ (by omega)
    have h5 := flat_get qiL_length M (t / 12) hi (t % 12) hk
    obtain ⟨u, hu⟩ : ∃ u, (qiL (M[t / 12]'hi))[t % 12]? = some u := ⟨_, List.getElem?_eq_getElem (by rw [qiL_length]; exact hk)⟩
    have h6 := hc (t / 12) (by omega) _ (hG _ hi) _ u hu
    rw [e, h5, hu]
    simpa using h6
  · have h7 : (List.take (N * 12) cur.toList).length ≤ t := by simp; omega
    rw [List.getElem?_eq_none h7, List.getElem?_eq_none (by rw [flat_len, hM]; omega)]
theorem MvI.of_own {W : World} {base N c : Nat} {A : Option Addr} {vs : List Value} (h : W.ownsRow base 60 12 (.slice A N c) N vs) (hN : 0 < N) (G : Nat → Option QI) (hG : ∀ i, i < N → ∀ x, G i = some x → ∀ k u, (qiL x)[k]? = some u → vs[i * 12 + k]? = some u) : ∃ g, A = some ⟨g, 0, none⟩ ∧ MvI W base g N c G := by
  rcases h.2 with ⟨_, h0⟩ | ⟨g, cap, cur, hv, hg, hh, hnc, hm, hs, ht⟩
  · omega
  · injection hv with e1 e2 e3
    subst e1; subst e3
    refine ⟨g, rfl, hg, hnc, hm, cur, hh, hs, fun i hi x hx k u hk => ?_⟩
    have h1 := hG i hi x hx k u hk
    rw [← ht] at h1
    have h2 := (List.getElem?_eq_some_iff.1 h1).1
    have hlt : i * 12 + k < N * 12 := by
      have := (List.getElem?_eq_some_iff.1 hk).1; rw [qiL_length] at this
      have := Nat.mul_le_mul_right 12 (show i + 1 ≤ N by omega); omega
    rw [List.getElem?_take_of_lt hlt] at h1
    simpa using h1
/-- The row while the item at j is still to be written. -/
def gapG (L : List QI) (j : Nat) : Nat → Option QI := fun i => if i < j then L[i]? else if i = j then none else L[i - 1]?
theorem gapG_step {L : List QI} {j : Nat} (hj : j < L.length) (i : Nat) (x : QI) (hx : gapG L j i = some x) : (if i = j + 1 then some L[j] else gapG L (j + 1) i) = some x := by
  unfold gapG at hx ⊢
  by_cases h1 : i < j
  · rw [if_pos h1] at hx
    rw [if_neg (by omega), if_pos (by omega)]; exact hx
  · rw [if_neg h1] at hx
    by_cases h2 : i = j
    · rw [if_pos h2] at hx; cases hx
    · rw [if_neg h2] at hx
      by_cases h3 : i = j + 1
      · subst h3
        rw [if_pos rfl]
        rw [Nat.add_sub_cancel, List.getElem?_eq_getElem hj] at hx
        exact hx
      · rw [if_neg h3, if_neg (by omega), if_neg (by omega)]; exact hx
theorem gapG_end {L : List QI} {j : Nat} (hj : j ≤ L.length) (x : QI) (i : Nat) (hi : i < (L.take j ++ x :: L.drop j).length) : (if i = j then some x else gapG L j i) = some (L.take j ++ x :: L.drop j)[i] := by
  rw [← List.getElem?_eq_getElem hi]
  by_cases h1 : i < j
  · rw [if_neg (by omega), List.getElem?_append_left (by simp; omega), List.getElem?_take_of_lt h1]
    unfold gapG
    rw [if_pos h1]
  · have hl : (L.take j).length = j := by simp; omega
    rw [List.getElem?_append_right (by omega), hl]
    by_cases h2 : i = j
    · subst h2; simp
    · rw [if_neg h2]
      unfold gapG
      rw [if_neg h1, if_neg h2, show i - j = (i - 1 - j) + 1 by omega, List.getElem?_cons_succ, List.getElem?_drop]
      congr 1
      omega
theorem gapG_start {L : List QI} (z : List Value) (i : Nat) (x : QI) (hx : gapG L L.length i = some x) (k : Nat) (u : Value) (hk : (qiL x)[k]? = some u) (hi : i < L.length + 1) : (L.flatMap qiL ++ z)[i * 12 + k]? = some u := by
  unfold gapG at hx
  by_cases h1 : i < L.length
  · rw [if_pos h1, List.getElem?_eq_getElem h1] at hx
    injection hx with hx
    have hk12 : k < 12 := by have := (List.getElem?_eq_some_iff.1 hk).1; rwa [qiL_length] at this
    have h5 := flat_get qiL_length L i h1 k hk12
    rw [List.getElem?_append_left (by rw [flat_len]; have := Nat.mul_le_mul_right 12 (show i + 1 ≤ L.length by omega); omega), h5, hx]
    exact hk
  · rw [if_neg h1, if_pos (by omega)] at hx; cases hx
end Go.Proofs.Ytlmdkmflbhnlgaa
namespace Go.Proofs.Ytlmdkmflbhnlgaa
open Go.RowKit
set_option maxRecDepth 100000 in
set_option maxHeartbeats 4000000 in
theorem RPut_no (w : World) (qb o d m : Nat) (B : Option Addr) (f : Fr) (hm : f.data.length = m) (hq : okF f = false) :
    Calls Try.prog 19 #[.pointer (some ⟨qb, o, none⟩), frv f (.slice B m d)] w fun e w' => e = .returned (.tuple #[.int .i64 0, .int .i64 2]) ∧ Below w.heap.size w w' := by
  subst hm
  have HC := Lib.hid (fun W => CheckR_any f B d W)
  rw [hq] at HC
  clear hq
  obtain ⟨fk, fi, fe, fr, f4, f5, f6, f7, f8, f9, data⟩ := f
  dsimp only [frv] at *
  go_enter Try.func19, Try.ntmps19
  go_wp2_with fail
  refine (HC.out _).mono ?_
  rintro e w1 ⟨rfl, hb⟩
  have HB := Lib.hid (below_trans (below_alloc (Below.refl _ _) _) hb)
  clear hb
  simp only [errV, Bool.false_eq_true, if_false]
  go_wp2_with fail
  go_ret2
  exact ⟨by first | rfl | simp, HB.out⟩
end Go.Proofs.Ytlmdkmflbhnlgaa
namespace Go.Proofs.Ytlmdkmflbhnlgaa
open Go.RowKit
set_option maxRecDepth 100000 in
set_option maxHeartbeats 4000000 in
theorem RPut_full (w : World) (base qb o room last c n d m : Nat) (A B : Option Addr) (f : Fr) (L : List QI) (cs : Array Value) (ty : TypeId) (h : RefQ w base qb o room last A c L cs ty) (hn : L.length = n) (hm : f.data.length = m) (hq : okF f = true) (hf : room ≤ n) :
    Calls Try.prog 19 #[.pointer (some ⟨qb, o, none⟩), frv f (.slice B m d)] w fun e w' => e = .returned (.tuple #[.int .i64 0, .int .i64 8]) ∧ Below w.heap.size w w' := by
  subst hm
  have HC := Lib.hid (fun W => CheckR_any f B d W)
  rw [hq] at HC
  clear hq
  have c0 : w.cell? ⟨qb, o, none⟩ = some (.int .i64 room) := cell_of_heap h.box o _ h.c0
  have c2 : w.cell? ⟨qb, o + 2, none⟩ = some (.slice A n c) := by rw [← hn]; exact cell_of_heap h.box (o + 2) _ h.c2
  clear h hn
  obtain ⟨fk, fi, fe, fr, f4, f5, f6, f7, f8, f9, data⟩ := f
  dsimp only [frv] at *
  go_enter Try.func19, Try.ntmps19
  go_wp2_with fail
  refine calls_blk1 fun W1 q1 hb1 => ?_
  refine (HC.out _).mono ?_
  rintro e w1 ⟨rfl, hb⟩
  have HB := Lib.hid (below_trans hb1 hb)
  have x0 : w1.cell? ⟨qb, o, none⟩ = some (.int .i64 room) := Below.cell_of HB.out c0
  have x2 : w1.cell? ⟨qb, o + 2, none⟩ = some (.slice A n c) := Below.cell_of HB.out c2
  clear hb hb1 q1 c0 c2
  simp only [errV, if_true]
  go_wp2_with fail
  go_quiet (fail)
  go_wp2_with fail
  go_ret2
  exact ⟨by first | rfl | simp, below_drewN HB.out _⟩
end Go.Proofs.Ytlmdkmflbhnlgaa
namespace Go.Proofs.Ytlmdkmflbhnlgaa
open Go.RowKit
theorem heap_belowB {B g : Nat} {w w' : World} {o : Obj} (h : Below B w w') (hg : g < B) (ho : w.heap[g]? = some o) : w'.heap[g]? = some o := (h.block g hg).trans ho
theorem own_lit0 {w : World} {base e size : Nat} (hb : base ≤ w.heap.size) : (w.alloc (.cells #[] e)).ownsRow base e size (.slice (some ⟨w.heap.size, 0, none⟩) 0 0) 0 [] :=
  ⟨by simp, .inr ⟨w.heap.size, 0, #[], rfl, hb, heap_new_at rfl, Nat.le_refl _, by unfold maxLen; omega, by simp, by simp⟩⟩
def zItem : List Value := [.int .i64 0, .int .i64 0, .int .u32 0, .bool false, .bool false, .bool false, .bool false, .bool false, .int .u8 0, .int .u8 0, .int .u32 0, .slice none 0 0]
theorem info_itemR : ∃ i : TypeInfo, Try.prog.info? 60 = some i ∧ i.zero = some (.agg #[.int .i64 0, .int .i64 0, .int .u32 0, .bool false, .bool false, .bool false, .bool false, .bool false, .int .u8 0, .int .u8 0, .int .u32 0, .slice none 0 0]) ∧ i.size = 12 ∧ i.bytes = 56 := by
  have h : (Try.prog.info? 60).isSome = true ∧ (∀ i, Try.prog.info? 60 = some i → i.zero = some (.agg #[.int .i64 0, .int .i64 0, .int .u32 0, .bool false, .bool false, .bool false, .bool false, .bool false, .int .u8 0, .int .u8 0, .int .u32 0, .slice none 0 0]) ∧ i.size = 12 ∧ i.bytes = 56) := by
    refine ⟨by kernel_rfl, fun i hi => ?_⟩
    have h2 : (Try.prog.info? 60).map (fun i => (i.size, i.bytes)) = some (12, 56) := by kernel_rfl
    have h3 : (Try.prog.info? 60).bind (fun i => i.zero) = some (.agg #[.int .i64 0, .int .i64 0, .int .u32 0, .bool false, .bool false, .bool false, .bool false, .bool false, .int .u8 0, .int .u8 0, .int .u32 0, .slice none 0 0]) := by kernel_rfl
    rw [hi] at h2 h3
    simp at h2 h3
    exact ⟨h3, h2⟩
  obtain ⟨i, hi⟩ := Option.isSome_iff_exists.1 h.1
  exact ⟨i, hi, h.2 i hi⟩
theorem info_itemS : (Try.prog.info? 60).map (·.size) = some 12 := by kernel_rfl
theorem qiL_one (L : List QI) : ∀ u ∈ L.flatMap qiL, u.oneCell' = true := by
  intro u hu
  obtain ⟨x, _, hu⟩ := List.mem_flatMap.1 hu
  simp only [qiL, itL, List.mem_cons, List.not_mem_nil, or_false] at hu
  rcases hu with h | h | h | h | h | h | h | h | h | h | h | h <;> (rw [h]; rfl)
theorem zItem_one : ∀ u ∈ zItem, u.oneCell' = true := by
  intro u hu
  simp only [zItem, List.mem_cons, List.not_mem_nil, or_false] at hu
  rcases hu with h | h | h | h | h | h | h | h | h | h | h | h <;> (rw [h]; rfl)
theorem own_mono12 {w : World} {base base' e size n : Nat} {v : Value} {xs : List Value} (h : w.ownsRow base e size v n xs) (hb : base' ≤ base) : w.ownsRow base' e size v n xs := by
  refine ⟨h.1, ?_⟩
  rcases h.2 with h2 | ⟨g, cap, cur, hv, hg, r⟩
  · exact .inl h2
  · exact .inr ⟨g, cap, cur, hv, Nat.le_trans hb hg, r⟩
/-- The block's cells behind it. -/
def csP (cs : Array Value) (o last : Nat) (A : Option Addr) (n c : Nat) : Array Value := (cs.setIfInBounds (o + 1) (.int .i64 ((last : Int) + 1))).setIfInBounds (o + 2) (.slice A n c)
/-- What Put does where it lets in. -/
def RPutIn (w : World) (base qb o room last : Nat) (L : List QI) (f : Fr) (cs : Array Value) (ty : TypeId) (e : Ending) (w' : World) : Prop :=
  e = .returned (.tuple #[.int .i64 ((last : Int) + 1), .int .i64 0]) ∧ ∃ (g c : Nat) (L' : List QI), RefQ w' base qb o room (last + 1) (some ⟨g, 0, none⟩) c L' (csP cs o last (some ⟨g, 0, none⟩) (L.length + 1) c) ty ∧ L'.map absI = insQ ⟨(last : Int) + 1, f⟩ (L.map absI) ∧ Turn [qb] w w' ∧ w.heap.size ≤ g
/-- While the row is filled. -/
structure PutI (w wr : World) (base qb g cap n j : Nat) (L : List QI) (fv : Array Value) (cs : Array Value) (ty : TypeId) : Prop where
  fr : wr.heap[w.heap.size]? = some (.cells fv 42 (0, 0))
  q : wr.heap[qb]? = some (.cells cs ty (0, 0))
  mv : MvI wr (w.heap.size + 1) g (n + 1) cap (gapG L j)
  turn : Turn [qb] w wr
  data : ∀ x ∈ L, Row wr base 5 x.s.A x.s.c (bys x.s.f.data)
theorem PutI.below {w wr wr' : World} {base qb g cap n j : Nat} {L : List QI} {fv cs : Array Value} {ty : TypeId} (h : PutI w wr base qb g cap n j L fv cs ty) (hb : Below wr.heap.size wr wr') : PutI w wr' base qb g cap n j L fv cs ty :=
  ⟨heap_below hb h.fr, heap_below hb h.q, h.mv.below hb, h.turn.tr (Turn.of hb), fun x hx => (h.data x hx).below hb⟩
theorem PutI.ne {w wr : World} {base qb g cap n j : Nat} {L : List QI} {fv cs : Array Value} {ty : TypeId} (h : PutI w wr base qb g cap n j L fv cs ty) (hne : ty ≠ 60) : w.heap.size ≠ g ∧ qb ≠ g ∧ w.heap.size < g := by
  obtain ⟨h1, _, _, cur, hh, _⟩ := h.mv
  exact ⟨by omega, ne_of_type h.q hh hne, by omega⟩
theorem PutI.put {w wr : World} {base qb g cap n j : Nat} {L : List QI} {fv cs : Array Value} {ty : TypeId} (h : PutI w wr base qb g cap n j L fv cs ty) (hne : ty ≠ 60) (vs : List Value) (k : Nat) : (wr.setCells g k vs).heap[w.heap.size]? = some (.cells fv 42 (0, 0)) ∧ (wr.setCells g k vs).heap[qb]? = some (.cells cs ty (0, 0)) ∧ Turn [qb] w (wr.setCells g k vs) ∧ ∀ t c xs A, t = 5 → Row wr base t A c xs → Row (wr.setCells g k vs) base t A c xs := by
  obtain ⟨n1, n2, n3⟩ := h.ne hne
  obtain ⟨h1, _, _, cur, hh, _⟩ := h.mv
  have ht : Turn [g] wr (wr.setCells g k vs) := Turn.setCells (.inl (by simp)) _ _ (Turn.refl _ _)
  refine ⟨ht.heap h.fr (by simpa using n1), ht.heap h.q (by simpa using n2), h.turn.trans ht (fun x hx => .inr (by simp at hx; omega)), fun t c xs A e hr => hr.turn_ty ht fun i hi => ?_⟩
  simp at hi
  subst hi
  exact ⟨_, _, _, hh, by rw [e]; decide⟩
theorem PutI.step {w wr : World} {base qb g cap n j : Nat} {L : List QI} {fv cs : Array Value} {ty : TypeId} (h : PutI w wr base qb g cap n (j + 1) L fv cs ty) (hj : j < L.length) (hne : ty ≠ 60) : PutI w (wr.setCells g ((j + 1) * 12) (qiL L[j])) base qb g cap n j L fv cs ty := by
  obtain ⟨k1, k2, k3, k4⟩ := h.put hne (qiL L[j]) ((j + 1) * 12)
  exact ⟨k1, k2, (h.mv.set (j + 1) L[j]).mono fun i hi x hx => gapG_step hj i x hx, k3, fun x hx => k4 _ _ _ _ rfl (h.data x hx)⟩
theorem PutI.fset {w wr : World} {base qb g cap n j : Nat} {L : List QI} {fv cs : Array Value} {ty : TypeId} (h : PutI w wr base qb g cap n j L fv cs ty) (hne : ty ≠ 60) (hq : qb < w.heap.size) (v : Value) : PutI w (wr.setCell ⟨w.heap.size, 10, none⟩ v) base qb g cap n j L (fv.setIfInBounds 10 v) cs ty := by
  obtain ⟨n1, n2, n3⟩ := h.ne hne
  have ht : Turn [w.heap.size] wr (wr.setCell ⟨w.heap.size, 10, none⟩ v) := (Turn.refl _ _).setCell (.inl (by simp)) _
  have hnq : qb ∉ [w.heap.size] := by simp; omega
  have hng : g ∉ [w.heap.size] := by simp; omega
  refine ⟨heap_setCell h.fr 10 v, ht.heap h.q hnq, h.mv.turn ht hng, h.turn.trans ht (fun x hx => .inr (by simp at hx; omega)), fun x hx => (h.data x hx).turn_ty ht fun k hk => ?_⟩
  simp at hk
  subst hk
  exact ⟨_, _, _, h.fr, by decide⟩
/-- .. the last store. -/
theorem PutI.fin {w wr wr' : World} {base qb o room last g cap n j c2 : Nat} {A2 : Option Addr} {L : List QI} {fv : Array Value} {cs : Array Value} {ty : TypeId} {f : Fr} (h : PutI w wr base qb g cap n j L fv (csP cs o last (some ⟨g, 0, none⟩) (n + 1) cap) ty) (hne : ty ≠ 5 ∧ ty ≠ 60 ∧ ty ≠ 91) (hn : L.length = n) (hj : j ≤ n)
    (hrow : Row wr (w.heap.size + 1) 5 A2 c2 (bys f.data)) (hbase : base ≤ w.heap.size) (hlo : base ≤ qb) (c0 : cs[o]? = some (.int .i64 room)) (h1 : o + 2 < cs.size)
    (hw : wr' = wr.setCells g (j * 12) (qiL ⟨(last : Int) + 1, ⟨f, A2, c2⟩⟩)) (hlt : ∀ i (h : i < L.length), j ≤ i → keyF f < keyF L[i].s.f) (hle : ∀ i (h : i < L.length), i + 1 = j → keyF L[i].s.f ≤ keyF f) (hs : (L.map absI).Pairwise (fun a b => keyF a.f ≤ keyF b.f)) :
    RPutIn w base qb o room last L f cs ty (.returned (.tuple #[.int .i64 ((last : Int) + 1), .int .i64 0])) wr' := by
  subst hn hw
  obtain ⟨k1, k2, k3, k4⟩ := h.put hne.2.1 (qiL ⟨(last : Int) + 1, ⟨f, A2, c2⟩⟩) (j * 12)
  have hm := h.mv.set j ⟨(last : Int) + 1, ⟨f, A2, c2⟩⟩
  have hlen : (L.take j ++ (⟨(last : Int) + 1, ⟨f, A2, c2⟩⟩ : QI) :: L.drop j).length = L.length + 1 := by simp; omega
  refine ⟨rfl, g, cap, L.take j ++ ⟨(last : Int) + 1, ⟨f, A2, c2⟩⟩ :: L.drop j, ⟨k2, ?_, ?_, ?_, hne, ?_, ?_, hlo⟩, ?_, k3, by have := (h.ne hne.2.1).2.2; omega⟩
  · unfold csP
    rw [Array.getElem?_setIfInBounds_ne (by omega), Array.getElem?_setIfInBounds_ne (by omega)]; exact c0
  · unfold csP
    rw [Array.getElem?_setIfInBounds_ne (by omega), Array.getElem?_setIfInBounds_self_of_lt (by omega)]; simp
  · unfold csP
    rw [Array.getElem?_setIfInBounds_self_of_lt (by simp; omega), hlen]
  · have h5 := hm.own (L.take j ++ ⟨(last : Int) + 1, ⟨f, A2, c2⟩⟩ :: L.drop j) hlen (fun i hi => gapG_end hj _ i hi)
    rw [hlen]
    exact own_mono12 h5 (by omega)
  · intro x hx
    rcases List.mem_append.1 hx with hx | hx
    · exact k4 _ _ _ _ rfl (h.data x (List.mem_of_mem_take hx))
    · rcases List.mem_cons.1 hx with rfl | hx
      · exact k4 _ _ _ _ rfl (hrow.mono (by omega))
      · exact k4 _ _ _ _ rfl (h.data x (List.mem_of_mem_drop hx))
  · rw [insQ_at (j := j) (by simpa using hj) hs (fun i hi e => by have := hle i (by simpa using hi) e; simpa [absI] using this) (fun i hi e => by have := hlt i (by simpa using hi) e; simpa [absI] using this)]
    simp [absI]
end Go.Proofs.Ytlmdkmflbhnlgaa
namespace Go.Proofs.Ytlmdkmflbhnlgaa
open Go.RowKit
set_option maxRecDepth 100000 in
set_option maxHeartbeats 16000000 in
theorem RPut_in (w : World) (base qb o room last c n d m : Nat) (A B : Option Addr) (f : Fr) (L : List QI) (cs : Array Value) (ty : TypeId) (h : RefQ w base qb o room last A c L cs ty) (hn : L.length = n) (hm : f.data.length = m) (hq : okF f = true) (hf : n < room)
    (hroom : room ≤ 64) (hl : last ≤ 1000000) (hbase : base ≤ w.heap.size) (hr : Rd w B (bys f.data)) (hz : B = none → d = 0) (hm2 : m ≤ 1000000) (hB : ∀ ad, B = some ad → bys f.data ≠ [] → ad.block ≠ qb) (hf0 : 0 ≤ f.id)
    (hL : ∀ x ∈ L, okF x.s.f = true ∧ 0 ≤ x.s.f.id) (hs : (L.map absI).Pairwise (fun a b => keyF a.f ≤ keyF b.f)) :
    Calls Try.prog 19 #[.pointer (some ⟨qb, o, none⟩), frv f (.slice B m d)] w (RPutIn w base qb o room last L f cs ty) := by
  have HC := Lib.hid (fun W => CheckR_any f B d W)
  rw [hq, hm] at HC
  have HK := Lib.hid (fun (x : QI) (hx : x ∈ L) W => by
    have := CompareR_any x.s.f f x.s.A B x.s.c d W (hL x hx).2 hf0
    rw [(hL x hx).1, hq, hm] at this
    exact this)
  have HQ := Lib.hid hq
  have HM := Lib.hid hm
  have HN := Lib.hid hn
  have HR := Lib.hid hr
  have HBQ := Lib.hid hB
  have HS := Lib.hid hs
  have HREF := Lib.hid h
  have c0 : w.cell? ⟨qb, o, none⟩ = some (.int .i64 room) := cell_of_heap h.box o _ h.c0
  have c1 : w.cell? ⟨qb, o + 1, none⟩ = some (.int .i64 last) := cell_of_heap h.box (o + 1) _ h.c1
  have c2 : w.cell? ⟨qb, o + 2, none⟩ = some (.slice A n c) := by rw [← hn]; exact cell_of_heap h.box (o + 2) _ h.c2
  have hqb : qb < w.heap.size := heap_lt h.box
  obtain ⟨i0, hi, hz0, hz1, hz2⟩ := info_itemR
  clear h hn hq hm hr hB hs hL hf0
  obtain ⟨fk, fi, fe, fr, f4, f5, f6, f7, f8, f9, data⟩ := f
  dsimp only [frv] at *
  go_enter Try.func19, Try.ntmps19
  go_wp2_with fail
  refine calls_blk1 fun W1 q1 hb1 => ?_
  refine (HC.out _).mono ?_
  rintro e w1 ⟨rfl, hb⟩
  have HB1 := Lib.hid (below_trans hb1 hb)
  have Q1 := Lib.hid (heap_below hb q1)
  have x0 : w1.cell? ⟨qb, o, none⟩ = some (.int .i64 room) := Below.cell_of HB1.out c0
  have x2 : w1.cell? ⟨qb, o + 2, none⟩ = some (.slice A n c) := Below.cell_of HB1.out c2
  clear hb hb1 q1 c0
  simp only [errV, if_true]
  go_wp2_with fail
  go_quiet (fail)
  clear x0 x2
  obtain ⟨W3, hW3⟩ : ∃ W3, w1.drewN nq = W3 := ⟨_, rfl⟩
  have hb3 : Below w1.heap.size w1 W3 := by rw [← hW3]; exact below_drewN (Below.refl _ _) _
  rw [hW3]
  have HB3 := Lib.hid (below_trans HB1.out hb3)
  have Q3 := Lib.hid (heap_below hb3 Q1.out)
  have HH3 := Lib.hid (heap_below HB3.out HREF.out.box)
  have y1 : W3.cell? ⟨qb, o + 1, none⟩ = some (.int .i64 last) := Below.cell_of HB3.out c1
  have y2 : W3.cell? ⟨qb, o + 2, none⟩ = some (.slice A n c) := Below.cell_of HB3.out c2
  have z3 : ∀ k, W3.frozen? ⟨qb, k, none⟩ = false := fun k => by simp [World.frozen?, HH3.out]
  have hs3 : w.heap.size < W3.heap.size := heap_lt Q3.out
  clear hb3 hW3 c1 c2
  have hq3 : qb < W3.heap.size := heap_lt HH3.out
  have H5 : Hid ((W3.setCell ⟨qb, o + 1, none⟩ (.int .i64 ((last : Int) + 1))).heap[qb]? = some (.cells (cs.setIfInBounds (o + 1) (.int .i64 ((last : Int) + 1))) ty (0, 0))) := heap_setCell HH3.out (o + 1) _
  have Q5 : Hid ((W3.setCell ⟨qb, o + 1, none⟩ (.int .i64 ((last : Int) + 1))).heap[w.heap.size]? = some (.cells #[.int .i64 fk, .int .u32 fi, .bool fe, .bool fr, .bool f4, .bool f5, .bool f6, .int .u8 f7, .int .u8 f8, .int .u32 f9, .slice B m d] 42 (0, 0))) := (Turn.setCell (p := ⟨qb, o + 1, none⟩) (Turn.refl [qb] W3) (.inl (by simp)) _).heap Q3.out (by simp; omega)
  have T5 : Hid (Turn [qb] w (W3.setCell ⟨qb, o + 1, none⟩ (.int .i64 ((last : Int) + 1)))) := (Turn.of HB3.out).setCell (.inl (by simp)) _
  have HRD : Hid (∀ W', Turn [qb] w W' → Rd W' A (L.flatMap qiL)) := fun W' ht => by
    have h1 := Rd.own HREF.out.own
    exact Rd.turn h1 ht fun ad e hm => by
      rcases HREF.out.own.2 with ⟨hv, _⟩ | ⟨g, cap, cur, hv, hg, hh, _⟩
      · injection hv with hv; rw [hv] at e; cases e
      · injection hv with hv
        rw [hv] at e
        injection e with e
        subst e
        simp at hm
        exact ne_of_type HREF.out.box hh HREF.out.ne.2.1 hm.symm
  have HZA : Hid (A = none → c = 0) := fun e => by
    rcases HREF.out.own.2 with ⟨hv, _⟩ | ⟨g, cap, cur, hv, hg, hh, _⟩
    · injection hv with _ _ h3
    · injection hv with hv; rw [e] at hv; cases hv
  have HFL : Hid ((L.flatMap qiL).length = n * 12) := by show _ = _; rw [flat_len, HN.out]
  have h63 : n + 1 ≤ 64 := by omega
  have HO0 : Hid (((W3.setCell ⟨qb, o + 1, none⟩ (.int .i64 ((last : Int) + 1))).alloc (.cells #[] 60)).ownsRow (w.heap.size + 1) 60 12 (.slice (some ⟨W3.heap.size, 0, none⟩) 0 0) 0 []) := by
    have h1 := own_lit0 (w := W3.setCell ⟨qb, o + 1, none⟩ (.int .i64 ((last : Int) + 1))) (base := w.heap.size + 1) (e := 60) (size := 12) (by rw [nblk]; omega)
    rw [nblk] at h1
    exact h1
  have HRA : Hid (Rd ((W3.setCell ⟨qb, o + 1, none⟩ (.int .i64 ((last : Int) + 1))).alloc (.cells #[] 60)) A (L.flatMap qiL)) := HRD.out _ (T5.out.alloc _)
  have HS5 : Hid (w.heap.size + 1 ≤ ((W3.setCell ⟨qb, o + 1, none⟩ (.int .i64 ((last : Int) + 1))).alloc (.cells #[] 60)).heap.size) := by show _ ≤ _; simp; omega
  have HONE := Lib.hid (qiL_one L)
  have HN1 : Hid (∀ q, q ≤ w.heap.size → q ∉ blkA (some ⟨W3.heap.size, 0, none⟩)) := fun q hq => by simp [blkA]; omega
  have HN4 : Hid (∀ A4, Hid (∀ k ∈ blkA A4, k ∈ blkA (some ⟨W3.heap.size, 0, none⟩) ∨ ((W3.setCell ⟨qb, o + 1, none⟩ (.int .i64 ((last : Int) + 1))).alloc (.cells #[] 60)).heap.size ≤ k) → ∀ q, q ≤ w.heap.size → q ∉ blkA A4) := fun A4 h q hq hm => by
    rcases h.out q hm with h1 | h1
    · exact HN1.out q hq h1
    · have := HS5.out; omega
  have HZR : Hid (∀ W : World, Rd (W.alloc (.cells #[.int .i64 0, .int .i64 0, .int .u32 0, .bool false, .bool false, .bool false, .bool false, .bool false, .int .u8 0, .int .u8 0, .int .u32 0, .slice none 0 0] 60)) (some ⟨W.heap.size, 0, none⟩) zItem) := fun W => Rd.blk (heap_new_at rfl)
  have HZO := Lib.hid zItem_one
  have HZL : Hid (zItem.length = 1 * 12) := rfl
  have HZN : Hid ((some (⟨0, 0, none⟩ : Addr)) = none → 1 = 0) := fun h => by cases h
  have HCC : Hid ((cs.setIfInBounds (o + 1) (.int .i64 ((last : Int) + 1)))[o + 2]? = some (.slice A n c)) := by
    show _ = _
    rw [Array.getElem?_setIfInBounds_ne (by omega), HREF.out.c2, HN.out]
  go_wp2_with (first
    | (at_builtin; refine wpList_appN rfl (.tmp 35) (.tmp 39) 56 rfl (w.heap.size + 1) 60 i0 _ 12 56 Try.underlying56 hi hz0 hz1 hz2 rfl (by omega) (some ⟨W3.heap.size, 0, none⟩) 0 0 [] (by kernel_rfl) HO0.out A n c (L.flatMap qiL) (by kernel_rfl) HRA.out HFL.out HONE.out HZA.out (by unfold maxLen; omega) (by omega) HS5.out ?_; intro w4 A4 c4 HO4 HT4 HF4; simp only [Nat.zero_add, List.nil_append] at HO4 ⊢; have HS4 : Hid (w.heap.size + 1 ≤ w4.heap.size) := Nat.le_trans HS5.out HT4.out.size)
    | (at_builtin; refine wpList_appN rfl (.tmp 40) (.tmp 42) 56 rfl (w.heap.size + 1) 60 i0 _ 12 56 Try.underlying56 hi hz0 hz1 hz2 rfl (by omega) A4 n c4 (L.flatMap qiL) (by kernel_rfl) (HO4.out.alloc _) (some ⟨w4.heap.size, 0, none⟩) 1 1 zItem (by kernel_rfl) (HZR.out w4) HZL.out HZO.out (fun h => by cases h) (by unfold maxLen; omega) (by omega) (Nat.le_trans HS4.out (below_alloc (Below.refl _ _) _).size) ?_; intro w6 A6 c6 HO6 HT6 HF6; have HQ6 := Lib.hid (HT6.out.heap (heap_push (HT4.out.heap (heap_push H5.out) (HN1.out qb (Nat.le_of_lt hqb)))) (HN4.out A4 HF4 qb (Nat.le_of_lt hqb))); have y6 := cell_of_heap HQ6.out (o + 2) _ HCC.out; have z6 : w6.frozen? ⟨qb, o + 2, none⟩ = false := by simp [World.frozen?, HQ6.out]))
  obtain ⟨g, rfl, hmv⟩ := MvI.of_own HO6.out (by omega) (gapG L L.length) (fun i hi x hx k u hk => gapG_start zItem i x hx k u hk (by rw [HN.out]; exact hi))
  have hgl : w.heap.size + 1 ≤ g := hmv.1
  have HI7 : Hid (PutI w (w6.setCell ⟨qb, o + 2, none⟩ (.slice (some ⟨g, 0, none⟩) (n + 1 : Nat) c6)) base qb g c6 n n L #[.int .i64 fk, .int .u32 fi, .bool fe, .bool fr, .bool f4, .bool f5, .bool f6, .int .u8 f7, .int .u8 f8, .int .u32 f9, .slice B m d] (csP cs o last (some ⟨g, 0, none⟩) (n + 1) c6) ty) := by
    have t7 : Turn [qb] w6 (w6.setCell ⟨qb, o + 2, none⟩ (.slice (some ⟨g, 0, none⟩) (n + 1 : Nat) c6)) := (Turn.refl _ _).setCell (.inl (by simp)) _
    have qf := HT6.out.heap (heap_push (HT4.out.heap (heap_push Q5.out) (HN1.out _ (Nat.le_refl _)))) (HN4.out A4 HF4 _ (Nat.le_refl _))
    have t4 : Turn [qb] w w4 := (T5.out.alloc _).trans HT4.out (fun x hx => .inr (by by_cases hh : w.heap.size ≤ x; exact hh; exact absurd hx (HN1.out x (by omega))))
    have t6 : Turn [qb] w w6 := (t4.alloc _).trans HT6.out (fun x hx => .inr (by by_cases hh : w.heap.size ≤ x; exact hh; exact absurd hx (HN4.out A4 HF4 x (by omega))))
    have tt := t6.tr t7
    have hnq : w.heap.size ∉ [qb] := by simp; omega
    refine ⟨t7.heap qf hnq, heap_setCell HQ6.out (o + 2) _, ?_, tt, fun x hx => (HREF.out.data x hx).turn_ty tt fun k hk => ?_⟩
    · rw [HN.out] at hmv
      exact hmv.turn t7 (by simp; omega)
    · simp at hk
      subst hk
      exact ⟨_, _, _, HREF.out.box, HREF.out.ne.1⟩
  have HCS : Hid ((csP cs o last (some ⟨g, 0, none⟩) (n + 1) c6)[o + 1]? = some (.int .i64 ((last : Int) + 1)) ∧ (csP cs o last (some ⟨g, 0, none⟩) (n + 1) c6)[o + 2]? = some (.slice (some ⟨g, 0, none⟩) (n + 1 : Nat) c6)) := by
    have h1 := (Array.getElem?_eq_some_iff.1 HREF.out.c2).1
    unfold csP
    refine ⟨?_, ?_⟩
    · rw [Array.getElem?_setIfInBounds_ne (by omega), Array.getElem?_setIfInBounds_self_of_lt (by omega)]
    · rw [Array.getElem?_setIfInBounds_self_of_lt (by simp; omega)]
  obtain ⟨i1, hi1, hy0, hy1, hy2⟩ := info_parts info_u8c
  have hg63 : c6 ≤ 9223372036854775807 := by have := HI7.out.mv.2.2.1; unfold maxLen at this; omega
  have HEND := Lib.hid HREF.out.c0
  clear y1 y2 z3 hs3 hq3 H5 Q5 T5 HRD HZA HFL HO0 HRA HS5 HN1 HN4 HZR HZO HZL HZN HCC HO4 HT4 HF4 HS4 HO6 HT6 HF6 HQ6 y6 z6 hmv hi hz0 hz1 hz2 HH3 HB3 Q3 HB1 Q1 HC
  go_loopw [6] (fun v wr => ∃ j : Nat, j ≤ n ∧ v = .int .i64 j ∧ Hid (PutI w wr base qb g c6 n j L #[.int .i64 fk, .int .u32 fi, .bool fe, .bool fr, .bool f4, .bool f5, .bool f6, .int .u8 f7, .int .u8 f8, .int .u32 f9, .slice B m d] (csP cs o last (some ⟨g, 0, none⟩) (n + 1) c6) ty) ∧ Hid (∀ i (h : i < L.length), j ≤ i → keyF ⟨fk, fi, fe, fr, f4, f5, f6, f7, f8, f9, data⟩ < keyF L[i].s.f)) (fun v _ => (intOf v).toNat)
  case atStart => exact ⟨n, Nat.le_refl _, rfl, HI7, fun i h hj => by have := HN.out; omega⟩
  case round =>
    obtain ⟨j, hjn, rfl, HI, HGT⟩ := hrel
    clear HI7
    by_cases hj0 : j = 0
    · subst hj0
      have HLE : Hid (∀ i (h : i < L.length), i + 1 = 0 → keyF L[i].s.f ≤ keyF ⟨fk, fi, fe, fr, f4, f5, f6, f7, f8, f9, data⟩) := fun i h e => by omega
      have f10 : wr.cell? ⟨w.heap.size, 10, none⟩ = some (.slice B m d) := cell_of_heap HI.out.fr 10 _ rfl
      have z10 : ∀ k, wr.frozen? ⟨w.heap.size, k, none⟩ = false := fun k => by simp [World.frozen?, HI.out.fr]
      have hwl : w.heap.size < wr.heap.size := heap_lt HI.out.fr
      have HRB : Hid (Rd (wr.alloc (.cells #[] 5)) B (bys data)) := (HR.out.turnB HI.out.turn (fun ad e hne hm => HBQ.out ad e hne (by simpa using hm))).alloc _
      have HOB : Hid (Row (wr.alloc (.cells #[] 5)) wr.heap.size 5 (some ⟨wr.heap.size, 0, none⟩) 0 (bys [])) := own_lit (cs := []) (Nat.le_refl _) rfl (by decide)
      have HLB : Hid ((bys data).length = m) := by show _ = _; rw [bys_length]; exact HM.out
      have HZB : Hid (bys data = [] → B = none → d = 0) := fun _ => hz
      have HSB : Hid (wr.heap.size ≤ (wr.alloc (.cells #[] 5)).heap.size) := (below_alloc (Below.refl _ _) _).size
      go_wp2_with (at_builtin; refine wpList_appB rfl (.tmp 80) (.tmp 82) 40 rfl wr.heap.size 5 i1 _ 1 Try.underlying40 hi1 hy0 hy1 hy2 rfl (some ⟨wr.heap.size, 0, none⟩) 0 0 (bys []) (by kernel_rfl) rfl HOB.out B m d (bys data) (by kernel_rfl) HLB.out HRB.out (bys_one _) HZB.out m (by omega) (by unfold maxLen; omega) (by omega) HSB.out ?_; intro w9 A9 c9 HROW9 HB9; have q9 := heap_belowB HB9.out hwl (heap_push HI.out.fr); have f11 := cell_of_heap q9 10 _ rfl; have z11 : w9.frozen? ⟨w.heap.size, 10, none⟩ = false := by simp [World.frozen?, q9])
      have hb9 : Below wr.heap.size wr w9 := (below_alloc (Below.refl _ wr) _).trans HB9.out
      have t9 : Turn [w.heap.size] w9 (w9.setCell ⟨w.heap.size, 10, none⟩ (.slice A9 m c9)) := (Turn.refl _ _).setCell (.inl (by simp)) _
      have HI10 : Hid (PutI w (w9.setCell ⟨w.heap.size, 10, none⟩ (.slice A9 m c9)) base qb g c6 n 0 L #[.int .i64 fk, .int .u32 fi, .bool fe, .bool fr, .bool f4, .bool f5, .bool f6, .int .u8 f7, .int .u8 f8, .int .u32 f9, .slice A9 m c9] (csP cs o last (some ⟨g, 0, none⟩) (n + 1) c6) ty) := (HI.out.below hb9).fset HREF.out.ne.2.1 hqb (.slice A9 m c9)
      have HROW10 : Hid (Row (w9.setCell ⟨w.heap.size, 10, none⟩ (.slice A9 m c9)) (w.heap.size + 1) 5 A9 c9 (bys data)) := by
        have h1 := HROW9.out
        simp only [bys, List.map_nil, List.nil_append] at h1
        exact (h1.mono (Nat.succ_le_of_lt hwl)).turn_ty t9 fun k hk => by
          simp at hk
          subst hk
          exact ⟨_, _, _, (HI.out.below hb9).fr, by decide⟩
      clear f10 z10 HRB HOB HLB HZB HSB q9 f11 z11 hb9 t9 HROW9 HB9
      generalize w9.setCell ⟨w.heap.size, 10, none⟩ (.slice A9 m c9) = W10 at HI10 HROW10 ⊢
      obtain ⟨x0, x1, x2, x3, x4, x5, x6, x7, x8, x9, x10⟩ := ext11 HI10.out.fr
      have y1 : ∀ e : Ext W10, e.W.cell? ⟨qb, o + 1, none⟩ = some (.int .i64 ((last : Int) + 1)) := fun e => ext_cell (cell_of_heap HI10.out.q (o + 1) _ HCS.out.1) e
      have y2 : ∀ e : Ext W10, e.W.cell? ⟨qb, o + 2, none⟩ = some (.slice (some ⟨g, 0, none⟩) (n + 1 : Nat) c6) := fun e => ext_cell (cell_of_heap HI10.out.q (o + 2) _ HCS.out.2) e
      refine wp_region_mix (fun w' => ∃ e : Ext W10, w' = e.W) [(true, 0), (true, 1), (true, 2), (true, 3), (true, 4), (true, 5), (true, 6), (true, 7), (true, 8), (true, 9), (true, 10), (true, 11)] [12] (by kernel_rfl) (by kernel_rfl) (by intro _ _ d _ _ h; cases d <;> exact h) ⟨⟨W10.drew, (Below.refl _ _).drew⟩, rfl⟩ ?_
      simp only [pickM, pickL, List.drop_succ_cons, List.drop_zero]
      repeat (first | (refine mix_pure (by rfl) (by rfl) ?_; intro K hK; go_big_quiet_op; go_big_quiet_on) | (refine mix_nilc ⟨qb, o, none⟩ (by rfl) (by kernel_rfl) ?_; go_simp))
      refine mix_nil ?_
      have HI11 := Lib.hid (HI10.out.below (Below.refl _ _).drew)
      have HTH := Lib.hid (HI11.out.mv.there 0 (by omega))
      have H1 := Lib.hid (itL_arr ((last : Int) + 1) A9 m c9 fk fi fe fr f4 f5 f6 f7 f8 f9)
      have HE := Lib.hid (HI11.out.fin HREF.out.ne HN.out (by omega) (HROW10.out.below (Below.refl _ _).drew) hbase HREF.out.lo HEND.out ((Array.getElem?_eq_some_iff.1 HREF.out.c2).1) (wr' := W10.drew.setCells g (0 * 12) [.int .i64 ((last : Int) + 1), .int .i64 fk, .int .u32 fi, .bool fe, .bool fr, .bool f4, .bool f5, .bool f6, .int .u8 f7, .int .u8 f8, .int .u32 f9, .slice A9 m c9]) (by simp only [qiL, itL]; rw [HM.out]) HGT.out HLE.out HS.out)
      have HP := Lib.hid (HI11.out.put HREF.out.ne.2.1 [.int .i64 ((last : Int) + 1), .int .i64 fk, .int .u32 fi, .bool fe, .bool fr, .bool f4, .bool f5, .bool f6, .int .u8 f7, .int .u8 f8, .int .u32 f9, .slice A9 m c9] (0 * 12))
      clear x0 x1 x2 x3 x4 x5 x6 x7 x8 x9 x10 y1 y2
      refine wpList_plain rfl fun K hK => ?_
      refine wp_store_mid 60 (.tmp 96) (.tmp 95) rfl g (0 * 12) #[.int .i64 ((last : Int) + 1), .int .i64 fk, .int .u32 fi, .bool fe, .bool fr, .bool f4, .bool f5, .bool f6, .int .u8 f7, .int .u8 f8, .int .u32 f9, .slice A9 m c9] ?_ ?_ HTH.out info_itemS H1.out (hK _ _ ?_)
      · go_simp
      · go_simp
      simp only [Act.put]
      have y1 := cell_of_heap HP.out.2.1 (o + 1) _ HCS.out.1
      generalize W10.drew.setCells g (0 * 12) _ = W12 at HE y1 ⊢
      go_wp2_with fail
      go_ret2
      exact HE.out
    · obtain ⟨b, rfl⟩ : ∃ b, j = b + 1 := ⟨j - 1, by omega⟩
      have hbl : b < L.length := by rw [HN.out]; omega
      obtain ⟨x, hx⟩ : ∃ x, L[b]'hbl = x := ⟨_, rfl⟩
      have hcl := HI.out.mv.cell b (by omega) x (by unfold gapG; rw [if_pos (by omega), List.getElem?_eq_getElem hbl, hx])
      have HX := Lib.hid hx
      have HKX := Lib.hid (HK.out x (by rw [← hx]; exact List.getElem_mem hbl))
      have a0 : ∀ e : Ext wr, e.W.cell? ⟨g, b * 12, none⟩ = some (.int .i64 x.no) := fun e => ext_cell (hcl 0 _ rfl) e
      have a1 : ∀ e : Ext wr, e.W.cell? ⟨g, b * 12 + 1, none⟩ = some (.int .i64 x.s.f.kind) := fun e => ext_cell (hcl 1 _ rfl) e
      have a2 : ∀ e : Ext wr, e.W.cell? ⟨g, b * 12 + 2, none⟩ = some (.int .u32 x.s.f.id) := fun e => ext_cell (hcl 2 _ rfl) e
      have a3 : ∀ e : Ext wr, e.W.cell? ⟨g, b * 12 + 3, none⟩ = some (.bool x.s.f.ext) := fun e => ext_cell (hcl 3 _ rfl) e
      have a4 : ∀ e : Ext wr, e.W.cell? ⟨g, b * 12 + 4, none⟩ = some (.bool x.s.f.rtr) := fun e => ext_cell (hcl 4 _ rfl) e
      have a5 : ∀ e : Ext wr, e.W.cell? ⟨g, b * 12 + 5, none⟩ = some (.bool x.s.f.brs) := fun e => ext_cell (hcl 5 _ rfl) e
      have a6 : ∀ e : Ext wr, e.W.cell? ⟨g, b * 12 + 6, none⟩ = some (.bool x.s.f.esi) := fun e => ext_cell (hcl 6 _ rfl) e
      have a7 : ∀ e : Ext wr, e.W.cell? ⟨g, b * 12 + 7, none⟩ = some (.bool x.s.f.sec) := fun e => ext_cell (hcl 7 _ rfl) e
      have a8 : ∀ e : Ext wr, e.W.cell? ⟨g, b * 12 + 8, none⟩ = some (.int .u8 x.s.f.sdt) := fun e => ext_cell (hcl 8 _ rfl) e
      have a9 : ∀ e : Ext wr, e.W.cell? ⟨g, b * 12 + 9, none⟩ = some (.int .u8 x.s.f.vcid) := fun e => ext_cell (hcl 9 _ rfl) e
      have a10 : ∀ e : Ext wr, e.W.cell? ⟨g, b * 12 + 10, none⟩ = some (.int .u32 x.s.f.af) := fun e => ext_cell (hcl 10 _ rfl) e
      have a11 : ∀ e : Ext wr, e.W.cell? ⟨g, b * 12 + 11, none⟩ = some (.slice x.s.A x.s.f.data.length x.s.c) := fun e => ext_cell (hcl 11 _ rfl) e
      have y1 : ∀ e : Ext wr, e.W.cell? ⟨qb, o + 1, none⟩ = some (.int .i64 ((last : Int) + 1)) := fun e => ext_cell (cell_of_heap HI.out.q (o + 1) _ HCS.out.1) e
      have y2 : ∀ e : Ext wr, e.W.cell? ⟨qb, o + 2, none⟩ = some (.slice (some ⟨g, 0, none⟩) (n + 1 : Nat) c6) := fun e => ext_cell (cell_of_heap HI.out.q (o + 2) _ HCS.out.2) e
      obtain ⟨x0, x1, x2, x3, x4, x5, x6, x7, x8, x9, x10⟩ := ext11 HI.out.fr
      obtain ⟨r, hr⟩ : ∃ r, cmpF x.s.f ⟨fk, fi, fe, fr, f4, f5, f6, f7, f8, f9, data⟩ = r := ⟨_, rfl⟩
      rw [hr] at HKX
      have HRR : Hid (r ≤ 0 ↔ keyF x.s.f ≤ keyF ⟨fk, fi, fe, fr, f4, f5, f6, f7, f8, f9, data⟩) := by
        show _ ↔ _
        rw [← hr]
        unfold cmpF cmpI
        split
        · constructor <;> intro <;> omega
        · split
          · constructor <;> intro <;> omega
          · constructor <;> intro <;> omega
      clear hr hcl hx
      simp only [Bool.and_self, if_true, errV] at HKX
      go_wp2_with fail
      refine wp_region_mix (fun w' => ∃ e : Ext wr, w' = e.W) [(true, 0), (true, 1), (true, 2), (true, 3), (true, 4), (true, 5), (true, 6), (true, 7), (true, 8), (true, 9), (false, 10), (true, 11), (true, 12), (true, 13), (true, 14), (true, 15)] [] (by kernel_rfl) (by kernel_rfl) (by intro _ _ d _ _ h; cases d <;> exact h) ⟨⟨wr.drew, (Below.refl _ _).drew⟩, rfl⟩ ?_
      simp only [pickM, pickL, List.drop_succ_cons, List.drop_zero]
      repeat (first | (refine mix_pure (by rfl) (by rfl) ?_; intro K hK; go_big_quiet_op; go_big_quiet_on) | (refine mix_nilc ⟨qb, o, none⟩ (by rfl) (by kernel_rfl) ?_; go_simp))
      refine mix_eff (by rfl) ?_
      intro K hK
      go_simp
      refine (HKX.out _).mono ?_
      rintro e w5 ⟨rfl, hb5⟩
      have hb : Below wr.heap.size wr w5 := below_trans (Below.refl _ _).drew hb5
      refine hK _ _ ⟨⟨w5, hb⟩, rfl⟩ ?_
      clear hK K
      repeat (refine mix_pure (by rfl) (by rfl) ?_; intro K hK; go_big_quiet_op; go_big_quiet_on)
      refine mix_nil (wpList_nil ?_)
      have HI5 := Lib.hid (HI.out.below hb)
      replace a0 := liftE hb a0
      replace a1 := liftE hb a1
      replace a2 := liftE hb a2
      replace a3 := liftE hb a3
      replace a4 := liftE hb a4
      replace a5 := liftE hb a5
      replace a6 := liftE hb a6
      replace a7 := liftE hb a7
      replace a8 := liftE hb a8
      replace a9 := liftE hb a9
      replace a10 := liftE hb a10
      replace a11 := liftE hb a11
      replace y2 := liftE hb y2
      clear hb hb5 x0 x1 x2 x3 x4 x5 x6 x7 x8 x9 x10 y1
      by_cases hrl : r ≤ 0
      · have HLE : Hid (∀ i (h : i < L.length), i + 1 = b + 1 → keyF L[i].s.f ≤ keyF ⟨fk, fi, fe, fr, f4, f5, f6, f7, f8, f9, data⟩) := fun i h e => by
          obtain rfl : i = b := by omega
          rw [HX.out]
          exact HRR.out.1 hrl
        clear a0 a1 a2 a3 a4 a5 a6 a7 a8 a9 a10 a11 y2
        have f10 : w5.cell? ⟨w.heap.size, 10, none⟩ = some (.slice B m d) := cell_of_heap HI5.out.fr 10 _ rfl
        have z10 : ∀ k, w5.frozen? ⟨w.heap.size, k, none⟩ = false := fun k => by simp [World.frozen?, HI5.out.fr]
        have hwl : w.heap.size < w5.heap.size := heap_lt HI5.out.fr
        have HRB : Hid (Rd (w5.alloc (.cells #[] 5)) B (bys data)) := (HR.out.turnB HI5.out.turn (fun ad e hne hm => HBQ.out ad e hne (by simpa using hm))).alloc _
        have HOB : Hid (Row (w5.alloc (.cells #[] 5)) w5.heap.size 5 (some ⟨w5.heap.size, 0, none⟩) 0 (bys [])) := own_lit (cs := []) (Nat.le_refl _) rfl (by decide)
        have HLB : Hid ((bys data).length = m) := by show _ = _; rw [bys_length]; exact HM.out
        have HZB : Hid (bys data = [] → B = none → d = 0) := fun _ => hz
        have HSB : Hid (w5.heap.size ≤ (w5.alloc (.cells #[] 5)).heap.size) := (below_alloc (Below.refl _ _) _).size
        go_wp2_with (at_builtin; refine wpList_appB rfl (.tmp 80) (.tmp 82) 40 rfl w5.heap.size 5 i1 _ 1 Try.underlying40 hi1 hy0 hy1 hy2 rfl (some ⟨w5.heap.size, 0, none⟩) 0 0 (bys []) (by kernel_rfl) rfl HOB.out B m d (bys data) (by kernel_rfl) HLB.out HRB.out (bys_one _) HZB.out m (by omega) (by unfold maxLen; omega) (by omega) HSB.out ?_; intro w9 A9 c9 HROW9 HB9; have q9 := heap_belowB HB9.out hwl (heap_push HI5.out.fr); have f11 := cell_of_heap q9 10 _ rfl; have z11 : w9.frozen? ⟨w.heap.size, 10, none⟩ = false := by simp [World.frozen?, q9])
        have hb9 : Below w5.heap.size w5 w9 := (below_alloc (Below.refl _ w5) _).trans HB9.out
        have t9 : Turn [w.heap.size] w9 (w9.setCell ⟨w.heap.size, 10, none⟩ (.slice A9 m c9)) := (Turn.refl _ _).setCell (.inl (by simp)) _
        have HI10 : Hid (PutI w (w9.setCell ⟨w.heap.size, 10, none⟩ (.slice A9 m c9)) base qb g c6 n (b + 1) L #[.int .i64 fk, .int .u32 fi, .bool fe, .bool fr, .bool f4, .bool f5, .bool f6, .int .u8 f7, .int .u8 f8, .int .u32 f9, .slice A9 m c9] (csP cs o last (some ⟨g, 0, none⟩) (n + 1) c6) ty) := (HI5.out.below hb9).fset HREF.out.ne.2.1 hqb (.slice A9 m c9)
        have HROW10 : Hid (Row (w9.setCell ⟨w.heap.size, 10, none⟩ (.slice A9 m c9)) (w.heap.size + 1) 5 A9 c9 (bys data)) := by
          have h1 := HROW9.out
          simp only [bys, List.map_nil, List.nil_append] at h1
          exact (h1.mono (Nat.succ_le_of_lt hwl)).turn_ty t9 fun k hk => by
            simp at hk
            subst hk
            exact ⟨_, _, _, (HI5.out.below hb9).fr, by decide⟩
        clear f10 z10 HRB HOB HLB HZB HSB q9 f11 z11 hb9 t9 HROW9 HB9
        generalize w9.setCell ⟨w.heap.size, 10, none⟩ (.slice A9 m c9) = W10 at HI10 HROW10 ⊢
        obtain ⟨x0, x1, x2, x3, x4, x5, x6, x7, x8, x9, x10⟩ := ext11 HI10.out.fr
        have y1 : ∀ e : Ext W10, e.W.cell? ⟨qb, o + 1, none⟩ = some (.int .i64 ((last : Int) + 1)) := fun e => ext_cell (cell_of_heap HI10.out.q (o + 1) _ HCS.out.1) e
        have y2 : ∀ e : Ext W10, e.W.cell? ⟨qb, o + 2, none⟩ = some (.slice (some ⟨g, 0, none⟩) (n + 1 : Nat) c6) := fun e => ext_cell (cell_of_heap HI10.out.q (o + 2) _ HCS.out.2) e
        refine wp_region_mix (fun w' => ∃ e : Ext W10, w' = e.W) [(true, 0), (true, 1), (true, 2), (true, 3), (true, 4), (true, 5), (true, 6), (true, 7), (true, 8), (true, 9), (true, 10), (true, 11)] [12] (by kernel_rfl) (by kernel_rfl) (by intro _ _ d _ _ h; cases d <;> exact h) ⟨⟨W10.drew, (Below.refl _ _).drew⟩, rfl⟩ ?_
        simp only [pickM, pickL, List.drop_succ_cons, List.drop_zero]
        repeat (first | (refine mix_pure (by rfl) (by rfl) ?_; intro K hK; go_big_quiet_op; go_big_quiet_on) | (refine mix_nilc ⟨qb, o, none⟩ (by rfl) (by kernel_rfl) ?_; go_simp))
        refine mix_nil ?_
        have HI11 := Lib.hid (HI10.out.below (Below.refl _ _).drew)
        have HTH := Lib.hid (HI11.out.mv.there (b + 1) (by omega))
        have H1 := Lib.hid (itL_arr ((last : Int) + 1) A9 m c9 fk fi fe fr f4 f5 f6 f7 f8 f9)
        have HE := Lib.hid (HI11.out.fin HREF.out.ne HN.out (by omega) (HROW10.out.below (Below.refl _ _).drew) hbase HREF.out.lo HEND.out ((Array.getElem?_eq_some_iff.1 HREF.out.c2).1) (wr' := W10.drew.setCells g ((b + 1) * 12) [.int .i64 ((last : Int) + 1), .int .i64 fk, .int .u32 fi, .bool fe, .bool fr, .bool f4, .bool f5, .bool f6, .int .u8 f7, .int .u8 f8, .int .u32 f9, .slice A9 m c9]) (by simp only [qiL, itL]; rw [HM.out]) HGT.out HLE.out HS.out)
        have HP := Lib.hid (HI11.out.put HREF.out.ne.2.1 [.int .i64 ((last : Int) + 1), .int .i64 fk, .int .u32 fi, .bool fe, .bool fr, .bool f4, .bool f5, .bool f6, .int .u8 f7, .int .u8 f8, .int .u32 f9, .slice A9 m c9] ((b + 1) * 12))
        clear x0 x1 x2 x3 x4 x5 x6 x7 x8 x9 x10 y1 y2
        refine wpList_plain rfl fun K hK => ?_
        refine wp_store_mid 60 (.tmp 96) (.tmp 95) rfl g ((b + 1) * 12) #[.int .i64 ((last : Int) + 1), .int .i64 fk, .int .u32 fi, .bool fe, .bool fr, .bool f4, .bool f5, .bool f6, .int .u8 f7, .int .u8 f8, .int .u32 f9, .slice A9 m c9] ?_ ?_ HTH.out info_itemS H1.out (hK _ _ ?_)
        · go_simp
        · go_simp
        simp only [Act.put]
        have y1 := cell_of_heap HP.out.2.1 (o + 1) _ HCS.out.1
        generalize W10.drew.setCells g ((b + 1) * 12) _ = W12 at HE y1 ⊢
        go_wp2_with fail
        go_ret2
        exact HE.out
      · have hr0 : 0 < r := by omega
        go_wp2_with fail
        refine wp_region_mix (fun w' => ∃ e : Ext w5, w' = e.W) [(true, 0), (true, 1), (true, 2), (true, 3), (true, 4), (true, 5), (true, 6), (true, 7), (true, 8), (true, 9), (true, 10), (true, 11), (true, 12), (true, 13)] [14] (by kernel_rfl) (by kernel_rfl) (by intro _ _ d _ _ h; cases d <;> exact h) ⟨⟨w5.drew, (Below.refl _ _).drew⟩, rfl⟩ ?_
        simp only [pickM, pickL, List.drop_succ_cons, List.drop_zero]
        repeat (first | (refine mix_pure (by rfl) (by rfl) ?_; intro K hK; go_big_quiet_op; go_big_quiet_on) | (refine mix_nilc ⟨qb, o, none⟩ (by rfl) (by kernel_rfl) ?_; go_simp))
        refine mix_nil ?_
        have HI6 := Lib.hid (HI5.out.below (Below.refl _ _).drew)
        have HTH := Lib.hid (HI6.out.mv.there (b + 1) (by omega))
        have H1 := Lib.hid (itL_arr x.no x.s.A x.s.f.data.length x.s.c x.s.f.kind x.s.f.id x.s.f.ext x.s.f.rtr x.s.f.brs x.s.f.esi x.s.f.sec x.s.f.sdt x.s.f.vcid x.s.f.af)
        have HI8 : Hid (PutI w (w5.drew.setCells g ((b + 1) * 12) [.int .i64 x.no, .int .i64 x.s.f.kind, .int .u32 x.s.f.id, .bool x.s.f.ext, .bool x.s.f.rtr, .bool x.s.f.brs, .bool x.s.f.esi, .bool x.s.f.sec, .int .u8 x.s.f.sdt, .int .u8 x.s.f.vcid, .int .u32 x.s.f.af, .slice x.s.A x.s.f.data.length x.s.c]) base qb g c6 n b L #[.int .i64 fk, .int .u32 fi, .bool fe, .bool fr, .bool f4, .bool f5, .bool f6, .int .u8 f7, .int .u8 f8, .int .u32 f9, .slice B m d] (csP cs o last (some ⟨g, 0, none⟩) (n + 1) c6) ty) := by
          have := HI6.out.step hbl HREF.out.ne.2.1
          rw [HX.out] at this
          exact this
        clear a0 a1 a2 a3 a4 a5 a6 a7 a8 a9 a10 a11 y2
        refine wpList_plain rfl fun K hK => ?_
        refine wp_store_mid 60 (.tmp 77) (.tmp 76) rfl g ((b + 1) * 12) #[.int .i64 x.no, .int .i64 x.s.f.kind, .int .u32 x.s.f.id, .bool x.s.f.ext, .bool x.s.f.rtr, .bool x.s.f.brs, .bool x.s.f.esi, .bool x.s.f.sec, .int .u8 x.s.f.sdt, .int .u8 x.s.f.vcid, .int .u32 x.s.f.af, .slice x.s.A x.s.f.data.length x.s.c] ?_ ?_ HTH.out info_itemS H1.out (hK _ _ ?_)
        · go_simp
        · go_simp
        simp only [Act.put]
        go_wp2_with fail
        go_roundw
        case rel =>
          refine ⟨b, by omega, by go_num, HI8, fun i h hi => ?_⟩
          by_cases hib : i = b
          · subst hib
            rw [HX.out]
            have := HRR.out
            omega
          · exact HGT.out i h (by omega)
        case measure => simp [intOf]
end Go.Proofs.Ytlmdkmflbhnlgaa
namespace Go.Proofs.Ytlmdkmflbhnlgaa
open Go.RowKit
def insP (q : List QE) (last room : Nat) (f : Fr) : List QE := if okF f then (if q.length < room then insQ ⟨(last : Int) + 1, f⟩ q else q) else q
def insN (q : List QE) (last room : Nat) (f : Fr) : Nat := if okF f then (if q.length < room then last + 1 else last) else last
def insK (q : List QE) (last room : Nat) (f : Fr) : Int := if okF f then (if q.length < room then (last : Int) + 1 else 0) else 0
def insE (q : List QE) (room : Nat) (f : Fr) : Int := if okF f then (if q.length < room then 0 else 8) else 2
/-- What Put does. -/
def RPutOf (w : World) (base qb o room last : Nat) (A : Option Addr) (L : List QI) (f : Fr) (cs : Array Value) (ty : TypeId) (e : Ending) (w' : World) : Prop :=
  e = .returned (.tuple #[.int .i64 (insK (L.map absI) last room f), .int .i64 (insE (L.map absI) room f)]) ∧ ∃ (A' : Option Addr) (c' : Nat) (L' : List QI) (cs' : Array Value), RefQ w' base qb o room (insN (L.map absI) last room f) A' c' L' cs' ty ∧ L'.map absI = insP (L.map absI) last room f ∧ Turn [qb] w w' ∧ (∀ k ∈ blkA A', k ∈ blkA A ∨ w.heap.size ≤ k) ∧ cs'.size = cs.size ∧ ∀ i, i ≠ o + 1 → i ≠ o + 2 → cs'[i]? = cs[i]?
theorem RPut_any (w : World) (base qb o room last c d m : Nat) (A B : Option Addr) (f : Fr) (L : List QI) (cs : Array Value) (ty : TypeId) (h : RefQ w base qb o room last A c L cs ty) (hm : f.data.length = m)
    (hroom : room ≤ 64) (hl : last ≤ 1000000) (hbase : base ≤ w.heap.size) (hr : Rd w B (bys f.data)) (hz : B = none → d = 0) (hB : ∀ ad, B = some ad → bys f.data ≠ [] → ad.block ≠ qb) (hf0 : 0 ≤ f.id)
    (hL : ∀ x ∈ L.map absI, okF x.f = true ∧ 0 ≤ x.f.id) (hs : (L.map absI).Pairwise leQ) :
    Calls Try.prog 19 #[.pointer (some ⟨qb, o, none⟩), frv f (.slice B m d)] w (RPutOf w base qb o room last A L f cs ty) := by
  have hs' : (L.map absI).Pairwise (fun a b => keyF a.f ≤ keyF b.f) := hs.imp fun {a b} h => by unfold leQ leE at h; dsimp only at h; omega
  have hL' : ∀ x ∈ L, okF x.s.f = true ∧ 0 ≤ x.s.f.id := fun x hx => hL _ (List.mem_map_of_mem hx)
  cases hq : okF f with
  | false =>
    refine (RPut_no w qb o d m B f hm hq).mono ?_
    rintro e w' ⟨rfl, hb⟩
    refine ⟨by simp [insK, insE, hq], A, c, L, cs, ?_, by simp [insP, hq], Turn.of hb, fun k hk => .inl hk, rfl, fun _ _ _ => rfl⟩
    have : insN (L.map absI) last room f = last := by simp [insN, hq]
    rw [this]; exact h.below hb
  | true =>
    by_cases hf : L.length < room
    · have hm2 : m ≤ 1000000 := by have := codeF_kind _ _ ((okF_iff f).1 hq).size; omega
      refine (RPut_in w base qb o room last c L.length d m A B f L cs ty h rfl hm hq hf hroom hl hbase hr hz hm2 hB hf0 hL' hs').mono ?_
      rintro e w' ⟨rfl, g, c', L', h1, h2, h3, h4⟩
      refine ⟨by simp [insK, insE, hq, hf], some ⟨g, 0, none⟩, c', L', csP cs o last (some ⟨g, 0, none⟩) (L.length + 1) c', ?_, ?_, h3, fun k hk => .inr (by have e : k = g := List.mem_singleton.1 hk; omega), by simp [csP], fun i i1 i2 => ?_⟩
      · have : insN (L.map absI) last room f = last + 1 := by simp [insN, hq, hf]
        rw [this]; exact h1
      · rw [h2]; simp [insP, hq, hf]
      · unfold csP
        rw [Array.getElem?_setIfInBounds_ne (by omega), Array.getElem?_setIfInBounds_ne (by omega)]
    · refine (RPut_full w base qb o room last c L.length d m A B f L cs ty h rfl hm hq (by omega)).mono ?_
      rintro e w' ⟨rfl, hb⟩
      refine ⟨by simp [insK, insE, hq, hf], A, c, L, cs, ?_, by simp [insP, hq, hf], Turn.of hb, fun k hk => .inl hk, rfl, fun _ _ _ => rfl⟩
      have : insN (L.map absI) last room f = last := by simp [insN, hq, hf]
      rw [this]; exact h.below hb
theorem RefQ.turn {w w' : World} {base qb o room last c : Nat} {A : Option Addr} {L : List QI} {cs : Array Value} {ty : TypeId} {s : List Nat} (h : RefQ w base qb o room last A c L cs ty) (ht : Turn s w w') (hf : Foot s w) (hq : qb ∉ s) (hA : ∀ k ∈ blkA A, k ∉ s) : RefQ w' base qb o room last A c L cs ty :=
  ⟨ht.heap h.box hq, h.c0, h.c1, h.c2, h.ne, own_turn h.own ht hA, fun x hx => (h.data x hx).turn_ty ht hf.bytes, h.lo⟩
theorem RefQ.lt {w : World} {base qb o room last c : Nat} {A : Option Addr} {L : List QI} {cs : Array Value} {ty : TypeId} (h : RefQ w base qb o room last A c L cs ty) : (∀ k ∈ blkA A, k < w.heap.size) ∧ qb < w.heap.size := by
  refine ⟨fun k hk => ?_, heap_lt h.box⟩
  rcases h.own.2 with ⟨hv, -⟩ | ⟨g, cap, cur, hv, hg, hh, -⟩
  · injection hv with hv; subst hv; simp [blkA] at hk
  · injection hv with hv; subst hv; simp [blkA] at hk; subst hk; exact heap_lt hh
theorem RefQ.foot {w : World} {base qb o room last c : Nat} {A : Option Addr} {L : List QI} {cs : Array Value} {ty : TypeId} (h : RefQ w base qb o room last A c L cs ty) : Foot [qb] w := fun k hk => by
  rw [List.mem_singleton.1 hk]; exact ⟨_, _, _, h.box, h.ne.1, h.ne.2.2⟩
end Go.Proofs.Ytlmdkmflbhnlgaa
