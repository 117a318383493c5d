/- queue: two entries exchanged. No condition. -/
import Derived.Test.YtlmdkmflbhnlgaaQueue0
import Derived.Handy
namespace Go.Proofs.Ytlmdkmflbhnlgaa
open Go.RowKit
theorem info_entryQ : (Try.prog.info? 130).map (·.size) = some 13 := by kernel_rfl
theorem QRow.put {w : World} {base g cap : Nat} {l : List QN} {cur : Array Value} (h : QRow w base g cap l cur) (i : Nat) (hi : i < l.length) (e : QN) : ∃ cur', QRow (w.setCells g (i * 13) (qL e)) base g cap (l.set i e) cur' := by
  obtain ⟨ds, d1, d2, d3⟩ := heap_setCells (qL e) (i * 13) h.blk
  refine ⟨ds, d1, h.lo, by rw [d2]; exact h.size, by simpa using h.len, h.cap, fun k hk j u hu => ?_⟩
  have hj : j < 13 := by have := (List.getElem?_eq_some_iff.1 hu).1; rwa [qL_length] at this
  have hk' : k < l.length := by simpa using hk
  have hle := h.len
  have hsz := h.size
  rw [d3, qL_length]
  by_cases e1 : k = i
  · subst e1
    rw [List.getElem_set_self] at hu
    have hkc : k * 13 + j < cap * 13 := by
      have : k + 1 ≤ cap := by omega
      have := Nat.mul_le_mul_right 13 this
      omega
    rw [if_pos (by omega), show k * 13 + j - k * 13 = j by omega]
    exact hu
  · rw [List.getElem_set_ne (Ne.symm e1)] at hu
    rw [if_neg ?_]
    · exact h.at_ k hk' j u hu
    · intro hc
      rcases Nat.lt_or_gt_of_ne e1 with h1 | h1
      · have := Nat.mul_le_mul_right 13 (show k + 1 ≤ i by omega); omega
      · have := Nat.mul_le_mul_right 13 (show i + 1 ≤ k by omega); omega
theorem QRow.there {w : World} {base g cap : Nat} {l : List QN} {cur : Array Value} (h : QRow w base g cap l cur) (i : Nat) (hi : i < l.length) : w.there g (i * 13) 13 := by
  have hle := h.len
  have := Nat.mul_le_mul_right 13 (show i + 1 ≤ cap by omega)
  exact there_of h.blk _ _ (by rw [h.size]; omega)
theorem HeapQ.ofRow {w w' : World} {base qb room last g cap : Nat} {l l' : List QN} {cur : Array Value} (h : HeapQ w base qb room last (some ⟨g, 0, none⟩) cap l) (hl : l'.length = l.length) (ht : Turn [g] w w') (hne : qb ≠ g) (hr : QRow w' base g cap l' cur) : HeapQ w' base qb room last (some ⟨g, 0, none⟩) cap l' :=
  ⟨by rw [hl]; exact ht.heap h.box (by simpa using hne), .inr ⟨g, cur, rfl, hr⟩⟩
theorem HeapQ.ne {w : World} {base qb room last g cap : Nat} {l : List QN} (h : HeapQ w base qb room last (some ⟨g, 0, none⟩) cap l) : qb ≠ g := by
  rcases h.row with ⟨e, _⟩ | ⟨g', cur, e, hr⟩
  · cases e
  · injection e with e
    injection e with e
    subst e
    exact ne_of_type h.box hr.blk (by decide)
set_option maxRecDepth 100000 in
set_option maxHeartbeats 4000000 in
theorem qSwap_any (w : World) (base qb room last cap : Nat) (A : Option Addr) (l : List QN) (i j : Nat) (h : HeapQ w base qb room last A cap l) (hi : i < l.length) (hj : j < l.length) :
    Calls Try.prog 113 #[.slice A l.length cap, .int .i64 i, .int .i64 j] w fun e w' => e = .returned (.tuple #[]) ∧ HeapQ w' base qb room last A cap (sg l i j) ∧ Turn (blkA A) w w' := by
  obtain ⟨g, rfl, ci⟩ := h.cells i hi
  obtain ⟨g2, hg, cj⟩ := h.cells j hj
  obtain rfl : g = g2 := by injection hg with e; injection e
  have HQ := Lib.hid h
  have HI := Lib.hid hi
  have HJ := Lib.hid hj
  obtain ⟨cur, hrow⟩ : ∃ cur, QRow w base g cap l cur := by
    rcases h.row with ⟨e, _⟩ | ⟨g', cur, e, hr⟩
    · cases e
    · injection e with e; injection e with e; subst e; exact ⟨cur, hr⟩
  have HR := Lib.hid hrow
  obtain ⟨x, hx⟩ : ∃ x, l[i]'hi = x := ⟨_, rfl⟩
  obtain ⟨y, hy⟩ : ∃ y, l[j]'hj = y := ⟨_, rfl⟩
  rw [hx] at ci
  rw [hy] at cj
  have HSG : Hid (sg l i j = (l.set i y).set j x) := by show _ = _; unfold sg; rw [ag_get hi, ag_get hj, hx, hy]
  have OX := Lib.hid (all_oneCell_toArray (qL_one x))
  have OY := Lib.hid (all_oneCell_toArray (qL_one y))
  have EX : Hid (qL x = qL x) := rfl
  have c0 : w.cell? ⟨g, i * 13, none⟩ = some (.int .i64 x.no) := ci 0 _ rfl
  have c1 : w.cell? ⟨g, i * 13 + 1, none⟩ = some (.int .i64 x.f.kind) := ci 1 _ rfl
  have c2 : w.cell? ⟨g, i * 13 + 2, none⟩ = some (.int .u32 x.f.id) := ci 2 _ rfl
  have c3 : w.cell? ⟨g, i * 13 + 3, none⟩ = some (.bool x.f.ext) := ci 3 _ rfl
  have c4 : w.cell? ⟨g, i * 13 + 4, none⟩ = some (.bool x.f.rtr) := ci 4 _ rfl
  have c5 : w.cell? ⟨g, i * 13 + 5, none⟩ = some (.bool x.f.brs) := ci 5 _ rfl
  have c6 : w.cell? ⟨g, i * 13 + 6, none⟩ = some (.bool x.f.esi) := ci 6 _ rfl
  have c7 : w.cell? ⟨g, i * 13 + 7, none⟩ = some (.bool x.f.sec) := ci 7 _ rfl
  have c8 : w.cell? ⟨g, i * 13 + 8, none⟩ = some (.int .u8 x.f.sdt) := ci 8 _ rfl
  have c9 : w.cell? ⟨g, i * 13 + 9, none⟩ = some (.int .u8 x.f.vcid) := ci 9 _ rfl
  have c10 : w.cell? ⟨g, i * 13 + 10, none⟩ = some (.int .u32 x.f.af) := ci 10 _ rfl
  have c11 : w.cell? ⟨g, i * 13 + 11, none⟩ = some (.slice x.A x.f.data.length x.c) := ci 11 _ rfl
  have c12 : w.cell? ⟨g, i * 13 + 12, none⟩ = some (.int .u64 x.key) := ci 12 _ rfl
  have d0 : w.cell? ⟨g, j * 13, none⟩ = some (.int .i64 y.no) := cj 0 _ rfl
  have d1 : w.cell? ⟨g, j * 13 + 1, none⟩ = some (.int .i64 y.f.kind) := cj 1 _ rfl
  have d2 : w.cell? ⟨g, j * 13 + 2, none⟩ = some (.int .u32 y.f.id) := cj 2 _ rfl
  have d3 : w.cell? ⟨g, j * 13 + 3, none⟩ = some (.bool y.f.ext) := cj 3 _ rfl
  have d4 : w.cell? ⟨g, j * 13 + 4, none⟩ = some (.bool y.f.rtr) := cj 4 _ rfl
  have d5 : w.cell? ⟨g, j * 13 + 5, none⟩ = some (.bool y.f.brs) := cj 5 _ rfl
  have d6 : w.cell? ⟨g, j * 13 + 6, none⟩ = some (.bool y.f.esi) := cj 6 _ rfl
  have d7 : w.cell? ⟨g, j * 13 + 7, none⟩ = some (.bool y.f.sec) := cj 7 _ rfl
  have d8 : w.cell? ⟨g, j * 13 + 8, none⟩ = some (.int .u8 y.f.sdt) := cj 8 _ rfl
  have d9 : w.cell? ⟨g, j * 13 + 9, none⟩ = some (.int .u8 y.f.vcid) := cj 9 _ rfl
  have d10 : w.cell? ⟨g, j * 13 + 10, none⟩ = some (.int .u32 y.f.af) := cj 10 _ rfl
  have d11 : w.cell? ⟨g, j * 13 + 11, none⟩ = some (.slice y.A y.f.data.length y.c) := cj 11 _ rfl
  have d12 : w.cell? ⟨g, j * 13 + 12, none⟩ = some (.int .u64 y.key) := cj 12 _ rfl
  have fz : ∀ o, w.frozen? ⟨g, o, none⟩ = false := fun o => by simp [World.frozen?, hrow.blk]
  obtain ⟨n, hn⟩ : ∃ n, l.length = n := ⟨_, rfl⟩
  have hin : i < n := by rw [← hn]; exact hi
  have hjn : j < n := by rw [← hn]; exact hj
  rw [hn]
  have HE : Hid (HeapQ ((w.setCells g (i * 13) (qL y)).setCells g (j * 13) (qL x)) base qb room last (some ⟨g, 0, none⟩) cap (sg l i j) ∧ Turn [g] w ((w.setCells g (i * 13) (qL y)).setCells g (j * 13) (qL x))) := by
    obtain ⟨c1, r1⟩ := hrow.put i hi y
    obtain ⟨c2, r2⟩ := r1.put j (by simpa using hj) x
    have ht : Turn [g] w ((w.setCells g (i * 13) (qL y)).setCells g (j * 13) (qL x)) := Turn.setCells (.inl (by simp)) _ _ (Turn.setCells (.inl (by simp)) _ _ (Turn.refl _ _))
    rw [HSG.out]
    exact ⟨HQ.out.ofRow (by simp) ht HQ.out.ne r2, ht⟩
  have HXY : Hid (i = j → x = y) := fun e => by subst e; rw [← hx, ← hy]
  clear hx hy
  clear h ci cj hg hi hj hrow EX hn OX OY HSG
  by_cases hne : i = j
  · subst hne
    have hxy := HXY.out rfl
    subst hxy
    clear d0 d1 d2 d3 d4 d5 d6 d7 d8 d9 d10 d11 d12
    go_enter Try.func113, Try.ntmps113
    go_wp2_with fail
    go_region
    go_end0
    exact ⟨rfl, HE.out.1.below ((Below.refl _ _).drew), HE.out.2.drew⟩
  · go_enter Try.func113, Try.ntmps113
    go_wp2_with fail
    go_region
    go_end0
    exact ⟨rfl, HE.out.1.below ((Below.refl _ _).drew), HE.out.2.drew⟩
end Go.Proofs.Ytlmdkmflbhnlgaa
namespace Go.Proofs.Ytlmdkmflbhnlgaa
open Go.RowKit
theorem qLen_any (A : Option Addr) (n c : Nat) (w : World) : Calls Try.prog 111 #[.slice A n c] w fun e w' => e = .returned (.int .i64 n) ∧ w = w' := by
  go_enter Try.func111, Try.ntmps111
  go_wp2
  go_ret
  exact ⟨rfl, rfl⟩
/-- A row of entries, as the kit tells rows. -/
theorem QRow.owns {w : World} {base g cap : Nat} {l : List QN} {cur : Array Value} (h : QRow w base g cap l cur) : w.ownsRow base 130 13 (.slice (some ⟨g, 0, none⟩) l.length cap) l.length (flatQ l) := by
  have hlen : (flatQ l).length = l.length * 13 := flat_length qL_length l
  refine ⟨hlen, .inr ⟨g, cap, cur, rfl, h.lo, h.blk, h.len, h.cap, h.size, ?_⟩⟩
  apply List.ext_getElem?
  intro m
  by_cases hm : m < l.length * 13
  · have hk : m / 13 < l.length := by omega
    have hj : m % 13 < 13 := by omega
    have e : m = m / 13 * 13 + m % 13 := by omega
    rw [List.getElem?_take_of_lt hm, e]
    unfold flatQ
    rw [flat_get qL_length l (m / 13) hk (m % 13) hj]
    obtain ⟨u, hu⟩ : ∃ u, (qL l[m / 13])[m % 13]? = some u := ⟨(qL l[m / 13])[m % 13]'(by show m % 13 < 13; omega), List.getElem?_eq_getElem _⟩
    rw [hu]
    have := h.at_ (m / 13) hk (m % 13) u hu
    simpa using this
  · rw [List.getElem?_eq_none (by simp; omega), List.getElem?_eq_none (by omega)]
theorem QRow.of {w : World} {base g cap : Nat} {l : List QN} (h : w.ownsRow base 130 13 (.slice (some ⟨g, 0, none⟩) l.length cap) l.length (flatQ l)) : ∃ cur, QRow w base g cap l cur := by
  rcases h.2 with ⟨hv, -⟩ | ⟨g', cap', cur, hv, hg, hh, hnc, hm, hs, ht⟩
  · cases hv
  · obtain ⟨rfl, rfl⟩ : g = g' ∧ cap = cap' := by injection hv with e _ e2; injection e with e; injection e with e; exact ⟨e, e2⟩
    refine ⟨cur, hh, hg, hs, hnc, hm, fun k hk j u hu => ?_⟩
    have hj : j < 13 := by have := (List.getElem?_eq_some_iff.1 hu).1; rwa [qL_length] at this
    have h1 := flat_get qL_length l k hk j hj
    rw [hu] at h1
    have h2 : (cur.toList.take (l.length * 13))[k * 13 + j]? = some u := by rw [ht]; exact h1
    have hlt : k * 13 + j < l.length * 13 := by have := Nat.mul_le_mul_right 13 (show k + 1 ≤ l.length by omega); omega
    rw [List.getElem?_take_of_lt hlt] at h2
    simpa using h2
theorem HeapQ.owns {w : World} {base qb room last cap : Nat} {A : Option Addr} {l : List QN} (h : HeapQ w base qb room last A cap l) : w.ownsRow base 130 13 (.slice A l.length cap) l.length (flatQ l) := by
  rcases h.row with ⟨rfl, rfl, rfl⟩ | ⟨g, cur, rfl, hr⟩
  · exact ⟨rfl, .inl ⟨rfl, rfl⟩⟩
  · exact hr.owns
theorem HeapQ.blk {w : World} {base qb room last cap : Nat} {A : Option Addr} {l : List QN} (h : HeapQ w base qb room last A cap l) : ∀ a ∈ blkA A, a ≠ qb ∧ base ≤ a ∧ ∃ cs, w.heap[a]? = some (.cells cs 130 (0, 0)) := by
  rcases h.row with ⟨rfl, _, _⟩ | ⟨g, cur, rfl, hr⟩
  · intro a ha; simp [blkA] at ha
  · intro a ha
    simp [blkA] at ha
    subst ha
    exact ⟨ne_of_type hr.blk h.box (by decide), hr.lo, cur, hr.blk⟩
theorem HeapQ.capm {w : World} {base qb room last cap : Nat} {A : Option Addr} {l : List QN} (h : HeapQ w base qb room last A cap l) : l.length ≤ cap ∧ cap ≤ maxLen := by
  rcases h.row with ⟨rfl, rfl, rfl⟩ | ⟨g, cur, rfl, hr⟩
  · exact ⟨by simp, by decide⟩
  · exact ⟨hr.len, hr.cap⟩
theorem HeapQ.popd {w : World} {base qb room last cap n : Nat} {A : Option Addr} {l : List QN} (h : HeapQ w base qb room last A cap l) (hn : l.length = n + 1) :
    HeapQ (w.setCell ⟨qb, 2, none⟩ (.slice A n cap)) base qb room last A cap (l.take n) := by
  have hl : (l.take n).length = n := by simp; omega
  refine ⟨by rw [hl]; exact heap_setCell h.box 2 _, ?_⟩
  rcases h.row with ⟨_, _, rfl⟩ | ⟨g, cur, rfl, hr⟩
  · simp at hn
  · have hne := (h.blk g (by simp [blkA])).1
    refine .inr ⟨g, cur, rfl, by rw [Below.heap_setCell _ _ _ _ hne]; exact hr.blk, hr.lo, hr.size, by have := hr.len; omega, hr.cap, fun k hk j u hu => ?_⟩
    rw [List.getElem_take] at hu
    exact hr.at_ k (by omega) j u hu
set_option maxRecDepth 100000 in
set_option maxHeartbeats 2000000 in
theorem qPop_any (w : World) (base qb room last cap n : Nat) (A : Option Addr) (l : List QN) (h : HeapQ w base qb room last A cap l) (hn : l.length = n + 1) (hc : n ≤ 1000) :
    Calls Try.prog 119 #[.pointer (some ⟨qb, 2, none⟩)] w fun e w' => e = .returned (.iface 130 (qV (ag l n))) ∧ HeapQ w' base qb room last A cap (l.take n) ∧ Turn [qb] w w' := by
  obtain ⟨g, rfl, ci⟩ := h.cells n (by omega)
  have c0 : w.cell? ⟨qb, 2, none⟩ = some (.slice (some ⟨g, 0, none⟩) (n + 1 : Nat) cap) := by rw [← hn]; exact cell_of_heap h.box 2 _ rfl
  have z0 : w.frozen? ⟨qb, 2, none⟩ = false := by simp [World.frozen?, h.box]
  have sb : qb < w.heap.size := heap_lt h.box
  obtain ⟨hcap, hm⟩ := h.capm
  have hcm : (cap : Int) ≤ 9223372036854775807 := by unfold maxLen at hm; omega
  rw [hn] at hcap
  have hh := Lib.hid h
  rw [ag_get (by omega)]
  obtain ⟨x, hx⟩ : ∃ x, l[n]'(by omega) = x := ⟨_, rfl⟩
  rw [hx] at ci ⊢
  have a0 : w.cell? ⟨g, n * 13, none⟩ = some (.int .i64 x.no) := ci 0 _ rfl
  have a1 := ci 1 _ rfl
  have a2 := ci 2 _ rfl
  have a3 := ci 3 _ rfl
  have a4 := ci 4 _ rfl
  have a5 := ci 5 _ rfl
  have a6 := ci 6 _ rfl
  have a7 := ci 7 _ rfl
  have a8 := ci 8 _ rfl
  have a9 := ci 9 _ rfl
  have a10 := ci 10 _ rfl
  have a11 := ci 11 _ rfl
  have a12 := ci 12 _ rfl
  have HN := Lib.hid hn
  clear hn h hm ci hx
  go_enter Try.func119, Try.ntmps119
  go_wp2_with fail
  go_ret
  exact ⟨rfl, (hh.out.popd HN.out).below ((Below.refl _ _).alloc (Nat.le_refl _) _), ((Turn.refl [qb] w).setCell (p := ⟨qb, 2, none⟩) (.inl (by simp)) _).alloc _⟩
theorem info_entryQ2 : ∃ i : TypeInfo, Try.prog.info? 130 = some i ∧ i.zero = some (.agg #[.int .i64 0, .int .i64 0, .int .u32 0, .bool false, .bool false, .bool false, .bool false, .bool false, .int .u8 0, .int .u8 0, .int .u32 0, .slice none 0 0, .int .u64 0]) ∧ i.size = 13 ∧ i.bytes = 64 := by
  have h : (Try.prog.info? 130).isSome = true ∧ (∀ i, Try.prog.info? 130 = some i → i.zero = some (.agg #[.int .i64 0, .int .i64 0, .int .u32 0, .bool false, .bool false, .bool false, .bool false, .bool false, .int .u8 0, .int .u8 0, .int .u32 0, .slice none 0 0, .int .u64 0]) ∧ i.size = 13 ∧ i.bytes = 64) := by
    refine ⟨by kernel_rfl, fun i hi => ?_⟩
    have h2 : (Try.prog.info? 130).map (fun i => (i.size, i.bytes)) = some (13, 64) := by kernel_rfl
    have h3 : (Try.prog.info? 130).bind (fun i => i.zero) = some (.agg #[.int .i64 0, .int .i64 0, .int .u32 0, .bool false, .bool false, .bool false, .bool false, .bool false, .int .u8 0, .int .u8 0, .int .u32 0, .slice none 0 0, .int .u64 0]) := by kernel_rfl
    rw [hi] at h2 h3
    simp at h2 h3
    exact ⟨h3, h2⟩
  obtain ⟨i, hi⟩ := Option.isSome_iff_exists.1 h.1
  exact ⟨i, hi, h.2 i hi⟩
/-- What lies behind append's step, ahead of the store. -/
structure PushedQ (W0 w' : World) (base qb room last n : Nat) (A : Option Addr) (cap : Nat) (A' : Option Addr) (cap' : Nat) (l : List QN) : Prop where
  box : w'.heap[qb]? = some (.cells #[.int .i64 room, .int .i64 last, .slice A n cap] 114 (0, 0))
  row : ∃ g cur, A' = some ⟨g, 0, none⟩ ∧ QRow w' base g cap' l cur
  fresh : ∀ a ∈ blkA A', a ∈ blkA A ∨ W0.heap.size ≤ a
  turn : Turn (qb :: blkA A) W0 w'
theorem PushedQ.store {W0 w' : World} {base qb room last n cap cap' : Nat} {A A' : Option Addr} {l : List QN} (h : PushedQ W0 w' base qb room last n A cap A' cap' l) :
    HeapQ (w'.setCell ⟨qb, 2, none⟩ (.slice A' l.length cap')) base qb room last A' cap' l := by
  obtain ⟨h1, ⟨g, cur, rfl, hr⟩, -, -⟩ := h
  have hne : g ≠ qb := ne_of_type hr.blk h1 (by decide)
  exact ⟨heap_setCell h1 2 _, .inr ⟨g, cur, rfl, by rw [Below.heap_setCell _ _ _ _ hne]; exact hr.blk, hr.lo, hr.size, hr.len, hr.cap, hr.at_⟩⟩
theorem step_pushQ {P : Program} {W0 w : World} {base qb room last cap : Nat} {A : Option Addr} {l : List QN} (x : QN) (h : HeapQ w base qb room last A cap l) (hW : Turn (qb :: blkA A) W0 w) {ops : Array Oper} {o : Oper} {a : Act} {K : Act → World → Prop} {Q : Exit → Act → World → Prop} {E : Prop} (hgd : o.guard = none) (s y : Operand) (t : TypeId)
    (ho : o.op = .call { callee := .builtin .append, args := #[s, y], argTypes := #[t, t] })
    (i : TypeInfo) (z : Value) (bytes : Nat) (ht : P.underlying t = some (.slice 130)) (hi : P.info? 130 = some i) (hz : i.zero = some z)
    (hsize : i.size = 13) (hby : i.bytes = bytes) (hzs : z.cells.size = 13) (n : Nat) (hn : l.length = n) (hs : a.eval s = .slice A n cap)
    (q d : Nat) (tq : TypeId) (hx : a.eval y = .slice (some ⟨q, 0, none⟩) 1 d) (hq : w.heap[q]? = some (.cells (qL x).toArray tq))
    (h63 : n + 1 ≤ maxLen) (hbytes : (n + 1) * bytes ≤ 140737488355328) (hbase : base ≤ W0.heap.size)
    (hk : ∀ w' A' cap', Hid (PushedQ W0 w' base qb room last n A cap A' cap' (l ++ [x])) → w'.cell? ⟨qb, 2, none⟩ = some (.slice A n cap) → w'.frozen? ⟨qb, 2, none⟩ = false → K (a.put o.dst (.slice A' (n + 1 : Nat) cap')) w') :
    if Region.wanted o (yielded ops a.tmps) = true then Oper.wp P o a w K Q else E := by
  subst hn
  have hw : Region.wanted o (yielded ops a.tmps) = true := by simp [Region.wanted, hgd]
  rw [if_pos hw]
  have hnews : ∀ j u, (qL x)[j]? = some u → w.cell? ((⟨q, 0, none⟩ : Addr).add j) = some u := World.news_of_block hq
  have hown := h.owns
  obtain ⟨v', w', hr, h2, h3, h4, h5⟩ := run_append_own_at (P := P) w base t o.type 130 i z 13 bytes ht hi hz hsize hby hzs (by omega) (.slice A l.length cap) l.length (flatQ l) hown ⟨q, 0, none⟩ 1 d
    (qL x) rfl hnews (qL_one x) h63 hbytes (Nat.le_trans hbase hW.size)
  unfold Oper.wp execOp
  simp only [ho, resolve, invoke, builtin, Sem.run_bind, Sem.run_pure, Result.andThen_ok, List.map_toArray, List.map_cons, List.map_nil, hs, hx, hr]
  have hv : ∃ g' cap', v' = .slice (some ⟨g', 0, none⟩) (l.length + 1 : Nat) cap' ∧ base ≤ g' := by
    rcases h2.2 with ⟨hv, hl0⟩ | ⟨g', cap', cur, hv, hg, -⟩
    · omega
    · exact ⟨g', cap', hv, hg⟩
  obtain ⟨g', cap', rfl, hg'⟩ := hv
  have hsb := heap_lt h.box
  have hnqb : ∀ a ∈ blkA A, a ≠ qb := fun a ha => (h.blk a ha).1
  have hob : ∀ k, (Value.slice A l.length cap).ownBlock = some k → k ∈ blkA A := by
    intro k hk
    cases A with
    | none => cases hk
    | some ad => injection hk with hk; subst hk; simp [blkA]
  have hbx : w'.heap[qb]? = some (.cells #[.int .i64 room, .int .i64 last, .slice A l.length cap] 114 (0, 0)) := by
    rw [h3.block qb hsb (fun e => hnqb _ (hob _ e.symm) rfl)]; exact h.box
  have hturn : Turn (qb :: blkA A) W0 w' := hW.tr ⟨h3.os, h3.tape, h3.output, h3.size, fun k hk hm => h3.block k hk fun e => hm (List.mem_cons_of_mem _ (hob _ e.symm))⟩
  have hfresh : ∀ a ∈ blkA (some (⟨g', 0, none⟩ : Addr)), a ∈ blkA A ∨ W0.heap.size ≤ a := by
    intro a ha
    simp [blkA] at ha
    subst ha
    rcases h5 with h5 | h5
    · exact .inl (hob _ h5.symm)
    · injection h5 with h5; right; have := hW.size; have h6 : a = w.heap.size := h5; omega
  have hrow : ∃ cur, QRow w' base g' cap' (l ++ [x]) cur := by
    refine QRow.of ?_
    have e : (l ++ [x]).length = l.length + 1 := by simp
    have e2 : flatQ (l ++ [x]) = flatQ l ++ qL x := by simp [flatQ]
    rw [e, e2]
    exact h2
  obtain ⟨cur, hrow⟩ := hrow
  exact hk w' (some ⟨g', 0, none⟩) cap' ⟨hbx, ⟨g', cur, rfl, hrow⟩, hfresh, hturn⟩ (cell_of_heap hbx 2 _ rfl) (by simp [World.frozen?, hbx])
/-- What Push leaves. -/
def PushQ (w w' : World) (base qb room last : Nat) (A : Option Addr) (l : List QN) : Prop := ∃ A' cap', HeapQ w' base qb room last A' cap' l ∧ (∀ a ∈ blkA A', a ∈ blkA A ∨ w.heap.size ≤ a) ∧ Turn (qb :: blkA A) w w'
set_option maxRecDepth 100000 in
set_option maxHeartbeats 4000000 in
theorem qPush_any (w : World) (base qb room last cap n : Nat) (A : Option Addr) (l : List QN) (x : QN) (h : HeapQ w base qb room last A cap l) (hn : l.length = n) (hc : n ≤ 1000) (hb : base ≤ w.heap.size) :
    Calls Try.prog 120 #[.pointer (some ⟨qb, 2, none⟩), .iface 130 (qV x)] w fun e w' => e = .returned (.tuple #[]) ∧ PushQ w w' base qb room last A (l ++ [x]) := by
  have c0 : w.cell? ⟨qb, 2, none⟩ = some (.slice A n cap) := by rw [← hn]; exact cell_of_heap h.box 2 _ rfl
  have z0 : w.frozen? ⟨qb, 2, none⟩ = false := by simp [World.frozen?, h.box]
  have sb : qb < w.heap.size := heap_lt h.box
  obtain ⟨i0, hi, hz0, hz1, hz2⟩ := info_entryQ2
  have fz : ∀ o, (w.alloc o).drew.frozen? ⟨qb, 2, none⟩ = false := fun o => by
    have : (w.alloc o).heap[qb]? = _ := heap_push h.box
    show (w.alloc o).frozen? _ = false
    simp [World.frozen?, this]
  have TA : ∀ W, Sem.run Try.prog (Instr.typeAssert (.iface 130 (qV x)) 20 130 false) W = .ok (qV x) W := fun _ => by kernel_rfl
  have hh := Lib.hid h
  have HN := Lib.hid hn
  have HB := Lib.hid hb
  clear h hn hb
  dsimp only [qV] at *
  go_enter Try.func120, Try.ntmps120
  go_wp2_with fail
  go_region_law (first
      | (refine step_pushQ (W0 := w) x (hh.out.below (below_alloc (Below.refl _ _) _).drew) ((Turn.refl _ w).alloc _).drew rfl (.tmp 7) (.tmp 10) 112 rfl i0 _ 64 Try.underlying112 hi hz0 hz1 hz2 rfl n HN.out rfl w.heap.size _ _ rfl (heap_new_at rfl) (by unfold maxLen; omega) (by omega) HB.out ?_; intro w3 A3 cap3 HP c3 z3))
  all_goals
    go_end0
    have hs := HP.out.store
    rw [List.length_append, HN.out, List.length_singleton] at hs
    exact ⟨rfl, _, _, hs, HP.out.fresh, HP.out.turn.setCell (p := ⟨qb, 2, none⟩) (.inl (by simp)) _⟩
end Go.Proofs.Ytlmdkmflbhnlgaa
