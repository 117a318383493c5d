/- queue: two entries exchanged. No condition. -/
import Derived.Test.YtlmdkmflbhnlgaaQueue0
namespace Go.Proofs.Ytlmdkmflbhnlgaa
open Go.RowKit
theorem info_entryQ : (Try.prog.info? 130).map (·.size) = some 13 := by kernel_rfl
theorem QRow.put {w : World} {base g cap : Nat} {l : List QN} {cur : Array Value} (h : QRow w base g cap l cur) (i : Nat) (hi : i < l.length) (e : QN) : ∃ cur', QRow (w.setCells g (i * 13) (qL e)) base g cap (l.set i e) cur' := by
  obtain ⟨ds, d1, d2, d3⟩ := heap_setCells (qL e) (i * 13) h.blk
  refine ⟨ds, d1, h.lo, by rw [d2]; exact h.size, by simpa using h.len, h.cap, fun k hk j u hu => ?_⟩
  have hj : j < 13 := by have := (List.getElem?_eq_some_iff.1 hu).1; rwa [qL_length] at this
  have hk' : k < l.length := by simpa using hk
  have hle := h.len
  have hsz := h.size
  rw [d3, qL_length]
  by_cases e1 : k = i
  · subst e1
    rw [List.getElem_set_self] at hu
    have hkc : k * 13 + j < cap * 13 := by
      have : k + 1 ≤ cap := by omega
      have := Nat.mul_le_mul_right 13 this
      omega
    rw [if_pos (by omega), show k * 13 + j - k * 13 = j by omega]
    exact hu
  · rw [List.getElem_set_ne (Ne.symm e1)] at hu
    rw [if_neg ?_]
    · exact h.at_ k hk' j u hu
    · intro hc
      rcases Nat.lt_or_gt_of_ne e1 with h1 | h1
      · have := Nat.mul_le_mul_right 13 (show k + 1 ≤ i by omega); omega
      · have := Nat.mul_le_mul_right 13 (show i + 1 ≤ k by omega); omega
theorem QRow.there {w : World} {base g cap : Nat} {l : List QN} {cur : Array Value} (h : QRow w base g cap l cur) (i : Nat) (hi : i < l.length) : w.there g (i * 13) 13 := by
  have hle := h.len
  have := Nat.mul_le_mul_right 13 (show i + 1 ≤ cap by omega)
  exact there_of h.blk _ _ (by rw [h.size]; omega)
theorem HeapQ.ofRow {w w' : World} {base qb room last g cap : Nat} {l l' : List QN} {cur : Array Value} (h : HeapQ w base qb room last (some ⟨g, 0, none⟩) cap l) (hl : l'.length = l.length) (ht : Turn [g] w w') (hne : qb ≠ g) (hr : QRow w' base g cap l' cur) : HeapQ w' base qb room last (some ⟨g, 0, none⟩) cap l' :=
  ⟨by rw [hl]; exact ht.heap h.box (by simpa using hne), .inr ⟨g, cur, rfl, hr⟩⟩
theorem HeapQ.ne {w : World} {base qb room last g cap : Nat} {l : List QN} (h : HeapQ w base qb room last (some ⟨g, 0, none⟩) cap l) : qb ≠ g := by
  rcases h.row with ⟨e, _⟩ | ⟨g', cur, e, hr⟩
  · cases e
  · injection e with e
    injection e with e
    subst e
    exact ne_of_type h.box hr.blk (by decide)
set_option maxRecDepth 100000 in
set_option maxHeartbeats 4000000 in
theorem qSwap_any (w : World) (base qb room last cap : Nat) (A : Option Addr) (l : List QN) (i j : Nat) (h : HeapQ w base qb room last A cap l) (hi : i < l.length) (hj : j < l.length) :
    Calls Try.prog 113 #[.slice A l.length cap, .int .i64 i, .int .i64 j] w fun e w' => e = .returned (.tuple #[]) ∧ HeapQ w' base qb room last A cap (sg l i j) ∧ Turn (blkA A) w w' := by
  obtain ⟨g, rfl, ci⟩ := h.cells i hi
  obtain ⟨g2, hg, cj⟩ := h.cells j hj
  obtain rfl : g = g2 := by injection hg with e; injection e
  have HQ := Lib.hid h
  have HI := Lib.hid hi
  have HJ := Lib.hid hj
  obtain ⟨cur, hrow⟩ : ∃ cur, QRow w base g cap l cur := by
    rcases h.row with ⟨e, _⟩ | ⟨g', cur, e, hr⟩
    · cases e
    · injection e with e; injection e with e; subst e; exact ⟨cur, hr⟩
  have HR := Lib.hid hrow
  obtain ⟨x, hx⟩ : ∃ x, l[i]'hi = x := ⟨_, rfl⟩
  obtain ⟨y, hy⟩ : ∃ y, l[j]'hj = y := ⟨_, rfl⟩
  rw [hx] at ci
  rw [hy] at cj
  have HSG : Hid (sg l i j = (l.set i y).set j x) := by show _ = _; unfold sg; rw [ag_get hi, ag_get hj, hx, hy]
  have OX := Lib.hid (all_oneCell_toArray (qL_one x))
  have OY := Lib.hid (all_oneCell_toArray (qL_one y))
  have EX : Hid (qL x = qL x) := rfl
  have c0 : w.cell? ⟨g, i * 13, none⟩ = some (.int .i64 x.no) := ci 0 _ rfl
  have c1 : w.cell? ⟨g, i * 13 + 1, none⟩ = some (.int .i64 x.f.kind) := ci 1 _ rfl
  have c2 : w.cell? ⟨g, i * 13 + 2, none⟩ = some (.int .u32 x.f.id) := ci 2 _ rfl
  have c3 : w.cell? ⟨g, i * 13 + 3, none⟩ = some (.bool x.f.ext) := ci 3 _ rfl
  have c4 : w.cell? ⟨g, i * 13 + 4, none⟩ = some (.bool x.f.rtr) := ci 4 _ rfl
  have c5 : w.cell? ⟨g, i * 13 + 5, none⟩ = some (.bool x.f.brs) := ci 5 _ rfl
  have c6 : w.cell? ⟨g, i * 13 + 6, none⟩ = some (.bool x.f.esi) := ci 6 _ rfl
  have c7 : w.cell? ⟨g, i * 13 + 7, none⟩ = some (.bool x.f.sec) := ci 7 _ rfl
  have c8 : w.cell? ⟨g, i * 13 + 8, none⟩ = some (.int .u8 x.f.sdt) := ci 8 _ rfl
  have c9 : w.cell? ⟨g, i * 13 + 9, none⟩ = some (.int .u8 x.f.vcid) := ci 9 _ rfl
  have c10 : w.cell? ⟨g, i * 13 + 10, none⟩ = some (.int .u32 x.f.af) := ci 10 _ rfl
  have c11 : w.cell? ⟨g, i * 13 + 11, none⟩ = some (.slice x.A x.f.data.length x.c) := ci 11 _ rfl
  have c12 : w.cell? ⟨g, i * 13 + 12, none⟩ = some (.int .u64 x.key) := ci 12 _ rfl
  have d0 : w.cell? ⟨g, j * 13, none⟩ = some (.int .i64 y.no) := cj 0 _ rfl
  have d1 : w.cell? ⟨g, j * 13 + 1, none⟩ = some (.int .i64 y.f.kind) := cj 1 _ rfl
  have d2 : w.cell? ⟨g, j * 13 + 2, none⟩ = some (.int .u32 y.f.id) := cj 2 _ rfl
  have d3 : w.cell? ⟨g, j * 13 + 3, none⟩ = some (.bool y.f.ext) := cj 3 _ rfl
  have d4 : w.cell? ⟨g, j * 13 + 4, none⟩ = some (.bool y.f.rtr) := cj 4 _ rfl
  have d5 : w.cell? ⟨g, j * 13 + 5, none⟩ = some (.bool y.f.brs) := cj 5 _ rfl
  have d6 : w.cell? ⟨g, j * 13 + 6, none⟩ = some (.bool y.f.esi) := cj 6 _ rfl
  have d7 : w.cell? ⟨g, j * 13 + 7, none⟩ = some (.bool y.f.sec) := cj 7 _ rfl
  have d8 : w.cell? ⟨g, j * 13 + 8, none⟩ = some (.int .u8 y.f.sdt) := cj 8 _ rfl
  have d9 : w.cell? ⟨g, j * 13 + 9, none⟩ = some (.int .u8 y.f.vcid) := cj 9 _ rfl
  have d10 : w.cell? ⟨g, j * 13 + 10, none⟩ = some (.int .u32 y.f.af) := cj 10 _ rfl
  have d11 : w.cell? ⟨g, j * 13 + 11, none⟩ = some (.slice y.A y.f.data.length y.c) := cj 11 _ rfl
  have d12 : w.cell? ⟨g, j * 13 + 12, none⟩ = some (.int .u64 y.key) := cj 12 _ rfl
  have fz : ∀ o, w.frozen? ⟨g, o, none⟩ = false := fun o => by simp [World.frozen?, hrow.blk]
  obtain ⟨n, hn⟩ : ∃ n, l.length = n := ⟨_, rfl⟩
  have hin : i < n := by rw [← hn]; exact hi
  have hjn : j < n := by rw [← hn]; exact hj
  rw [hn]
  have HE : Hid (HeapQ ((w.setCells g (i * 13) (qL y)).setCells g (j * 13) (qL x)) base qb room last (some ⟨g, 0, none⟩) cap (sg l i j) ∧ Turn [g] w ((w.setCells g (i * 13) (qL y)).setCells g (j * 13) (qL x))) := by
    obtain ⟨c1, r1⟩ := hrow.put i hi y
    obtain ⟨c2, r2⟩ := r1.put j (by simpa using hj) x
    have ht : Turn [g] w ((w.setCells g (i * 13) (qL y)).setCells g (j * 13) (qL x)) := Turn.setCells (.inl (by simp)) _ _ (Turn.setCells (.inl (by simp)) _ _ (Turn.refl _ _))
    rw [HSG.out]
    exact ⟨HQ.out.ofRow (by simp) ht HQ.out.ne r2, ht⟩
  have HXY : Hid (i = j → x = y) := fun e => by subst e; rw [← hx, ← hy]
  clear hx hy
  clear h ci cj hg hi hj hrow EX hn OX OY HSG
  by_cases hne : i = j
  · subst hne
    have hxy := HXY.out rfl
    subst hxy
    clear d0 d1 d2 d3 d4 d5 d6 d7 d8 d9 d10 d11 d12
    go_enter Try.func113, Try.ntmps113
    go_wp2_with fail
    go_region
    go_end0
    exact ⟨rfl, HE.out.1.below ((Below.refl _ _).drew), HE.out.2.drew⟩
  · go_enter Try.func113, Try.ntmps113
    go_wp2_with fail
    go_region
    go_end0
    exact ⟨rfl, HE.out.1.below ((Below.refl _ _).drew), HE.out.2.drew⟩
end Go.Proofs.Ytlmdkmflbhnlgaa
