/- The methods of the entries of layer 10's heap. No condition. -/
import Derived.Test.YtbjeblffmgghgaaHeap1
import Derived.BigRegion
import Derived.Deep.RegionLaw
namespace Go.Proofs.Ytbjeblffmgghgaa
open Go.RowKit
def flat (l : List En) : List Value := l.flatMap fun e => [.int .u64 e.1, .int .i64 e.2]
/-- The heap as it lies: block b holds the slice, block g the entries. -/
structure HeapS (w : World) (base b g cap : Nat) (l : List En) : Prop where
  box : w.heap[b]? = some (.cells #[.slice (some ⟨g, 0, none⟩) l.length cap] 94)
  lob : base ≤ b
  log : base ≤ g
  ne : g ≠ b
  row : w.ownsRow base 90 2 (.slice (some ⟨g, 0, none⟩) l.length cap) l.length (flat l)
theorem flat_length (l : List En) : (flat l).length = l.length * 2 := by
  induction l with
  | nil => rfl
  | cons x l ih => simp [flat] at *; omega
theorem flat_append (a b : List En) : flat (a ++ b) = flat a ++ flat b := by simp [flat]
theorem flat_get (l : List En) (k : Nat) (h : k < l.length) : (flat l)[k * 2]? = some (.int .u64 (at_ l k).1) ∧ (flat l)[k * 2 + 1]? = some (.int .i64 (at_ l k).2) := by
  induction l generalizing k with
  | nil => simp at h
  | cons x l ih =>
    cases k with
    | zero => exact ⟨rfl, rfl⟩
    | succ k =>
      have := ih k (by simpa using h)
      have e1 : (k + 1) * 2 = k * 2 + 2 := by omega
      rw [e1]
      exact this
theorem HeapS.cells {w : World} {base b g cap : Nat} {l : List En} (h : HeapS w base b g cap l) (k : Nat) (hk : k < l.length) : w.cell? ⟨g, k * 2, none⟩ = some (.int .u64 (at_ l k).1) ∧ w.cell? ⟨g, k * 2 + 1, none⟩ = some (.int .i64 (at_ l k).2) := by
  obtain ⟨f1, f2⟩ := flat_get l k hk
  have c1 := h.row.cells (g := g) rfl (k * 2) _ f1
  have c2 := h.row.cells (g := g) rfl (k * 2 + 1) _ f2
  constructor
  · by_cases h0 : k * 2 = 0
    · rw [h0] at c1 ⊢; simpa [Addr.add] using c1
    · simpa [Addr.add, h0] using c1
  · simpa [Addr.add] using c2
theorem HeapS.frozen {w : World} {base b g cap : Nat} {l : List En} (h : HeapS w base b g cap l) (k : Nat) : w.frozen? ⟨g, k * 2, none⟩ = false ∧ w.frozen? ⟨g, k * 2 + 1, none⟩ = false := by
  rcases h.row.2 with ⟨hv, -⟩ | ⟨g', cap', cur, hv, hg, hh, -⟩
  · cases hv
  · obtain ⟨rfl, -⟩ : g = g' ∧ True := by injection hv with e; injection e with e; injection e with e; exact ⟨e, trivial⟩
    constructor <;> simp [World.frozen?, hh]
theorem HeapS.cap {w : World} {base b g cap : Nat} {l : List En} (h : HeapS w base b g cap l) : l.length ≤ cap ∧ cap ≤ maxLen := by
  rcases h.row.2 with ⟨hv, -⟩ | ⟨g', cap', cur, hv, hg, hh, hn, hm, -⟩
  · cases hv
  · obtain rfl : cap = cap' := by injection hv
    exact ⟨hn, hm⟩
theorem HeapS.below {w w' : World} {base b g cap : Nat} {l : List En} (h : HeapS w base b g cap l) (hb : Below w.heap.size w w') : HeapS w' base b g cap l := by
  obtain ⟨h1, h2, h3, h4, h5⟩ := h
  refine ⟨heap_below hb h1, h2, h3, h4, h5.1, ?_⟩
  rcases h5.2 with h6 | ⟨g', cap', cur, hv, hg, hh, r⟩
  · exact .inl h6
  · exact .inr ⟨g', cap', cur, hv, hg, heap_below hb hh, r⟩
set_option maxRecDepth 100000 in
set_option maxHeartbeats 2000000 in
theorem Less_any (w : World) (base b g cap : Nat) (l : List En) (i j : Nat) (h : HeapS w base b g cap l) (hi : i < l.length) (hj : j < l.length) :
    Calls Try.prog 158 #[.slice (some ⟨g, 0, none⟩) l.length cap, .int .i64 i, .int .i64 j] w fun e w' => e = .returned (.bool (ltE (at_ l i) (at_ l j))) ∧ Below w.heap.size w w' := by
  obtain ⟨i0, i1⟩ := h.cells i hi
  obtain ⟨j0, j1⟩ := h.cells j hj
  have HA := fun W => ahead_any (at_ l i).1 (at_ l i).2 (at_ l j).1 (at_ l j).2 W
  replace i0 := fun e : Ext w => ext_cell i0 e
  replace i1 := fun e : Ext w => ext_cell i1 e
  replace j0 := fun e : Ext w => ext_cell j0 e
  replace j1 := fun e : Ext w => ext_cell j1 e
  change ∀ W, Calls _ _ _ W (fun e w' => e = .returned (.bool (ltE (at_ l i) (at_ l j))) ∧ _) at HA
  generalize ltE (at_ l i) (at_ l j) = r at *
  generalize (at_ l i).1 = x1 at *
  generalize (at_ l i).2 = x2 at *
  generalize (at_ l j).1 = y1 at *
  generalize (at_ l j).2 = y2 at *
  generalize l.length = n at *
  have H1 := Lib.hid HA
  clear h HA
  go_enter Try.func158, Try.ntmps158
  go_wp2_with fail
  refine wp_region_ext (by kernel_rfl) (by kernel_rfl) ?_
  repeat (go_big_quiet_step (first | (go_at_call 162; exact ecall (H1.out _))))
  refine wpQuiet_nil ?_
  rintro _ ⟨⟨w2, hb2⟩, rfl⟩
  go_wp2
  go_ret
  exact ⟨rfl, hb2⟩
theorem flat_set (l : List En) (k : Nat) (e : En) : flat (l.set k e) = ((flat l).set (k * 2) (.int .u64 e.1)).set (k * 2 + 1) (.int .i64 e.2) := by
  induction l generalizing k with
  | nil => simp [flat]
  | cons x l ih =>
    cases k with
    | zero => rfl
    | succ k =>
      have e1 : (k + 1) * 2 = k * 2 + 2 := by omega
      rw [e1]
      show flat (x :: l.set k e) = _
      have := ih k
      simp [flat] at this ⊢
      exact this
theorem heap_setCell {w : World} {g : Nat} {cs : Array Value} {t : TypeId} {fr : Nat × Nat} (h : w.heap[g]? = some (.cells cs t fr)) (k : Nat) (v : Value) :
    (w.setCell ⟨g, k, none⟩ v).heap[g]? = some (.cells (cs.setIfInBounds k v) t fr) := by
  simp [World.setCell, Array.getElem?_modify, h]
theorem HeapS.swap {w : World} {base b g cap : Nat} {l : List En} (h : HeapS w base b g cap l) (i j : Nat) :
    HeapS ((((w.setCell ⟨g, i * 2, none⟩ (.int .u64 (at_ l j).1)).setCell ⟨g, i * 2 + 1, none⟩ (.int .i64 (at_ l j).2)).setCell ⟨g, j * 2, none⟩ (.int .u64 (at_ l i).1)).setCell ⟨g, j * 2 + 1, none⟩ (.int .i64 (at_ l i).2)) base b g cap (sw l i j) := by
  obtain ⟨h1, h2, h3, h4, h5, h6⟩ := h
  refine ⟨?_, h2, h3, h4, ?_, ?_⟩
  · rw [sw_length, Below.heap_setCell _ _ _ _ (Ne.symm h4), Below.heap_setCell _ _ _ _ (Ne.symm h4), Below.heap_setCell _ _ _ _ (Ne.symm h4), Below.heap_setCell _ _ _ _ (Ne.symm h4)]
    exact h1
  · rw [flat_length, sw_length]
  · rcases h6 with ⟨hv, -⟩ | ⟨g', cap', cur, hv, hg, hh, hn, hm, hs, ht⟩
    · cases hv
    · obtain ⟨rfl, rfl⟩ : g = g' ∧ cap = cap' := by injection hv with e _ e2; injection e with e; injection e with e; exact ⟨e, e2⟩
      refine .inr ⟨g, cap, _, by rw [sw_length], hg, heap_setCell (heap_setCell (heap_setCell (heap_setCell hh _ _) _ _) _ _) _ _, by rw [sw_length]; exact hn, hm, by simpa using hs, ?_⟩
      unfold sw
      rw [flat_set, flat_set, ← ht]
      simp [Array.toList_setIfInBounds, List.take_set]
/-- Only blocks b and g are turned, of what lay. -/
structure Touch (b g : Nat) (w w' : World) : Prop where
  os : w'.os = w.os
  tape : w'.tape = w.tape
  output : w'.output = w.output
  size : w.heap.size ≤ w'.heap.size
  block : ∀ k, k < w.heap.size → k ≠ b → k ≠ g → w'.heap[k]? = w.heap[k]?
theorem Touch.refl (b g : Nat) (w : World) : Touch b g w w := ⟨rfl, rfl, rfl, Nat.le_refl _, fun _ _ _ _ => rfl⟩
theorem Touch.trans {b g : Nat} {w w1 w2 : World} (h : Touch b g w w1) (k : Touch b g w1 w2) : Touch b g w w2 :=
  ⟨k.os.trans h.os, k.tape.trans h.tape, k.output.trans h.output, Nat.le_trans h.size k.size, fun i hi h1 h2 => (k.block i (Nat.lt_of_lt_of_le hi h.size) h1 h2).trans (h.block i hi h1 h2)⟩
theorem Touch.of {b g : Nat} {w w' : World} (h : Below w.heap.size w w') : Touch b g w w' := ⟨h.os, h.tape, h.output, h.size, fun k hk _ _ => h.block k hk⟩
theorem Touch.drew {b g : Nat} {w w' : World} (h : Touch b g w w') : Touch b g w w'.drew := ⟨h.os, h.tape, h.output, h.size, h.block⟩
theorem Touch.setCell {b g : Nat} {w w' : World} (h : Touch b g w w') {p : Addr} (hp : p.block = b ∨ p.block = g) (u : Value) : Touch b g w (w'.setCell p u) :=
  ⟨h.os, h.tape, h.output, by simpa [World.setCell] using h.size, fun k hk h1 h2 => by rw [Below.heap_setCell _ _ _ _ (by rcases hp with e | e <;> rw [e] <;> assumption)]; exact h.block k hk h1 h2⟩
theorem Touch.alloc {b g : Nat} {w w' : World} (h : Touch b g w w') (o : Obj) : Touch b g w (w'.alloc o) := h.trans (.of (below_alloc (Below.refl _ _) o))
theorem Touch.below {b g base : Nat} {w w' : World} (h : Touch b g w w') (hb : base ≤ b) (hg : base ≤ g) (hw : base ≤ w.heap.size) : Below base w w' :=
  ⟨h.os, h.tape, h.output, h.size, fun k hk => h.block k (by omega) (by omega) (by omega)⟩
theorem Swap_touch {w : World} {b g : Nat} (i j : Nat) (v1 v2 v3 v4 : Value) :
    Touch b g w (((((w.setCell ⟨g, i * 2, none⟩ v1).setCell ⟨g, i * 2 + 1, none⟩ v2).setCell ⟨g, j * 2, none⟩ v3).setCell ⟨g, j * 2 + 1, none⟩ v4).drew) :=
  (((((Touch.refl b g w).setCell (p := ⟨g, i * 2, none⟩) (.inr rfl) v1).setCell (p := ⟨g, i * 2 + 1, none⟩) (.inr rfl) v2).setCell (p := ⟨g, j * 2, none⟩) (.inr rfl) v3).setCell (p := ⟨g, j * 2 + 1, none⟩) (.inr rfl) v4).drew
theorem HeapS.drew {w : World} {base b g cap : Nat} {l : List En} (h : HeapS w base b g cap l) : HeapS w.drew base b g cap l := h.below ((Below.refl _ _).drew)
set_option maxRecDepth 100000 in
set_option maxHeartbeats 2000000 in
theorem Swap_any (w : World) (base b g cap : Nat) (l : List En) (i j : Nat) (h : HeapS w base b g cap l) (hi : i < l.length) (hj : j < l.length) :
    Calls Try.prog 161 #[.slice (some ⟨g, 0, none⟩) l.length cap, .int .i64 i, .int .i64 j] w fun e w' => e = .returned (.tuple #[]) ∧ HeapS w' base b g cap (sw l i j) ∧ Touch b g w w' := by
  obtain ⟨i0, i1⟩ := h.cells i hi
  obtain ⟨j0, j1⟩ := h.cells j hj
  obtain ⟨f0, f1⟩ := h.frozen i
  obtain ⟨k0, k1⟩ := h.frozen j
  have hh := Lib.hid h
  clear h
  have HS := Lib.hid (hh.out.swap i j)
  generalize (at_ l i).1 = x1 at *
  generalize (at_ l i).2 = x2 at *
  generalize (at_ l j).1 = y1 at *
  generalize (at_ l j).2 = y2 at *
  generalize sw l i j = l2 at *
  clear hh
  generalize l.length = n at *
  by_cases hne : i = j
  · subst hne
    obtain rfl : x1 = y1 := by rw [i0] at j0; injection j0 with e; injection e
    obtain rfl : x2 = y2 := by rw [i1] at j1; injection j1 with e; injection e
    clear j0 j1 k0 k1
    go_enter Try.func161, Try.ntmps161
    go_wp2_with fail
    go_region
    go_end0
    exact ⟨rfl, HS.out.drew, Swap_touch _ _ _ _ _ _⟩
  · go_enter Try.func161, Try.ntmps161
    go_wp2_with fail
    go_region
    go_end0
    exact ⟨rfl, HS.out.drew, Swap_touch _ _ _ _ _ _⟩
set_option maxHeartbeats 400000 in
theorem Len_any (A : Option Addr) (n c : Nat) (w : World) : Calls Try.prog 53 #[.slice A n c] w fun e w' => e = .returned (.int .i64 n) ∧ w = w' := by
  go_enter Try.func53, Try.ntmps53
  go_wp2
  go_ret
  exact ⟨rfl, rfl⟩
theorem flat_take (l : List En) (n : Nat) : flat (l.take n) = (flat l).take (n * 2) := by
  induction l generalizing n with
  | nil => simp [flat]
  | cons x l ih =>
    cases n with
    | zero => rfl
    | succ n =>
      have e1 : (n + 1) * 2 = n * 2 + 2 := by omega
      rw [e1]
      have := ih n
      simp [flat] at this ⊢
      exact this
theorem nblk (w : World) (a : Addr) (v : Value) : (w.setCell a v).heap.size = w.heap.size := by simp [World.setCell]
theorem HeapS.popd {w : World} {base b g cap n : Nat} {l : List En} (h : HeapS w base b g cap l) (hn : l.length = n + 1) : HeapS (w.setCell ⟨b, 0, none⟩ (.slice (some ⟨g, 0, none⟩) n cap)) base b g cap (l.take n) := by
  have hl : (l.take n).length = n := by simp; omega
  obtain ⟨h1, h2, h3, h4, h5⟩ := h
  refine ⟨by rw [hl]; exact heap_setCell h1 0 _, h2, h3, h4, by rw [flat_length], ?_⟩
  rcases h5.2 with ⟨hv, -⟩ | ⟨g', cap', cur, hv, hg, hh, hnc, hm, hs, ht⟩
  · cases hv
  · obtain ⟨rfl, rfl⟩ : g = g' ∧ cap = cap' := by injection hv with e _ e2; injection e with e; injection e with e; exact ⟨e, e2⟩
    refine .inr ⟨g, cap, cur, by rw [hl], hg, by rw [Below.heap_setCell _ _ _ _ h4]; exact hh, by omega, hm, hs, ?_⟩
    rw [hl, flat_take, ← ht, List.take_take, hn]
    congr 1
    omega
set_option maxRecDepth 100000 in
set_option maxHeartbeats 2000000 in
theorem Pop_any (w : World) (base b g cap n : Nat) (l : List En) (h : HeapS w base b g cap l) (hn : l.length = n + 1) (hc : l.length ≤ 1000) :
    Calls Try.prog 159 #[.pointer (some ⟨b, 0, none⟩)] w fun e w' => e = .returned (.iface 90 (.agg #[.int .u64 (at_ l n).1, .int .i64 (at_ l n).2])) ∧ HeapS w' base b g cap (l.take n) ∧ Touch b g w w' := by
  obtain ⟨i0, i1⟩ := h.cells n (by omega)
  have c0 : w.cell? ⟨b, 0, none⟩ = some (.slice (some ⟨g, 0, none⟩) (n + 1 : Nat) cap) := by rw [← hn]; exact cell_of_heap h.box 0 _ rfl
  have z0 : w.frozen? ⟨b, 0, none⟩ = false := by simp [World.frozen?, h.box]
  have sb : b < w.heap.size := heap_lt h.box
  obtain ⟨hcap, hm⟩ := h.cap
  have hcm : (cap : Int) ≤ 9223372036854775807 := by unfold maxLen at hm; omega
  rw [hn] at hcap
  have hh := Lib.hid h
  clear h hm
  generalize (at_ l n).1 = x1 at *
  generalize (at_ l n).2 = x2 at *
  have HN := Lib.hid hn
  rw [hn] at hc
  clear hn
  go_enter Try.func159, Try.ntmps159
  go_wp2_with fail
  go_ret
  exact ⟨rfl, (hh.out.popd HN.out).below ((Below.refl _ _).alloc (Nat.le_refl _) _), ((Touch.refl b g w).setCell (p := ⟨b, 0, none⟩) (.inl rfl) _).alloc _⟩
theorem info_entry : ∃ i : TypeInfo, Try.prog.info? 90 = some i ∧ i.zero = some (.agg #[.int .u64 0, .int .i64 0]) ∧ i.size = 2 ∧ i.bytes = 16 := by
  have h : (Try.prog.info? 90).isSome = true ∧ (∀ i, Try.prog.info? 90 = some i → i.zero = some (.agg #[.int .u64 0, .int .i64 0]) ∧ i.size = 2 ∧ i.bytes = 16) := by
    refine ⟨by kernel_rfl, fun i hi => ?_⟩
    have h2 : (Try.prog.info? 90).map (fun i => (i.size, i.bytes)) = some (2, 16) := by kernel_rfl
    have h3 : (Try.prog.info? 90).bind (fun i => i.zero) = some (.agg #[.int .u64 0, .int .i64 0]) := by kernel_rfl
    rw [hi] at h2 h3
    simp at h2 h3
    exact ⟨h3, h2⟩
  obtain ⟨i, hi⟩ := Option.isSome_iff_exists.1 h.1
  exact ⟨i, hi, h.2 i hi⟩
/-- What lies behind append's step, ahead of the store. -/
structure Pushed (W w' : World) (base b : Nat) (v0 : Value) (g' cap' : Nat) (l : List En) : Prop where
  box : w'.heap[b]? = some (.cells #[v0] 94)
  lob : base ≤ b
  log : base ≤ g'
  ne : g' ≠ b
  row : w'.ownsRow base 90 2 (.slice (some ⟨g', 0, none⟩) l.length cap') l.length (flat l)
  below : Below base W w'
theorem Pushed.store {W w' : World} {base b g' cap' : Nat} {v0 : Value} {l : List En} (h : Pushed W w' base b v0 g' cap' l) : HeapS (w'.setCell ⟨b, 0, none⟩ (.slice (some ⟨g', 0, none⟩) l.length cap')) base b g' cap' l := by
  obtain ⟨h1, h2, h3, h4, h5, -⟩ := h
  refine ⟨heap_setCell h1 0 _, h2, h3, h4, h5.1, ?_⟩
  rcases h5.2 with ⟨hv, -⟩ | ⟨q, cap, cur, hv, hg, hh, r⟩
  · cases hv
  · obtain rfl : g' = q := by injection hv with e; injection e with e; injection e
    exact .inr ⟨g', cap, cur, hv, hg, by rw [Below.heap_setCell _ _ _ _ h4]; exact hh, r⟩
theorem step_push {P : Program} {W0 w : World} {base b g cap : Nat} {l : List En} (x1 x2 : Int) (h : HeapS w base b g cap l) (hW : Below base W0 w) {ops : Array Oper} {o : Oper} {a : Act} {K : Act → World → Prop} {Q : Exit → Act → World → Prop} {E : Prop} (hgd : o.guard = none) (s x : Operand) (t : TypeId)
    (ho : o.op = .call { callee := .builtin .append, args := #[s, x], argTypes := #[t, t] })
    (i : TypeInfo) (z : Value) (bytes : Nat) (ht : P.underlying t = some (.slice 90)) (hi : P.info? 90 = some i) (hz : i.zero = some z)
    (hsize : i.size = 2) (hby : i.bytes = bytes) (hzs : z.cells.size = 2) (n : Nat) (hn : l.length = n) (hs : a.eval s = .slice (some ⟨g, 0, none⟩) n cap)
    (q d : Nat) (tq : TypeId) (hx : a.eval x = .slice (some ⟨q, 0, none⟩) 1 d) (hq : w.heap[q]? = some (.cells #[.int .u64 x1, .int .i64 x2] tq))
    (h63 : n + 1 ≤ maxLen) (hbytes : (n + 1) * bytes ≤ 140737488355328) (hbase : base ≤ w.heap.size)
    (hk : ∀ w' g' cap', Hid (Pushed W0 w' base b (.slice (some ⟨g, 0, none⟩) n cap) g' cap' (l ++ [(x1, x2)])) → w'.cell? ⟨b, 0, none⟩ = some (.slice (some ⟨g, 0, none⟩) n cap) → w'.frozen? ⟨b, 0, none⟩ = false →
      K (a.put o.dst (.slice (some ⟨g', 0, none⟩) (n + 1 : Nat) cap')) w') :
    if Region.wanted o (yielded ops a.tmps) = true then Oper.wp P o a w K Q else E := by
  subst hn
  have hw : Region.wanted o (yielded ops a.tmps) = true := by simp [Region.wanted, hgd]
  rw [if_pos hw]
  have hnews : ∀ j u, [Value.int .u64 x1, Value.int .i64 x2][j]? = some u → w.cell? ((⟨q, 0, none⟩ : Addr).add j) = some u := World.news_of_block hq
  obtain ⟨v', w', hr, h2, h3, h4, h5⟩ := run_append_own_at (P := P) w base t o.type 90 i z 2 bytes ht hi hz hsize hby hzs (by omega) (.slice (some ⟨g, 0, none⟩) l.length cap) l.length (flat l) h.row ⟨q, 0, none⟩ 1 d
    [.int .u64 x1, .int .i64 x2] rfl hnews (by intro u hu; simp at hu; rcases hu with rfl | rfl <;> rfl) h63 hbytes hbase
  unfold Oper.wp execOp
  simp only [ho, resolve, invoke, builtin, Sem.run_bind, Sem.run_pure, Result.andThen_ok, List.map_toArray, List.map_cons, List.map_nil, hs, hx, hr]
  have hv : ∃ g' cap', v' = .slice (some ⟨g', 0, none⟩) (l.length + 1 : Nat) cap' ∧ base ≤ g' := by
    rcases h2.2 with ⟨hv, hl0⟩ | ⟨g', cap', cur, hv, hg, -⟩
    · omega
    · exact ⟨g', cap', hv, hg⟩
  obtain ⟨g', cap', rfl, hg'⟩ := hv
  have hsb := heap_lt h.box
  have hgb : g' ≠ b := by
    rcases h5 with h5 | h5
    · have : g' = g := by injection h5
      rw [this]; exact h.ne
    · have : g' = w.heap.size := by injection h5
      omega
  have hbx : w'.heap[b]? = some (.cells #[.slice (some ⟨g, 0, none⟩) l.length cap] 94) := by
    rw [h3.block b hsb (by intro e; injection e with e; exact h.ne e.symm)]; exact h.box
  refine hk w' g' cap' ⟨hbx, h.lob, hg', hgb, ?_, hW.grown h3 hbase (fun k hk => ?_)⟩ (cell_of_heap hbx 0 _ rfl) (by simp [World.frozen?, hbx])
  · rw [flat_append]
    have e : (l ++ [(x1, x2)]).length = l.length + 1 := by simp
    rw [e]
    exact h2
  · injection hk with e; rw [← e]; exact h.log
set_option maxRecDepth 100000 in
set_option maxHeartbeats 4000000 in
theorem Push_any (w : World) (base b g cap n : Nat) (l : List En) (x1 x2 : Int) (h : HeapS w base b g cap l) (hn : l.length = n) (hc : n ≤ 1000) (hb : base ≤ w.heap.size) :
    Calls Try.prog 160 #[.pointer (some ⟨b, 0, none⟩), .iface 90 (.agg #[.int .u64 x1, .int .i64 x2])] w fun e w' => e = .returned (.tuple #[]) ∧ (∃ g' cap', HeapS w' base b g' cap' (l ++ [(x1, x2)])) ∧ Below base w w' := by
  have c0 : w.cell? ⟨b, 0, none⟩ = some (.slice (some ⟨g, 0, none⟩) n cap) := by rw [← hn]; exact cell_of_heap h.box 0 _ rfl
  have z0 : w.frozen? ⟨b, 0, none⟩ = false := by simp [World.frozen?, h.box]
  have sb : b < w.heap.size := heap_lt h.box
  obtain ⟨i0, hi, hz0, hz1, hz2⟩ := info_entry
  have fz : ∀ o, (w.alloc o).drew.frozen? ⟨b, 0, none⟩ = false := fun o => by
    have : (w.alloc o).heap[b]? = _ := heap_push h.box
    show (w.alloc o).frozen? _ = false
    simp [World.frozen?, this]
  have TA : ∀ W, Sem.run Try.prog (Instr.typeAssert (.iface 90 (.agg #[.int .u64 x1, .int .i64 x2])) 20 90 false) W = .ok (.agg #[.int .u64 x1, .int .i64 x2]) W := fun _ => by kernel_rfl
  have hh := Lib.hid h
  have HN := Lib.hid hn
  have HB := Lib.hid hb
  clear h hn hb
  go_enter Try.func160, Try.ntmps160
  go_wp2_with fail
  go_region_law (first
      | (refine step_push (W0 := w) x1 x2 (hh.out.below (below_alloc (Below.refl _ _) _).drew) ((Below.refl base w).alloc HB.out _).drew rfl (.tmp 7) (.tmp 10) 94 rfl i0 _ 16 Try.underlying94 hi hz0 hz1 hz2 rfl n HN.out rfl w.heap.size _ _ rfl (heap_new_at rfl) (by unfold maxLen; omega) (by omega) (Nat.le_trans HB.out (below_alloc (Below.refl _ _) _).drew.size) ?_; intro w3 g3 cap3 HP c3 z3))
  all_goals
    go_end0
    have hs := HP.out.store
    rw [List.length_append, HN.out, List.length_singleton] at hs
    exact ⟨rfl, ⟨_, _, hs⟩, HP.out.below.setCell (p := ⟨b, 0, none⟩) HP.out.lob _⟩
end Go.Proofs.Ytbjeblffmgghgaa
