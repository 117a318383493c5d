/- Which blocks are turned, of what lay: words on worlds. No condition. -/
import Derived.Test.YtlmdkmflbhnlgaaGreatBlk
import Derived.Deep.MidRow
namespace Go.Proofs.YtlmdkmflbhnlgaaGreat
open Go.RowKit
/-- Only blocks of s are turned, of what lay. -/
structure Turn (s : List Nat) (w w' : World) : Prop where
  os : w'.os = w.os
  tape : w'.tape = w.tape
  output : w'.output = w.output
  size : w.heap.size ≤ w'.heap.size
  block : ∀ k, k < w.heap.size → k ∉ s → w'.heap[k]? = w.heap[k]?
theorem Turn.refl (s : List Nat) (w : World) : Turn s w w := ⟨rfl, rfl, rfl, Nat.le_refl _, fun _ _ _ => rfl⟩
theorem Turn.of {s : List Nat} {w w' : World} (h : Below w.heap.size w w') : Turn s w w' := ⟨h.os, h.tape, h.output, h.size, fun k hk _ => h.block k hk⟩
theorem Turn.trans {s s' : List Nat} {w w1 w2 : World} (h : Turn s w w1) (k : Turn s' w1 w2) (hs : ∀ x ∈ s', x ∈ s ∨ w.heap.size ≤ x) : Turn s w w2 :=
  ⟨k.os.trans h.os, k.tape.trans h.tape, k.output.trans h.output, Nat.le_trans h.size k.size, fun i hi h1 => (k.block i (Nat.lt_of_lt_of_le hi h.size) (fun hm => (hs i hm).elim h1 (by omega))).trans (h.block i hi h1)⟩
theorem Turn.tr {s : List Nat} {w w1 w2 : World} (h : Turn s w w1) (k : Turn s w1 w2) : Turn s w w2 := h.trans k fun _ hx => .inl hx
theorem Turn.mono {s s' : List Nat} {w w' : World} (h : Turn s w w') (hs : ∀ x ∈ s, x ∈ s' ∨ w.heap.size ≤ x) : Turn s' w w' := ⟨h.os, h.tape, h.output, h.size, fun k hk h1 => h.block k hk fun hm => (hs k hm).elim h1 (by omega)⟩
theorem Turn.drew {s : List Nat} {w w' : World} (h : Turn s w w') : Turn s w w'.drew := ⟨h.os, h.tape, h.output, h.size, h.block⟩
theorem Turn.drewN {s : List Nat} {w w' : World} (h : Turn s w w') (n : Nat) : Turn s w (w'.drewN n) := ⟨h.os, h.tape, h.output, h.size, h.block⟩
theorem Turn.setCell {s : List Nat} {w w' : World} (h : Turn s w w') {p : Addr} (hp : p.block ∈ s ∨ w.heap.size ≤ p.block) (u : Value) : Turn s w (w'.setCell p u) :=
  ⟨h.os, h.tape, h.output, by simpa [World.setCell] using h.size, fun k hk h1 => by
    have hne : k ≠ p.block := by
      rintro rfl
      exact hp.elim h1 (by omega)
    rw [Below.heap_setCell _ _ _ _ hne]; exact h.block k hk h1⟩
theorem Turn.setCells {s : List Nat} {w : World} {b : Nat} (hp : b ∈ s ∨ w.heap.size ≤ b) : ∀ (vs : List Value) (o : Nat) {w' : World}, Turn s w w' → Turn s w (w'.setCells b o vs)
  | [], _, _, h => h
  | v :: r, o, _, h => by rw [World.setCells]; exact Turn.setCells hp r (o + 1) (h.setCell (p := ⟨b, o, none⟩) hp v)
theorem Turn.alloc {s : List Nat} {w w' : World} (h : Turn s w w') (o : Obj) : Turn s w (w'.alloc o) := h.tr (.of (below_alloc (Below.refl _ _) o))
theorem Turn.below {s : List Nat} {base : Nat} {w w' : World} (h : Turn s w w') (hs : ∀ x ∈ s, base ≤ x) (hw : base ≤ w.heap.size) : Below base w w' :=
  ⟨h.os, h.tape, h.output, h.size, fun k hk => h.block k (by omega) (fun hm => by have := hs k hm; omega)⟩
theorem Turn.heap {s : List Nat} {w w' : World} (h : Turn s w w') {k : Nat} {o : Obj} (hk : w.heap[k]? = some o) (h1 : k ∉ s) : w'.heap[k]? = some o := (h.block k (heap_lt hk) h1).trans hk
/-- A block of another type is another block. -/
theorem ne_of_type {w : World} {a b : Nat} {cs ds : Array Value} {t u : TypeId} {fr gr : Nat × Nat} (ha : w.heap[a]? = some (.cells cs t fr)) (hb : w.heap[b]? = some (.cells ds u gr)) (h : t ≠ u) : a ≠ b := by
  rintro rfl
  rw [ha] at hb
  injection hb with hb
  injection hb with _ hb _
  exact h hb
theorem Row.turn {w w' : World} {base t c : Nat} {A : Option Addr} {xs : List Value} {s : List Nat} (h : Row w base t A c xs) (ht : Turn s w w') (hn : ∀ ad, A = some ad → ad.block ∉ s) : Row w' base t A c xs := by
  obtain ⟨k1, k2⟩ := h
  refine ⟨k1, ?_⟩
  rcases k2 with k2 | ⟨q, cap, cur, hv, hq, hh, r⟩
  · exact .inl k2
  · refine .inr ⟨q, cap, cur, hv, hq, ht.heap hh ?_, r⟩
    have e : A = some ⟨q, 0, none⟩ := by injection hv
    exact hn _ e
theorem Row.geq {w : World} {base t c : Nat} {A : Option Addr} {xs : List Value} (h : Row w base t A c xs) : ∀ ad, A = some ad → base ≤ ad.block := by
  intro ad e
  rcases h.2 with ⟨hv, -⟩ | ⟨q, cap, cur, hv, hq, -⟩
  · injection hv with hv; rw [hv] at e; cases e
  · injection hv with hv; rw [hv] at e; injection e with e; rw [← e]; exact hq
/-- A row of bytes stands if blocks of other types are turned. -/
theorem Row.turn_ty {w w' : World} {base t c : Nat} {A : Option Addr} {xs : List Value} {s : List Nat} (h : Row w base t A c xs) (ht : Turn s w w') (hn : ∀ k ∈ s, ∃ cs u fr, w.heap[k]? = some (.cells cs u fr) ∧ u ≠ t) : Row w' base t A c xs := by
  rcases h.2 with k2 | ⟨q, cap, cur, hv, hq, hh, r⟩
  · exact ⟨h.1, .inl k2⟩
  · refine h.turn ht fun ad e hm => ?_
    have e2 : A = some ⟨q, 0, none⟩ := by injection hv
    rw [e2] at e
    injection e with e
    subst e
    obtain ⟨cs, u, fr, hk, hu⟩ := hn _ hm
    exact ne_of_type hk hh hu rfl
/-- What lies in other blocks lies. -/
theorem Rd.turn {w w' : World} {s : List Nat} {A : Option Addr} {vs : List Value} (h : Rd w A vs) (ht : Turn s w w') (hn : ∀ ad, A = some ad → ad.block ∉ s) : Rd w' A vs := fun j u hj => by
  obtain ⟨ad, e, hc⟩ := h j u hj
  refine ⟨ad, e, ?_⟩
  have hb := ht.block (ad.add j).block (cell_lt hc) (by rw [block_of_add]; exact hn ad e)
  unfold World.cell? at hc ⊢
  rw [hb]; exact hc
theorem heap_setCells {g : Nat} {t : TypeId} {fr : Nat × Nat} : ∀ (vs : List Value) (o : Nat) {w : World} {cs : Array Value}, w.heap[g]? = some (.cells cs t fr) → ∃ ds : Array Value, (w.setCells g o vs).heap[g]? = some (.cells ds t fr) ∧ ds.size = cs.size ∧ ∀ j, ds[j]? = if o ≤ j ∧ j < o + vs.length ∧ j < cs.size then vs[j - o]? else cs[j]?
  | [], o, w, cs, h => ⟨cs, h, rfl, fun j => by simp only [List.length_nil]; rw [if_neg (by omega)]⟩
  | v :: r, o, w, cs, h => by
    rw [World.setCells]
    obtain ⟨ds, h1, h2, h3⟩ := heap_setCells r (o + 1) (heap_setCell h o v)
    refine ⟨ds, h1, by simpa using h2, fun j => ?_⟩
    rw [h3 j]
    simp only [Array.size_setIfInBounds, List.length_cons]
    by_cases e : j = o
    · subst e
      by_cases hl : j < cs.size
      · rw [if_neg (by omega), if_pos (by omega)]; simp [hl]
      · rw [if_neg (by omega), if_neg (by omega)]; simp [hl]
    · by_cases hc : o + 1 ≤ j ∧ j < o + 1 + r.length ∧ j < cs.size
      · rw [if_pos hc, if_pos (by omega), show j - o = (j - (o + 1)) + 1 by omega]; rfl
      · rw [if_neg hc, if_neg (by omega)]; simp [Ne.symm e]
end Go.Proofs.YtlmdkmflbhnlgaaGreat
namespace Go.Proofs.YtlmdkmflbhnlgaaGreat
open Go.RowKit
def blkA : Option Addr → List Nat
  | none => []
  | some a => [a.block]
theorem own_blk {w : World} {base e size n c : Nat} {A : Option Addr} {xs : List Value} (h : w.ownsRow base e size (.slice A n c) n xs) : ∀ k ∈ blkA A, base ≤ k := by
  intro k hk
  rcases h.2 with ⟨hv, -⟩ | ⟨g, cap, cur, hv, hg, -⟩
  · injection hv with hv; subst hv; simp [blkA] at hk
  · injection hv with hv; subst hv; simp [blkA] at hk; omega
theorem own_turn {w w' : World} {s : List Nat} {base e size n c : Nat} {A : Option Addr} {xs : List Value} (h : w.ownsRow base e size (.slice A n c) n xs) (ht : Turn s w w') (hd : ∀ k ∈ blkA A, k ∉ s) : w'.ownsRow base e size (.slice A n c) n xs := by
  obtain ⟨h1, h2⟩ := h
  refine ⟨h1, h2.imp id ?_⟩
  rintro ⟨g, cap, cur, hv, hg, hh, r⟩
  refine ⟨g, cap, cur, hv, hg, ht.heap hh (hd g ?_), r⟩
  injection hv with hv
  subst hv
  simp [blkA]
theorem grown_turn {W w3 : World} {A : Option Addr} {n c : Nat} (h : W.grownBy w3 (Value.slice A n c).ownBlock) : Turn (blkA A) W w3 :=
  ⟨h.os, h.tape, h.output, h.size, fun k hk hm => h.block k hk fun e => hm (by
    cases A with
    | none => cases e
    | some ad => injection e with e; subst e; simp [blkA])⟩
theorem wpList_appK {P : Program} {W : World} {ops : Array Oper} {rest : List Oper} {o : Oper} {a : Act} {Q : Exit → Act → World → Prop} (hgd : o.guard = none) (s x : Operand) (t : TypeId)
    (ho : o.op = .call { callee := .builtin .append, args := #[s, x], argTypes := #[t, t] })
    (base : Nat) (e : TypeId) (i : TypeInfo) (z : Value) (size bytes : Nat) (ht : P.underlying t = some (.slice e)) (hi : P.info? e = some i) (hz : i.zero = some z) (hsize : i.size = size) (hby : i.bytes = bytes) (hzs : z.cells.size = size) (hsz : 0 < size)
    (A : Option Addr) (n c : Nat) (xs : List Value) (hs : a.eval s = .slice A n c) (hown : W.ownsRow base e size (.slice A n c) n xs)
    (q d : Nat) (tq : TypeId) (news : List Value) (hx : a.eval x = .slice (some ⟨q, 0, none⟩) 1 d) (hq : W.heap[q]? = some (.cells news.toArray tq)) (hnl : news.length = size) (h1 : ∀ u ∈ news, u.oneCell' = true)
    (h63 : n + 1 ≤ maxLen) (hbytes : (n + 1) * bytes ≤ 140737488355328) (hbase : base ≤ W.heap.size)
    (h : ∀ (w3 : World) (A3 : Option Addr) (c3 : Nat), Hid (w3.ownsRow base e size (.slice A3 (n + 1) c3) (n + 1) (xs ++ news)) → Hid (Turn (blkA A) W w3) → Hid (∀ k ∈ blkA A3, k ∈ blkA A ∨ W.heap.size ≤ k) → wpList P ops Q rest (a.put o.dst (.slice A3 (n + 1 : Nat) c3)) w3) : wpList P ops Q (o :: rest) a W :=
  wpList_plain hgd fun _ hK => by
    have hnews : ∀ j u, news[j]? = some u → W.cell? ((⟨q, 0, none⟩ : Addr).add j) = some u := World.news_of_block hq
    obtain ⟨v', w', hr, h2, h3, h4, h5⟩ := run_append_own_at (P := P) W base t o.type e i z size bytes ht hi hz hsize hby hzs hsz (.slice A n c) n xs hown ⟨q, 0, none⟩ 1 d news (by rw [hnl, Nat.one_mul]) hnews h1 h63 hbytes hbase
    unfold Oper.wp execOp
    simp only [ho, resolve, invoke, builtin, Sem.run_bind, Sem.run_pure, Result.andThen_ok, List.map_toArray, List.map_cons, List.map_nil, hs, hx, hr]
    have hv : ∃ A3 c3, v' = .slice A3 (n + 1 : Nat) c3 := by
      rcases h2.2 with ⟨hv, hl0⟩ | ⟨g', cap', cur, hv, hg, -⟩
      · omega
      · exact ⟨_, _, hv⟩
    obtain ⟨A3, c3, rfl⟩ := hv
    refine hK _ _ (h w' A3 c3 h2 (grown_turn h3) ?_)
    intro k hk
    cases A3 with
    | none => simp [blkA] at hk
    | some ad =>
      simp [blkA] at hk
      subst hk
      rcases h5 with h5 | h5
      · left
        cases A with
        | none => cases h5
        | some ad' => injection h5 with h5; simp [blkA, h5]
      · injection h5 with h5
        right
        omega
end Go.Proofs.YtlmdkmflbhnlgaaGreat
namespace Go.Proofs.YtlmdkmflbhnlgaaGreat
open Go.RowKit
theorem wpList_appN {P : Program} {W : World} {ops : Array Oper} {rest : List Oper} {o : Oper} {a : Act} {Q : Exit → Act → World → Prop} (hgd : o.guard = none) (s x : Operand) (t : TypeId)
    (ho : o.op = .call { callee := .builtin .append, args := #[s, x], argTypes := #[t, t] })
    (base : Nat) (e : TypeId) (i : TypeInfo) (z : Value) (size bytes : Nat) (ht : P.underlying t = some (.slice e)) (hi : P.info? e = some i) (hz : i.zero = some z) (hsize : i.size = size) (hby : i.bytes = bytes) (hzs : z.cells.size = size) (hsz : 0 < size)
    (A : Option Addr) (n c : Nat) (xs : List Value) (hs : a.eval s = .slice A n c) (hown : W.ownsRow base e size (.slice A n c) n xs)
    (B : Option Addr) (m d : Nat) (news : List Value) (hx : a.eval x = .slice B m d) (hr : Rd W B news) (hnl : news.length = m * size) (h1 : ∀ u ∈ news, u.oneCell' = true) (hd : B = none → d = 0)
    (h63 : n + m ≤ maxLen) (hbytes : (n + m) * bytes ≤ 140737488355328) (hbase : base ≤ W.heap.size)
    (h : ∀ (w3 : World) (A3 : Option Addr) (c3 : Nat), Hid (w3.ownsRow base e size (.slice A3 (n + m) c3) (n + m) (xs ++ news)) → Hid (Turn (blkA A) W w3) → Hid (∀ k ∈ blkA A3, k ∈ blkA A ∨ W.heap.size ≤ k) → wpList P ops Q rest (a.put o.dst (.slice A3 (n + m : Nat) c3)) w3) : wpList P ops Q (o :: rest) a W :=
  wpList_plain hgd fun _ hK => by
    have key : ∃ v' w', (Builtin.append_ #[t, t] o.type #[.slice A n c, .slice B m d]).run P W = .ok v' w' ∧ w'.ownsRow base e size v' (n + m) (xs ++ news) ∧ W.grownBy w' (Value.slice A n c).ownBlock ∧
        (v'.ownBlock = (Value.slice A n c).ownBlock ∨ v'.ownBlock = some W.heap.size) := by
      cases B with
      | none =>
        have hn0 : news = [] := by
          cases news with
          | nil => rfl
          | cons u us => obtain ⟨ad, he, _⟩ := hr 0 u rfl; cases he
        subst hn0
        have hm0 : m = 0 := by
          rcases Nat.eq_zero_or_pos m with h0 | h0
          · exact h0
          · have := Nat.mul_pos h0 hsz; simp at hnl; omega
        subst hm0
        have hd0 := hd rfl
        subst hd0
        exact ⟨_, W, run_append_owned_none W base t o.type e i size ht hi _ n xs hown, by simpa using hown, World.grownBy.refl W _, .inl rfl⟩
      | some ad =>
        obtain ⟨v', w', hrun, h2, h3, _, h5⟩ := run_append_own_at (P := P) W base t o.type e i z size bytes ht hi hz hsize hby hzs hsz (.slice A n c) n xs hown ad m d news hnl
          (fun j u hj => by obtain ⟨ad', he, hcell⟩ := hr j u hj; injection he with he; subst he; exact hcell) h1 h63 hbytes hbase
        exact ⟨v', w', hrun, h2, h3, h5⟩
    obtain ⟨v', w', hrun, h2, h3, h5⟩ := key
    unfold Oper.wp execOp
    simp only [ho, resolve, invoke, builtin, Sem.run_bind, Sem.run_pure, Result.andThen_ok, List.map_toArray, List.map_cons, List.map_nil, hs, hx, hrun]
    have hv : ∃ A3 c3, v' = .slice A3 (n + m : Nat) c3 := by
      rcases h2.2 with ⟨hv, hl0⟩ | ⟨g', cap', cur, hv, hg, -⟩
      · exact ⟨none, 0, by rw [hv, hl0]⟩
      · exact ⟨_, _, hv⟩
    obtain ⟨A3, c3, rfl⟩ := hv
    refine hK _ _ (h w' A3 c3 h2 (grown_turn h3) ?_)
    intro k hk
    cases A3 with
    | none => simp [blkA] at hk
    | some ad =>
      simp [blkA] at hk
      subst hk
      rcases h5 with h5 | h5
      · left
        cases A with
        | none => cases h5
        | some ad' => injection h5 with h5; simp [blkA, h5]
      · injection h5 with h5
        right
        omega
theorem Row.lt_ {w : World} {base t c : Nat} {A : Option Addr} {xs : List Value} (h : Row w base t A c xs) : ∀ k ∈ blkA A, k < w.heap.size := by
  intro k hk
  rcases h.2 with ⟨hv, -⟩ | ⟨g, cap, cur, hv, hg, hh, -⟩
  · injection hv with hv; rw [hv] at hk; simp [blkA] at hk
  · injection hv with hv; rw [hv] at hk; simp [blkA] at hk; rw [hk]; exact heap_lt hh
end Go.Proofs.YtlmdkmflbhnlgaaGreat
