/- Words, walks and plain facts that several laws need, part 3: each with its own head. No condition. -/
import Derived.Test.YtlmdkmflbhnlgaaGreatZScan2
import Derived.Deep.MidRow
import Derived.OrdersHeld
import Derived.Deep.Quiet
import Derived.StillTail
import Derived.Test.YtlmdkmflbhnlgaaGreatProg
import Derived.OwnWalkIn
-- Own: Which blocks are turned, of what lay: words on worlds. No condition.
namespace Go.Proofs.YtlmdkmflbhnlgaaGreat
open Go.RowKit
/-- Only blocks of s are turned, of what lay. -/
structure Turn (s : List Nat) (w w' : World) : Prop where
  os : w'.os = w.os
  tape : w'.tape = w.tape
  output : w'.output = w.output
  size : w.heap.size ≤ w'.heap.size
  block : ∀ k, k < w.heap.size → k ∉ s → w'.heap[k]? = w.heap[k]?
theorem Turn.refl (s : List Nat) (w : World) : Turn s w w := ⟨rfl, rfl, rfl, Nat.le_refl _, fun _ _ _ => rfl⟩
theorem Turn.of {s : List Nat} {w w' : World} (h : Below w.heap.size w w') : Turn s w w' := ⟨h.os, h.tape, h.output, h.size, fun k hk _ => h.block k hk⟩
theorem Turn.trans {s s' : List Nat} {w w1 w2 : World} (h : Turn s w w1) (k : Turn s' w1 w2) (hs : ∀ x ∈ s', x ∈ s ∨ w.heap.size ≤ x) : Turn s w w2 :=
  ⟨k.os.trans h.os, k.tape.trans h.tape, k.output.trans h.output, Nat.le_trans h.size k.size, fun i hi h1 => (k.block i (Nat.lt_of_lt_of_le hi h.size) (fun hm => (hs i hm).elim h1 (by omega))).trans (h.block i hi h1)⟩
theorem Turn.tr {s : List Nat} {w w1 w2 : World} (h : Turn s w w1) (k : Turn s w1 w2) : Turn s w w2 := h.trans k fun _ hx => .inl hx
theorem Turn.mono {s s' : List Nat} {w w' : World} (h : Turn s w w') (hs : ∀ x ∈ s, x ∈ s' ∨ w.heap.size ≤ x) : Turn s' w w' := ⟨h.os, h.tape, h.output, h.size, fun k hk h1 => h.block k hk fun hm => (hs k hm).elim h1 (by omega)⟩
theorem Turn.drew {s : List Nat} {w w' : World} (h : Turn s w w') : Turn s w w'.drew := ⟨h.os, h.tape, h.output, h.size, h.block⟩
theorem Turn.drewN {s : List Nat} {w w' : World} (h : Turn s w w') (n : Nat) : Turn s w (w'.drewN n) := ⟨h.os, h.tape, h.output, h.size, h.block⟩
theorem Turn.setCell {s : List Nat} {w w' : World} (h : Turn s w w') {p : Addr} (hp : p.block ∈ s ∨ w.heap.size ≤ p.block) (u : Value) : Turn s w (w'.setCell p u) :=
  ⟨h.os, h.tape, h.output, by simpa [World.setCell] using h.size, fun k hk h1 => by
    have hne : k ≠ p.block := by
      rintro rfl
      exact hp.elim h1 (by omega)
    rw [Below.heap_setCell _ _ _ _ hne]; exact h.block k hk h1⟩
theorem Turn.setCells {s : List Nat} {w : World} {b : Nat} (hp : b ∈ s ∨ w.heap.size ≤ b) : ∀ (vs : List Value) (o : Nat) {w' : World}, Turn s w w' → Turn s w (w'.setCells b o vs)
  | [], _, _, h => h
  | v :: r, o, _, h => by rw [World.setCells]; exact Turn.setCells hp r (o + 1) (h.setCell (p := ⟨b, o, none⟩) hp v)
theorem Turn.alloc {s : List Nat} {w w' : World} (h : Turn s w w') (o : Obj) : Turn s w (w'.alloc o) := h.tr (.of (below_alloc (Below.refl _ _) o))
theorem Turn.below {s : List Nat} {base : Nat} {w w' : World} (h : Turn s w w') (hs : ∀ x ∈ s, base ≤ x) (hw : base ≤ w.heap.size) : Below base w w' :=
  ⟨h.os, h.tape, h.output, h.size, fun k hk => h.block k (by omega) (fun hm => by have := hs k hm; omega)⟩
theorem Turn.heap {s : List Nat} {w w' : World} (h : Turn s w w') {k : Nat} {o : Obj} (hk : w.heap[k]? = some o) (h1 : k ∉ s) : w'.heap[k]? = some o := (h.block k (heap_lt hk) h1).trans hk
/-- A block of another type is another block. -/
theorem ne_of_type {w : World} {a b : Nat} {cs ds : Array Value} {t u : TypeId} {fr gr : Nat × Nat} (ha : w.heap[a]? = some (.cells cs t fr)) (hb : w.heap[b]? = some (.cells ds u gr)) (h : t ≠ u) : a ≠ b := by
  rintro rfl
  rw [ha] at hb
  injection hb with hb
  injection hb with _ hb _
  exact h hb
theorem Row.turn {w w' : World} {base t c : Nat} {A : Option Addr} {xs : List Value} {s : List Nat} (h : Row w base t A c xs) (ht : Turn s w w') (hn : ∀ ad, A = some ad → ad.block ∉ s) : Row w' base t A c xs := by
  obtain ⟨k1, k2⟩ := h
  refine ⟨k1, ?_⟩
  rcases k2 with k2 | ⟨q, cap, cur, hv, hq, hh, r⟩
  · exact .inl k2
  · refine .inr ⟨q, cap, cur, hv, hq, ht.heap hh ?_, r⟩
    have e : A = some ⟨q, 0, none⟩ := by injection hv
    exact hn _ e
theorem Row.geq {w : World} {base t c : Nat} {A : Option Addr} {xs : List Value} (h : Row w base t A c xs) : ∀ ad, A = some ad → base ≤ ad.block := by
  intro ad e
  rcases h.2 with ⟨hv, -⟩ | ⟨q, cap, cur, hv, hq, -⟩
  · injection hv with hv; rw [hv] at e; cases e
  · injection hv with hv; rw [hv] at e; injection e with e; rw [← e]; exact hq
/-- A row of bytes stands if blocks of other types are turned. -/
theorem Row.turn_ty {w w' : World} {base t c : Nat} {A : Option Addr} {xs : List Value} {s : List Nat} (h : Row w base t A c xs) (ht : Turn s w w') (hn : ∀ k ∈ s, ∃ cs u fr, w.heap[k]? = some (.cells cs u fr) ∧ u ≠ t) : Row w' base t A c xs := by
  rcases h.2 with k2 | ⟨q, cap, cur, hv, hq, hh, r⟩
  · exact ⟨h.1, .inl k2⟩
  · refine h.turn ht fun ad e hm => ?_
    have e2 : A = some ⟨q, 0, none⟩ := by injection hv
    rw [e2] at e
    injection e with e
    subst e
    obtain ⟨cs, u, fr, hk, hu⟩ := hn _ hm
    exact ne_of_type hk hh hu rfl
/-- What lies in other blocks lies. -/
theorem Rd.turn {w w' : World} {s : List Nat} {A : Option Addr} {vs : List Value} (h : Rd w A vs) (ht : Turn s w w') (hn : ∀ ad, A = some ad → ad.block ∉ s) : Rd w' A vs := fun j u hj => by
  obtain ⟨ad, e, hc⟩ := h j u hj
  refine ⟨ad, e, ?_⟩
  have hb := ht.block (ad.add j).block (cell_lt hc) (by rw [block_of_add]; exact hn ad e)
  unfold World.cell? at hc ⊢
  rw [hb]; exact hc
theorem heap_setCells {g : Nat} {t : TypeId} {fr : Nat × Nat} : ∀ (vs : List Value) (o : Nat) {w : World} {cs : Array Value}, w.heap[g]? = some (.cells cs t fr) → ∃ ds : Array Value, (w.setCells g o vs).heap[g]? = some (.cells ds t fr) ∧ ds.size = cs.size ∧ ∀ j, ds[j]? = if o ≤ j ∧ j < o + vs.length ∧ j < cs.size then vs[j - o]? else cs[j]?
  | [], o, w, cs, h => ⟨cs, h, rfl, fun j => by simp only [List.length_nil]; rw [if_neg (by omega)]⟩
  | v :: r, o, w, cs, h => by
    rw [World.setCells]
    obtain ⟨ds, h1, h2, h3⟩ := heap_setCells r (o + 1) (heap_setCell h o v)
    refine ⟨ds, h1, by simpa using h2, fun j => ?_⟩
    rw [h3 j]
    simp only [Array.size_setIfInBounds, List.length_cons]
    by_cases e : j = o
    · subst e
      by_cases hl : j < cs.size
      · rw [if_neg (by omega), if_pos (by omega)]; simp [hl]
      · rw [if_neg (by omega), if_neg (by omega)]; simp [hl]
    · by_cases hc : o + 1 ≤ j ∧ j < o + 1 + r.length ∧ j < cs.size
      · rw [if_pos hc, if_pos (by omega), show j - o = (j - (o + 1)) + 1 by omega]; rfl
      · rw [if_neg hc, if_neg (by omega)]; simp [Ne.symm e]
end Go.Proofs.YtlmdkmflbhnlgaaGreat
namespace Go.Proofs.YtlmdkmflbhnlgaaGreat
open Go.RowKit
def blkA : Option Addr → List Nat
  | none => []
  | some a => [a.block]
theorem own_blk {w : World} {base e size n c : Nat} {A : Option Addr} {xs : List Value} (h : w.ownsRow base e size (.slice A n c) n xs) : ∀ k ∈ blkA A, base ≤ k := by
  intro k hk
  rcases h.2 with ⟨hv, -⟩ | ⟨g, cap, cur, hv, hg, -⟩
  · injection hv with hv; subst hv; simp [blkA] at hk
  · injection hv with hv; subst hv; simp [blkA] at hk; omega
theorem own_turn {w w' : World} {s : List Nat} {base e size n c : Nat} {A : Option Addr} {xs : List Value} (h : w.ownsRow base e size (.slice A n c) n xs) (ht : Turn s w w') (hd : ∀ k ∈ blkA A, k ∉ s) : w'.ownsRow base e size (.slice A n c) n xs := by
  obtain ⟨h1, h2⟩ := h
  refine ⟨h1, h2.imp id ?_⟩
  rintro ⟨g, cap, cur, hv, hg, hh, r⟩
  refine ⟨g, cap, cur, hv, hg, ht.heap hh (hd g ?_), r⟩
  injection hv with hv
  subst hv
  simp [blkA]
theorem grown_turn {W w3 : World} {A : Option Addr} {n c : Nat} (h : W.grownBy w3 (Value.slice A n c).ownBlock) : Turn (blkA A) W w3 :=
  ⟨h.os, h.tape, h.output, h.size, fun k hk hm => h.block k hk fun e => hm (by
    cases A with
    | none => cases e
    | some ad => injection e with e; subst e; simp [blkA])⟩
theorem wpList_appK {P : Program} {W : World} {ops : Array Oper} {rest : List Oper} {o : Oper} {a : Act} {Q : Exit → Act → World → Prop} (hgd : o.guard = none) (s x : Operand) (t : TypeId)
    (ho : o.op = .call { callee := .builtin .append, args := #[s, x], argTypes := #[t, t] })
    (base : Nat) (e : TypeId) (i : TypeInfo) (z : Value) (size bytes : Nat) (ht : P.underlying t = some (.slice e)) (hi : P.info? e = some i) (hz : i.zero = some z) (hsize : i.size = size) (hby : i.bytes = bytes) (hzs : z.cells.size = size) (hsz : 0 < size)
    (A : Option Addr) (n c : Nat) (xs : List Value) (hs : a.eval s = .slice A n c) (hown : W.ownsRow base e size (.slice A n c) n xs)
    (q d : Nat) (tq : TypeId) (news : List Value) (hx : a.eval x = .slice (some ⟨q, 0, none⟩) 1 d) (hq : W.heap[q]? = some (.cells news.toArray tq)) (hnl : news.length = size) (h1 : ∀ u ∈ news, u.oneCell' = true)
    (h63 : n + 1 ≤ maxLen) (hbytes : (n + 1) * bytes ≤ 140737488355328) (hbase : base ≤ W.heap.size)
    (h : ∀ (w3 : World) (A3 : Option Addr) (c3 : Nat), Hid (w3.ownsRow base e size (.slice A3 (n + 1) c3) (n + 1) (xs ++ news)) → Hid (Turn (blkA A) W w3) → Hid (∀ k ∈ blkA A3, k ∈ blkA A ∨ W.heap.size ≤ k) → wpList P ops Q rest (a.put o.dst (.slice A3 (n + 1 : Nat) c3)) w3) : wpList P ops Q (o :: rest) a W :=
  wpList_plain hgd fun _ hK => by
    have hnews : ∀ j u, news[j]? = some u → W.cell? ((⟨q, 0, none⟩ : Addr).add j) = some u := World.news_of_block hq
    obtain ⟨v', w', hr, h2, h3, h4, h5⟩ := run_append_own_at (P := P) W base t o.type e i z size bytes ht hi hz hsize hby hzs hsz (.slice A n c) n xs hown ⟨q, 0, none⟩ 1 d news (by rw [hnl, Nat.one_mul]) hnews h1 h63 hbytes hbase
    unfold Oper.wp execOp
    simp only [ho, resolve, invoke, builtin, Sem.run_bind, Sem.run_pure, Result.andThen_ok, List.map_toArray, List.map_cons, List.map_nil, hs, hx, hr]
    have hv : ∃ A3 c3, v' = .slice A3 (n + 1 : Nat) c3 := by
      rcases h2.2 with ⟨hv, hl0⟩ | ⟨g', cap', cur, hv, hg, -⟩
      · omega
      · exact ⟨_, _, hv⟩
    obtain ⟨A3, c3, rfl⟩ := hv
    refine hK _ _ (h w' A3 c3 h2 (grown_turn h3) ?_)
    intro k hk
    cases A3 with
    | none => simp [blkA] at hk
    | some ad =>
      simp [blkA] at hk
      subst hk
      rcases h5 with h5 | h5
      · left
        cases A with
        | none => cases h5
        | some ad' => injection h5 with h5; simp [blkA, h5]
      · injection h5 with h5
        right
        omega
end Go.Proofs.YtlmdkmflbhnlgaaGreat
namespace Go.Proofs.YtlmdkmflbhnlgaaGreat
open Go.RowKit
theorem wpList_appN {P : Program} {W : World} {ops : Array Oper} {rest : List Oper} {o : Oper} {a : Act} {Q : Exit → Act → World → Prop} (hgd : o.guard = none) (s x : Operand) (t : TypeId)
    (ho : o.op = .call { callee := .builtin .append, args := #[s, x], argTypes := #[t, t] })
    (base : Nat) (e : TypeId) (i : TypeInfo) (z : Value) (size bytes : Nat) (ht : P.underlying t = some (.slice e)) (hi : P.info? e = some i) (hz : i.zero = some z) (hsize : i.size = size) (hby : i.bytes = bytes) (hzs : z.cells.size = size) (hsz : 0 < size)
    (A : Option Addr) (n c : Nat) (xs : List Value) (hs : a.eval s = .slice A n c) (hown : W.ownsRow base e size (.slice A n c) n xs)
    (B : Option Addr) (m d : Nat) (news : List Value) (hx : a.eval x = .slice B m d) (hr : Rd W B news) (hnl : news.length = m * size) (h1 : ∀ u ∈ news, u.oneCell' = true) (hd : B = none → d = 0)
    (h63 : n + m ≤ maxLen) (hbytes : (n + m) * bytes ≤ 140737488355328) (hbase : base ≤ W.heap.size)
    (h : ∀ (w3 : World) (A3 : Option Addr) (c3 : Nat), Hid (w3.ownsRow base e size (.slice A3 (n + m) c3) (n + m) (xs ++ news)) → Hid (Turn (blkA A) W w3) → Hid (∀ k ∈ blkA A3, k ∈ blkA A ∨ W.heap.size ≤ k) → wpList P ops Q rest (a.put o.dst (.slice A3 (n + m : Nat) c3)) w3) : wpList P ops Q (o :: rest) a W :=
  wpList_plain hgd fun _ hK => by
    have key : ∃ v' w', (Builtin.append_ #[t, t] o.type #[.slice A n c, .slice B m d]).run P W = .ok v' w' ∧ w'.ownsRow base e size v' (n + m) (xs ++ news) ∧ W.grownBy w' (Value.slice A n c).ownBlock ∧
        (v'.ownBlock = (Value.slice A n c).ownBlock ∨ v'.ownBlock = some W.heap.size) := by
      cases B with
      | none =>
        have hn0 : news = [] := by
          cases news with
          | nil => rfl
          | cons u us => obtain ⟨ad, he, _⟩ := hr 0 u rfl; cases he
        subst hn0
        have hm0 : m = 0 := by
          rcases Nat.eq_zero_or_pos m with h0 | h0
          · exact h0
          · have := Nat.mul_pos h0 hsz; simp at hnl; omega
        subst hm0
        have hd0 := hd rfl
        subst hd0
        exact ⟨_, W, run_append_owned_none W base t o.type e i size ht hi _ n xs hown, by simpa using hown, World.grownBy.refl W _, .inl rfl⟩
      | some ad =>
        obtain ⟨v', w', hrun, h2, h3, _, h5⟩ := run_append_own_at (P := P) W base t o.type e i z size bytes ht hi hz hsize hby hzs hsz (.slice A n c) n xs hown ad m d news hnl
          (fun j u hj => by obtain ⟨ad', he, hcell⟩ := hr j u hj; injection he with he; subst he; exact hcell) h1 h63 hbytes hbase
        exact ⟨v', w', hrun, h2, h3, h5⟩
    obtain ⟨v', w', hrun, h2, h3, h5⟩ := key
    unfold Oper.wp execOp
    simp only [ho, resolve, invoke, builtin, Sem.run_bind, Sem.run_pure, Result.andThen_ok, List.map_toArray, List.map_cons, List.map_nil, hs, hx, hrun]
    have hv : ∃ A3 c3, v' = .slice A3 (n + m : Nat) c3 := by
      rcases h2.2 with ⟨hv, hl0⟩ | ⟨g', cap', cur, hv, hg, -⟩
      · exact ⟨none, 0, by rw [hv, hl0]⟩
      · exact ⟨_, _, hv⟩
    obtain ⟨A3, c3, rfl⟩ := hv
    refine hK _ _ (h w' A3 c3 h2 (grown_turn h3) ?_)
    intro k hk
    cases A3 with
    | none => simp [blkA] at hk
    | some ad =>
      simp [blkA] at hk
      subst hk
      rcases h5 with h5 | h5
      · left
        cases A with
        | none => cases h5
        | some ad' => injection h5 with h5; simp [blkA, h5]
      · injection h5 with h5
        right
        omega
theorem Row.lt_ {w : World} {base t c : Nat} {A : Option Addr} {xs : List Value} (h : Row w base t A c xs) : ∀ k ∈ blkA A, k < w.heap.size := by
  intro k hk
  rcases h.2 with ⟨hv, -⟩ | ⟨g, cap, cur, hv, hg, hh, -⟩
  · injection hv with hv; rw [hv] at hk; simp [blkA] at hk
  · injection hv with hv; rw [hv] at hk; simp [blkA] at hk; rw [hk]; exact heap_lt hh
end Go.Proofs.YtlmdkmflbhnlgaaGreat
-- Mix: A region that draws its order: what only reads goes first, whatever calls or writes goes one behind the other, what waits for all goes last: one walk. No condition.
namespace Go.Proofs.YtlmdkmflbhnlgaaGreat
open Go Go.RowKit
/-- An operation that yields a value, if it comes to an end, and calls nothing. -/
def valB : Op → Bool
  | .move _ | .assign _ | .load _ _ | .binOp _ _ _ _ _ | .unOp _ _ _ | .convert _ _ _ | .fieldAddr _ _ _ | .field _ _ _ | .indexAddr _ _ _ | .index _ _ _ | .slice _ _ _ _ _ | .extract _ _ | .makeInterface _ _ | .build _ _ | .pick _ _ _ | .typeAssert _ _ _ _ | .makeFunc _ _ _ => true
  | .call { callee := .builtin .len, .. } | .call { callee := .builtin .cap, .. } => true
  | _ => false
section
variable {P : Program} {ops : Array Oper} {Q : Exit → Act → World → Prop} {md : Region.Mode} {S : World → Prop}
theorem value_only {s : Sem Value} {w w' : World} {n : Next} (h : ((do let x ← s; pure (Next.value x)) : Sem Next).run P w = .ok n w') : ∃ v, n = .value v := by
  rw [Sem.run_bind] at h
  cases hs : s.run P w with
  | ok v w1 => rw [hs] at h; simp [Result.andThen] at h; exact ⟨v, h.1.symm⟩
  | halt x w1 => rw [hs] at h; simp [Result.andThen] at h
theorem val_only {o : Oper} (hp : valB o.op = true) {ρ : Operand → Value} {w w' : World} {n : Next} (h : (execOp ρ o).run P w = .ok n w') : ∃ v, n = .value v := by
  unfold execOp at h
  cases ho : o.op <;> rw [ho] at hp h <;> simp only [valB] at hp <;> first | exact absurd hp (by decide) | skip
  all_goals first
    | exact value_only h
    | (simp at h; exact ⟨_, h.1.symm⟩)
    | skip
  case pick c x y =>
    simp only [Sem.run_bind] at h
    cases hs : (asBool (ρ c)).run P w with
    | ok v w1 => rw [hs] at h; simp [Result.andThen] at h; exact ⟨_, h.1.symm⟩
    | halt x w1 => rw [hs] at h; simp [Result.andThen] at h
  case call c =>
    obtain ⟨callee, args, argTypes⟩ := c
    cases callee with
    | builtin b =>
      cases b <;> simp only at hp <;> first | exact absurd hp (by decide) | skip
      all_goals
        simp only [resolve, invoke, builtin, Sem.run_bind, Sem.run_pure, Result.andThen_ok] at h
        exact value_only (P := P) (w := w) (w' := w') (by rw [Sem.run_bind]; simpa only [Sem.run_pure] using h)
    | value f => simp only at hp; exact absurd hp (by decide)
    | invoke r s => simp only at hp; exact absurd hp (by decide)
theorem yieldsIf_quiet {o : Oper} {a : Act} {K : Act → Prop} (hp : valB o.op = true) (hw : Region.wanted o (yielded ops a.tmps) = true) (h : o.quiet P a S K) : ∃ v, YieldsIf P ops S o v a ∧ K (a.put o.dst v) := by
  obtain ⟨v, h1, h2⟩ := h
  refine ⟨v, .inl ⟨hw, fun w hS => ?_⟩, h2⟩
  have h3 := h1 w hS
  unfold Oper.quietAt at h3
  generalize hr : (execOp a.eval o).run P w = r at *
  cases r with
  | ok n w' =>
    obtain ⟨u, rfl⟩ := val_only hp hr
    simp only [Oper.quietUpon] at h3
    rw [h3.1, h3.2]
  | halt x w' => simp only [Oper.quietUpon] at h3
/-! ### the structure -/
def waits1 (md : Region.Mode) (ops : Array Oper) (j i : Nat) : Bool := Region.waitsFor md ops j i
/-- Each of these is waited for by one behind it, or by t. -/
def sinkL (md : Region.Mode) (ops : Array Oper) (t : Nat) : List Nat → Bool
  | [] => true
  | i :: r => (waits1 md ops t i || r.any fun j => waits1 md ops j i) && sinkL md ops t r
/-- Each waits for one ahead of it. -/
def chainL (md : Region.Mode) (ops : Array Oper) : List Nat → List Nat → Bool
  | _, [] => true
  | p, t :: r => (p.any fun i => waits1 md ops t i) && chainL md ops (t :: p) r
def tailB (md : Region.Mode) (ops : Array Oper) (π : List Nat) : List Nat → Bool
  | [] => true
  | t :: r => sinkL md ops t π && chainL md ops [t] r
def seqI (md : Region.Mode) (ops : Array Oper) : List Nat → Array Bool → Bool
  | [], listed => (Region.ready md ops listed).isEmpty
  | t :: r, listed => decide (Region.ready md ops listed = [t]) && seqI md ops r (listed.setIfInBounds t true)
def mixB (md : Region.Mode) (ops : Array Oper) (τ : List Nat) : List (Bool × Nat) → Array Bool → Bool
  | [], listed => seqI md ops τ listed
  | (true, i) :: r, listed => (Region.ready md ops listed).contains i && Region.free md ops listed i && mixB md ops τ r (listed.setIfInBounds i true)
  | (false, i) :: r, listed => decide (Region.ready md ops listed = [i]) && mixB md ops τ r (listed.setIfInBounds i true)
def disj (π τ : List Nat) : Bool := τ.all fun t => !π.contains t
structure MInv (md : Region.Mode) (ops : Array Oper) (τ : List Nat) (listed : Array Bool) : Prop where
  closed : ∀ j oj, ops[j]? = some oj → listed.getD j false = true → ∀ e ∈ oj.after, Region.binds md e = true → listed.getD e.on false = true
  tail : ∀ t ∈ τ, listed.getD t false = false
theorem MInv.set {τ : List Nat} {i : Nat} {listed : Array Bool} (inv : MInv md ops τ listed) (hi : i ∈ Region.ready md ops listed) (hin : ∀ t ∈ τ, i ≠ t) : MInv md ops τ (listed.setIfInBounds i true) := by
  obtain ⟨_, oi, hoi, hall⟩ := mem_ready.1 hi
  refine ⟨fun j oj hj hl e he hb => ?_, fun t ht => by rw [getD_set_ne false (hin t ht)]; exact inv.tail t ht⟩
  by_cases hij : i = j
  · subst hij
    have : oj = oi := Option.some.inj (hj.symm.trans hoi)
    subst this
    exact getD_set_true (hall e he hb)
  · rw [getD_set_ne false hij] at hl
    exact getD_set_true (inv.closed j oj hj hl e he hb)
theorem closed_waits {τ : List Nat} {listed : Array Bool} {j i : Nat} (inv : MInv md ops τ listed) (h : waits1 md ops j i = true) (hj : listed.getD j false = true) : listed.getD i false = true := by
  obtain ⟨oj, hoj, e, he, hb, hon⟩ := Region.waitsFor_spec h
  rw [← hon]
  exact inv.closed j oj hoj hj e he hb
theorem ready_waits {listed : Array Bool} {j i : Nat} (hr : j ∈ Region.ready md ops listed) (h : waits1 md ops j i = true) : listed.getD i false = true := by
  obtain ⟨oj, hoj, e, he, hb, hon⟩ := Region.waitsFor_spec h
  obtain ⟨_, o, ho, hall⟩ := mem_ready.1 hr
  have : oj = o := Option.some.inj (hoj.symm.trans ho)
  subst this
  rw [← hon]
  exact hall e he hb
theorem sink_all {τ : List Nat} {listed : Array Bool} {t : Nat} (inv : MInv md ops τ listed) (hr : t ∈ Region.ready md ops listed) : ∀ π : List Nat, sinkL md ops t π = true → ∀ i ∈ π, listed.getD i false = true
  | [], _, i, hi => by cases hi
  | k :: r, h, i, hi => by
    simp only [sinkL, Bool.and_eq_true, Bool.or_eq_true] at h
    have ih := sink_all inv hr r h.2
    rcases List.mem_cons.1 hi with rfl | hi
    · rcases h.1 with h1 | h1
      · exact ready_waits hr h1
      · obtain ⟨j, hj, hw⟩ := List.any_eq_true.1 h1
        exact closed_waits inv hw (ih j hj)
    · exact ih i hi
theorem chain_none {τ : List Nat} {listed : Array Bool} (inv : MInv md ops τ listed) : ∀ (r p : List Nat), (∀ i ∈ p, i ∈ τ) → (∀ i ∈ r, i ∈ τ) → chainL md ops p r = true → ∀ t ∈ r, t ∉ Region.ready md ops listed
  | [], _, _, _, _, t, ht => by cases ht
  | k :: r, p, hp, hr, h, t, ht => by
    simp only [chainL, Bool.and_eq_true] at h
    rcases List.mem_cons.1 ht with rfl | ht
    · intro hready
      obtain ⟨i, hi, hw⟩ := List.any_eq_true.1 h.1
      have h1 := ready_waits hready hw
      rw [inv.tail i (hp i hi)] at h1
      cases h1
    · exact chain_none inv r (k :: p) (fun i hi => by rcases List.mem_cons.1 hi with rfl | hi; exact hr _ (by simp); exact hp i hi) (fun i hi => hr i (by simp [hi])) h.2 t ht
theorem tail_wait {π τ : List Nat} {listed : Array Bool} (inv : MInv md ops τ listed) (h : tailB md ops π τ = true) {i : Nat} (hi : i ∈ π) (hun : listed.getD i false = false) : ∀ t ∈ τ, t ∉ Region.ready md ops listed := by
  cases τ with
  | nil => intro t ht; cases ht
  | cons t0 r =>
    simp only [tailB, Bool.and_eq_true] at h
    intro t ht
    rcases List.mem_cons.1 ht with rfl | ht
    · intro hr
      have := sink_all inv hr π h.1 i hi
      rw [hun] at this
      cases this
    · exact chain_none inv r [t0] (by simp) (fun i hi => by simp [hi]) h.2 t ht
/-! ### the walk -/
def wpHL (P : Program) (md : Region.Mode) (ops : Array Oper) (Q : Exit → Act → World → Prop) (S : World → Prop) (τ : List Nat) (L : Array Bool → Act → World → Prop) : Nat → Array Bool → Act → World → Prop
  | 0, listed, a, w => L listed a w
  | f + 1, listed, a, w => Region.ready md ops listed ≠ [] ∧ ∀ i ∈ Region.ready md ops listed, i ∉ τ ∧ wpOp P ops Q i (fun a' w' => S w' ∧ wpHL P md ops Q S τ L f (listed.setIfInBounds i true) a' w') a w
theorem wpAny_of_hl {τ : List Nat} {g : Nat} {L : Array Bool → Act → World → Prop} (hL : ∀ listed a w, L listed a w → wpAny P md ops Q g listed a w) :
    ∀ (f : Nat) (listed : Array Bool) (a : Act) (w : World), wpHL P md ops Q S τ L f listed a w → wpAny P md ops Q (f + g) listed a w
  | 0, listed, a, w, h => by rw [Nat.zero_add]; exact hL _ _ _ h
  | f + 1, listed, a, w, h => by
    rw [show f + 1 + g = (f + g) + 1 by omega]
    exact ⟨fun h0 => absurd h0 h.1, fun i hi => wpOp_mono (fun a' w' h' => wpAny_of_hl hL f _ a' w' h'.2) (h.2 i hi).2⟩
theorem wpHL_first {π τ : List Nat} {i : Nat} {oi : Oper} {v : Value} {L : Array Bool → Act → World → Prop} (hi : ops[i]? = some oi) (hsel : ∀ (j : Nat) (o : Oper) cs b, ops[j]? = some o → o.op ≠ .select cs b)
    (hQ : ∀ c a w, Q (.panic c) (a.put oi.dst v) w → Q (.panic c) a w) (hT : tailB md ops π τ = true) (hiπ : i ∈ π) (hdone : ∀ listed a w, L listed a w → ∀ j ∈ Region.ready md ops listed, j ∈ τ) :
    ∀ (f : Nat) (listed : Array Bool) (a : Act) (w : World), MInv md ops τ listed →
      (∀ j oj, ops[j]? = some oj → j ≠ i → listed.getD j true = false → (∀ e ∈ oj.after, Region.binds md e = true → e.on ≠ i) → oi.apart ops oj = true) →
      i ∈ Region.ready md ops listed → YieldsIf P ops S oi v a → S w →
      wpHL P md ops Q S τ L f (listed.setIfInBounds i true) (a.put oi.dst v) w → wpHL P md ops Q S τ L (f + 1) listed a w := by
  intro f
  induction f with
  | zero =>
    intro listed a w inv _ hr hy hS H
    have hun := getD_both (mem_ready.1 hr).1
    refine ⟨fun h => (by rw [h] at hr; cases hr), fun j hj => ?_⟩
    have hjn : j ∉ τ := fun h => tail_wait inv hT hiπ hun j h hj
    refine ⟨hjn, ?_⟩
    by_cases hji : j = i
    · subst hji; exact hy.wpOp hi hS ⟨hS, H⟩
    · exact absurd (hdone _ _ _ H j (ready_mono hj hji)) hjn
  | succ f ih =>
    intro listed a w inv hfree hr hy hS H
    have hun := getD_both (mem_ready.1 hr).1
    refine ⟨fun h => (by rw [h] at hr; cases hr), fun j hj => ?_⟩
    have hjn : j ∉ τ := fun h => tail_wait inv hT hiπ hun j h hj
    refine ⟨hjn, ?_⟩
    by_cases hji : j = i
    · subst hji; exact hy.wpOp hi hS ⟨hS, H⟩
    · have h1 := (H.2 j (ready_mono hj hji)).2
      obtain ⟨hjun, oj, hoj, hall⟩ := mem_ready.1 hj
      have hnot : ∀ e ∈ oj.after, Region.binds md e = true → e.on ≠ i := fun e he hb heq => by
        have h1 := hall e he hb
        rw [heq, hun] at h1
        cases h1
      have h2 := wpOp_putIf hoj (hfree j oj hoj hji hjun hnot) (fun cs b => hsel i oi cs b hi) (fun cs b => hsel j oj cs b hoj) hQ hy h1
      have hfree' : ∀ k ok, ops[k]? = some ok → k ≠ i → (listed.setIfInBounds j true).getD k true = false →
          (∀ e ∈ ok.after, Region.binds md e = true → e.on ≠ i) → oi.apart ops ok = true := fun k ok hk hki hun hno => by
        refine hfree k ok hk hki ?_ hno
        by_cases hjk : j = k
        · subst hjk; exact hjun
        · rw [getD_set_ne true hjk] at hun; exact hun
      refine wpOp_mono (fun a' w' h3 => ⟨h3.2.1, ih (listed.setIfInBounds j true) a' w' (inv.set hj (fun t ht e => hjn (e ▸ ht))) hfree' (ready_mono hr (Ne.symm hji)) h3.1 h3.2.1 ?_⟩) h2
      rw [Array.setIfInBounds_comm _ _ hji]
      exact h3.2.2
/-- The walk: (true, i): operation i only reads; (false, i): it is carried out. -/
def wpMix (P : Program) (ops : Array Oper) (Q : Exit → Act → World → Prop) (S : World → Prop) (T : Act → World → Prop) : List (Bool × Nat) → Act → World → Prop
  | [], a, w => T a w
  | (true, i) :: r, a, w => ∃ o v, ops[i]? = some o ∧ YieldsIf P ops S o v a ∧ wpMix P ops Q S T r (a.put o.dst v) w
  | (false, i) :: r, a, w => wpOp P ops Q i (fun a' w' => S w' ∧ wpMix P ops Q S T r a' w') a w
theorem wpHL_of_mix {τ πs : List Nat} {T : Act → World → Prop} (hsel : Region.noSelect ops = true) (hQ : ∀ c a d v w, Q (.panic c) (a.put d v) w → Q (.panic c) a w) (hT : tailB md ops πs τ = true) (hD : disj πs τ = true) :
    ∀ (π : List (Bool × Nat)) (listed : Array Bool) (a : Act) (w : World), (∀ x ∈ π, x.2 ∈ πs) → MInv md ops τ listed → mixB md ops τ π listed = true → S w → wpMix P ops Q S T π a w →
      wpHL P md ops Q S τ (fun listed a w => seqI md ops τ listed = true ∧ T a w) π.length listed a w
  | [], listed, a, w, _, _, hB, _, h => ⟨hB, h⟩
  | (true, i) :: r, listed, a, w, hπ, inv, hB, hS, h => by
    obtain ⟨o, v, ho, hy, hn⟩ := h
    simp only [mixB, Bool.and_eq_true] at hB
    obtain ⟨⟨hr, hf⟩, hB'⟩ := hB
    have hr' : i ∈ Region.ready md ops listed := by simpa using hr
    have hiπs : i ∈ πs := hπ (true, i) (by simp)
    have hne : ∀ t ∈ τ, i ≠ t := fun t ht e => by
      have := List.all_eq_true.1 hD t ht
      subst e
      simp [hiπs] at this
    refine wpHL_first ho (Region.noSelect_spec hsel) (fun c a w => hQ c a _ _ w) hT hiπs ?_ r.length listed a w inv (Region.free_spec ho hf) hr' hy hS
      (wpHL_of_mix hsel hQ hT hD r _ _ w (fun x hx => hπ x (by simp [hx])) (inv.set hr' hne) hB' hS hn)
    intro listed a w hL j hj
    cases τ with
    | nil => have := hL.1; simp only [seqI, List.isEmpty_iff] at this; rw [this] at hj; cases hj
    | cons t r => have := hL.1; simp only [seqI, Bool.and_eq_true, decide_eq_true_eq] at this; rw [this.1] at hj; simp at hj; simp [hj]
  | (false, i) :: r, listed, a, w, hπ, inv, hB, hS, h => by
    simp only [mixB, Bool.and_eq_true, decide_eq_true_eq] at hB
    obtain ⟨hr, hB'⟩ := hB
    have hiπs : i ∈ πs := hπ (false, i) (by simp)
    have hne : ∀ t ∈ τ, i ≠ t := fun t ht e => by
      have := List.all_eq_true.1 hD t ht
      subst e
      simp [hiπs] at this
    refine ⟨by rw [hr]; simp, fun j hj => ?_⟩
    have hji : j = i := by rw [hr] at hj; simpa using hj
    subst hji
    exact ⟨fun h => hne j h rfl, wpOp_mono (fun a' w' h' => ⟨h'.1, wpHL_of_mix hsel hQ hT hD r _ a' w' (fun x hx => hπ x (by simp [hx])) (inv.set hj hne) hB' h'.1 h'.2⟩) h⟩
theorem wpAny_of_seqI : ∀ (τ : List Nat) (listed : Array Bool) (a : Act) (w : World), seqI md ops τ listed = true → wpOps P ops Q τ a w → wpAny P md ops Q τ.length listed a w
  | [], _, _, _, hB, h => ⟨by simpa [seqI] using hB, h⟩
  | t :: r, listed, a, w, hB, h => by
    simp only [seqI, Bool.and_eq_true, decide_eq_true_eq] at hB
    refine ⟨fun h1 => (by rw [hB.1] at h1; cases h1), fun i hi => ?_⟩
    rw [hB.1] at hi
    have hit : i = t := by simpa using hi
    subst hit
    rw [wpOps_cons] at h
    exact wpOp_mono (fun a' w' h' => wpAny_of_seqI r _ a' w' hB.2 h') h
/-- The operations of these numbers. -/
def pickL (l : List Oper) : List Nat → List Oper
  | [] => []
  | i :: r => match l.drop i with | o :: _ => o :: pickL l r | [] => pickL l r
theorem wpOps_pick {l : List Oper} : ∀ (τ : List Nat) (a : Act) (w : World), (τ.all fun t => decide (t < l.length)) = true → wpList P l.toArray Q (pickL l τ) a w → wpOps P l.toArray Q τ a w
  | [], a, w, _, h => h
  | t :: r, a, w, ht, h => by
    simp only [List.all_cons, Bool.and_eq_true, decide_eq_true_eq] at ht
    obtain ⟨ht1, ht2⟩ := ht
    rw [wpOps_cons]
    have hd : l.drop t = l[t] :: l.drop (t + 1) := List.drop_eq_getElem_cons ht1
    simp only [pickL, hd] at h
    unfold wpList at h
    unfold wpOp
    have ho : l.toArray[t]? = some l[t] := by simp [ht1]
    rw [ho]
    simp only []
    split
    · rename_i hw
      simp only [hw, if_true] at h
      exact h.imp (Oper.wp_mono fun a w h => wpOps_pick r a w ht2 h) id
    · rename_i hw
      simp only [hw] at h
      exact wpOps_pick r _ w ht2 h
/-- The walk, its operations written out. -/
def wpMixL (P : Program) (ops : Array Oper) (Q : Exit → Act → World → Prop) (S : World → Prop) (T : Act → World → Prop) : List (Bool × Oper) → Act → World → Prop
  | [], a, w => T a w
  | (true, o) :: r, a, w => ∃ v, YieldsIf P ops S o v a ∧ wpMixL P ops Q S T r (a.put o.dst v) w
  | (false, o) :: r, a, w => if Region.wanted o (yielded ops a.tmps) then o.wp P a w (fun a' w' => S w' ∧ wpMixL P ops Q S T r a' w') Q else S w ∧ wpMixL P ops Q S T r (a.put o.dst undef) w
def pickM (l : List Oper) : List (Bool × Nat) → List (Bool × Oper)
  | [] => []
  | (b, i) :: r => match l.drop i with | o :: _ => (b, o) :: pickM l r | [] => pickM l r
theorem mix_pick {T : Act → World → Prop} {l : List Oper} : ∀ (π : List (Bool × Nat)) (a : Act) (w : World), (π.all fun t => decide (t.2 < l.length)) = true → wpMixL P l.toArray Q S T (pickM l π) a w → wpMix P l.toArray Q S T π a w
  | [], a, w, _, h => h
  | (b, t) :: r, a, w, ht, h => by
    simp only [List.all_cons, Bool.and_eq_true, decide_eq_true_eq] at ht
    obtain ⟨ht1, ht2⟩ := ht
    have hd : l.drop t = l[t] :: l.drop (t + 1) := List.drop_eq_getElem_cons ht1
    have ho : l.toArray[t]? = some l[t] := by simp [ht1]
    simp only [pickM, hd] at h
    cases b
    · show wpOp P l.toArray Q t _ a w
      unfold wpMixL at h
      unfold wpOp
      rw [ho]
      simp only []
      split
      · rename_i hw
        simp only [hw, if_true] at h
        exact .inl (Oper.wp_mono (fun a w h => ⟨h.1, mix_pick r a w ht2 h.2⟩) h)
      · rename_i hw
        simp only [hw] at h
        exact ⟨h.1, mix_pick r _ w ht2 h.2⟩
    · obtain ⟨v, hy, hn⟩ := h
      exact ⟨l[t], v, ho, hy, mix_pick r _ w ht2 hn⟩
/-- **One walk serves every order.** -/
theorem wp_region_mix {id : Nat} {a : Act} {w : World} {l : List Oper} (S : World → Prop) (π : List (Bool × Nat)) (τ : List Nat) (hm : P.follows .mixedOrders = true)
    (hB : (Region.noSelect l.toArray && tailB .any l.toArray (π.map (·.2)) τ && disj (π.map (·.2)) τ && mixB .any l.toArray τ π (Array.replicate l.toArray.size false) && decide (π.length + τ.length = l.length) && (τ.all fun t => decide (t < l.length)) && (π.all fun t => decide (t.2 < l.length))) = true)
    (hQ : ∀ c a d v w, Q (.panic c) (a.put d v) w → Q (.panic c) a w) (hS : S w.drew)
    (h : wpMixL P l.toArray Q S (wpList P l.toArray Q (pickL l τ)) (pickM l π) a w.drew) : (Code.region id l.toArray true).wp P Q a w := by
  simp only [Bool.and_eq_true, decide_eq_true_eq] at hB
  obtain ⟨⟨⟨⟨⟨⟨hsel, hT⟩, hD⟩, hM⟩, hlen⟩, hlt⟩, hlt2⟩ := hB
  refine wp_region_any hm ?_
  have inv0 : MInv .any l.toArray τ (Array.replicate l.toArray.size false) := ⟨fun j oj _ hl => (by rw [getD_replicate_false] at hl; cases hl), fun t _ => getD_replicate_false _ _⟩
  have H := wpHL_of_mix (Q := Q) (P := P) (S := S) hsel hQ hT hD π _ a w.drew (fun x hx => List.mem_map_of_mem hx) inv0 hM hS (mix_pick π a _ hlt2 h)
  have := wpAny_of_hl (g := τ.length) (fun listed a w hL => wpAny_of_seqI τ listed a w hL.1 (wpOps_pick τ a w hlt hL.2)) _ _ _ _ H
  rw [hlen] at this
  simpa using this
/-! ### the steps -/
theorem mix_pure {T : Act → World → Prop} {r : List (Bool × Oper)} {a : Act} {w : World} {o : Oper} (hw : Region.wanted o (yielded ops a.tmps) = true) (hp : valB o.op = true)
    (h : ∀ K : Act → Prop, (∀ a, wpMixL P ops Q S T r a w → K a) → o.quiet P a S K) : wpMixL P ops Q S T ((true, o) :: r) a w :=
  yieldsIf_quiet hp hw (h (fun a => wpMixL P ops Q S T r a w) (fun _ h => h))
theorem mix_skip {T : Act → World → Prop} {r : List (Bool × Oper)} {a : Act} {w : World} {o : Oper} (hw : Region.wanted o (yielded ops a.tmps) = false)
    (h : wpMixL P ops Q S T r (a.put o.dst undef) w) : wpMixL P ops Q S T ((true, o) :: r) a w := ⟨undef, .inr ⟨hw, rfl⟩, h⟩
theorem mix_eff {T : Act → World → Prop} {r : List (Bool × Oper)} {a : Act} {w : World} {o : Oper} (hw : Region.wanted o (yielded ops a.tmps) = true)
    (h : ∀ K : Act → World → Prop, (∀ a w, S w → wpMixL P ops Q S T r a w → K a w) → o.wp P a w K Q) : wpMixL P ops Q S T ((false, o) :: r) a w := by
  unfold wpMixL
  rw [if_pos hw]
  exact h _ fun a w h1 h2 => ⟨h1, h2⟩
/-- A pointer that is one, held against nil. -/
theorem mix_nilc {T : Act → World → Prop} {r : List (Bool × Oper)} {a : Act} {w : World} {dst : Option Tmp} {x : Operand} {t : TypeId} {pos : String} {after : Array Edge} {g : Option (Nat × Bool)} (p : Addr) (hw : Region.wanted ⟨dst, .nilCheck x, t, pos, after, g⟩ (yielded ops a.tmps) = true) (hx : a.eval x = .pointer (some p))
    (h : wpMixL P ops Q S T r (a.put dst (.pointer (some p))) w) : wpMixL P ops Q S T ((true, ⟨dst, .nilCheck x, t, pos, after, g⟩) :: r) a w :=
  ⟨.pointer (some p), .inl ⟨hw, fun w _ => by unfold execOp; simp [hx]⟩, h⟩
theorem mix_nil {T : Act → World → Prop} {a : Act} {w : World} (h : T a w) : wpMixL P ops Q S T [] a w := h
/-- The post of a panic does not hang on the slots. -/
theorem panic_then {K : Act → World → Prop} {fn : Func} {R : Ending → World → Prop} (c : List PanicEntry) (a : Act) (d : Option Tmp) (v : Value) (w : World) (h : Exit.then K (bodyPost P fn R) (.panic c) (a.put d v) w) : Exit.then K (bodyPost P fn R) (.panic c) a w := by cases d <;> exact h
end
end Go.Proofs.YtlmdkmflbhnlgaaGreat
-- StuffCount: stuff.split, stuff.Count: how many of a row's bits are stuff bits. No condition.
namespace Go.Proofs.YtlmdkmflbhnlgaaGreat
open Go.RowKit
/-- What read tells, bit by bit: whether all is well, how many were stuff bits, and the others. -/
def splE : Nat → Nat → Nat → List Nat → List Nat → Bool × Nat × List Nat
  | _, _, n, out, [] => (true, n, out)
  | last, run, n, out, b :: r => if run = 5 ∧ b = last then (false, n, out) else splE b (seeN last run b) (if run = 5 then n + 1 else n) (if run = 5 then out else out ++ [b]) r
/-- What split's closure works on. -/
structure Spl (w : World) (B pl pn po : Nat) (A : Option Addr) (c n : Nat) (out : List Nat) : Prop where
  last : ∃ v, w.heap[pl]? = some (.cells #[.bool v] 4 (0, 0))
  num : w.heap[pn]? = some (.cells #[.int .i64 n] 3 (0, 0))
  box : w.heap[po]? = some (.cells #[.slice A out.length c] 22 (0, 0))
  row : w.ownsRow B 5 1 (.slice A out.length c) out.length (bys out)
  lt : pl < B ∧ pn < B ∧ po < B
  size : B ≤ w.heap.size
theorem Spl.ne {w : World} {B pl pn po c n : Nat} {A : Option Addr} {out : List Nat} (h : Spl w B pl pn po A c n out) : pl ≠ pn ∧ pl ≠ po ∧ pn ≠ po ∧ (∀ k ∈ blkA A, B ≤ k) := by
  obtain ⟨v, h1⟩ := h.last
  exact ⟨ne_of_type h1 h.num (by decide), ne_of_type h1 h.box (by decide), ne_of_type h.num h.box (by decide), own_blk h.row⟩
theorem Spl.below {w w' : World} {B pl pn po c n : Nat} {A : Option Addr} {out : List Nat} (h : Spl w B pl pn po A c n out) (hb : Below w.heap.size w w') : Spl w' B pl pn po A c n out := by
  obtain ⟨v, h1⟩ := h.last
  exact ⟨⟨v, heap_below hb h1⟩, heap_below hb h.num, heap_below hb h.box, own_turn h.row (Turn.of (s := []) hb) (fun _ _ => by simp), h.lt, Nat.le_trans h.size hb.size⟩
theorem Spl.turn {w w' : World} {B pl pn po c n : Nat} {A : Option Addr} {out : List Nat} {s : List Nat} (h : Spl w B pl pn po A c n out) (ht : Turn s w w') (hs : pl ∉ s ∧ pn ∉ s ∧ po ∉ s ∧ ∀ k ∈ blkA A, k ∉ s) : Spl w' B pl pn po A c n out := by
  obtain ⟨v, h1⟩ := h.last
  exact ⟨⟨v, ht.heap h1 hs.1⟩, ht.heap h.num hs.2.1, ht.heap h.box hs.2.2.1, own_turn h.row ht hs.2.2.2, h.lt, Nat.le_trans h.size ht.size⟩
/-- What the closure leaves. -/
def SplOf (w : World) (B pl pn po : Nat) (A : Option Addr) (n : Nat) (out : List Nat) (w' : World) : Prop :=
  ∃ A' c', Spl w' B pl pn po A' c' n out ∧ Turn (pl :: pn :: po :: blkA A) w w' ∧ ∀ k ∈ blkA A', k ∈ blkA A ∨ w.heap.size ≤ k
set_option maxRecDepth 100000 in
set_option maxHeartbeats 4000000 in
theorem split1_any (w : World) (B pl pn po c n b : Nat) (i : Int) (st : Bool) (A : Option Addr) (out : List Nat) (h : Spl w B pl pn po A c n out) (hn : n ≤ 1000000) (hl : out.length ≤ 1000000) :
    Calls Tryz.prog 138 #[.int .i64 i, .int .u8 b, .bool st, .pointer (some ⟨pl, 0, none⟩), .pointer (some ⟨pn, 0, none⟩), .pointer (some ⟨po, 0, none⟩)] w fun e w' => e = .returned (.bool true) ∧ SplOf w B pl pn po A (if st then n + 1 else n) (if st then out else out ++ [b]) w' := by
  obtain ⟨i0, hi, hz0, hz1, hz2⟩ := info_parts info_u8
  obtain ⟨v, h1⟩ := h.last
  obtain ⟨n1, n2, n3, n4⟩ := h.ne
  have HH := Lib.hid h
  have HN4 := Lib.hid n4
  obtain ⟨q, hq⟩ : ∃ q, out.length = q := ⟨_, rfl⟩
  rw [hq] at hl
  have HQ := Lib.hid hq
  have cl : w.cell? ⟨pl, 0, none⟩ = some (.bool v) := cell_of_heap h1 0 _ rfl
  have zl : w.frozen? ⟨pl, 0, none⟩ = false := by simp [World.frozen?, h1]
  have cn : w.cell? ⟨pn, 0, none⟩ = some (.int .i64 n) := cell_of_heap h.num 0 _ rfl
  have zn : w.frozen? ⟨pn, 0, none⟩ = false := by simp [World.frozen?, h.num]
  have co : w.cell? ⟨po, 0, none⟩ = some (.slice A q c) := by rw [← hq]; exact cell_of_heap h.box 0 _ rfl
  have zo : w.frozen? ⟨po, 0, none⟩ = false := by simp [World.frozen?, h.box]
  have sl := heap_lt h1
  have sn := heap_lt h.num
  have so := heap_lt h.box
  have H1 := Lib.hid h1
  clear h h1 hq n4
  cases st
  · have t1 : Turn (pl :: pn :: po :: blkA A) w (w.setCell ⟨pl, 0, none⟩ (.bool false)) := (Turn.refl _ _).setCell (.inl (by simp)) _
    have ho1 : (w.setCell ⟨pl, 0, none⟩ (.bool false)).ownsRow B 5 1 (.slice A q c) q (bys out) := by
      have h2 := own_turn HH.out.row ((Turn.refl [pl] w).setCell (p := ⟨pl, 0, none⟩) (.inl (by simp)) (.bool false)) (fun k hk hm => by have := HN4.out k hk; have := HH.out.lt.1; simp at hm; omega)
      rwa [HQ.out] at h2
    have T1 := Lib.hid t1
    have HO1 := Lib.hid ho1
    have HBS : Hid (B ≤ ((w.setCell ⟨pl, 0, none⟩ (.bool false)).alloc (.cells #[.int .u8 b] 5)).heap.size) := by show _ ≤ _; have := HH.out.size; simp; omega
    have HP1 : Hid ((w.setCell ⟨pl, 0, none⟩ (.bool false)).heap[po]? = some (.cells #[.slice A q c] 22 (0, 0))) := by
      rw [← HQ.out]; exact ((Turn.refl [pl] w).setCell (p := ⟨pl, 0, none⟩) (.inl (by simp)) (.bool false)).heap HH.out.box (by simp; omega)
    have HPA : Hid (∀ k, k < B → k ∉ blkA A) := fun k hk hm => by have := HN4.out k hm; omega
    clear t1 ho1
    go_enter Tryz.func138, Tryz.ntmps138
    go_wp2_with (at_builtin; refine wpList_appN rfl (.tmp 14) (.tmp 16) 22 rfl B 5 i0 _ 1 1 Tryz.underlying22 hi hz0 hz1 hz2 rfl (by omega) A q c (bys out) (by kernel_rfl) (HO1.out.alloc _) (some ⟨w.heap.size, 0, none⟩) 1 1 (bys [b]) (by kernel_rfl) (Rd.blk (heap_new_at (by simp))) rfl (bys_one _) (fun h => by cases h) (by unfold maxLen; omega) (by omega) HBS.out ?_; intro w3 A3 c3 HO3 HT3 HF3; have q3 := HT3.out.heap (heap_push HP1.out) (HPA.out po HH.out.lt.2.2); have c3' := cell_of_heap q3 0 _ rfl; have z3 : w3.frozen? ⟨po, 0, none⟩ = false := by simp [World.frozen?, q3])
    go_ret
    have hlt := HH.out.lt
    have tA : Turn (pl :: pn :: po :: blkA A) w w3 := (T1.out.alloc _).tr (HT3.out.mono (fun x hx => .inl (by simp [hx])))
    have tB : Turn [po] w3 (w3.setCell ⟨po, 0, none⟩ (.slice A3 (q + 1 : Nat) c3)) := (Turn.refl _ _).setCell (.inl (by simp)) _
    have hsz3 := tA.size
    refine ⟨by first | rfl | simp, A3, c3, ⟨⟨false, ?_⟩, ?_, ?_, ?_, hlt, ?_⟩, tA.tr (tB.mono (fun x hx => .inl (by rw [List.mem_singleton.1 hx]; simp))), fun k hk => ?_⟩
    · have h2 := heap_setCell H1.out 0 (.bool false)
      exact tB.heap (HT3.out.heap (heap_push h2) (HPA.out pl hlt.1)) (by simp; omega)
    · exact tB.heap (HT3.out.heap (heap_push (((Turn.refl [pl] w).setCell (p := ⟨pl, 0, none⟩) (.inl (by simp)) (.bool false)).heap HH.out.num (by simp; omega))) (HPA.out pn hlt.2.1)) (by simp; omega)
    · have e : (out ++ [b]).length = q + 1 := by simp [HQ.out]
      rw [e]; exact heap_setCell q3 0 _
    · have e : (out ++ [b]).length = q + 1 := by simp [HQ.out]
      rw [e]
      have e2 : bys (out ++ [b]) = bys out ++ bys [b] := bys_append _ _
      rw [e2]
      exact own_turn HO3.out tB (fun k hk hm => by have := own_blk HO3.out k hk; simp at hm; omega)
    · have := HH.out.size; simp; omega
    · rcases HF3.out k hk with h3 | h3
      · exact .inl h3
      · exact .inr (by simp at h3; omega)
  · go_enter Tryz.func138, Tryz.ntmps138
    go_wp2_with fail
    go_ret
    have hlt := HH.out.lt
    have tL : Turn [pl] w (w.setCell ⟨pl, 0, none⟩ (.bool true)) := (Turn.refl _ _).setCell (.inl (by simp)) _
    have tN : Turn [pn] (w.setCell ⟨pl, 0, none⟩ (.bool true)) ((w.setCell ⟨pl, 0, none⟩ (.bool true)).setCell ⟨pn, 0, none⟩ (.int .i64 ((n : Int) + 1))) := (Turn.refl _ _).setCell (.inl (by simp)) _
    have tt : Turn [pl, pn] w ((w.setCell ⟨pl, 0, none⟩ (.bool true)).setCell ⟨pn, 0, none⟩ (.int .i64 ((n : Int) + 1))) := (tL.mono (fun x hx => .inl (by rw [List.mem_singleton.1 hx]; simp))).tr (tN.mono (fun x hx => .inl (by rw [List.mem_singleton.1 hx]; simp)))
    refine ⟨by first | rfl | simp, A, c, ⟨⟨true, tN.heap (heap_setCell H1.out 0 (.bool true)) (by simp; omega)⟩, heap_setCell (tL.heap HH.out.num (by simp; omega)) 0 _, tt.heap HH.out.box (by simp; omega), own_turn HH.out.row tt (fun k hk hm => by have := HN4.out k hk; simp at hm; omega), hlt, Nat.le_trans HH.out.size tt.size⟩, tt.mono (fun x hx => .inl (by simp at hx; rcases hx with h | h <;> simp [h])), fun k hk => .inl hk⟩
theorem turn_of_touch {b : Nat} {w w' : World} (h : Touch b b w w') : Turn [b] w w' := ⟨h.os, h.tape, h.output, h.size, fun k hk hm => h.block k hk (fun e => hm (by rw [e]; simp)) (fun e => hm (by rw [e]; simp))⟩
/-- What read answers and leaves. -/
def ReadOf (w : World) (B pl pn po : Nat) (F : Bool × Nat × List Nat) (e : Ending) (w' : World) : Prop :=
  e = .returned (.int .i64 (if F.1 then 0 else 4)) ∧ (∃ A' c', Spl w' B pl pn po A' c' F.2.1 F.2.2) ∧ Below (min pl (min pn po)) w w'
set_option maxRecDepth 100000 in
set_option maxHeartbeats 4000000 in
theorem read_any (w : World) (B pl pn po c0 n : Nat) (A0 A : Option Addr) (c : Nat) (l : List Nat) (h : Spl w B pl pn po A0 c0 0 []) (hr : Rd w A (bys l)) (hn : l.length = n) (hn2 : n ≤ 65536) (h01 : ∀ x ∈ l, x ≤ 1) (hA : ∀ ad, A = some ad → bys l ≠ [] → ad.block < B ∧ ad.block ≠ pl ∧ ad.block ≠ pn ∧ ad.block ≠ po) :
    Calls Tryz.prog 137 #[.slice A n c, .func (.func 138) #[] #[.pointer (some ⟨pl, 0, none⟩), .pointer (some ⟨pn, 0, none⟩), .pointer (some ⟨po, 0, none⟩)]] w (ReadOf w B pl pn po (splE 0 0 0 [] l)) := by
  have HH := Lib.hid h
  have HR := Lib.hid hr
  have HN := Lib.hid hn
  have H01 := Lib.hid h01
  have HA := Lib.hid hA
  obtain ⟨F, hF⟩ : ∃ F, splE 0 0 0 [] l = F := ⟨_, rfl⟩
  rw [hF]
  have HF := Lib.hid hF
  clear h hr hn h01 hA hF
  go_enter Tryz.func137, Tryz.ntmps137
  go_wp2_with fail
  have hlt := HH.out.lt
  have hsB := HH.out.size
  have HI0 : Hid (Spl (w.alloc (.cells #[.int .u8 0, .int .i64 0] 75)) B pl pn po A0 c0 0 []) := HH.out.below (below_alloc (Below.refl _ _) _)
  have HR0 : Hid (Rd (w.alloc (.cells #[.int .u8 0, .int .i64 0] 75)) A (bys l)) := HR.out.alloc _
  have HP0 : Hid ((w.alloc (.cells #[.int .u8 0, .int .i64 0] 75)).heap[w.heap.size]? = some (.cells #[.int .u8 ((0 : Nat) : Int), .int .i64 ((0 : Nat) : Int)] 75)) := heap_new_at rfl
  have HB0 : Hid (Below (min pl (min pn po)) w (w.alloc (.cells #[.int .u8 0, .int .i64 0] 75))) := (Below.refl _ _).alloc (by omega) _
  go_loopw [11] (fun iv wr => ∃ (k last run m : Nat) (A' : Option Addr) (c' : Nat) (out : List Nat), k ≤ n ∧ iv = .int .i64 k ∧ run ≤ 5 ∧ last ≤ 1 ∧ m ≤ k ∧ out.length ≤ k ∧ Hid (splE last run m out (l.drop k) = F) ∧ Hid (Spl wr B pl pn po A' c' m out) ∧ Hid (Rd wr A (bys l)) ∧ Hid (wr.heap[w.heap.size]? = some (.cells #[.int .u8 last, .int .i64 run] 75)) ∧ Hid (Below (min pl (min pn po)) w wr)) (fun iv _ => n - (intOf iv).toNat)
  case atStart => exact ⟨0, 0, 0, 0, A0, c0, [], by omega, rfl, by omega, by omega, by omega, by simp, HF, HI0, HR0, HP0, HB0⟩
  case round =>
    obtain ⟨k, last, run, m, A', c', out, hk, rfl, hrun, hlast, hmk, hok, HM, HI, HRD, HP, HB⟩ := hrel
    clear HI0 HR0 HP0 HB0
    by_cases hkn : k < n
    · have hkl : k < l.length := by rw [HN.out]; exact hkn
      obtain ⟨ad, hA', ca⟩ := HRD.out.at_ k hkl
      have hx := H01.out l[k] (List.getElem_mem hkl)
      have hd : l.drop k = l[k] :: l.drop (k + 1) := List.drop_eq_getElem_cons hkl
      have hne : bys l ≠ [] := fun e => by
        have h1 : (bys l).length = 0 := by rw [e]; rfl
        rw [bys_length] at h1; omega
      obtain ⟨x, hxe⟩ : ∃ x, l[k] = x := ⟨_, rfl⟩
      rw [hxe] at ca hx hd
      have hm := HM.out
      rw [hd, splE] at hm
      subst hA'
      have had := HA.out ad rfl hne
      have HFU := Lib.hid (full_any w.heap.size last run 75 wr HP.out)
      have c0 : wr.cell? ⟨w.heap.size, 0, none⟩ = some (.int .u8 last) := cell_of_heap HP.out 0 _ rfl
      obtain ⟨fu, hfu⟩ : ∃ fu, decide (run = 5) = fu := ⟨_, rfl⟩
      rw [hfu] at HFU
      have HFD := Lib.hid hfu
      have hpsw : w.heap.size < wr.heap.size := heap_lt HP.out
      clear hd hxe hfu
      by_cases hbad : run = 5 ∧ x = last
      · rw [if_pos hbad] at hm
        obtain ⟨h5, rfl⟩ := hbad
        have hfu : fu = true := by rw [← HFD.out, decide_eq_true h5]
        subst hfu
        have HM2 := Lib.hid hm
        clear hm
        go_wp2_with fail
        refine HFU.out.mono ?_
        rintro e _ ⟨rfl, rfl⟩
        go_wp2_with fail
        go_ret
        rw [← HM2.out]
        exact ⟨by first | rfl | simp, ⟨A', c', HI.out⟩, HB.out⟩
      · rw [if_neg hbad] at hm
        have HSE := Lib.hid (see_any w.heap.size last run x 75 wr HP.out (by omega))
        have hsl : seeL last run x = x := by unfold seeL; split <;> omega
        rw [hsl] at HSE
        have hrun2 : seeN last run x ≤ 5 := by unfold seeN; split <;> omega
        have hnx : fu = true → ¬ (x : Int) = (last : Int) := fun h => by rw [← HFD.out] at h; have := of_decide_eq_true h; omega
        have HM2 := Lib.hid hm
        clear hm hbad hsl
        have hcommon : ∀ w4, Touch w.heap.size w.heap.size wr w4 → Hid (Spl w4 B pl pn po A' c' m out) ∧ Hid (Rd w4 (some ad) (bys l)) ∧ Hid (Below (min pl (min pn po)) w w4) := fun w4 ht => by
          have t := turn_of_touch ht
          have hneA : ∀ j ∈ blkA A', j ≠ w.heap.size := fun j hj e => by
            rcases HI.out.row.2 with ⟨hv, -⟩ | ⟨g, cap, cur, hv, hg, hh, -⟩
            · injection hv with hv; subst hv; simp [blkA] at hj
            · injection hv with hv; subst hv
              rw [List.mem_singleton.1 hj] at e
              dsimp only at e
              exact ne_of_type hh HP.out (by decide) e
          refine ⟨HI.out.turn t ⟨by simp; omega, by simp; omega, by simp; omega, fun j hj hm => hneA j hj (by simpa using hm)⟩, HRD.out.turn t (fun a e hm => by injection e with e; subst e; simp at hm; omega), HB.out.trans (t.below (fun j hj => by simp at hj; omega) (by omega))⟩
        cases fu
        · have hr5 : ¬ run = 5 := of_decide_eq_false HFD.out
          have hm3 := HM2.out
          rw [if_neg hr5, if_neg hr5] at hm3
          have HM3 := Lib.hid hm3
          clear hm3 hnx
          go_wp2_with fail
          refine HFU.out.mono ?_
          rintro e _ ⟨rfl, rfl⟩
          go_wp2_with fail
          refine HSE.out.mono ?_
          rintro e w4 ⟨rfl, hp4, ht4⟩
          obtain ⟨HI4, HR4, HB4⟩ := hcommon w4 ht4
          have HP4 := Lib.hid hp4
          clear hcommon hp4 ht4
          go_wp2_with fail
          refine (split1_any w4 B pl pn po c' m x k false A' out HI4.out (by omega) (by omega)).mono ?_
          rintro e w5 ⟨rfl, A5, c5, h5, t5, hf5⟩
          have hsz4 : w.heap.size < w4.heap.size := heap_lt HP4.out
          have hnp : w.heap.size ∉ pl :: pn :: po :: blkA A' := fun hm => by
            simp only [List.mem_cons] at hm
            rcases hm with h1 | h1 | h1 | h1
            · omega
            · omega
            · omega
            · rcases HI4.out.row.2 with ⟨hv, -⟩ | ⟨g, cap, cur, hv, hg, hh, -⟩
              · injection hv with hv; subst hv; simp [blkA] at h1
              · injection hv with hv; subst hv
                have e1 := List.mem_singleton.1 h1
                dsimp only at e1
                rw [← e1] at hh
                exact ne_of_type hh HP4.out (by decide) rfl
          have HI5 := Lib.hid h5
          have HP5 := Lib.hid (t5.heap HP4.out hnp)
          have HR5 : Hid (Rd w5 (some ad) (bys l)) := HR4.out.turn t5 (fun a e hm => by
            injection e with e; subst e
            simp only [List.mem_cons] at hm
            rcases hm with h1 | h1 | h1 | h1
            · omega
            · omega
            · omega
            · have := own_blk HI4.out.row _ h1; omega)
          have HB5 : Hid (Below (min pl (min pn po)) w w5) := HB4.out.trans (t5.below (fun j hj => by
            simp only [List.mem_cons] at hj
            rcases hj with h1 | h1 | h1 | h1
            · omega
            · omega
            · omega
            · have := own_blk HI4.out.row _ h1; omega) (by omega))
          clear h5 t5 hf5 hnp
          go_wp2_with fail
          go_roundw
          case rel => exact ⟨k + 1, x, seeN last run x, m, A5, c5, out ++ [x], by omega, by go_num, hrun2, hx, by omega, by rw [List.length_append, List.length_singleton]; omega, HM3, HI5, HR5, HP5, HB5⟩
          case measure => simp [intOf]; omega
        · have hr5 : run = 5 := of_decide_eq_true HFD.out
          have hm3 := HM2.out
          rw [if_pos hr5, if_pos hr5] at hm3
          have HM3 := Lib.hid hm3
          have hnx2 := hnx rfl
          clear hm3 hnx
          go_wp2_with fail
          refine HFU.out.mono ?_
          rintro e _ ⟨rfl, rfl⟩
          go_wp2_with fail
          refine HSE.out.mono ?_
          rintro e w4 ⟨rfl, hp4, ht4⟩
          obtain ⟨HI4, HR4, HB4⟩ := hcommon w4 ht4
          have HP4 := Lib.hid hp4
          clear hcommon hp4 ht4
          go_wp2_with fail
          refine (split1_any w4 B pl pn po c' m x k true A' out HI4.out (by omega) (by omega)).mono ?_
          rintro e w5 ⟨rfl, A5, c5, h5, t5, hf5⟩
          have hsz4 : w.heap.size < w4.heap.size := heap_lt HP4.out
          have hnp : w.heap.size ∉ pl :: pn :: po :: blkA A' := fun hm => by
            simp only [List.mem_cons] at hm
            rcases hm with h1 | h1 | h1 | h1
            · omega
            · omega
            · omega
            · rcases HI4.out.row.2 with ⟨hv, -⟩ | ⟨g, cap, cur, hv, hg, hh, -⟩
              · injection hv with hv; subst hv; simp [blkA] at h1
              · injection hv with hv; subst hv
                have e1 := List.mem_singleton.1 h1
                dsimp only at e1
                rw [← e1] at hh
                exact ne_of_type hh HP4.out (by decide) rfl
          have HI5 := Lib.hid h5
          have HP5 := Lib.hid (t5.heap HP4.out hnp)
          have HR5 : Hid (Rd w5 (some ad) (bys l)) := HR4.out.turn t5 (fun a e hm => by
            injection e with e; subst e
            simp only [List.mem_cons] at hm
            rcases hm with h1 | h1 | h1 | h1
            · omega
            · omega
            · omega
            · have := own_blk HI4.out.row _ h1; omega)
          have HB5 : Hid (Below (min pl (min pn po)) w w5) := HB4.out.trans (t5.below (fun j hj => by
            simp only [List.mem_cons] at hj
            rcases hj with h1 | h1 | h1 | h1
            · omega
            · omega
            · omega
            · have := own_blk HI4.out.row _ h1; omega) (by omega))
          clear h5 t5 hf5 hnp
          go_wp2_with fail
          go_roundw
          case rel => exact ⟨k + 1, x, seeN last run x, m + 1, A5, c5, out, by omega, by go_num, hrun2, hx, by omega, by omega, HM3, HI5, HR5, HP5, HB5⟩
          case measure => simp [intOf]; omega
    · obtain rfl : n = k := by omega
      have hm := HM.out
      rw [← HN.out, List.drop_length, splE] at hm
      have HM2 := Lib.hid hm
      clear hm
      go_wp2_with fail
      go_ret
      rw [← HM2.out]
      exact ⟨by first | rfl | simp, ⟨A', c', HI.out⟩, HB.out⟩
/-- The three variables that split answers from. -/
structure SplW (w W : World) (u v x : Value) : Prop where
  h0 : W.heap[w.heap.size]? = some (.cells #[u] 22 (0, 0))
  h1 : W.heap[w.heap.size + 1]? = some (.cells #[v] 3 (0, 0))
  h2 : W.heap[w.heap.size + 1 + 1]? = some (.cells #[x] 4 (0, 0))
  below : Below w.heap.size w W
theorem SplW.set0 {w W : World} {u v x : Value} (h : SplW w W u v x) : SplW w (W.setCell ⟨w.heap.size, 0, none⟩ u) u v x := by
  have t : Turn [w.heap.size] W (W.setCell ⟨w.heap.size, 0, none⟩ u) := (Turn.refl _ _).setCell (.inl (by simp)) _
  exact ⟨heap_setCell h.h0 0 u, t.heap h.h1 (by simp), t.heap h.h2 (by simp; omega), h.below.setCell (by simp) _⟩
theorem SplW.set1 {w W : World} {u v x : Value} (h : SplW w W u v x) : SplW w (W.setCell ⟨w.heap.size + 1, 0, none⟩ v) u v x := by
  have t : Turn [w.heap.size + 1] W (W.setCell ⟨w.heap.size + 1, 0, none⟩ v) := (Turn.refl _ _).setCell (.inl (by simp)) _
  exact ⟨t.heap h.h0 (by simp), heap_setCell h.h1 0 v, t.heap h.h2 (by simp), h.below.setCell (by simp) _⟩
theorem SplW.set2 {w W : World} {u v x : Value} (h : SplW w W u v x) : SplW w (W.setCell ⟨w.heap.size + 1 + 1, 0, none⟩ x) u v x := by
  have t : Turn [w.heap.size + 1 + 1] W (W.setCell ⟨w.heap.size + 1 + 1, 0, none⟩ x) := (Turn.refl _ _).setCell (.inl (by simp)) _
  exact ⟨t.heap h.h0 (by simp; omega), t.heap h.h1 (by simp), heap_setCell h.h2 0 x, h.below.setCell (by simp; omega) _⟩
theorem SplW.drew {w W : World} {u v x : Value} (h : SplW w W u v x) : SplW w W.drew u v x := ⟨h.h0, h.h1, h.h2, h.below.drew⟩
structure ExtC (w : World) (u v x : Value) where
  W : World
  h : SplW w W u v x
/-- What split answers. -/
def SplitOf (w : World) (F : Bool × Nat × List Nat) (e : Ending) (w' : World) : Prop := (∃ (A : Option Addr) (k c : Nat) (v : Bool), e = .returned (.tuple #[.slice A k c, .int .i64 F.2.1, .bool v, .int .i64 (if F.1 then 0 else 4)])) ∧ Below w.heap.size w w'
set_option maxRecDepth 100000 in
set_option maxHeartbeats 4000000 in
theorem split_any (w : World) (A : Option Addr) (c n : Nat) (l : List Nat) (hr : Rd w A (bys l)) (hn : l.length = n) (hn2 : n ≤ 65536) (h01 : ∀ x ∈ l, x ≤ 1) :
    Calls Tryz.prog 135 #[.slice A n c] w (SplitOf w (splE 0 0 0 [] l)) := by
  have hok : bitsOk l = true := by unfold bitsOk; rw [decide_eq_true (by omega : l.length ≤ 65536), decide_eq_true h01]; rfl
  have HC := Lib.hid (fun W hW => BitsCheck_any A n c l W hW hn (by omega))
  rw [hok] at HC
  have HR := Lib.hid hr
  have HRE := Lib.hid (fun W B pl pn po h hW hA => read_any W B pl pn po 0 n none A c l h hW hn hn2 h01 hA)
  generalize splE 0 0 0 [] l = F at *
  obtain ⟨ok, m, out⟩ := F
  clear hok hr hn h01
  go_enter Tryz.func135, Tryz.ntmps135
  go_wp2_with fail
  refine calls_blk3 fun W1 q1 q2 q3 hb1 => ?_
  refine (HC.out W1 (HR.out.below hb1)).mono ?_
  rintro e _ ⟨rfl, rfl⟩
  simp only [if_true]
  have hs1 : w.heap.size + 2 < W1.heap.size := heap_lt q3
  have hSP : Spl W1 (w.heap.size + 3) (w.heap.size + 2) (w.heap.size + 1) w.heap.size none 0 0 [] := ⟨⟨false, q3⟩, q2, q1, ⟨by simp [bys], .inl ⟨rfl, rfl⟩⟩, by omega, by omega⟩
  have HSP := Lib.hid hSP
  have HB1 := Lib.hid hb1
  have HR1 := Lib.hid (HR.out.below hb1)
  have HAA : Hid (∀ ad, A = some ad → bys l ≠ [] → ad.block < w.heap.size + 3 ∧ ad.block ≠ w.heap.size + 2 ∧ ad.block ≠ w.heap.size + 1 ∧ ad.block ≠ w.heap.size) := fun ad e hne => by
    obtain ⟨v, vs, hv⟩ : ∃ v vs, bys l = v :: vs := by cases h : bys l with | nil => exact absurd h hne | cons v vs => exact ⟨v, vs, rfl⟩
    obtain ⟨ad', e', hc⟩ := HR.out 0 v (by rw [hv]; rfl)
    rw [e] at e'; injection e' with e'; subst e'
    have := cell_lt hc
    rw [block_of_add] at this
    omega
  clear hSP hb1 q1 q2 q3
  go_wp2_with fail
  refine (HRE.out W1 (w.heap.size + 3) (w.heap.size + 1 + 1) (w.heap.size + 1) w.heap.size HSP.out HR1.out HAA.out).mono ?_
  rintro e w2 ⟨rfl, ⟨A2, c2, h2⟩, hb2⟩
  have hb2' : Below w.heap.size W1 w2 := hb2.mono (by omega)
  have HB2 := Lib.hid (HB1.out.trans hb2')
  obtain ⟨v, hv⟩ := h2.last
  obtain ⟨ec, hec⟩ : ∃ ec : Int, (if ok = true then 0 else 4) = ec := ⟨_, rfl⟩
  dsimp only at h2
  have q1 := h2.box
  have q2 := h2.num
  obtain ⟨k, hk⟩ : ∃ k, out.length = k := ⟨_, rfl⟩
  rw [hk] at q1
  have HS2 : Hid (SplW w w2 (.slice A2 k c2) (.int .i64 m) (.bool v)) := ⟨q1, q2, hv, HB2.out⟩
  rw [hec]
  clear q1 q2 h2 hv hb2 hb2' hk hs1
  have b1 : ∀ e : ExtC w (.slice A2 k c2) (.int .i64 m) (.bool v), e.W.cell? ⟨w.heap.size, 0, none⟩ = some (.slice A2 k c2) := fun e => cell_of_heap e.h.h0 0 _ rfl
  have b2 : ∀ e : ExtC w (.slice A2 k c2) (.int .i64 m) (.bool v), e.W.cell? ⟨w.heap.size + 1, 0, none⟩ = some (.int .i64 m) := fun e => cell_of_heap e.h.h1 0 _ rfl
  have b3 : ∀ e : ExtC w (.slice A2 k c2) (.int .i64 m) (.bool v), e.W.cell? ⟨w.heap.size + 1 + 1, 0, none⟩ = some (.bool v) := fun e => cell_of_heap e.h.h2 0 _ rfl
  haveI : Nonempty (ExtC w (.slice A2 k c2) (.int .i64 m) (.bool v)) := ⟨⟨w2, HS2.out⟩⟩
  go_wp2_with fail
  refine wp_region_mix (fun w' => ∃ e : ExtC w (.slice A2 k c2) (.int .i64 m) (.bool v), w' = e.W) [(true, 0), (true, 1), (true, 2), (true, 3), (false, 4), (false, 5), (false, 6), (true, 7)] [] (by kernel_rfl) (by kernel_rfl) (by intro _ _ d _ _ h; cases d <;> exact h) ⟨⟨w2.drew, HS2.out.drew⟩, rfl⟩ ?_
  simp only [pickM, pickL, List.drop_succ_cons, List.drop_zero]
  repeat (refine mix_pure (by rfl) (by rfl) ?_; intro K hK; go_big_quiet_op; go_big_quiet_on)
  obtain ⟨V, hV⟩ : ∃ V, w2.drew = V := ⟨_, rfl⟩
  have HV : Hid (SplW w V (.slice A2 k c2) (.int .i64 m) (.bool v)) := by rw [← hV]; exact HS2.out.drew
  rw [hV]
  have c0 : V.cell? ⟨w.heap.size, 0, none⟩ = some (.slice A2 k c2) := cell_of_heap HV.out.h0 0 _ rfl
  have z0 : V.frozen? ⟨w.heap.size, 0, none⟩ = false := by simp [World.frozen?, HV.out.h0]
  clear hV
  refine mix_eff (by rfl) ?_
  intro K hK
  go_simp
  refine hK _ _ ⟨⟨_, HV.out.set0⟩, rfl⟩ ?_
  clear hK K c0 z0
  obtain ⟨V1, hV1⟩ : ∃ V1, V.setCell ⟨w.heap.size, 0, none⟩ (.slice A2 k c2) = V1 := ⟨_, rfl⟩
  have HV1 : Hid (SplW w V1 (.slice A2 k c2) (.int .i64 m) (.bool v)) := by rw [← hV1]; exact HV.out.set0
  rw [hV1]
  have c0 : V1.cell? ⟨w.heap.size + 1, 0, none⟩ = some (.int .i64 m) := cell_of_heap HV1.out.h1 0 _ rfl
  have z0 : V1.frozen? ⟨w.heap.size + 1, 0, none⟩ = false := by simp [World.frozen?, HV1.out.h1]
  clear hV1
  refine mix_eff (by rfl) ?_
  intro K hK
  go_simp
  refine hK _ _ ⟨⟨_, HV1.out.set1⟩, rfl⟩ ?_
  clear hK K c0 z0
  obtain ⟨V2, hV2⟩ : ∃ V2, V1.setCell ⟨w.heap.size + 1, 0, none⟩ (.int .i64 m) = V2 := ⟨_, rfl⟩
  have HV2 : Hid (SplW w V2 (.slice A2 k c2) (.int .i64 m) (.bool v)) := by rw [← hV2]; exact HV1.out.set1
  rw [hV2]
  have c0 : V2.cell? ⟨w.heap.size + 1 + 1, 0, none⟩ = some (.bool v) := cell_of_heap HV2.out.h2 0 _ rfl
  have z0 : V2.frozen? ⟨w.heap.size + 1 + 1, 0, none⟩ = false := by simp [World.frozen?, HV2.out.h2]
  clear hV2
  refine mix_eff (by rfl) ?_
  intro K hK
  go_simp
  refine hK _ _ ⟨⟨_, HV2.out.set2⟩, rfl⟩ ?_
  clear hK K c0 z0
  repeat (refine mix_pure (by rfl) (by rfl) ?_; intro K hK; go_big_quiet_op; go_big_quiet_on)
  refine mix_nil (wpList_nil ?_)
  obtain ⟨V3, hV3⟩ : ∃ V3, V2.setCell ⟨w.heap.size + 1 + 1, 0, none⟩ (.bool v) = V3 := ⟨_, rfl⟩
  have HV3 : Hid (SplW w V3 (.slice A2 k c2) (.int .i64 m) (.bool v)) := by rw [← hV3]; exact HV2.out.set2
  rw [hV3]
  have d0 : V3.cell? ⟨w.heap.size, 0, none⟩ = some (.slice A2 k c2) := cell_of_heap HV3.out.h0 0 _ rfl
  have d1 : V3.cell? ⟨w.heap.size + 1, 0, none⟩ = some (.int .i64 m) := cell_of_heap HV3.out.h1 0 _ rfl
  have d2 : V3.cell? ⟨w.heap.size + 1 + 1, 0, none⟩ = some (.bool v) := cell_of_heap HV3.out.h2 0 _ rfl
  clear hV3 b1 b2 b3
  go_wp2_with fail
  refine bodyPost_ret (v := .tuple #[.slice A2 k c2, .int .i64 m, .bool v, .int .i64 ec]) (by simp [results, Tryz.results135, go_sem, *]) rfl ⟨⟨A2, k, c2, v, by rw [← hec]⟩, HV3.out.below⟩
set_option maxHeartbeats 4000000 in
theorem Count_any (w : World) (A : Option Addr) (c n : Nat) (l : List Nat) (hr : Rd w A (bys l)) (hn : l.length = n) (hn2 : n ≤ 65536) (h01 : ∀ x ∈ l, x ≤ 1) :
    Calls Tryz.prog 130 #[.slice A n c] w fun e w' => e = .returned (.tuple #[.int .i64 (if (splE 0 0 0 [] l).1 then (splE 0 0 0 [] l).2.1 else 0 : Nat), .int .i64 (if (splE 0 0 0 [] l).1 then 0 else 4)]) ∧ Below w.heap.size w w' := by
  have HS := Lib.hid (split_any w A c n l hr hn hn2 h01)
  generalize splE 0 0 0 [] l = F at *
  obtain ⟨ok, m, out⟩ := F
  clear hr hn h01
  cases ok
  all_goals
    go_enter Tryz.func130, Tryz.ntmps130
    go_wp2_with fail
    refine HS.out.mono ?_
    rintro e w1 ⟨⟨A2, k, c2, v, rfl⟩, hb⟩
    have HB := Lib.hid hb
    clear hb
    simp only [Bool.false_eq_true, if_false, if_true]
    go_wp2_with fail
    go_ret2
    exact ⟨by first | rfl | simp, HB.out⟩
end Go.Proofs.YtlmdkmflbhnlgaaGreat
-- Frame: What the functions of layer 5 (frame) answer: sizes, codes, and which frames may be. No condition.
namespace Go.Proofs.YtlmdkmflbhnlgaaGreat
open Go.RowKit

theorem isNaN_cmp (n : Int) (w : World) : Calls Tryz.prog 111 #[.int .i64 n] w fun e w' => e = .returned (.bool false) ∧ w = w' := by
  go_enter Tryz.func111, Tryz.ntmps111
  go_wp2
  go_ret
  exact ⟨by simp, rfl⟩
theorem isNaN_slices (n : Int) (w : World) : Calls Tryz.prog 100 #[.int .i64 n] w fun e w' => e = .returned (.bool false) ∧ w = w' := by
  go_enter Tryz.func100, Tryz.ntmps100
  go_wp2
  go_ret
  exact ⟨by simp, rfl⟩
theorem less_int (a b : Int) (w : World) : Calls Tryz.prog 99 #[.int .i64 a, .int .i64 b] w fun e w' => e = .returned (.bool (decide (a < b))) ∧ w = w' := by
  go_enter Tryz.func99, Tryz.ntmps99
  go_wp2_with (go_at_call 111; refine (isNaN_cmp _ _).mono ?_; rintro e w' ⟨rfl, rfl⟩)
  go_ret
  exact ⟨by simp, rfl⟩

/-- The first place of a rising list whose number isn't less. -/
def lb (l : List Int) (n : Int) : Nat := (l.takeWhile (· < n)).length
theorem lb_le (l : List Int) (n : Int) : lb l n ≤ l.length := by
  unfold lb; induction l with
  | nil => simp
  | cons x l ih => simp only [List.takeWhile_cons]; split <;> simp; omega
theorem lb_eq (l : List Int) (n : Int) (i : Nat) (hi : i ≤ l.length) (h1 : ∀ k (h : k < l.length), k < i → l[k] < n) (h2 : ∀ k (h : k < l.length), i ≤ k → n ≤ l[k]) : lb l n = i := by
  unfold lb
  induction l generalizing i with
  | nil => simp at hi; simp [hi]
  | cons x l ih =>
    cases i with
    | zero => have := h2 0 (by simp) (by omega); simp at this; simp [show ¬ x < n by omega]
    | succ i =>
      have := h1 0 (by simp) (by omega); simp at this
      simp [this]
      exact ih i (by simpa using hi) (fun k h hk => by have := h1 (k + 1) (by simpa using h) (by omega); simpa using this) (fun k h hk => by have := h2 (k + 1) (by simpa using h) (by omega); simpa using this)
set_option maxHeartbeats 400000 in
theorem bsearch_any (A : Option Addr) (c : Nat) (l : List Int) (n : Int) (w : World) (hr : Rd w A (ins l)) (hl : l.length ≤ 1000000) (hs : ∀ i k (hi : i < l.length) (hk : k < l.length), i ≤ k → l[i] ≤ l[k]) :
    Calls Tryz.prog 76 #[.slice A l.length c, .int .i64 n] w fun e w' => e = .returned (.tuple #[.int .i64 (lb l n : Int), .bool (decide (l[lb l n]? = some n))]) ∧ w = w' := by
  go_enter Tryz.func76, Tryz.ntmps76
  go_wp2_with fail
  go_loop [7, 8] (fun u v => ∃ i j : Nat, i ≤ j ∧ j ≤ l.length ∧ (∀ k (h : k < l.length), k < i → l[k] < n) ∧ (∀ k (h : k < l.length), j ≤ k → n ≤ l[k]) ∧ u = .int .i64 i ∧ v = .int .i64 j) (fun u v => ((intOf v) - (intOf u)).toNat)
  case atStart => exact ⟨0, l.length, by omega, by omega, by omega, by omega, rfl, rfl⟩
  case round =>
    obtain ⟨i, j, hij, hjl, h1, h2, rfl, rfl⟩ := hrel
    by_cases hlt : i < j
    · have hm : (i + j) / 2 < l.length := by omega
      obtain ⟨ad, rfl, hc⟩ := hr ((i + j) / 2) (.int .i64 l[(i + j) / 2]) (by simp [ins, hm])
      by_cases hx : l[(i + j) / 2] < n
      all_goals
        go_wp2_with (go_at_call 99; refine (less_int _ _ _).mono ?_; rintro e w' ⟨rfl, rfl⟩)
        go_round
        case measure => simp [intOf]; omega
      · refine ⟨(i + j) / 2 + 1, j, by omega, hjl, fun k h hk => ?_, h2, by go_num, rfl⟩
        have := hs k ((i + j) / 2) h hm (by omega)
        omega
      · refine ⟨i, (i + j) / 2, by omega, by omega, h1, fun k h hk => ?_, rfl, by go_num⟩
        have := hs ((i + j) / 2) k hm h hk
        omega
    · have hij' : j = i := by omega
      subst hij'
      have hlb := Lib.hid (lb_eq l n j hjl h1 h2)
      by_cases hin : j < l.length
      · obtain ⟨ad, rfl, hc⟩ := hr j (.int .i64 l[j]) (by simp [ins, hin])
        have hle := h2 j hin (Nat.le_refl _)
        by_cases hx : l[j] = n
        · have hb : (l[j] == n) = true := by simp [hx]
          clear hx
          go_wp2_with (go_at_call 100; refine (isNaN_slices _ _).mono ?_; rintro e w' ⟨rfl, rfl⟩)
          go_ret2
          exact ⟨by rw [hlb.out]; simp at hb; simp [hin, hb], rfl⟩
        · have hb : (l[j] == n) = false := by simp [hx]
          go_wp2_with (go_at_call 100; refine (isNaN_slices _ _).mono ?_; rintro e w' ⟨rfl, rfl⟩)
          go_ret2
          exact ⟨by rw [hlb.out]; simp [hin, hx], rfl⟩
      · go_wp2_with (go_at_call 100; refine (isNaN_slices _ _).mono ?_; rintro e w' ⟨rfl, rfl⟩)
        go_ret2
        exact ⟨by rw [hlb.out]; simp [hin], rfl⟩

/-! ### the sizes of a kind -/
def fdSizes : List Int := [0, 1, 2, 3, 4, 5, 6, 7, 8, 12, 16, 20, 24, 32, 48, 64]
theorem fdSizes_rise : ∀ i k (hi : i < fdSizes.length) (hk : k < fdSizes.length), i ≤ k → fdSizes[i] ≤ fdSizes[k] := by
  have h : ∀ k : Fin 16, ∀ i : Fin 16, i.val ≤ k.val → fdSizes[i.val]'i.isLt ≤ fdSizes[k.val]'k.isLt := by decide
  exact fun i k hi hk hik => h ⟨k, hk⟩ ⟨i, hi⟩ hik
/-- What kinds but FD have: the bounds of a row without gaps. -/
def loOf (k : Int) : Int := if k = 1 then 0 else 1
def hiOf (k : Int) : Int := if k = 1 then 8 else if k = 3 then 2048 else 0
set_option maxHeartbeats 400000 in
theorem of_other (k : Int) (w : World) (h : k ≠ 2) :
    Calls Tryz.prog 75 #[.int .i64 k] w fun e w' => e = .returned (.agg #[.slice none 0 0, .int .i64 (loOf k), .int .i64 (hiOf k)]) ∧ Below w.heap.size w w' := by
  have h2 : (k == 2) = false := by simp [h]
  by_cases h1 : k = 1
  · subst h1
    clear h h2
    go_enter Tryz.func75, Tryz.ntmps75
    go_wp2
    exact bodyPost_ret (v := .agg #[.slice none 0 0, .int .i64 0, .int .i64 8]) (by simp [results, Tryz.results75, go_sem]) rfl ⟨rfl, ((Below.refl _ _).alloc (Nat.le_refl _) _)⟩
  · by_cases h3 : k = 3
    · subst h3
      clear h h2 h1
      go_enter Tryz.func75, Tryz.ntmps75
      go_wp2
      exact bodyPost_ret (v := .agg #[.slice none 0 0, .int .i64 1, .int .i64 2048]) (by simp [results, Tryz.results75, go_sem]) rfl ⟨rfl, ((Below.refl _ _).alloc (Nat.le_refl _) _)⟩
    · have hl : loOf k = 1 := by simp [loOf, h1]
      have hh : hiOf k = 0 := by simp [hiOf, h1, h3]
      rw [hl, hh]
      have h1' : (k == 1) = false := by simp [h1]
      have h3' : (k == 3) = false := by simp [h3]
      clear h h1 h3 hl hh
      go_enter Tryz.func75, Tryz.ntmps75
      go_wp2
      exact bodyPost_ret (v := .agg #[.slice none 0 0, .int .i64 1, .int .i64 0]) (by simp [results, Tryz.results75, go_sem]) rfl ⟨rfl, ((Below.refl _ _).alloc (Nat.le_refl _) _)⟩
set_option maxHeartbeats 400000 in
theorem of_fd (w : World) :
    Calls Tryz.prog 75 #[.int .i64 2] w fun e w' => ∃ ad, e = .returned (.agg #[.slice (some ad) 16 16, .int .i64 0, .int .i64 0]) ∧ Rd w' (some ad) (ins fdSizes) ∧ Below w.heap.size w w' := by
  go_enter Tryz.func75, Tryz.ntmps75
  go_wp2
  refine bodyPost_ret (v := .agg #[.slice (some ⟨w.heap.size + 1, 0, none⟩) 16 16, .int .i64 0, .int .i64 0]) (by simp [results, Tryz.results75, go_sem]) rfl ⟨_, rfl, ?_, below_alloc ((Below.refl _ _).alloc (Nat.le_refl _) _) _⟩
  refine Rd.blk (cs := (ins fdSizes).toArray) (t := 3) (fr := (0, 0)) ?_
  exact heap_new_at (by simp)
end Go.Proofs.YtlmdkmflbhnlgaaGreat
namespace Go.Proofs.YtlmdkmflbhnlgaaGreat
open Go.RowKit


/-! ### codes -/
/-- A size's code; none: there is none. -/
def codeF (k n : Int) : Option Int :=
  if k = 2 then (if fdSizes[lb fdSizes n]? = some n then some (lb fdSizes n : Int) else none)
  else if loOf k ≤ n ∧ n ≤ hiOf k then some (n - loOf k) else none
/-- What a size's code is told as: the code, and the error. -/
def codeV (o : Option Int) : Value := .tuple #[.int .i64 (o.getD 0), .int .i64 (if o.isSome then 0 else 2)]

/-- What a size's code is told as, within layer 5: the code, and whether there is one. -/
def CodeB (o : Option Int) (e : Ending) : Prop := ∃ c b, e = .returned (.tuple #[.int .i64 c, .bool b]) ∧ ((b = true ∧ o = some c) ∨ (b = false ∧ o = none))
set_option maxHeartbeats 400000 in
theorem sizes_code_other (k n : Int) (w : World) (hk : k ≠ 2) (h0 : 0 ≤ n) (h1 : n ≤ 9223372036854775807) :
    Calls Tryz.prog 54 #[.agg #[.slice none 0 0, .int .i64 (loOf k), .int .i64 (hiOf k)], .int .i64 n] w fun e w' => CodeB (codeF k n) e ∧ Below w.heap.size w w' := by
  have hl : 0 ≤ loOf k ∧ loOf k ≤ 1 := by unfold loOf; split <;> omega
  obtain ⟨hl0, hl1⟩ := hl
  have hf : codeF k n = if loOf k ≤ n ∧ n ≤ hiOf k then some (n - loOf k) else none := by simp [codeF, hk]
  generalize codeF k n = o at *
  generalize loOf k = lo at *
  generalize hiOf k = hi at *
  have HF := Lib.hid hf
  clear hf hk
  by_cases hc : lo ≤ n
  · by_cases hd : n ≤ hi
    all_goals
      go_enter Tryz.func54, Tryz.ntmps54
      go_wp2
      go_quiet (fail)
      go_wp2
      go_ret2
      exact ⟨⟨_, _, rfl, by rw [HF.out]; simp [hc, hd]⟩, below_drewN (below_alloc (Below.refl _ _) _) _⟩
  · have hc' : decide (lo ≤ n) = false := by simp [hc]
    go_enter Tryz.func54, Tryz.ntmps54
    go_wp2
    go_quiet (fail)
    go_wp2
    go_ret2
    exact ⟨⟨_, _, rfl, by rw [HF.out]; simp; omega⟩, below_drewN (below_alloc (Below.refl _ _) _) _⟩
set_option maxHeartbeats 400000 in
theorem sizes_code_fd (ad : Addr) (n : Int) (w : World) (hr : Rd w (some ad) (ins fdSizes)) :
    Calls Tryz.prog 54 #[.agg #[.slice (some ad) 16 16, .int .i64 0, .int .i64 0], .int .i64 n] w fun e w' => CodeB (codeF 2 n) e ∧ Below w.heap.size w w' := by
  have hf : codeF 2 n = if fdSizes[lb fdSizes n]? = some n then some (lb fdSizes n : Int) else none := by simp [codeF]
  generalize codeF 2 n = o at *
  have HF := Lib.hid hf
  have HR := Lib.hid hr
  clear hf hr
  go_enter Tryz.func54, Tryz.ntmps54
  go_wp2_with fail
  refine (bsearch_any (some ad) 16 fdSizes n _ (HR.out.alloc _) (by decide) fdSizes_rise).mono ?_
  rintro e w' ⟨rfl, rfl⟩
  go_wp2
  go_ret2
  refine ⟨⟨_, _, rfl, ?_⟩, below_alloc (Below.refl _ _) _⟩
  rw [HF.out]
  by_cases h : fdSizes[lb fdSizes n]? = some n <;> simp [h]

theorem codeV_some (c : Int) : codeV (some c) = .tuple #[.int .i64 c, .int .i64 0] := rfl
theorem codeV_none : codeV none = .tuple #[.int .i64 0, .int .i64 2] := rfl
set_option maxHeartbeats 400000 in
theorem Code_any (k n : Int) (w : World) (h0 : 0 ≤ n) (h1 : n ≤ 9223372036854775807) :
    Calls Tryz.prog 29 #[.int .i64 k, .int .i64 n] w fun e w' => e = .returned (codeV (codeF k n)) ∧ Below w.heap.size w w' := by
  have ask : Calls Tryz.prog 53 #[.func (.func 54) #[] #[], .int .i64 k, .int .i64 n] w fun e w' => e = .returned (codeV (codeF k n)) ∧ Below w.heap.size w w' := by
    by_cases hk : k = 2
    · subst hk
      generalize ho : codeF 2 n = o
      have HO := Lib.hid ho
      clear ho
      go_enter Tryz.func53, Tryz.ntmps53
      go_wp2_with fail
      refine (of_fd _).mono ?_
      rintro e w1 ⟨ad, rfl, hr, hb⟩
      have HB := Lib.hid hb
      have HR := Lib.hid hr
      clear hb hr
      go_wp2_with fail
      refine (sizes_code_fd ad n _ HR.out).mono ?_
      rintro e w2 ⟨⟨c, b, rfl, hcb⟩, hb2⟩
      rw [HO.out] at hcb
      have HB2 := Lib.hid hb2
      have HCB := Lib.hid hcb
      clear hb2 hcb
      go_wp2
      all_goals
        go_ret2
        refine ⟨?_, below_trans HB.out HB2.out⟩
        rcases HCB.out with ⟨h1, h2⟩ | ⟨h1, h2⟩ <;> simp_all [codeV]
    · generalize ho : codeF k n = o
      have HO := Lib.hid ho
      have HK := Lib.hid hk
      clear ho hk
      go_enter Tryz.func53, Tryz.ntmps53
      go_wp2_with fail
      refine (of_other k _ HK.out).mono ?_
      rintro e w1 ⟨rfl, hb⟩
      have HB := Lib.hid hb
      clear hb
      go_wp2_with fail
      refine (sizes_code_other k n _ HK.out h0 h1).mono ?_
      rintro e w2 ⟨⟨c, b, rfl, hcb⟩, hb2⟩
      rw [HO.out] at hcb
      have HB2 := Lib.hid hb2
      have HCB := Lib.hid hcb
      clear hb2 hcb
      go_wp2
      all_goals
        go_ret2
        refine ⟨?_, below_trans HB.out HB2.out⟩
        rcases HCB.out with ⟨h1, h2⟩ | ⟨h1, h2⟩ <;> simp_all [codeV]
  have HA := Lib.hid ask
  clear ask
  generalize codeF k n = o at *
  go_enter Tryz.func29, Tryz.ntmps29
  go_wp2_with fail
  refine HA.out.mono ?_
  rintro e w1 ⟨rfl, hb⟩
  have HB := Lib.hid hb
  clear hb
  cases o <;> simp only [codeV_some, codeV_none]
  all_goals
    go_wp2
    go_ret2
    exact ⟨rfl, HB.out⟩
end Go.Proofs.YtlmdkmflbhnlgaaGreat
-- SizeF: frame.Size: the size that a code tells, for FD and XL frames. No condition.
namespace Go.Proofs.YtlmdkmflbhnlgaaGreat
open Go.RowKit
set_option maxHeartbeats 400000 in
theorem sizes_size_fd (ad : Addr) (n : Nat) (w : World) (h : n < 16) (hr : Rd w (some ad) (ins fdSizes)) :
    Calls Tryz.prog 126 #[.agg #[.slice (some ad) 16 16, .int .i64 0, .int .i64 0], .int .i64 n] w fun e w' => e = .returned (.tuple #[.int .i64 (fdSizes[n]'(by show n < 16; exact h)), .bool true]) ∧ Below w.heap.size w w' := by
  have hn : n < fdSizes.length := h
  obtain ⟨v, hv⟩ : ∃ v, fdSizes[n]'hn = v := ⟨_, rfl⟩
  have hc : ∀ o, (w.alloc o).cell? (ad.add n) = some (.int .i64 v) := fun o => by
    obtain ⟨ad', e, hc⟩ := (hr.alloc o) n (.int .i64 v) (by simp [ins, hn, hv])
    injection e with e; subst e; exact hc
  rw [hv]
  have h16 : (n : Int) < 16 := by omega
  have E0 : ∀ W, Sem.run Tryz.prog (binOp .neq 90 (.slice (some ad) 16 16) (.slice none 0 0)) W = .ok (.bool true) W := fun _ => by kernel_rfl
  clear hr hv
  go_enter Tryz.func126, Tryz.ntmps126
  go_wp2
  go_ret2
  exact ⟨rfl, below_alloc (Below.refl _ _) _⟩
set_option maxHeartbeats 400000 in
theorem sizes_size_xl (n : Nat) (w : World) (h : n < 2048) :
    Calls Tryz.prog 126 #[.agg #[.slice none 0 0, .int .i64 1, .int .i64 2048], .int .i64 n] w fun e w' => e = .returned (.tuple #[.int .i64 ((n : Int) + 1), .bool true]) ∧ Below w.heap.size w w' := by
  have E0 : ∀ W, Sem.run Tryz.prog (binOp .neq 90 (.slice none 0 0) (.slice none 0 0)) W = .ok (.bool false) W := fun _ => by kernel_rfl
  have hd : decide ((n : Int) ≤ 2047) = true := by simp; omega
  go_enter Tryz.func126, Tryz.ntmps126
  go_wp2
  go_quiet (fail)
  go_wp2
  go_ret2
  exact ⟨by first | rfl | simp; omega, below_drewN (below_alloc (Below.refl _ _) _) _⟩
set_option maxHeartbeats 400000 in
theorem Size_fd (n : Nat) (w : World) (h : n < 16) :
    Calls Tryz.prog 115 #[.int .i64 2, .int .i64 n] w fun e w' => e = .returned (.tuple #[.int .i64 (fdSizes[n]'(by show n < 16; exact h)), .int .i64 0]) ∧ Below w.heap.size w w' := by
  have HS := Lib.hid (fun ad W hr => sizes_size_fd ad n W h hr)
  have hn : n < fdSizes.length := h
  obtain ⟨v, hv⟩ : ∃ v, fdSizes[n]'hn = v := ⟨_, rfl⟩
  rw [hv] at HS ⊢
  clear hv hn
  have ask : Hid (Calls Tryz.prog 53 #[.func (.func 126) #[] #[], .int .i64 2, .int .i64 n] w fun e w' => e = .returned (.tuple #[.int .i64 v, .int .i64 0]) ∧ Below w.heap.size w w') := by
    show Calls _ _ _ _ _
    go_enter Tryz.func53, Tryz.ntmps53
    go_wp2_with fail
    refine (of_fd _).mono ?_
    rintro e w1 ⟨ad, rfl, hr, hb⟩
    have HB := Lib.hid hb
    have HR := Lib.hid hr
    clear hb hr
    go_wp2_with fail
    refine (HS.out ad _ HR.out).mono ?_
    rintro e w2 ⟨rfl, hb2⟩
    have HB2 := Lib.hid hb2
    clear hb2
    go_wp2
    go_ret2
    exact ⟨rfl, below_trans HB.out HB2.out⟩
  go_enter Tryz.func115, Tryz.ntmps115
  go_wp2_with fail
  refine ask.out.mono ?_
  rintro e w1 ⟨rfl, hb⟩
  have HB := Lib.hid hb
  clear hb
  go_wp2
  go_ret2
  exact ⟨rfl, HB.out⟩
set_option maxHeartbeats 400000 in
theorem Size_xl (n : Nat) (w : World) (h : n < 2048) :
    Calls Tryz.prog 115 #[.int .i64 3, .int .i64 n] w fun e w' => e = .returned (.tuple #[.int .i64 ((n : Int) + 1), .int .i64 0]) ∧ Below w.heap.size w w' := by
  have HS := Lib.hid (fun W => sizes_size_xl n W h)
  have HO := Lib.hid (fun W => of_other 3 W (by decide))
  have e1 : loOf 3 = 1 := by simp [loOf]
  have e2 : hiOf 3 = 2048 := by simp [hiOf]
  rw [e1, e2] at HO
  have ask : Hid (Calls Tryz.prog 53 #[.func (.func 126) #[] #[], .int .i64 3, .int .i64 n] w fun e w' => e = .returned (.tuple #[.int .i64 ((n : Int) + 1), .int .i64 0]) ∧ Below w.heap.size w w') := by
    show Calls _ _ _ _ _
    go_enter Tryz.func53, Tryz.ntmps53
    go_wp2_with fail
    refine (HO.out _).mono ?_
    rintro e w1 ⟨rfl, hb⟩
    have HB := Lib.hid hb
    clear hb
    go_wp2_with fail
    refine (HS.out _).mono ?_
    rintro e w2 ⟨rfl, hb2⟩
    have HB2 := Lib.hid hb2
    clear hb2
    go_wp2
    go_ret2
    exact ⟨rfl, below_trans HB.out HB2.out⟩
  go_enter Tryz.func115, Tryz.ntmps115
  go_wp2_with fail
  refine ask.out.mono ?_
  rintro e w1 ⟨rfl, hb⟩
  have HB := Lib.hid hb
  clear hb
  go_wp2
  go_ret2
  exact ⟨rfl, HB.out⟩
end Go.Proofs.YtlmdkmflbhnlgaaGreat
-- Same: What the functions of layer 5 (frame) answer: sizes, codes, and which frames may be. No condition.
namespace Go.Proofs.YtlmdkmflbhnlgaaGreat
open Go.RowKit



/-! ### frames -/
structure Fr where
  kind : Int
  id : Int
  ext : Bool
  rtr : Bool
  brs : Bool
  esi : Bool
  sec : Bool
  sdt : Int
  vcid : Int
  af : Int
  data : List Nat
/-- A frame's value, whose data lie at a slice. -/
abbrev frv (f : Fr) (s : Value) : Value := .agg #[.int .i64 f.kind, .int .u32 f.id, .bool f.ext, .bool f.rtr, .bool f.brs, .bool f.esi, .bool f.sec, .int .u8 f.sdt, .int .u8 f.vcid, .int .u32 f.af, s]
def isBytes (l : List Nat) : Prop := ∀ x ∈ l, x < 256
set_option maxHeartbeats 400000 in
theorem bytesEqual_any (A B : Option Addr) (c d : Nat) (a b : List Nat) (w : World) (ha : Rd w A (bys a)) (hb : Rd w B (bys b)) (ba : isBytes a) (bb : isBytes b) :
    Calls Tryz.prog 33 #[.slice A a.length c, .slice B b.length d] w fun e w' => e = .returned (.bool (decide (a = b))) ∧ w = w' := by
  rw [← strOf_inj ba bb]
  have h1 := ha.conv (P := Tryz.prog) (src := 22) (e := 5) (dst := 9) Tryz.underlying22 Tryz.underlying5 Tryz.underlying9 c
  have h2 := hb.conv (P := Tryz.prog) (src := 22) (e := 5) (dst := 9) Tryz.underlying22 Tryz.underlying5 Tryz.underlying9 d
  clear ha hb ba bb
  go_enter Tryz.func33, Tryz.ntmps33
  go_wp2
  go_ret
  exact ⟨rfl, rfl⟩
def sameF (a b : Fr) : Bool := decide (a.kind = b.kind ∧ a.id = b.id ∧ ([a.ext, a.rtr, a.brs, a.esi, a.sec] = [b.ext, b.rtr, b.brs, b.esi, b.sec]) ∧ a.sdt = b.sdt ∧ a.vcid = b.vcid ∧ a.af = b.af ∧ a.data = b.data)
theorem info_bool : (Tryz.prog.info? 4).map (fun i => (i.zero, i.size, i.bytes)) = some (some (.bool false), 1, 1) := by kernel_rfl
theorem guard_bools : Tryz.prog.eqGuardType Tryz.prog.depth 64 = false := by kernel_rfl
set_option maxRecDepth 100000 in
set_option maxHeartbeats 1000000 in
theorem Same_any (a b : Fr) (A B : Option Addr) (c d : Nat) (w : World) (ha : Rd w A (bys a.data)) (hb : Rd w B (bys b.data)) (ba : isBytes a.data) (bb : isBytes b.data) :
    Calls Tryz.prog 18 #[frv a (.slice A a.data.length c), frv b (.slice B b.data.length d)] w fun e w' => e = .returned (.bool (sameF a b)) ∧ Below w.heap.size w w' := by
  obtain ⟨i0, hi, hz0, hz1, hz2⟩ := info_parts info_bool
  have he := fun (w : World) => run_eql_bools5 (P := Tryz.prog) w (t := 64) (tb := 4) Tryz.underlying64 Tryz.underlying4 hi hz1
  have hg := guard_bools
  have HE := Lib.hid (fun W hW1 hW2 => bytesEqual_any A B c d a.data b.data W hW1 hW2 ba bb)
  clear ba bb hi hz0 hz1 hz2
  have HA := Lib.hid ha
  have HB := Lib.hid hb
  clear ha hb
  go_enter Tryz.func18, Tryz.ntmps18
  go_upto_region 1 with (fail)
  simp only [List.append_eq, List.cons_append, List.nil_append]
  go_wp2_with (go_at_call 33; refine (HE.out _ ((HA.out.alloc _).alloc _) ((HB.out.alloc _).alloc _)).mono ?_; rintro e w' ⟨rfl, rfl⟩)
  all_goals
    go_ret
    exact ⟨ret_bool (by simp [sameF, *]), (below_alloc (below_alloc (Below.refl _ _) _) _)⟩
end Go.Proofs.YtlmdkmflbhnlgaaGreat
-- Clone: bytes.Clone and frame.Copy: bytes, and a frame, in memory of their own. No condition.
namespace Go.Proofs.YtlmdkmflbhnlgaaGreat
open Go.RowKit
theorem info_u8c : (Tryz.prog.info? 5).map (fun i => (i.zero, i.size, i.bytes)) = some (some (.int .u8 0), 1, 1) := by kernel_rfl
set_option maxRecDepth 100000 in
set_option maxHeartbeats 1000000 in
theorem Clone_any (w : World) (A : Option Addr) (c n : Nat) (l : List Nat) (hr : Rd w A (bys l)) (hn : l.length = n) (hn2 : n ≤ 1000000) (hz : A = none → c = 0) :
    Calls Tryz.prog 52 #[.slice A n c] w fun e w' => (∃ A' c', e = .returned (.slice A' n c') ∧ Row w' w.heap.size 5 A' c' (bys l)) ∧ Below w.heap.size w w' := by
  obtain ⟨i0, hi, hz0, hz1, hz2⟩ := info_parts info_u8c
  cases A with
  | none =>
    have hl : l = [] := by
      cases l with
      | nil => rfl
      | cons x l => obtain ⟨ad, e, _⟩ := hr 0 _ (by simp [bys]; rfl); cases e
    subst hl
    obtain rfl : c = 0 := hz rfl
    obtain rfl : n = 0 := by simpa using hn.symm
    clear hr hn hz
    have E0 : ∀ W, Sem.run Tryz.prog (binOp .eql 22 (.slice none 0 0) (.slice none 0 0)) W = .ok (.bool true) W := fun _ => by kernel_rfl
    go_enter Tryz.func52, Tryz.ntmps52
    go_wp2
    go_ret
    exact ⟨⟨none, 0, rfl, Row.nil _ _ _⟩, Below.refl _ _⟩
  | some ad =>
    have HR := Lib.hid hr
    have HN := Lib.hid hn
    have H0 : Hid (Row (w.alloc (.cells #[] 5)) w.heap.size 5 (some ⟨w.heap.size, 0, none⟩) 0 (bys [])) := own_lit (cs := []) (Nat.le_refl _) rfl (by decide)
    clear hr hn hz
    have E0 : ∀ W, Sem.run Tryz.prog (binOp .eql 22 (.slice (some ad) n c) (.slice none 0 0)) W = .ok (.bool false) W := fun _ => by kernel_rfl
    go_enter Tryz.func52, Tryz.ntmps52
    go_wp2_with (at_builtin; refine wpList_appB rfl (.tmp 5) (.tmp 6) 22 rfl w.heap.size 5 i0 _ 1 Tryz.underlying22 hi hz0 hz1 hz2 rfl _ 0 0 (bys []) rfl rfl H0.out (some ad) n c (bys l) rfl (by rw [bys_length]; exact HN.out) (HR.out.alloc _) (bys_one _) (fun _ h => by cases h) n (by omega) (by unfold maxLen; omega) (by omega) (by simp) ?_; intro w3 A3 c3 hrow hb3)
    go_ret
    exact ⟨⟨_, _, rfl, hrow.out⟩, below_alloc (Below.refl _ _) _ |>.trans hb3.out⟩
set_option maxRecDepth 100000 in
set_option maxHeartbeats 1000000 in
theorem Copy_any (w : World) (f : Fr) (A : Option Addr) (c : Nat) (hr : Rd w A (bys f.data)) (hn2 : f.data.length ≤ 1000000) (hz : A = none → c = 0) :
    Calls Tryz.prog 28 #[frv f (.slice A f.data.length c)] w fun e w' => (∃ A' c', e = .returned (frv f (.slice A' f.data.length c')) ∧ Row w' w.heap.size 5 A' c' (bys f.data)) ∧ Below w.heap.size w w' := by
  obtain ⟨fk, fi, fe, fr, f4, f5, f6, f7, f8, f9, l⟩ := f
  dsimp only [frv] at *
  obtain ⟨n, hn⟩ : ∃ n, l.length = n := ⟨_, rfl⟩
  rw [hn] at hn2 ⊢
  have HC := fun W hW => Clone_any W A c n l hW hn hn2 hz
  have HR := Lib.hid hr
  have HC' := Lib.hid HC
  clear hr hn HC hz
  go_enter Tryz.func28, Tryz.ntmps28
  go_wp2_with fail
  refine calls_blk2 fun W1 q1 q2 hb1 => ?_
  refine (HC'.out _ (HR.out.below hb1)).mono ?_
  rintro e w1 ⟨⟨A', c', rfl, hrow⟩, hb⟩
  obtain ⟨a0, a1, a2, a3, a4, a5, a6, a7, a8, a9, a10⟩ := cells11 (heap_below hb q1)
  have z10 : w1.frozen? ⟨w.heap.size, 10, none⟩ = false := by simp [World.frozen?, heap_below hb q1]
  have k2 := Lib.hid (heap_below hb q2)
  obtain ⟨b0, b1, b2, b3, b4, b5, b6, b7, b8, b9, b10⟩ := cells11 k2.out
  have zb : ∀ o, w1.frozen? ⟨w.heap.size + 1, o, none⟩ = false := fun o => by simp [World.frozen?, k2.out]
  have HB := Lib.hid (below_trans hb1 hb)
  have HROW := Lib.hid (hrow.mono (heap_lt q2))
  clear hb hb1 hrow q1 q2
  go_wp2
  refine bodyPost_ret (v := .agg #[.int .i64 fk, .int .u32 fi, .bool fe, .bool fr, .bool f4, .bool f5, .bool f6, .int .u8 f7, .int .u8 f8, .int .u32 f9, .slice A' n c']) (by simp [results, Tryz.results28, go_sem, *]) rfl ⟨⟨A', c', rfl, ?_⟩, ?_⟩
  · repeat (refine Row.turn (s := [w.heap.size, w.heap.size + 1]) ?_ ((Turn.refl _ _).setCell (by simp) _) (fun ad e hm => by have := HROW.out.geq ad e; simp at hm; omega))
    exact HROW.out.mono (by omega)
  · repeat (refine Below.setCell ?_ (by simp) _)
    exact HB.out
end Go.Proofs.YtlmdkmflbhnlgaaGreat
-- RunBits: bits.Run: how many bits alike a row ends with. No condition.
namespace Go.Proofs.YtlmdkmflbhnlgaaGreat
open Go.RowKit
attribute [local go_sem] Oper.semAt_some
/-- The k-th bit from behind. -/
def endN (l : List Nat) (k : Nat) : Nat := (l[l.length - 1 - k]?).getD 0
abbrev backV (l : List Nat) (x : Nat) : Array Value := #[.int .i64 ((l.length - 1 - x : Nat) : Int), .int .u8 (endN l x : Nat)]
theorem keep_drewN {B b : Nat} (w : World) (k : Nat) : Keep B b w (w.drewN k) := ⟨rfl, rfl, rfl, Nat.le_refl _, fun _ _ _ => rfl⟩
set_option maxRecDepth 100000 in
set_option maxHeartbeats 2000000 in
theorem back1_in (n : Nat) (hn : 1 ≤ n) (lp Bs n₀ x₀ b off len cap : Nat) (l : List Nat) (hlen : l.length = len) (hl : len ≤ 1000000) (hBsn : Bs < n₀ ∧ Bs ≠ x₀) (hb : 0 < len → b < n₀ ∧ b ≠ x₀) (A : Option Addr) (hA : 0 < len → A = some ⟨b, off, none⟩) (J Jx : List Nat → World → Prop)
    (hY : ∀ pre x W, J pre W → pre.length < len → YieldAt Fence.wide (n - 1) Tryz.prog lp (backV l x) W fun e W' =>
      (e = .returned (.bool true) ∧ J (pre ++ [x]) W' ∧ Keep n₀ x₀ W W') ∨ (e = .returned (.bool false) ∧ Jx (pre ++ [x]) W'))
    (W : World) (hBs : W.cell? ⟨Bs, 0, none⟩ = some (.slice A len cap)) (hc : ∀ j, j < len → W.cell? ⟨b, off + j, none⟩ = some (.int .u8 ((l[j]?).getD 0 : Nat))) (h0 : J [] W) :
    CallsIn Fence.wide n Tryz.prog 94 #[.func (.yield lp) #[] #[], .pointer (some ⟨Bs, 0, none⟩)] W fun e W' => (∃ v, e = .returned v) ∧
      ((∃ ys, ys = List.range len ∧ J ys W') ∨ (∃ pre, (∃ k, k ≤ len ∧ pre = List.range k) ∧ Jx pre W')) := by
  refine callsIn_of_wp Tryz.func94 rfl trivial ?_ rfl
  simp only [Tryz.ntmps94, List.size_toArray, List.length_cons, List.length_nil, Nat.reduceAdd, Nat.reduceSub, Array.replicate_succ, Array.replicate_zero, List.push_toArray, List.append_toArray, List.nil_append, List.cons_append]
  have HL := Lib.hid hlen
  have HC := Lib.hid hc
  have HB := Lib.hid hb
  have HA := Lib.hid hA
  have H0 := Lib.hid h0
  clear hlen hc hb hA h0
  gi_wp2
  gi_loopw [3] (fun i wr => ∃ k : Nat, k ≤ len ∧ i = .int .i64 ((len : Int) - 1 - k) ∧ Hid (J (List.range k) wr) ∧ Hid (Keep n₀ x₀ W wr)) (fun i _ => (intOf i + 1).toNat)
  case atStart => exact ⟨0, Nat.zero_le _, by simp, H0.out, Keep.refl _ _ _⟩
  case round =>
    obtain ⟨k, hk, rfl, hJs, hnx⟩ := hrel
    have c1 : wr.cell? ⟨Bs, 0, none⟩ = some (.slice A len cap) := hnx.out.cell_of hBs hBsn.1 hBsn.2
    by_cases hlt : k < len
    · obtain ⟨q, hq⟩ : ∃ q, len - 1 - k = q := ⟨_, rfl⟩
      have hqi : (len : Int) - 1 - k = (q : Int) := by omega
      have hA2 := HA.out (by omega)
      have hb2 := HB.out (by omega)
      subst hA2
      have cq : wr.cell? ⟨b, off + q, none⟩ = some (.int .u8 ((l[q]?).getD 0 : Nat)) := hnx.out.cell_of (HC.out q (by omega)) hb2.1 hb2.2
      obtain ⟨fn, tmps, assign, body, hy, hR⟩ := hY _ k wr hJs.out (by rw [List.length_range]; exact hlt)
      have hen : endN l k = (l[q]?).getD 0 := by unfold endN; rw [HL.out, hq]
      dsimp only [backV] at hy
      rw [HL.out, hq, hen] at hy
      obtain ⟨v, hv⟩ : ∃ v, (l[q]?).getD 0 = v := ⟨_, rfl⟩
      rw [hv] at hy cq
      have hql : (q : Int) < (len : Int) := by omega
      rw [hqi]
      have HQI := Lib.hid hqi
      clear hq hqi hen hv hBs
      gi_wp2
      refine hR.mono ?_
      rintro e W3 (⟨rfl, hJ3, hk3⟩ | ⟨rfl, hJx3⟩)
      · have HJ3 := Lib.hid hJ3
        have HK3 := Lib.hid hk3
        clear hJ3 hk3
        gi_wp2
        go_roundw
        case rel => exact ⟨k + 1, by omega, by have := HQI.out; first | (congr 1; omega) | go_num, by show J _ _; rw [List.range_succ]; exact HJ3.out, hnx.out.trans HK3.out⟩
        case measure => (simp [intOf] <;> omega)
      · have HJX := Lib.hid hJx3
        clear hJx3
        gi_wp2
        refine bodyPost_ret (results_none rfl _ _ _) rfl ?_
        exact ⟨⟨_, rfl⟩, .inr ⟨_, ⟨k + 1, by omega, rfl⟩, by rw [List.range_succ]; exact HJX.out⟩⟩
    · obtain rfl : len = k := by omega
      have hi : (len : Int) - 1 - len = -1 := by omega
      rw [hi]
      clear hi hBs
      gi_wp2
      go_end0
      exact ⟨⟨_, rfl⟩, .inl ⟨_, rfl, hJs.out⟩⟩
theorem Back_any (A : Option Addr) (len cap : Nat) (w : World) :
    Calls Tryz.prog 71 #[.slice A len cap] w fun e w' => e = .returned (.func (.func 94) #[] #[.pointer (some ⟨w.heap.size, 0, none⟩)]) ∧ w.alloc (.cells #[.slice A len cap] 22) = w' := by
  go_enter Tryz.func71, Tryz.ntmps71
  go_wp2_with fail
  go_ret
  exact ⟨rfl, rfl⟩
theorem back_stops (n : Nat) (hn : 1 ≤ n) (Bs n₀ x₀ b off len cap : Nat) (l : List Nat) (hlen : l.length = len) (hl : len ≤ 1000000) (hBsn : Bs < n₀ ∧ Bs ≠ x₀) (hb : 0 < len → b < n₀ ∧ b ≠ x₀) (A : Option Addr) (hA : 0 < len → A = some ⟨b, off, none⟩) (w : World)
    (hBs : w.cell? ⟨Bs, 0, none⟩ = some (.slice A len cap)) (hc : ∀ j, j < len → w.cell? ⟨b, off + j, none⟩ = some (.int .u8 ((l[j]?).getD 0 : Nat))) :
    SeqStopsK Fence.wide n Tryz.prog 94 #[.pointer (some ⟨Bs, 0, none⟩)] (backV l) (Keep n₀ x₀) (fun ys => ys = List.range len)
      (fun pre => ∃ k, k ≤ len ∧ pre = List.range k) len w := fun lp J Jx W hW _ _ hY h0 =>
  back1_in n hn lp Bs n₀ x₀ b off len cap l hlen hl hBsn hb A hA J Jx hY W (Below.cell_of hW hBs) (fun j hj => Below.cell_of hW (hc j hj)) h0
/-- Does a row end with just r bits alike? -/
def RunIs (l : List Nat) (r : Nat) : Prop := r ≤ l.length ∧ (∀ j, j < r → endN l j = endN l 0) ∧ (r < l.length → endN l r ≠ endN l 0)
set_option maxRecDepth 100000 in
set_option maxHeartbeats 4000000 in
theorem runBits_any (b off n c : Nat) (A : Option Addr) (l : List Nat) (w : World) (hA : 0 < n → A = some ⟨b, off, none⟩) (hn : l.length = n) (hn2 : n ≤ 1000000) (hr : Rd w A (bys l)) :
    Calls Tryz.prog 47 #[.slice A n c] w fun e w' => (∃ r : Nat, e = .returned (.int .i64 r) ∧ RunIs l r) ∧ Below w.heap.size w w' := by
  by_cases h0 : n = 0
  · subst h0
    have hl : l = [] := List.eq_nil_of_length_eq_zero hn
    subst hl
    clear hA hr hn
    go_enter Tryz.func47, Tryz.ntmps47
    go_wp2_with fail
    go_ret
    exact ⟨⟨0, rfl, by simp, fun j h => absurd h (by omega), fun h => absurd h (by simp)⟩, Below.refl _ _⟩
  · have hA2 := hA (by omega)
    subst hA2
    have hcell : ∀ j, j < n → w.cell? ⟨b, off + j, none⟩ = some (.int .u8 ((l[j]?).getD 0 : Nat)) := by
      intro j hj
      obtain ⟨ad, e, hc⟩ := hr j (.int .u8 (l[j]'(by omega) : Int)) (bys_get l j (by omega))
      injection e with e
      subst e
      rw [List.getElem?_eq_getElem (by omega), Option.getD_some, ← hc]
      congr 1
      unfold Addr.add
      by_cases hj0 : j = 0 <;> simp [hj0]
    have hbw : b < w.heap.size := cell_lt (hcell 0 (by omega))
    obtain ⟨q, hq⟩ : ∃ q, n - 1 = q := ⟨_, rfl⟩
    have hqi : IntKind.i64.wrap ((n : Int) - 1) = (q : Int) := by rw [IntWalk.i64_in _ (by omega)]; omega
    have cq := hcell q (by omega)
    have hlast : endN l 0 = (l[q]?).getD 0 := by unfold endN; rw [hn, ← hq]; rfl
    obtain ⟨last, hla⟩ : ∃ last, (l[q]?).getD 0 = last := ⟨_, rfl⟩
    rw [hla] at cq hlast
    have hql : (q : Int) < (n : Int) := by omega
    have hn0 : ((n : Int) == 0) = false := by rw [beq_eq_false_iff_ne]; omega
    have HLAST := Lib.hid hlast
    have HN := Lib.hid hn
    have HC := Lib.hid hcell
    have HQ := Lib.hid hq
    have HQI := Lib.hid hqi
    have hq2 : (n : Int) - 1 = (q : Int) := by omega
    clear hA hr hlast hn hcell hq hla h0 hqi
    refine (callsIn_wide (n := 5)).1 ?_
    refine callsIn_of_wp_marks Tryz.func47 rfl trivial ?_ rfl
    simp only [Tryz.ntmps47, List.size_toArray, List.length_cons, List.length_nil, Nat.reduceAdd, Nat.reduceSub, Array.replicate_succ, Array.replicate_zero, List.push_toArray, List.append_toArray, List.nil_append, List.cons_append]
    gi_wp2_with (refine ⟨trivial, ?_⟩; gi_at_call 71; refine (callsIn_wide.2 (Back_any (some ⟨b, off, none⟩) n c _)).mono ?_; rintro e _ ⟨rfl, rfl⟩)
    obtain ⟨g, hg⟩ : ∃ g, w.heap.size = g := ⟨_, rfl⟩
    have HG := Lib.hid hg
    refine name_world (T := fun W0 => W0.heap[g]? = some (.cells #[.int .u8 last] 5) ∧ W0.heap[g + 1]? = some (.cells #[.int .i64 0] 3) ∧ W0.heap[g + 1 + 1]? = some (.cells #[.slice (some ⟨b, off, none⟩) n c] 22) ∧ W0.heap.size = g + 1 + 1 + 1 ∧ Below g w W0) ?_ ?_
    · refine ⟨heap_push (heap_push (heap_new_at hg.symm)), heap_push (heap_new_at (by simp [hg])), heap_new_at (by simp [hg]), by simp [hg], ?_⟩
      exact (((Below.refl g w).alloc (by omega) _).alloc (by simp; omega) _).alloc (by simp; omega) _
    rw [hg]
    rw [hg] at hbw
    clear hg
    rintro W0 ⟨f0, f1, f2, fs, fb⟩
    have F0 := Lib.hid f0
    have F1 := Lib.hid f1
    have FS := Lib.hid fs
    have FB := Lib.hid fb
    refine wpIn_rangeFunc_ownG rfl (by omega) (gf := 94) (lb := #[.pointer (some ⟨g + 1 + 1, 0, none⟩)]) rfl trivial (enters_of Tryz.func94 (by kernel_rfl) rfl)
      (back_stops (5 - 1) (by omega) (g + 1 + 1) W0.heap.size (g + 1) b off n c l HN.out hn2 (by omega) (fun _ => by omega) (some ⟨b, off, none⟩) (fun _ => rfl) W0 (cell_of_heap f2 0 _ rfl) (fun j hj => Below.cell_of (by rw [HG.out]; exact fb) (HC.out j hj)))
      (fun h k => h.trans k) (fun W j o o' hj ho _ _ => grown_keep (grownBy_putObj' W j o') (by have := heap_lt ho; omega) (fun r e => by cases e; exact hj)) (Below.refl _ _) (fun _ => rfl)
      (fun pre W => Keep W0.heap.size (g + 1) W0 W ∧ (∀ y ∈ pre, endN l y = last) ∧ W.heap[g + 1]? = some (.cells #[.int .i64 (pre.length : Nat)] 3))
      (fun cd pre W => (cd = .exit 0 ∧ ∃ ini x, pre = ini ++ [x] ∧ endN l x ≠ last ∧ (∀ y ∈ ini, endN l y = last) ∧ W.heap[g + 1]? = some (.cells #[.int .i64 (ini.length : Nat)] 3)) ∧ Keep W0.heap.size (g + 1) W0 W)
      (OwnFrom.and (ownFrom_keep (Nat.le_refl _)) (OwnFrom.and (ownFrom_fact _) (ownFrom_heap _ (by omega))))
      ?own
      ⟨Keep.refl _ _ _, by simp, f1⟩
      (fun x => { tmps := #[.slice (some ⟨b, off, none⟩) n c, undef, .int .i64 0, .pointer (some ⟨g, 0, none⟩), .pointer (some ⟨g + 1, 0, none⟩), undef, .int .u8 (endN l x : Nat), .slice (some ⟨b, off, none⟩) n c, .int .i64 n, .bool false,
        .slice (some ⟨b, off, none⟩) n c, .slice (some ⟨b, off, none⟩) n c, .int .i64 n, .int .i64 q, .pointer (some ⟨b, off + q, none⟩), .int .u8 last, .slice (some ⟨b, off, none⟩) n c, .func (.func 94) #[] #[.pointer (some ⟨g + 1 + 1, 0, none⟩)],
        .int .i64 ((l.length - 1 - x : Nat) : Int), .int .u8 (endN l x : Nat), undef, undef, undef, undef, undef, undef], defers := [] }) ?assign ?body ?done ?stop
    case own =>
      intro cd xs W W' row hs hgr hr
      obtain ⟨⟨e0, ini, x, e1, e2, e3, e4⟩, hk⟩ := hs
      refine ⟨⟨e0, ini, x, e1, e2, e3, ?_⟩, ?_⟩
      · exact (ownFrom_heap (β := Unit) (fun _ => .cells #[.int .i64 (ini.length : Nat)] 3) (by omega : g + 1 < W0.heap.size)) () _ _ _ e4 hgr hr
      · exact (ownFrom_keep (β := Unit) (Nat.le_refl W0.heap.size)) () _ _ _ hk hgr hr
    case assign =>
      intro j x W K hK
      gi_wp2
      exact hK
    case body =>
      rintro lp pre x W ⟨hKp, hall, hcn⟩ hlen
      have a0 : W.cell? ⟨g, 0, none⟩ = some (.int .u8 last) := cell_of_heap (hKp.heap F0.out (by omega) (by omega)) 0 _ rfl
      have b0 : W.cell? ⟨g + 1, 0, none⟩ = some (.int .i64 (pre.length : Nat)) := cell_of_heap hcn 0 _ rfl
      have z0 : W.frozen? ⟨g + 1, 0, none⟩ = false := by simp [World.frozen?, hcn]
      have hsz : g + 1 + 1 + 1 ≤ W.heap.size := by rw [← FS.out]; exact hKp.size
      have HKP := Lib.hid hKp
      have HALL := Lib.hid hall
      have HCN := Lib.hid hcn
      clear hKp hall hcn f0 f1 f2 fs fb
      by_cases he : endN l x = last
      · have hne : ((endN l x : Nat) != last) = false := by simp [he]
        obtain ⟨v, hv⟩ : ∃ v, endN l x = v := ⟨_, rfl⟩
        obtain ⟨m, hm⟩ : ∃ m, pre.length = m := ⟨_, rfl⟩
        have hm1 : wrap64 ((m : Int) + 1) = (((pre ++ [x]).length : Nat) : Int) := by unfold wrap64; simp [hm]; omega
        rw [hm] at b0
        have HE := Lib.hid he
        have HM1 := Lib.hid hm1
        have HV := Lib.hid hv
        have hvl : v = last := by omega
        subst hvl
        clear he hm1 hm
        rw [HV.out]
        gi_wp2
        have hk1 : Keep W0.heap.size (g + 1) W (W.setCell ⟨g + 1, 0, none⟩ (.int .i64 (wrap64 ((m : Int) + 1)))) := (Keep.refl _ _ _).setCell (p := ⟨g + 1, 0, none⟩) (.inl rfl) _
        refine ⟨(KeepsOthers.setCell _ _ _).from _, hk1, HKP.out.trans hk1, ?_, ?_⟩
        · intro y hy
          rcases List.mem_append.1 hy with h | h
          · exact HALL.out y h
          · rw [List.mem_singleton.1 h]; exact HV.out
        · rw [heap_setCell HCN.out 0 _, HM1.out]
          rfl
      · obtain ⟨v, hv⟩ : ∃ v, endN l x = v := ⟨_, rfl⟩
        rw [hv] at he ⊢
        have HV := Lib.hid hv
        have hvl : (v : Int) ≠ (last : Int) := by omega
        clear hv
        gi_wp2
        exact ⟨(KeepsOthers.refl _).from _, ⟨rfl, pre, x, rfl, by rw [HV.out]; exact he, HALL.out, HCN.out⟩, HKP.out⟩
    case done =>
      rintro D ys W hD rfl ⟨hKp, hall, hcn⟩ hKd
      rw [List.length_range] at hcn
      have hrun : RunIs l n := by
        refine ⟨by rw [HN.out]; omega, fun j hj => ?_, fun h => absurd h (by rw [HN.out]; omega)⟩
        rw [hall j (List.mem_range.2 hj), HLAST.out]
      have b0 : W.cell? ⟨g + 1, 0, none⟩ = some (.int .i64 n) := cell_of_heap hcn 0 _ rfl
      have HRUN := Lib.hid hrun
      have HBEL := Lib.hid (FB.out.trans (hKp.below (C := g) (by omega) (by omega)))
      have HKD := Lib.hid hKd
      clear hrun hall hcn hKp hKd f0 f1 f2 fs fb
      gi_wp2
      have hK' := HKD.out
      refine ⟨by simp, .inl ⟨_, _, rfl, run_takeDeferred hK', ?_⟩⟩
      refine ⟨.int .i64 n, by simp [results, Tryz.f47, go_sem], ⟨n, rfl, HRUN.out⟩, ?_⟩
      rw [HG.out]
      exact HBEL.out.trans (belowK_b (w := W0) (by rw [FS.out]; omega) _ D _ _ hD hK' rfl rfl)
    case stop =>
      rintro D cd pre W hD ⟨k, hk, rfl⟩ ⟨⟨rfl, ini, x, e1, e2, e3, hcn⟩, hKp⟩ hKd
      obtain ⟨k, rfl⟩ : ∃ k', k = k' + 1 := ⟨k - 1, by cases k <;> simp at e1 ⊢⟩
      rw [List.range_succ] at e1
      have e5 := List.append_inj_right' e1 rfl
      have e4 := List.append_inj_left' e1 rfl
      simp at e5
      subst e5
      subst e4
      rw [List.length_range] at hcn
      have hrun : RunIs l k := by
        refine ⟨by rw [HN.out]; omega, fun j hj => ?_, fun h => ?_⟩
        · rw [e3 j (List.mem_range.2 hj), HLAST.out]
        · rw [HLAST.out]; exact e2
      have b0 : W.cell? ⟨g + 1, 0, none⟩ = some (.int .i64 k) := cell_of_heap hcn 0 _ rfl
      have HRUN := Lib.hid hrun
      have HBEL := Lib.hid (FB.out.trans (hKp.below (C := g) (by omega) (by omega)))
      have HKD := Lib.hid hKd
      clear hrun e1 e2 e3 hcn hKp hKd f0 f1 f2 fs fb
      gi_wp2
      have hK' := HKD.out
      refine ⟨by simp, .inl ⟨_, _, rfl, run_takeDeferred hK', ?_⟩⟩
      refine ⟨.int .i64 k, by simp [results, Tryz.f47, go_sem], ⟨k, rfl, HRUN.out⟩, ?_⟩
      rw [HG.out]
      exact HBEL.out.trans (belowK_b (w := W0) (by rw [FS.out]; omega) _ D _ _ hD hK' rfl rfl)
end Go.Proofs.YtlmdkmflbhnlgaaGreat
-- Pack: bits.Pack: bits' bytes. No condition.
namespace Go.Proofs.YtlmdkmflbhnlgaaGreat
open Go.RowKit
attribute [local go_sem] Oper.semAt_some
/-- Bits' bytes. -/
def packL (l : List Nat) : List Nat := (List.range (nchN l.length 8)).map fun x => numN (chunkL l 8 x)
theorem ownFrom_row {β : Type} {B base t : Nat} (f : β → List Value) (g : Nat) (k : β → Nat) (tt : TypeId) : OwnFrom B (fun s W => ∃ A c, W.heap[g]? = some (.cells #[.slice A (k s) c] tt) ∧ Row W base t A c (f s)) := by
  rintro s W W' row ⟨A, c, hs, hr⟩ hg hrow
  have key : ∀ i cs u fr, W.heap[i]? = some (Obj.cells cs u fr) → W'.heap[i]? = some (Obj.cells cs u fr) := fun i cs u fr hi =>
    (hg.block i (heap_lt hi) (fun e => by
      obtain ⟨-, o, ho, hc⟩ := hrow i e.symm
      rw [hi] at ho
      injection ho with ho
      subst ho
      cases hc)).trans hi
  refine ⟨A, c, key _ _ _ _ hs, hr.1, hr.2.imp id ?_⟩
  rintro ⟨q, cap, cur, hv, hq, hh, r⟩
  exact ⟨q, cap, cur, hv, hq, key _ _ _ _ hh, r⟩
theorem wpListIn_appR {F : Fence} {n : Nat} {P : Program} (w : World) {ops : Array Oper} {rest : List Oper} {o : Oper} {a : Act} {Q : Exit → Act → World → Prop}
    (hg : o.guard = none) (s x : Operand) (t : TypeId) (hop : o.op = Op.call { callee := Callee.builtin Builtin.append, args := #[s, x], argTypes := #[t, t] })
    (base : Nat) (e : TypeId) (i : TypeInfo) (z : Value) (bytes : Nat) (h1 : P.underlying t = some (.slice e)) (h2 : P.info? e = some i) (h3 : i.zero = some z) (h4 : i.size = 1) (h5 : i.bytes = bytes) (h6 : z.cells.size = 1)
    (A : Option Addr) (k c : Nat) (xs : List Value) (hs : a.eval s = .slice A k c) (hk : xs.length = k) (hown : Row w base e A c xs) (ad : Addr) (d : Nat) (u : Value) (hx : a.eval x = .slice (some ad) 1 d)
    (hc : w.cell? ad = some u) (h1c : u.oneCell' = true) (b1 : k + 1 ≤ maxLen) (b2 : (k + 1) * bytes ≤ 140737488355328) (b3 : base ≤ w.heap.size)
    (hK : ∀ (w' : World) (A' : Option Addr) (c' : Nat), Hid (Row w' base e A' c' (xs ++ [u])) → Hid (w.grownBy w' (Value.slice A k c).ownBlock) → wpListIn F n P ops Q rest (a.put o.dst (.slice A' (k + 1 : Nat) c')) w') :
    wpListIn F n P ops Q (o :: rest) a w := by
  subst hk
  refine wpListIn_append_own w hg s x t hop base e i z 1 bytes h1 h2 h3 h4 h5 h6 (by decide) _ xs.length xs hs hown ad 1 d [u] hx rfl ?_ (by simp; exact h1c) b1 b2 b3 ?_
  · intro j v hj
    cases j with
    | zero => simp at hj; subst hj; simpa [Addr.add] using hc
    | succ j => simp at hj
  · intro v' w' r1 r2 r3
    obtain ⟨A3, c3, rfl, hrow⟩ := Row.of r1 (by simp)
    have := hK w' A3 c3 hrow r2
    simpa using this
theorem nch8 (n : Nat) (h : n % 8 = 0) : nchN n 8 = n / 8 := by unfold nchN; omega
theorem Keep.turn {B b : Nat} {w w' : World} (h : Keep B b w w') (hB : w.heap.size ≤ B) : Turn [b] w w' := ⟨h.os, h.tape, h.output, h.size, fun k hk h1 => h.block k (by omega) (by simpa using h1)⟩
set_option maxRecDepth 100000 in
set_option maxHeartbeats 4000000 in
theorem Pack_any (b off n c : Nat) (A : Option Addr) (hA : A = some ⟨b, off, none⟩ ∨ n = 0) (l : List Nat) (w : World) (hr : Rd w A (bys l)) (hn : l.length = n) (hn2 : n ≤ 65536) (h8 : n % 8 = 0) (hc1 : n ≤ c) (hc2 : c ≤ 9223372036854775807) (h01 : ∀ x ∈ l, x ≤ 1) :
    Calls Tryz.prog 106 #[.slice A n c] w fun e w' => (∃ A' c', e = .returned (.tuple #[.slice A' (n / 8 : Nat) c', .int .i64 0]) ∧ Row w' w.heap.size 5 A' c' (bys (packL l))) ∧ Below w.heap.size w w' := by
  obtain ⟨i0, hi, hz0, hz1, hz2⟩ := info_parts info_u8
  have hok : bitsOk l = true := by unfold bitsOk; rw [decide_eq_true (by omega : l.length ≤ 65536), decide_eq_true h01]; rfl
  have HC := Lib.hid (BitsCheck_any A n c l w hr hn (by omega))
  rw [hok] at HC
  have hrem : ((n : Int)).tmod 8 = 0 := by
    have e : ((n : Int)).tmod 8 = ((n % 8 : Nat) : Int) := by rw [Int.tmod_eq_emod_of_nonneg (by omega)]; omega
    rw [e, h8]; rfl
  have HR := Lib.hid hr
  have HN := Lib.hid hn
  have H01 := Lib.hid h01
  have HA := Lib.hid hA
  have H8 := Lib.hid h8
  clear hr hn h01 hA hok h8
  refine (callsIn_wide (n := 5)).1 ?_
  refine callsIn_of_wp_marks Tryz.func106 rfl trivial ?_ rfl
  simp only [Tryz.ntmps106, List.size_toArray, List.length_cons, List.length_nil, Nat.reduceAdd, Nat.reduceSub, Array.replicate_succ, Array.replicate_zero, List.push_toArray, List.append_toArray, List.nil_append, List.cons_append]
  gi_wp2_with (first
    | (refine ⟨trivial, ?_⟩; gi_at_call 9; refine (callsIn_wide.2 HC.out).mono ?_; rintro e _ ⟨rfl, rfl⟩; simp only [if_true])
    | (refine ⟨trivial, ?_⟩; gi_at_call 113; refine (callsIn_wide.2 (Chunk_any A n c 8 _ (by omega) (by omega))).mono ?_; rintro e _ ⟨rfl, rfl⟩))
  obtain ⟨g, hg⟩ : ∃ g, w.heap.size = g := ⟨_, rfl⟩
  have HG := Lib.hid hg
  refine name_world (T := fun W0 => W0.heap[g]? = some (.cells #[.slice none 0 0] 22) ∧ W0.heap[g + 1]? = some (.cells #[.slice A n c] 22) ∧ W0.heap[g + 1 + 1]? = some (.cells #[.int .i64 8] 3) ∧ W0.heap.size = g + 1 + 1 + 1 ∧ Below g w W0) ?_ ?_
  · exact ⟨heap_push (heap_push (heap_new_at hg.symm)), heap_push (heap_new_at (by simp [hg])), heap_new_at (by simp [hg]), by simp [hg], (((Below.refl g w).alloc (by omega) _).alloc (by simp; omega) _).alloc (by simp; omega) _⟩
  rw [hg]
  clear hg
  rintro W0 ⟨f0, f1, f2, fs, fb⟩
  have F0 := Lib.hid f0
  have F1 := Lib.hid f1
  have FS := Lib.hid fs
  have FB := Lib.hid fb
  refine wpIn_rangeFunc_ownG rfl (by omega) (gf := 125) (lb := #[.pointer (some ⟨g + 1, 0, none⟩), .pointer (some ⟨g + 1 + 1, 0, none⟩)]) rfl trivial (enters_of Tryz.func125 (by kernel_rfl) rfl)
    (chunk_stops (5 - 1) (by omega) (g + 1) (g + 1 + 1) W0.heap.size g b off n c 8 A HA.out (by omega) (by omega) (by omega) hc1 hc2 (by omega) (by omega) W0 (cell_of_heap f1 0 _ rfl) (cell_of_heap f2 0 _ rfl))
    (fun h k => h.trans k) (fun W j o o' hj ho _ _ => grown_keep (grownBy_putObj' W j o') (by have := heap_lt ho; omega) (fun r e => by cases e; exact hj)) (Below.refl _ _) (fun _ => rfl)
    (fun pre W => Keep W0.heap.size g W0 W ∧ ∃ A' c', W.heap[g]? = some (.cells #[.slice A' pre.length c'] 22) ∧ Row W W0.heap.size 5 A' c' (bys (pre.map fun x => numN (chunkL l 8 x))))
    (fun cd pre W => False)
    (OwnFrom.and (ownFrom_keep (Nat.le_refl _)) (ownFrom_row (fun pre : List Nat => bys (pre.map fun x => numN (chunkL l 8 x))) g (fun pre : List Nat => pre.length) 22))
    (fun cd => ownFrom_fact _)
    ⟨Keep.refl _ _ _, none, 0, f0, Row.nil _ _ _⟩
    (fun x => { tmps := #[.slice A n c, undef, .slice none 0 0, .int .i64 0, .int .i64 0, .pointer (some ⟨g, 0, none⟩), chunkV b off n 8 x, undef, .slice A n c, .int .i64 0, .int .i64 0, .bool false, undef, .slice A n c, .int .i64 n, .int .i64 0, .bool false, .slice A n c,
      .func (.func 125) #[] #[.pointer (some ⟨g + 1, 0, none⟩), .pointer (some ⟨g + 1 + 1, 0, none⟩)], chunkV b off n 8 x, undef, undef, undef, undef, undef, undef, undef, undef, undef], defers := [] }) ?assign ?body ?done ?stop
  case assign =>
    intro j x W K hK
    gi_wp2
    exact hK
  case body =>
    rintro lp pre x W ⟨hKp, A', c', hcell, hrow⟩ hN
    have hN2 : pre.length < 8192 := by rw [nch8 n H8.out] at hN; omega
    obtain ⟨p, hp⟩ : ∃ p, pre.length = p := ⟨_, rfl⟩
    rw [hp] at hcell hN2
    have hbel : Below g w W := FB.out.trans (hKp.below (by omega) (by omega))
    have hsz : g + 1 + 1 + 1 ≤ W.heap.size := by rw [← FS.out]; exact hKp.size
    have hlenc : (chunkL l 8 x).length = min 8 (n - 8 * x) := by rw [chunkL_length, HN.out]
    have hrd : Rd W (some ⟨b, off + 8 * x, none⟩) (bys (chunkL l 8 x)) := by
      by_cases h0 : 0 < min 8 (n - 8 * x)
      · have hA2 : A = some ⟨b, off, none⟩ := by
          rcases HA.out with e | e
          · exact e
          · omega
        have h1 := HR.out.below (w' := W) (by rw [HG.out]; exact hbel)
        rw [hA2] at h1
        exact chunkL_rd h1 8 x
      · rw [List.eq_nil_of_length_eq_zero (l := chunkL l 8 x) (by omega)]
        exact Rd.nil _ _
    have h01c : ∀ y ∈ chunkL l 8 x, y ≤ 1 := fun y hy => H01.out y (chunkL_mem l 8 x y hy)
    have hnum := numN_lt (chunkL l 8 x) h01c
    have hp2 : 2 ^ (chunkL l 8 x).length ≤ 2 ^ 8 := Nat.pow_le_pow_right (by omega) (by omega)
    have hnum2 : numN (chunkL l 8 x) < 256 := by omega
    have hE := eachAdd_any (W.alloc (.cells #[.int .u64 0] 149)) W.heap.size 149 (some ⟨b, off + 8 * x, none⟩) (min 8 (n - 8 * x)) (min 8 (n - 8 * x)) (chunkL l 8 x) (heap_new_at rfl) (hrd.alloc _)
      (fun ad e hne => by have := hrd.lt ad e hne; simp; omega) hlenc (by omega) h01c
    obtain ⟨N, hNe⟩ : ∃ N, numN (chunkL l 8 x) = N := ⟨_, rfl⟩
    rw [hNe] at hE hnum2
    obtain ⟨m, hm⟩ : ∃ m, min 8 (n - 8 * x) = m := ⟨_, rfl⟩
    rw [hm] at hE
    have HM := Lib.hid hm
    have HE := Lib.hid hE
    have HNE := Lib.hid hNe
    have HROW := Lib.hid hrow
    have HCELL := Lib.hid hcell
    have HKP := Lib.hid hKp
    have HP := Lib.hid hp
    have hgW := heap_lt hcell
    clear hE hNe hrow hcell hKp hnum hp2 hrd h01c hlenc hp hm f0 f1 f2 fs fb hN hbel
    dsimp only [chunkV]
    rw [HM.out]
    gi_wp2_with (first
      | (refine ⟨trivial, ?_⟩; gi_at_call 65; refine (CallsIn.inRound lp (callsIn_wide.2 HE.out)).mono ?_; rintro e w2 ⟨rfl, hq2, hk2⟩; have hg2 : w2.heap[g]? = some (.cells #[.slice A' p c'] 22 (0, 0)) := hk2.heap (heap_push HCELL.out) (by simp; omega) (by omega); have cg := cell_of_heap hg2 0 _ rfl; have cn := cell_of_heap hq2 0 _ rfl; have HG2 := Lib.hid hg2; have HK2 := Lib.hid hk2; have hrow2 : Hid (Row w2 W0.heap.size 5 A' c' (bys (pre.map fun x => numN (chunkL l 8 x)))) := (HROW.out.alloc _).turn (hk2.turn (Nat.le_refl _)) (fun ad e hm => by have := HROW.out.lt_ ad.block (by rw [e]; simp [blkA]); simp at hm; omega); have hs2 : W0.heap.size ≤ w2.heap.size := Nat.le_trans HKP.out.size (by have := hk2.size; simp at this; omega); clear hg2 hk2 hq2)
      | (refine wpListIn_appR _ rfl (.tmp 23) (.tmp 26) 22 rfl W0.heap.size 5 i0 _ 1 Tryz.underlying22 hi hz0 hz1 hz2 rfl A' p c' _ (by kernel_rfl) (by rw [bys_length, List.length_map]; exact HP.out) (hrow2.out.alloc _) ⟨w2.heap.size, 0, none⟩ 1 (.int .u8 N) (by kernel_rfl) (cell_of_heap (heap_new_at rfl) 0 _ rfl) rfl (by unfold maxLen; omega) (by omega) (by simp; omega) ?_; intro w3 A3 c3 HR3 HG3; have hg3 : w3.heap[g]? = some (.cells #[.slice A' p c'] 22 (0, 0)) := (HG3.out.block g (by have := heap_lt HG2.out; simp; omega) (fun e => by
          cases A' with
          | none => cases e
          | some ad =>
            injection e with e
            have := own_blk HROW.out ad.block (by simp [blkA])
            have := heap_lt F0.out
            omega)).trans (heap_push HG2.out); have cg3 := cell_of_heap hg3 0 _ rfl; have zg3 : w3.frozen? ⟨g, 0, none⟩ = false := (by simp [World.frozen?, hg3]); have HG4 := Lib.hid hg3; clear hg3 cg cn))
    have hall : ∀ (k : Nat) (o : Obj), W.heap[k]? = some o → o.isCells = false → (w3.setCell ⟨g, 0, none⟩ (.slice A3 (p + 1 : Nat) c3)).heap[k]? = some o := by
      intro k o hk ho
      have hkg : k ≠ g := by rintro rfl; rw [HCELL.out] at hk; injection hk with hk; subst hk; cases ho
      have hkl := heap_lt hk
      rw [Below.heap_setCell _ _ _ _ hkg]
      have h2 : w2.heap[k]? = some o := HK2.out.heap (heap_push hk) (by simp; omega) (by omega)
      refine (HG3.out.block k (by have := heap_lt h2; simp; omega) (fun e => ?_)).trans (heap_push h2)
      cases A' with
      | none => cases e
      | some ad =>
        injection e with e
        subst e
        rcases HROW.out.2 with ⟨hv, -⟩ | ⟨q, cap, cur, hv, -, hh, -⟩
        · injection hv with hv; cases hv
        · injection hv with hv
          injection hv with hv
          subst hv
          rw [hh] at hk
          injection hk with hk
          subst hk
          cases ho
    have hKeep : Keep W0.heap.size g W (w3.setCell ⟨g, 0, none⟩ (.slice A3 (p + 1 : Nat) c3)) := by
      have k1 : Keep W0.heap.size g W w2 := ⟨HK2.out.os, HK2.out.tape, HK2.out.output, by have := HK2.out.size; simp at this; omega, fun i hi h1 => (HK2.out.block i (by have := HKP.out.size; simp; omega) (by have := HKP.out.size; omega)).trans (Below.heap_alloc _ _ _ (by have := HKP.out.size; omega))⟩
      have k2 : Keep W0.heap.size g w2 w3 := by
        have k3 := grown_keep (b := g) HG3.out (B := W0.heap.size) (by simp; omega) (fun r e => by
          cases A' with
          | none => cases e
          | some ad =>
            injection e with e
            have := own_blk HROW.out ad.block (by simp [blkA])
            omega)
        exact ⟨k3.os, k3.tape, k3.output, by have := k3.size; simp at this; omega, fun i hi h1 => (k3.block i hi h1).trans (Below.heap_alloc _ _ _ (by omega))⟩
      exact (k1.trans k2).setCell (p := ⟨g, 0, none⟩) (.inl rfl) _
    have hlist : bys ((pre ++ [x]).map fun x => numN (chunkL l 8 x)) = bys (pre.map fun x => numN (chunkL l 8 x)) ++ [.int .u8 N] := by
      rw [List.map_append, bys_append, List.map_singleton, HNE.out]; rfl
    refine ⟨⟨hKeep.size, fun k o _ hk ho => hall k o hk ho⟩, hKeep, HKP.out.trans hKeep, A3, c3, ?_, ?_⟩
    · rw [heap_setCell HG4.out 0 _, List.length_append, HP.out]
      simp
    · rw [hlist]
      refine HR3.out.turn (s := [g]) ((Turn.refl _ _).setCell (p := ⟨g, 0, none⟩) (.inl (by simp)) _) (fun ad e hm => ?_)
      have := own_blk HR3.out ad.block (by rw [e]; simp [blkA])
      have := heap_lt F0.out
      simp at hm
      omega
  case done =>
    rintro D ys W hD rfl ⟨hKp, A', c', hcell, hrow⟩ hKd
    have hlen : (List.range (nchN n 8)).length = n / 8 := by rw [List.length_range, nch8 n H8.out]
    rw [hlen] at hcell
    have hl : (List.range (nchN n 8)).map (fun x => numN (chunkL l 8 x)) = packL l := by unfold packL; rw [HN.out]
    rw [hl] at hrow
    obtain ⟨m, hm⟩ : ∃ m, n / 8 = m := ⟨_, rfl⟩
    rw [hm] at hcell
    have HM := Lib.hid hm
    have b0 : W.cell? ⟨g, 0, none⟩ = some (.slice A' m c') := cell_of_heap hcell 0 _ rfl
    have hbel : Below g w W := FB.out.trans (hKp.below (by omega) (by omega))
    have HBEL := Lib.hid hbel
    have HKD := Lib.hid hKd
    have HROW := Lib.hid hrow
    have hg0 := heap_lt F0.out
    clear hm hcell hbel hKd hrow f0 f1 f2 fs fb hl hlen hKp
    gi_wp2
    have hK' := HKD.out
    refine ⟨by simp, .inl ⟨_, _, rfl, run_takeDeferred hK', ?_⟩⟩
    have hbD : Below g W (W.putObj D (.deferred none)) := belowK_b (w := W0) (by omega) _ D _ _ hD hK' rfl rfl
    refine ⟨.tuple #[.slice A' m c', .int .i64 0], by simp [results, Tryz.f106, go_sem], ⟨⟨A', c', by rw [HM.out], ?_⟩, ?_⟩⟩
    · rw [HG.out]
      obtain ⟨r1, r2⟩ := HROW.out
      refine ⟨r1, r2.imp id ?_⟩
      rintro ⟨q, cap, cur, hv, hq, hh, r⟩
      refine ⟨q, cap, cur, hv, by omega, ?_, r⟩
      rw [World.putObj_heap_other (fun e => ?_)]
      · exact hh
      · subst e
        rw [hh] at hK'
        cases hK'
    · rw [HG.out]
      exact HBEL.out.trans hbD
  case stop =>
    rintro D cd pre W hD _ h _
    exact h.elim
end Go.Proofs.YtlmdkmflbhnlgaaGreat
