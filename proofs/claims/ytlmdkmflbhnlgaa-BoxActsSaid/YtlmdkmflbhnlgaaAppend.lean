/- Words for rows that grow: append from whatever source that reads as a list. No condition. -/
import Derived.Test.YtlmdkmflbhnlgaaBase
import Derived.OwnWalk
import Derived.Maps.AppendAt
namespace Go.Proofs.Ytlmdkmflbhnlgaa
open Go.RowKit

section
variable {P : Program} (w : World)
theorem run_app (base : Nat) (t ty e : TypeId) (i : TypeInfo) (z : Value) (bytes : Nat) (ht : P.underlying t = some (.slice e)) (hi : P.info? e = some i) (hz : i.zero = some z)
    (hsize : i.size = 1) (hby : i.bytes = bytes) (hzs : z.cells.size = 1)
    (v : Value) (n : Nat) (xs : List Value) (hown : w.ownsRow base e 1 v n xs)
    (A : Option Addr) (c : Nat) (news : List Value) (hr : Rd w A news) (h1 : ∀ u ∈ news, u.oneCell' = true) (hc : news = [] → A = none → c = 0)
    (h63 : n + news.length ≤ maxLen) (hbytes : (n + news.length) * bytes ≤ 140737488355328) (hbase : base ≤ w.heap.size) :
    ∃ v' w', (Builtin.append_ #[t, t] ty #[v, .slice A news.length c]).run P w = .ok v' w' ∧ w'.ownsRow base e 1 v' (n + news.length) (xs ++ news) ∧ w.grownBy w' v.ownBlock ∧
      (v'.ownBlock = v.ownBlock ∨ v'.ownBlock = some w.heap.size) := by
  cases A with
  | none =>
    have hn : news = [] := by
      cases news with
      | nil => rfl
      | cons u us => obtain ⟨ad, he, _⟩ := hr 0 u rfl; cases he
    subst hn
    have hc0 := hc rfl rfl
    subst hc0
    exact ⟨v, w, run_append_owned_none w base t ty e i 1 ht hi v n xs hown, by simpa using hown, World.grownBy.refl w _, .inl rfl⟩
  | some ad =>
    obtain ⟨v', w', hrun, h2, h3, _, h5⟩ := run_append_own_at (P := P) w base t ty e i z 1 bytes ht hi hz hsize hby hzs (by omega) v n xs hown ad news.length c news (by simp)
      (fun j u hj => by obtain ⟨ad', he, hcell⟩ := hr j u hj; injection he with he; subst he; exact hcell) h1 h63 hbytes hbase
    exact ⟨v', w', hrun, h2, h3, h5⟩
theorem wp_app {o : Oper} {a : Act} {K : Act → World → Prop} {Q : Exit → Act → World → Prop} (s x : Operand) (t : TypeId)
    (ho : o.op = .call { callee := .builtin .append, args := #[s, x], argTypes := #[t, t] })
    (base : Nat) (e : TypeId) (i : TypeInfo) (z : Value) (bytes : Nat) (ht : P.underlying t = some (.slice e)) (hi : P.info? e = some i) (hz : i.zero = some z)
    (hsize : i.size = 1) (hby : i.bytes = bytes) (hzs : z.cells.size = 1)
    (v : Value) (n : Nat) (xs : List Value) (hs : a.eval s = v) (hown : w.ownsRow base e 1 v n xs)
    (A : Option Addr) (m c : Nat) (news : List Value) (hx : a.eval x = .slice A m c) (hm : news.length = m) (hr : Rd w A news) (h1 : ∀ u ∈ news, u.oneCell' = true) (hc : news = [] → A = none → c = 0)
    (h63 : n + m ≤ maxLen) (hbytes : (n + m) * bytes ≤ 140737488355328) (hbase : base ≤ w.heap.size)
    (h : ∀ v' w', w'.ownsRow base e 1 v' (n + m) (xs ++ news) → w.grownBy w' v.ownBlock → (v'.ownBlock = v.ownBlock ∨ v'.ownBlock = some w.heap.size) → K (a.put o.dst v') w') : o.wp P a w K Q := by
  subst hm
  obtain ⟨v', w', hrun, h2, h3, h4⟩ := run_app (P := P) w base t o.type e i z bytes ht hi hz hsize hby hzs v n xs hown A c news hr h1 hc h63 hbytes hbase
  unfold Oper.wp execOp
  simp only [ho, resolve, invoke, builtin, Sem.run_bind, Sem.run_pure, Result.andThen_ok, List.map_toArray, List.map_cons, List.map_nil, hs, hx, hrun]
  exact h v' w' h2 h3 h4
theorem wpList_app {ops : Array Oper} {rest : List Oper} {o : Oper} {a : Act} {Q : Exit → Act → World → Prop} (hgd : o.guard = none) (s x : Operand) (t : TypeId)
    (ho : o.op = .call { callee := .builtin .append, args := #[s, x], argTypes := #[t, t] })
    (base : Nat) (e : TypeId) (i : TypeInfo) (z : Value) (bytes : Nat) (ht : P.underlying t = some (.slice e)) (hi : P.info? e = some i) (hz : i.zero = some z)
    (hsize : i.size = 1) (hby : i.bytes = bytes) (hzs : z.cells.size = 1)
    (v : Value) (n : Nat) (xs : List Value) (hs : a.eval s = v) (hown : w.ownsRow base e 1 v n xs)
    (A : Option Addr) (m c : Nat) (news : List Value) (hx : a.eval x = .slice A m c) (hm : news.length = m) (hr : Rd w A news) (h1 : ∀ u ∈ news, u.oneCell' = true) (hc : news = [] → A = none → c = 0)
    (h63 : n + m ≤ maxLen) (hbytes : (n + m) * bytes ≤ 140737488355328) (hbase : base ≤ w.heap.size)
    (h : ∀ v' w', w'.ownsRow base e 1 v' (n + m) (xs ++ news) → w.grownBy w' v.ownBlock → (v'.ownBlock = v.ownBlock ∨ v'.ownBlock = some w.heap.size) → wpList P ops Q rest (a.put o.dst v') w') : wpList P ops Q (o :: rest) a w :=
  wpList_plain hgd fun _ hK => wp_app w s x t ho base e i z bytes ht hi hz hsize hby hzs v n xs hs hown A m c news hx hm hr h1 hc h63 hbytes hbase fun v' w' h2 h3 h4 => hK _ _ (h v' w' h2 h3 h4)
end
theorem own_slice {w : World} {base n : Nat} {e : TypeId} {v : Value} {xs : List Value} (h : w.ownsRow base e 1 v n xs) : ∃ A c, v = .slice A n c ∧ Rd w A xs ∧ n = xs.length ∧ n ≤ c ∧ (A = none → c = 0) := by
  rcases h.2 with ⟨rfl, rfl⟩ | ⟨g, cap, cur, rfl, _, _, hnc, _⟩
  · have hx : xs = [] := List.eq_nil_of_length_eq_zero (by simpa using h.1)
    subst hx
    exact ⟨none, 0, rfl, Rd.nil _ _, rfl, by omega, fun _ => rfl⟩
  · exact ⟨_, cap, rfl, Rd.own h, by have := h.1; omega, hnc, fun e => by cases e⟩
theorem own_below {w w' : World} {base n e : Nat} {v : Value} {xs : List Value} (h : w.ownsRow base e 1 v n xs) (hb : Below w.heap.size w w') : w'.ownsRow base e 1 v n xs := by
  obtain ⟨h1, h2⟩ := h
  refine ⟨h1, ?_⟩
  rcases h2 with h2 | ⟨g, cap, cur, hv, hg, hh, r⟩
  · exact .inl h2
  · exact .inr ⟨g, cap, cur, hv, hg, heap_below hb hh, r⟩
theorem own_mono {w : World} {base base' n e : Nat} {v : Value} {xs : List Value} (h : w.ownsRow base e 1 v n xs) (hb : base' ≤ base) : w.ownsRow base' e 1 v n xs := by
  obtain ⟨h1, h2⟩ := h
  exact ⟨h1, h2.imp id fun ⟨g, cap, cur, hv, hg, r⟩ => ⟨g, cap, cur, hv, Nat.le_trans hb hg, r⟩⟩
/-- append's step, for what lay below the base. -/
theorem own_grown {B : Nat} {w0 w w' : World} {base n e : Nat} {v : Value} {xs : List Value} (h : w.ownsRow base e 1 v n xs) (hb : Below B w0 w) (hB : B ≤ base) (hs : base ≤ w.heap.size) (hg : w.grownBy w' v.ownBlock) : Below B w0 w' :=
  hb.grown hg (by omega) (fun k hk => by have := (h.lt k hk).1; omega)
theorem own_lit {w : World} {cs : List Value} {n e base : Nat} (hb : base ≤ w.heap.size) (hn : cs.length = n) (hm : n ≤ maxLen) : (w.alloc (.cells cs.toArray e)).ownsRow base e 1 (.slice (some ⟨w.heap.size, 0, none⟩) n n) n cs := by
  have := World.ownsRow_lit (e := e) (size := 1) w cs.toArray n hb hm (by simp [hn])
  simpa using this

/-! ### the same, over worlds in which all that lay in one lies -/
theorem ext_lt {w : World} {g : Nat} {o : Obj} (h : w.heap[g]? = some o) (e : Ext w) : g < e.W.heap.size := heap_lt (ext_heap h e)
theorem Ext.step {w : World} (e : Ext w) {w' : World} (h : Below e.W.heap.size e.W w') : ∃ e2 : Ext w, w' = e2.W := ⟨⟨w', below_trans e.below h⟩, rfl⟩
theorem ext_ge {w : World} (e : Ext w) : w.heap.size ≤ e.W.heap.size := e.below.size
theorem Ext.below_alloc {w : World} (e : Ext w) (o : Obj) : Below w.heap.size w (e.W.alloc o) := Go.Proofs.Ytlmdkmflbhnlgaa.below_alloc e.below o
theorem extcB {P : Program} {f : FuncId} {args : Array Value} {w0 : World} {e : Ext w0} {R : Ending → World → Prop} (h : Calls P f args e.W fun x w' => R x w' ∧ Below e.W.heap.size e.W w') :
    Calls P f args e.W fun x w' => ∃ e2 : Ext w0, w' = e2.W ∧ Hid (Below e.W.heap.size e.W e2.W) ∧ R x e2.W := h.mono fun _ w' ⟨hx, hb⟩ => ⟨⟨w', below_trans e.below hb⟩, rfl, hb, hx⟩
/-- A slice's length, for a loop's measure. -/
def lenV : Value → Nat | .slice _ n _ => n | _ => 0
theorem liftE {w0 w1 : World} (hb : Below w0.heap.size w0 w1) {a : Addr} {v : Value} (h : ∀ e : Ext w0, e.W.cell? a = some v) : ∀ e : Ext w1, e.W.cell? a = some v := fun e => h ⟨e.W, below_trans hb e.below⟩
/-- A row of the call's own: where it lies, and what it holds. -/
def Row (w : World) (base t : Nat) (A : Option Addr) (c : Nat) (xs : List Value) : Prop := w.ownsRow base t 1 (.slice A xs.length c) xs.length xs
theorem Row.of {w : World} {base t n : Nat} {v : Value} {xs : List Value} (h : w.ownsRow base t 1 v n xs) (hn : n = xs.length) : ∃ A c, v = .slice A xs.length c ∧ Row w base t A c xs := by
  subst hn
  obtain ⟨A, c, rfl, -⟩ := own_slice h
  exact ⟨A, c, rfl, h⟩
theorem Row.below {w w' : World} {base t c : Nat} {A : Option Addr} {xs : List Value} (h : Row w base t A c xs) (hb : Below w.heap.size w w') : Row w' base t A c xs := own_below h hb
theorem Row.alloc {w : World} {base t c : Nat} {A : Option Addr} {xs : List Value} (h : Row w base t A c xs) (o : Obj) : Row (w.alloc o) base t A c xs := World.ownsRow.alloc h o
theorem Row.mono {w : World} {base base' t c : Nat} {A : Option Addr} {xs : List Value} (h : Row w base t A c xs) (hb : base' ≤ base) : Row w base' t A c xs := own_mono h hb
theorem Row.rd {w : World} {base t c : Nat} {A : Option Addr} {xs : List Value} (h : Row w base t A c xs) : Rd w A xs := Rd.own h
theorem Row.none_ {w : World} {base t c : Nat} {A : Option Addr} {xs : List Value} (h : Row w base t A c xs) (hA : A = none) : c = 0 := by
  obtain ⟨A', c', e, -, -, -, hn⟩ := own_slice h
  injection e with e1 _ e3
  subst e1 e3
  exact hn hA
theorem Row.cap {w : World} {base t c : Nat} {A : Option Addr} {xs : List Value} (h : Row w base t A c xs) : xs.length ≤ c := by
  obtain ⟨A', c', e, -, -, hc, -⟩ := own_slice h
  injection e with e1 _ e3
  subst e3
  exact hc
theorem Row.nil (w : World) (base t : Nat) : Row w base t none 0 [] := ⟨by simp, .inl ⟨rfl, rfl⟩⟩
theorem wpList_appE {P : Program} {w0 W : World} (hW : Below w0.heap.size w0 W) {ops : Array Oper} {rest : List Oper} {o : Oper} {a : Act} {Q : Exit → Act → World → Prop} (hgd : o.guard = none) (s x : Operand) (t : TypeId)
    (ho : o.op = .call { callee := .builtin .append, args := #[s, x], argTypes := #[t, t] })
    (base : Nat) (e : TypeId) (i : TypeInfo) (z : Value) (bytes : Nat) (ht : P.underlying t = some (.slice e)) (hi : P.info? e = some i) (hz : i.zero = some z)
    (hsize : i.size = 1) (hby : i.bytes = bytes) (hzs : z.cells.size = 1)
    (A : Option Addr) (n c : Nat) (xs : List Value) (hs : a.eval s = .slice A n c) (hn : xs.length = n) (hown : Row W base e A c xs)
    (B : Option Addr) (m d : Nat) (news : List Value) (hx : a.eval x = .slice B m d) (hm : news.length = m) (hr : Rd W B news) (h1 : ∀ u ∈ news, u.oneCell' = true) (hd : news = [] → B = none → d = 0)
    (N : Nat) (hN : n + m = N) (h63 : N ≤ maxLen) (hbytes : N * bytes ≤ 140737488355328) (hB : w0.heap.size ≤ base) (hbase : base ≤ W.heap.size)
    (h : ∀ (e3 : Ext w0) (A3 : Option Addr) (c3 : Nat), Hid (Row e3.W base e A3 c3 (xs ++ news)) → wpList P ops Q rest (a.put o.dst (.slice A3 N c3)) e3.W) : wpList P ops Q (o :: rest) a W := by
  subst hN hm hn
  refine wpList_app W hgd s x t ho base e i z bytes ht hi hz hsize hby hzs (.slice A xs.length c) xs.length xs hs hown B news.length d news hx rfl hr h1 hd h63 hbytes hbase fun v' w' h2 h3 _ => ?_
  obtain ⟨A3, c3, rfl, hrow⟩ := Row.of h2 (by simp)
  have := h ⟨w', own_grown hown hW hB hbase h3⟩ A3 c3 hrow
  simpa using this
theorem step_appE {P : Program} {w0 W : World} (hW : Below w0.heap.size w0 W) {ops : Array Oper} {o : Oper} {a : Act} {K : Act → World → Prop} {Q : Exit → Act → World → Prop} {E : Prop} (hgd : o.guard = none) (s x : Operand) (t : TypeId)
    (ho : o.op = .call { callee := .builtin .append, args := #[s, x], argTypes := #[t, t] })
    (base : Nat) (e : TypeId) (i : TypeInfo) (z : Value) (bytes : Nat) (ht : P.underlying t = some (.slice e)) (hi : P.info? e = some i) (hz : i.zero = some z)
    (hsize : i.size = 1) (hby : i.bytes = bytes) (hzs : z.cells.size = 1)
    (A : Option Addr) (n c : Nat) (xs : List Value) (hs : a.eval s = .slice A n c) (hn : xs.length = n) (hown : Row W base e A c xs)
    (B : Option Addr) (m d : Nat) (news : List Value) (hx : a.eval x = .slice B m d) (hm : news.length = m) (hr : Rd W B news) (h1 : ∀ u ∈ news, u.oneCell' = true) (hd : news = [] → B = none → d = 0)
    (N : Nat) (hN : n + m = N) (h63 : N ≤ maxLen) (hbytes : N * bytes ≤ 140737488355328) (hB : w0.heap.size ≤ base) (hbase : base ≤ W.heap.size)
    (h : ∀ (e3 : Ext w0) (A3 : Option Addr) (c3 : Nat), Hid (Row e3.W base e A3 c3 (xs ++ news)) → K (a.put o.dst (.slice A3 N c3)) e3.W) :
    if Region.wanted o (yielded ops a.tmps) = true then Oper.wp P o a W K Q else E := by
  subst hN hm hn
  have hw : Region.wanted o (yielded ops a.tmps) = true := by simp [Region.wanted, hgd]
  rw [if_pos hw]
  refine wp_app W s x t ho base e i z bytes ht hi hz hsize hby hzs (.slice A xs.length c) xs.length xs hs hown B news.length d news hx rfl hr h1 hd h63 hbytes hbase fun v' w' h2 h3 _ => ?_
  obtain ⟨A3, c3, rfl, hrow⟩ := Row.of h2 (by simp)
  have := h ⟨w', own_grown hown hW hB hbase h3⟩ A3 c3 hrow
  simpa using this
end Go.Proofs.Ytlmdkmflbhnlgaa
