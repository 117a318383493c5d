/- append of one struct to a row of the call's own. No condition. -/
import Derived.Test.YtlmdkmflbhnlgaaBox0
namespace Go.Proofs.Ytlmdkmflbhnlgaa
open Go.RowKit
theorem grown_turn {W w3 : World} {A : Option Addr} {n c : Nat} (h : W.grownBy w3 (Value.slice A n c).ownBlock) : Turn (blkA A) W w3 :=
  ⟨h.os, h.tape, h.output, h.size, fun k hk hm => h.block k hk fun e => hm (by
    cases A with
    | none => cases e
    | some ad => injection e with e; subst e; simp [blkA])⟩
theorem wpList_appK {P : Program} {W : World} {ops : Array Oper} {rest : List Oper} {o : Oper} {a : Act} {Q : Exit → Act → World → Prop} (hgd : o.guard = none) (s x : Operand) (t : TypeId)
    (ho : o.op = .call { callee := .builtin .append, args := #[s, x], argTypes := #[t, t] })
    (base : Nat) (e : TypeId) (i : TypeInfo) (z : Value) (size bytes : Nat) (ht : P.underlying t = some (.slice e)) (hi : P.info? e = some i) (hz : i.zero = some z) (hsize : i.size = size) (hby : i.bytes = bytes) (hzs : z.cells.size = size) (hsz : 0 < size)
    (A : Option Addr) (n c : Nat) (xs : List Value) (hs : a.eval s = .slice A n c) (hown : W.ownsRow base e size (.slice A n c) n xs)
    (q d : Nat) (tq : TypeId) (news : List Value) (hx : a.eval x = .slice (some ⟨q, 0, none⟩) 1 d) (hq : W.heap[q]? = some (.cells news.toArray tq)) (hnl : news.length = size) (h1 : ∀ u ∈ news, u.oneCell' = true)
    (h63 : n + 1 ≤ maxLen) (hbytes : (n + 1) * bytes ≤ 140737488355328) (hbase : base ≤ W.heap.size)
    (h : ∀ (w3 : World) (A3 : Option Addr) (c3 : Nat), Hid (w3.ownsRow base e size (.slice A3 (n + 1) c3) (n + 1) (xs ++ news)) → Hid (Turn (blkA A) W w3) → Hid (∀ k ∈ blkA A3, k ∈ blkA A ∨ W.heap.size ≤ k) → wpList P ops Q rest (a.put o.dst (.slice A3 (n + 1 : Nat) c3)) w3) : wpList P ops Q (o :: rest) a W :=
  wpList_plain hgd fun _ hK => by
    have hnews : ∀ j u, news[j]? = some u → W.cell? ((⟨q, 0, none⟩ : Addr).add j) = some u := World.news_of_block hq
    obtain ⟨v', w', hr, h2, h3, h4, h5⟩ := run_append_own_at (P := P) W base t o.type e i z size bytes ht hi hz hsize hby hzs hsz (.slice A n c) n xs hown ⟨q, 0, none⟩ 1 d news (by rw [hnl, Nat.one_mul]) hnews h1 h63 hbytes hbase
    unfold Oper.wp execOp
    simp only [ho, resolve, invoke, builtin, Sem.run_bind, Sem.run_pure, Result.andThen_ok, List.map_toArray, List.map_cons, List.map_nil, hs, hx, hr]
    have hv : ∃ A3 c3, v' = .slice A3 (n + 1 : Nat) c3 := by
      rcases h2.2 with ⟨hv, hl0⟩ | ⟨g', cap', cur, hv, hg, -⟩
      · omega
      · exact ⟨_, _, hv⟩
    obtain ⟨A3, c3, rfl⟩ := hv
    refine hK _ _ (h w' A3 c3 h2 (grown_turn h3) ?_)
    intro k hk
    cases A3 with
    | none => simp [blkA] at hk
    | some ad =>
      simp [blkA] at hk
      subst hk
      rcases h5 with h5 | h5
      · left
        cases A with
        | none => cases h5
        | some ad' => injection h5 with h5; simp [blkA, h5]
      · injection h5 with h5
        right
        omega
end Go.Proofs.Ytlmdkmflbhnlgaa
namespace Go.Proofs.Ytlmdkmflbhnlgaa
open Go.RowKit
theorem wpList_appN {P : Program} {W : World} {ops : Array Oper} {rest : List Oper} {o : Oper} {a : Act} {Q : Exit → Act → World → Prop} (hgd : o.guard = none) (s x : Operand) (t : TypeId)
    (ho : o.op = .call { callee := .builtin .append, args := #[s, x], argTypes := #[t, t] })
    (base : Nat) (e : TypeId) (i : TypeInfo) (z : Value) (size bytes : Nat) (ht : P.underlying t = some (.slice e)) (hi : P.info? e = some i) (hz : i.zero = some z) (hsize : i.size = size) (hby : i.bytes = bytes) (hzs : z.cells.size = size) (hsz : 0 < size)
    (A : Option Addr) (n c : Nat) (xs : List Value) (hs : a.eval s = .slice A n c) (hown : W.ownsRow base e size (.slice A n c) n xs)
    (B : Option Addr) (m d : Nat) (news : List Value) (hx : a.eval x = .slice B m d) (hr : Rd W B news) (hnl : news.length = m * size) (h1 : ∀ u ∈ news, u.oneCell' = true) (hd : B = none → d = 0)
    (h63 : n + m ≤ maxLen) (hbytes : (n + m) * bytes ≤ 140737488355328) (hbase : base ≤ W.heap.size)
    (h : ∀ (w3 : World) (A3 : Option Addr) (c3 : Nat), Hid (w3.ownsRow base e size (.slice A3 (n + m) c3) (n + m) (xs ++ news)) → Hid (Turn (blkA A) W w3) → Hid (∀ k ∈ blkA A3, k ∈ blkA A ∨ W.heap.size ≤ k) → wpList P ops Q rest (a.put o.dst (.slice A3 (n + m : Nat) c3)) w3) : wpList P ops Q (o :: rest) a W :=
  wpList_plain hgd fun _ hK => by
    have key : ∃ v' w', (Builtin.append_ #[t, t] o.type #[.slice A n c, .slice B m d]).run P W = .ok v' w' ∧ w'.ownsRow base e size v' (n + m) (xs ++ news) ∧ W.grownBy w' (Value.slice A n c).ownBlock ∧
        (v'.ownBlock = (Value.slice A n c).ownBlock ∨ v'.ownBlock = some W.heap.size) := by
      cases B with
      | none =>
        have hn0 : news = [] := by
          cases news with
          | nil => rfl
          | cons u us => obtain ⟨ad, he, _⟩ := hr 0 u rfl; cases he
        subst hn0
        have hm0 : m = 0 := by
          rcases Nat.eq_zero_or_pos m with h0 | h0
          · exact h0
          · have := Nat.mul_pos h0 hsz; simp at hnl; omega
        subst hm0
        have hd0 := hd rfl
        subst hd0
        exact ⟨_, W, run_append_owned_none W base t o.type e i size ht hi _ n xs hown, by simpa using hown, World.grownBy.refl W _, .inl rfl⟩
      | some ad =>
        obtain ⟨v', w', hrun, h2, h3, _, h5⟩ := run_append_own_at (P := P) W base t o.type e i z size bytes ht hi hz hsize hby hzs hsz (.slice A n c) n xs hown ad m d news hnl
          (fun j u hj => by obtain ⟨ad', he, hcell⟩ := hr j u hj; injection he with he; subst he; exact hcell) h1 h63 hbytes hbase
        exact ⟨v', w', hrun, h2, h3, h5⟩
    obtain ⟨v', w', hrun, h2, h3, h5⟩ := key
    unfold Oper.wp execOp
    simp only [ho, resolve, invoke, builtin, Sem.run_bind, Sem.run_pure, Result.andThen_ok, List.map_toArray, List.map_cons, List.map_nil, hs, hx, hrun]
    have hv : ∃ A3 c3, v' = .slice A3 (n + m : Nat) c3 := by
      rcases h2.2 with ⟨hv, hl0⟩ | ⟨g', cap', cur, hv, hg, -⟩
      · exact ⟨none, 0, by rw [hv, hl0]⟩
      · exact ⟨_, _, hv⟩
    obtain ⟨A3, c3, rfl⟩ := hv
    refine hK _ _ (h w' A3 c3 h2 (grown_turn h3) ?_)
    intro k hk
    cases A3 with
    | none => simp [blkA] at hk
    | some ad =>
      simp [blkA] at hk
      subst hk
      rcases h5 with h5 | h5
      · left
        cases A with
        | none => cases h5
        | some ad' => injection h5 with h5; simp [blkA, h5]
      · injection h5 with h5
        right
        omega
end Go.Proofs.Ytlmdkmflbhnlgaa
