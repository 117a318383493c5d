/- append's law for a row behind a pointer, where the two slices are of two types. No condition. -/
import Derived.Test.YtaknddanggdplaaKe
namespace Go.Proofs.Ytaknddanggdplaa
open Go.RowKit
theorem append_types {P : Program} {t t2 ty e : TypeId} (ht : P.underlying t = some (.slice e)) (ht2 : P.underlying t2 = some (.slice e)) (args : Array Value) (w : World) :
    (Builtin.append_ #[t, t2] ty args).run P w = (Builtin.append_ #[t, t] ty args).run P w := by
  unfold Builtin.append_
  simp only [List.getElem?_toArray, List.getElem?_cons_zero, List.getElem?_cons_succ]
  cases h0 : args[0]? with
  | none => rfl
  | some s =>
    cases h1 : args[1]? with
    | none => rfl
    | some x =>
      simp only [Sem.run_bind, run_underlying ht, Result.andThen_ok]
      cases s <;> try rfl
      simp only [Sem.run_bind]
      cases hX : (sizeOf e).run P w with
      | halt y w1 => rfl
      | ok size w1 => simp only [Result.andThen_ok, Sem.run_bind, run_underlying ht, run_underlying ht2]
theorem wp_types {P : Program} {t t2 e : TypeId} {o : Oper} {a : Act} {w : World} {K : Act → World → Prop} {Q : Exit → Act → World → Prop} (s x : Operand) (ht : P.underlying t = some (.slice e)) (ht2 : P.underlying t2 = some (.slice e))
    (ho : o.op = .call { callee := .builtin .append, args := #[s, x], argTypes := #[t, t2] })
    (h : Oper.wp P { o with op := .call { callee := .builtin .append, args := #[s, x], argTypes := #[t, t] } } a w K Q) : o.wp P a w K Q := by
  have he : (execOp a.eval o).run P w = (execOp a.eval { o with op := .call { callee := .builtin .append, args := #[s, x], argTypes := #[t, t] } }).run P w := by
    unfold execOp
    simp only [ho, resolve, invoke, builtin, Sem.run_bind, Sem.run_pure, Result.andThen_ok]
    rw [append_types ht ht2]
  unfold Oper.wp at h ⊢
  rw [he]
  exact h
theorem wpList_pot2 {P : Program} {W0 w : World} {B b t : Nat} {A : Option Addr} {c : Nat} {l : List Nat} (h : Pot w B b t A c l) (hW : Keep B b W0 w) {ops : Array Oper} {rest : List Oper} {o : Oper} {a : Act} {Q : Exit → Act → World → Prop} (hgd : o.guard = none) (s x : Operand) (ty ty2 : TypeId)
    (ho : o.op = .call { callee := .builtin .append, args := #[s, x], argTypes := #[ty, ty2] })
    (i : TypeInfo) (z : Value) (bytes : Nat) (ht : P.underlying ty = some (.slice 5)) (ht2 : P.underlying ty2 = some (.slice 5)) (hi : P.info? 5 = some i) (hz : i.zero = some z) (hsize : i.size = 1) (hby : i.bytes = bytes) (hzs : z.cells.size = 1)
    (n : Nat) (hn : l.length = n) (hs : a.eval s = .slice A n c)
    (A2 : Option Addr) (m d : Nat) (news : List Nat) (hx : a.eval x = .slice A2 m d) (hm : news.length = m) (hr : Rd w A2 (bys news)) (hd : news = [] → A2 = none → d = 0)
    (N : Nat) (hN : n + m = N) (h63 : N ≤ maxLen) (hbytes : N * bytes ≤ 140737488355328)
    (hk : ∀ w' A3 c3, Hid (Potd W0 w' B b t (.slice A n c) A3 c3 (l ++ news)) → w'.cell? ⟨b, 0, none⟩ = some (.slice A n c) → w'.frozen? ⟨b, 0, none⟩ = false → wpList P ops Q rest (a.put o.dst (.slice A3 N c3)) w') : wpList P ops Q (o :: rest) a w :=
  wpList_plain hgd fun _ hK => wp_types s x ht ht2 ho (wp_pot h hW s x ty rfl i z bytes ht hi hz hsize hby hzs n hn hs A2 m d news hx hm hr hd N hN h63 hbytes fun w' A3 c3 h2 h3 h4 => hK _ _ (hk w' A3 c3 h2 h3 h4))
end Go.Proofs.Ytaknddanggdplaa
