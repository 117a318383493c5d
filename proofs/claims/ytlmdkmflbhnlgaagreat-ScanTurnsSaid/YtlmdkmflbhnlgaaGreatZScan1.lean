/- Words, walks and plain facts that several laws need, part 1: each with its own head. No condition. -/
import Derived.WalkKit
import Derived.WalkSpells
import Derived.WalkLawsBesides
import Derived.Lib.Hide
import Derived.Deep.QuietTactic
import Derived.BigQuiet
import Derived.Below
import Derived.Deep.AppendLies
import Derived.Deep.RegionHeld3
import Derived.Deep.Draws
import Derived.Deep.Cut
import Derived.Deep.DeepCutAuto
import Derived.OwnWalk
import Derived.Maps.AppendAt
import Derived.Test.YtlmdkmflbhnlgaaGreatProg
import Derived.BigRegion
import Derived.Deep.RegionLaw
import Derived.WalkSmall
import Derived.Handy
import Derived.Lib.AppendZerosOnto
-- Base: Words for slices that read as lists and rows of a call's own, which the walks of this seat use. No condition.
namespace Go.Proofs.YtlmdkmflbhnlgaaGreat
open Go
/-! ### five bools held against five -/
theorem run_eql_bools5 {P : Program} (w : World) {t tb : TypeId} {i : TypeInfo} (ht : P.underlying t = some (.array 5 tb)) (hb : P.underlying tb = some .bool) (hi : P.info? tb = some i) (hs : i.size = 1)
    (a0 a1 a2 a3 a4 b0 b1 b2 b3 b4 : Bool) : (binOp .eql t (.agg #[.bool a0, .bool a1, .bool a2, .bool a3, .bool a4]) (.agg #[.bool b0, .bool b1, .bool b2, .bool b3, .bool b4])).run P w = .ok (.bool (decide ([a0, a1, a2, a3, a4] = [b0, b1, b2, b3, b4]))) w := by
  have h : ∀ d : Nat, (Op.equalIn (d + 2) t (.agg #[.bool a0, .bool a1, .bool a2, .bool a3, .bool a4]) (.agg #[.bool b0, .bool b1, .bool b2, .bool b3, .bool b4])).run P w = .ok (decide ([a0, a1, a2, a3, a4] = [b0, b1, b2, b3, b4])) w := by
    intro d
    have hq : ∀ x y : Bool, (Op.equalIn (d + 1) tb (.bool x) (.bool y)).run P w = .ok (x == y) w := fun x y => run_equalIn_bool' w d tb x y hb
    have hp : ∀ (xs : Array Value) (k : Nat) (v : Value), xs[k]? = some v → (part tb xs k).run P w = .ok v w := by
      intro xs k v hv
      have := hb
      simp [part, run_underlying hb, isAgg, sizeOf, typeInfo, hi, hs, hv]
    rw [Op.equalIn]
    simp only [Sem.run_bind, run_underlying ht, Result.andThen_ok, sizeOf, typeInfo, run_program, hi, Sem.run_pure, hs]
    have h0 : List.range' 0 5 = [0, 1, 2, 3, 4] := rfl
    have p0 : ∀ x0 x1 x2 x3 x4 : Bool, (part tb #[.bool x0, .bool x1, .bool x2, .bool x3, .bool x4] 0).run P w = .ok (.bool x0) w := fun x0 x1 x2 x3 x4 => hp _ 0 _ rfl
    have p1 : ∀ x0 x1 x2 x3 x4 : Bool, (part tb #[.bool x0, .bool x1, .bool x2, .bool x3, .bool x4] 1).run P w = .ok (.bool x1) w := fun x0 x1 x2 x3 x4 => hp _ 1 _ rfl
    have p2 : ∀ x0 x1 x2 x3 x4 : Bool, (part tb #[.bool x0, .bool x1, .bool x2, .bool x3, .bool x4] 2).run P w = .ok (.bool x2) w := fun x0 x1 x2 x3 x4 => hp _ 2 _ rfl
    have p3 : ∀ x0 x1 x2 x3 x4 : Bool, (part tb #[.bool x0, .bool x1, .bool x2, .bool x3, .bool x4] 3).run P w = .ok (.bool x3) w := fun x0 x1 x2 x3 x4 => hp _ 3 _ rfl
    have p4 : ∀ x0 x1 x2 x3 x4 : Bool, (part tb #[.bool x0, .bool x1, .bool x2, .bool x3, .bool x4] 4).run P w = .ok (.bool x4) w := fun x0 x1 x2 x3 x4 => hp _ 4 _ rfl
    simp [h0, p0, hq]
    by_cases e0 : a0 = b0 <;> simp [e0, p1, hq]
    by_cases e1 : a1 = b1 <;> simp [e1, p2, hq]
    by_cases e2 : a2 = b2 <;> simp [e2, p3, hq]
    by_cases e3 : a3 = b3 <;> simp [e3, p4, hq]
    by_cases e4 : a4 = b4 <;> simp [e4]
  simp only [binOp]
  simp [Op.equal, Op.maxDepth, h 9998]

open Go.RowKit

/-! ### lists of numbers as values -/
def bys (l : List Nat) : List Value := l.map fun (x : Nat) => .int .u8 (x : Int)
def ins (l : List Int) : List Value := l.map fun x => .int .i64 x
theorem bys_length (l : List Nat) : (bys l).length = l.length := by simp [bys]
theorem ins_length (l : List Int) : (ins l).length = l.length := by simp [ins]
theorem bys_get (l : List Nat) (j : Nat) (h : j < l.length) : (bys l)[j]? = some (.int .u8 (l[j] : Int)) := by simp [bys, h]
theorem bys_append (a b : List Nat) : bys (a ++ b) = bys a ++ bys b := by simp [bys]
theorem ins_append (a b : List Int) : ins (a ++ b) = ins a ++ ins b := by simp [ins]
theorem bys_one (l : List Nat) : ∀ u ∈ bys l, u.oneCell' = true := by
  intro u hu; simp [bys] at hu; obtain ⟨a, _, rfl⟩ := hu; rfl
theorem ins_one (l : List Int) : ∀ u ∈ ins l, u.oneCell' = true := by
  intro u hu; simp [ins] at hu; obtain ⟨a, _, rfl⟩ := hu; rfl

/-! ### a slice that reads as a list of values (nil let in) -/
def Rd (w : World) (A : Option Addr) (vs : List Value) : Prop := ∀ j u, vs[j]? = some u → ∃ ad, A = some ad ∧ w.cell? (ad.add j) = some u
theorem Rd.nil (w : World) (A : Option Addr) : Rd w A [] := fun j u h => by simp at h
theorem block_of_add (a : Addr) (n : Nat) : (a.add n).block = a.block := by unfold Addr.add; split <;> rfl
theorem add_of_add (a : Addr) (i j : Nat) : (a.add i).add j = a.add (i + j) := by
  unfold Addr.add
  by_cases hi : i = 0 <;> by_cases hj : j = 0 <;> simp [hi, hj, Nat.add_assoc]
theorem cell_lt {w : World} {a : Addr} {u : Value} (h : w.cell? a = some u) : a.block < w.heap.size := World.block_lt_of_cell? w a h
theorem Below.cell_of {w w' : World} (hb : Below w.heap.size w w') {a : Addr} {u : Value} (h : w.cell? a = some u) : w'.cell? a = some u := (hb.cell (cell_lt h)).trans h
theorem Rd.below {w w' : World} {A : Option Addr} {vs : List Value} (h : Rd w A vs) (hb : Below w.heap.size w w') : Rd w' A vs :=
  fun j u hj => let ⟨ad, e, hc⟩ := h j u hj; ⟨ad, e, Below.cell_of hb hc⟩
theorem Rd.alloc {w : World} {A : Option Addr} {vs : List Value} (h : Rd w A vs) (o : Obj) : Rd (w.alloc o) A vs := h.below ((Below.refl _ _).alloc (Nat.le_refl _) o)
theorem Rd.drew {w : World} {A : Option Addr} {vs : List Value} (h : Rd w A vs) : Rd w.drew A vs := h
theorem Rd.drewN {w : World} {A : Option Addr} {vs : List Value} (h : Rd w A vs) (n : Nat) : Rd (w.drewN n) A vs := h
theorem Rd.own {w : World} {base e size n c : Nat} {A : Option Addr} {vs : List Value} (h : w.ownsRow base e size (.slice A n c) n vs) : Rd w A vs := by
  intro j u hj
  have hn : 0 < n := by
    rcases Nat.eq_zero_or_pos n with h0 | h0
    · subst h0; have := h.1; simp at this; subst this; simp at hj
    · exact h0
  obtain ⟨g, cap, hv, _, _⟩ := h.form hn
  have hA : A = some ⟨g, 0, none⟩ := by injection hv
  subst hA
  exact ⟨_, rfl, h.cells (g := g) rfl j u hj⟩
theorem Rd.at_ {w : World} {A : Option Addr} {l : List Nat} (h : Rd w A (bys l)) (k : Nat) (hk : k < l.length) : ∃ ad, A = some ad ∧ w.cell? (ad.add k) = some (.int .u8 (l[k] : Int)) :=
  h k _ (bys_get l k hk)
theorem heap_new_at {w : World} {o : Obj} {g : Nat} (h : g = w.heap.size) : (w.alloc o).heap[g]? = some o := by subst h; exact heap_alloc_new _ _
theorem Rd.blk {w : World} {g : Nat} {cs : Array Value} {t : TypeId} {fr : Nat × Nat} (h : w.heap[g]? = some (.cells cs t fr)) : Rd w (some ⟨g, 0, none⟩) cs.toList :=
  fun j u hj => ⟨_, rfl, World.news_of_block h j u hj⟩
/-- The strings that two rows of bytes are. -/
def strOf (l : List Nat) : ByteArray := strOfNums (l.map fun (x : Nat) => (x : Int))
theorem Rd.conv {P : Program} {w : World} {src dst e : TypeId} {A : Option Addr} {l : List Nat} (hs : P.underlying src = some (.slice e)) (he : P.underlying e = some (.int .u8)) (hd : P.underlying dst = some .string)
    (c : Nat) (h : Rd w A (bys l)) : (convert src dst (.slice A l.length c)).run P w = .ok (.string (strOf l)) w := by
  rw [run_convert_bytes_string w src dst e _ _ c hs he hd]
  cases A with
  | none =>
    have : l = [] := by
      cases l with
      | nil => rfl
      | cons x l => obtain ⟨ad, e, _⟩ := h 0 _ (by simp [bys]; rfl); cases e
    subst this
    simp [Conv.bytesToString, strOf, strOfNums]; rfl
  | some a =>
    have hl : (loadCells a l.length).run P w = .ok ((l.map fun (x : Nat) => (x : Int)).map (Value.int .u8)).toArray w := by
      have := run_loadCells_list (P := P) w a (bys l) (fun j v hj => by
        obtain ⟨ad, e, hc⟩ := h j v hj
        injection e with e; subst e; exact hc)
      rw [bys_length] at this
      rw [this, List.map_map]; rfl
    rw [run_bytesToString w a l.length c (l.map fun (x : Nat) => (x : Int)) hl, foldl_push_bytes]
    simp [strOf, strOfNums, ByteArray.empty, ByteArray.emptyWithCapacity]
    rfl
theorem strOf_inj {a b : List Nat} (ha : ∀ x ∈ a, x < 256) (hb : ∀ x ∈ b, x < 256) : ((strOf a).toList == (strOf b).toList) = decide (a = b) := by
  rw [Bool.eq_iff_iff]
  simp only [beq_iff_eq, decide_eq_true_eq]
  constructor
  · intro h
    rw [ByteArray.toList_eq, ByteArray.toList_eq] at h
    have h1 : (strOf a).data.toList = (strOf b).data.toList := h
    unfold strOf at h1
    rw [strOfNums_data, strOfNums_data] at h1
    have key : ∀ l : List Nat, (∀ x ∈ l, x < 256) → (((l.map fun (x : Nat) => (x : Int)).map fun n => UInt8.ofNat n.toNat).map fun u => u.toNat) = l := by
      intro l hl
      induction l with
      | nil => rfl
      | cons x l ih =>
        simp only [List.map_cons, List.mem_cons, forall_eq_or_imp] at hl ⊢
        rw [ih hl.2]
        simp
        omega
    rw [← key a ha, ← key b hb, h1]
  · rintro rfl; rfl

/-! ### calls that turn nothing, within a region that draws -/
theorem qcall {P : Program} {f : FuncId} {args : Array Value} {w : World} {v : Value} {n : Nat} (h : Calls P f args (w.drewN n) fun e w' => e = .returned v ∧ w.drewN n = w') :
    Calls P f args (w.drewN n) fun e w'' => e = .returned v ∧ ∃ m, w'' = w.drewN m := h.mono fun _ _ ⟨he, hm⟩ => ⟨he, n, hm.symm⟩
theorem qcall2 {P : Program} {f : FuncId} {args : Array Value} {w : World} {v : Value} {a n : Nat} (h : Calls P f args (w.drewN (a + n)) fun e w' => e = .returned v ∧ w.drewN (a + n) = w') :
    Calls P f args (w.drewN (a + n)) fun e w'' => e = .returned v ∧ ∃ m, w'' = w.drewN (a + m) := h.mono fun _ _ ⟨he, hm⟩ => ⟨he, n, hm.symm⟩
/-! ### steps of worlds -/
theorem below_then {B : Nat} {w w1 w2 : World} (h : Below B w w1) (hB : B ≤ w1.heap.size) (k : Below w1.heap.size w1 w2) : Below B w w2 := h.trans (k.mono hB)
theorem below_trans {w w1 w2 : World} (h : Below w.heap.size w w1) (k : Below w1.heap.size w1 w2) : Below w.heap.size w w2 := below_then h h.size k
theorem below_drewN {B : Nat} {a w : World} (h : Below B a w) (n : Nat) : Below B a (w.drewN n) := ⟨h.os, h.tape, h.output, h.size, h.block⟩
theorem below_alloc {w W : World} (h : Below w.heap.size w W) (o : Obj) : Below w.heap.size w (W.alloc o) := h.alloc h.size o
/-- all cells and marks that were there -/
theorem bcell {W w1 : World} (hb : Below W.heap.size W w1) : (∀ b o, b < W.heap.size → w1.cell? ⟨b, o, none⟩ = W.cell? ⟨b, o, none⟩) ∧ (∀ b o, b < W.heap.size → w1.frozen? ⟨b, o, none⟩ = W.frozen? ⟨b, o, none⟩) :=
  ⟨fun b o h => hb.cell (p := ⟨b, o, none⟩) h, fun b o h => hb.frozen (p := ⟨b, o, none⟩) h⟩
theorem ret_int {k : IntKind} {a b : Int} (h : a = b) : Ending.returned (.int k a) = .returned (.int k b) := by rw [h]
theorem ret_bool {a b : Bool} (h : a = b) : Ending.returned (.bool a) = .returned (.bool b) := by rw [h]
/-- a world that only drew -/
theorem drawn_below {B : Nat} {w w' : World} (h : ∃ n, w' = w.drewN n) : Below B w w' := by obtain ⟨n, rfl⟩ := h; exact below_drewN (Below.refl _ _) n

/-! ### regions that draw their order, whose operations read what stays and whose calls turn nothing that was there: one walk in the text's order -/
/-- A world in which all that lay in w lies as it lay. -/
structure Ext (w : World) where
  W : World
  below : Below w.heap.size w W
instance {w : World} : Nonempty (Ext w) := ⟨⟨w, Below.refl _ _⟩⟩
section
variable {P : Program}
theorem wp_region_ext {id : Nat} {Q : Exit → Act → World → Prop} {a : Act} {w : World} {l : List Oper} (hm : P.follows .mixedOrders = true) (hB : Region.lexB .any l.toArray = true)
    (h : wpQuiet P l.toArray (fun w' => ∃ e : Ext w, w' = e.W) (fun a' => ∀ w', (∃ e : Ext w, w' = e.W) → Q .normal a' w') l a) : (Code.region id l.toArray true).wp P Q a w :=
  wp_region_quiet (C := fun w' => ∃ e : Ext w, w' = e.W) hm hB ⟨⟨w.drew, (Below.refl _ _).drew⟩, rfl⟩ (by simpa using h)
theorem ecall {f : FuncId} {args : Array Value} {w : World} {v : Value} {e : Ext w} (h : Calls P f args e.W fun x w' => x = .returned v ∧ Below e.W.heap.size e.W w') :
    Calls P f args e.W fun x w'' => x = .returned v ∧ ∃ e2 : Ext w, w'' = e2.W := h.mono fun _ w' ⟨hx, hb⟩ => ⟨hx, ⟨w', below_trans e.below hb⟩, rfl⟩
theorem ecall_same {f : FuncId} {args : Array Value} {w : World} {v : Value} {e : Ext w} (h : Calls P f args e.W fun x w' => x = .returned v ∧ e.W = w') :
    Calls P f args e.W fun x w'' => x = .returned v ∧ ∃ e2 : Ext w, w'' = e2.W := h.mono fun _ _ ⟨hx, hb⟩ => ⟨hx, e, hb.symm⟩
end
theorem ext_cell {w : World} {a : Addr} {v : Value} (h : w.cell? a = some v) (e : Ext w) : e.W.cell? a = some v := Below.cell_of e.below h
theorem ext_heap {w : World} {g : Nat} {o : Obj} (h : w.heap[g]? = some o) (e : Ext w) : e.W.heap[g]? = some o := by
  have hl : g < w.heap.size := by
    rcases Nat.lt_or_ge g w.heap.size with h' | h'
    · exact h'
    · rw [Array.getElem?_eq_none h'] at h; cases h
  exact (e.below.block g hl).trans h
theorem heap_below {w w' : World} (hb : Below w.heap.size w w') {g : Nat} {o : Obj} (h : w.heap[g]? = some o) : w'.heap[g]? = some o := ext_heap h ⟨w', hb⟩
theorem Rd.ext {w : World} {A : Option Addr} {vs : List Value} (h : Rd w A vs) (e : Ext w) : Rd e.W A vs := h.below e.below
theorem heap_lt {w : World} {g : Nat} {o : Obj} (h : w.heap[g]? = some o) : g < w.heap.size := by
  rcases Nat.lt_or_ge g w.heap.size with h' | h'
  · exact h'
  · rw [Array.getElem?_eq_none h'] at h; cases h
/-- A call's world is one more in which all that lay in w0 lies. -/
theorem extc {P : Program} {f : FuncId} {args : Array Value} {w0 : World} {e : Ext w0} {R : Ending → World → Prop} (h : Calls P f args e.W fun x w' => R x w' ∧ Below e.W.heap.size e.W w') :
    Calls P f args e.W fun x w' => ∃ e2 : Ext w0, w' = e2.W ∧ R x e2.W := h.mono fun _ w' ⟨hx, hb⟩ => ⟨⟨w', below_trans e.below hb⟩, rfl, hx⟩
theorem extc_same {P : Program} {f : FuncId} {args : Array Value} {w0 : World} {R : Ending → World → Prop} (h : Calls P f args w0 fun x w' => R x w' ∧ Below w0.heap.size w0 w') :
    Calls P f args w0 fun x w' => ∃ e2 : Ext w0, w' = e2.W ∧ R x e2.W := h.mono fun _ w' ⟨hx, hb⟩ => ⟨⟨w', hb⟩, rfl, hx⟩
/-- The eleven cells of a frame's block. -/
theorem cells11 {w : World} {g : Nat} {v0 v1 v2 v3 v4 v5 v6 v7 v8 v9 v10 : Value} {t : TypeId} {fr : Nat × Nat} (h : w.heap[g]? = some (.cells #[v0, v1, v2, v3, v4, v5, v6, v7, v8, v9, v10] t fr)) :
    w.cell? ⟨g, 0, none⟩ = some v0 ∧ w.cell? ⟨g, 1, none⟩ = some v1 ∧ w.cell? ⟨g, 2, none⟩ = some v2 ∧ w.cell? ⟨g, 3, none⟩ = some v3 ∧ w.cell? ⟨g, 4, none⟩ = some v4 ∧ w.cell? ⟨g, 5, none⟩ = some v5 ∧
    w.cell? ⟨g, 6, none⟩ = some v6 ∧ w.cell? ⟨g, 7, none⟩ = some v7 ∧ w.cell? ⟨g, 8, none⟩ = some v8 ∧ w.cell? ⟨g, 9, none⟩ = some v9 ∧ w.cell? ⟨g, 10, none⟩ = some v10 := by
  simp [World.cell?, h]
theorem ext11 {w : World} {g : Nat} {v0 v1 v2 v3 v4 v5 v6 v7 v8 v9 v10 : Value} {t : TypeId} {fr : Nat × Nat} (h : w.heap[g]? = some (.cells #[v0, v1, v2, v3, v4, v5, v6, v7, v8, v9, v10] t fr)) :
    (∀ e : Ext w, e.W.cell? ⟨g, 0, none⟩ = some v0) ∧ (∀ e : Ext w, e.W.cell? ⟨g, 1, none⟩ = some v1) ∧ (∀ e : Ext w, e.W.cell? ⟨g, 2, none⟩ = some v2) ∧ (∀ e : Ext w, e.W.cell? ⟨g, 3, none⟩ = some v3) ∧ (∀ e : Ext w, e.W.cell? ⟨g, 4, none⟩ = some v4) ∧
    (∀ e : Ext w, e.W.cell? ⟨g, 5, none⟩ = some v5) ∧ (∀ e : Ext w, e.W.cell? ⟨g, 6, none⟩ = some v6) ∧ (∀ e : Ext w, e.W.cell? ⟨g, 7, none⟩ = some v7) ∧ (∀ e : Ext w, e.W.cell? ⟨g, 8, none⟩ = some v8) ∧ (∀ e : Ext w, e.W.cell? ⟨g, 9, none⟩ = some v9) ∧ (∀ e : Ext w, e.W.cell? ⟨g, 10, none⟩ = some v10) := by
  have hE := fun e : Ext w => cells11 (ext_heap h e)
  exact ⟨fun e => (hE e).1, fun e => (hE e).2.1, fun e => (hE e).2.2.1, fun e => (hE e).2.2.2.1, fun e => (hE e).2.2.2.2.1, fun e => (hE e).2.2.2.2.2.1, fun e => (hE e).2.2.2.2.2.2.1, fun e => (hE e).2.2.2.2.2.2.2.1, fun e => (hE e).2.2.2.2.2.2.2.2.1, fun e => (hE e).2.2.2.2.2.2.2.2.2.1, fun e => (hE e).2.2.2.2.2.2.2.2.2.2⟩
theorem heap_push {w : World} {g : Nat} {o o' : Obj} (h : w.heap[g]? = some o) : (w.alloc o').heap[g]? = some o := heap_below ((Below.refl _ _).alloc (Nat.le_refl _) o') h
/-! ### the blocks that a call lays first, under a name -/
theorem calls_blk1 {P : Program} {f : FuncId} {args : Array Value} {w : World} {o1 : Obj} {R : Ending → World → Prop}
    (h : ∀ W, W.heap[w.heap.size]? = some o1 → Below w.heap.size w W → Calls P f args W R) : Calls P f args (w.alloc o1) R :=
  h _ (heap_new_at rfl) (below_alloc (Below.refl _ _) _)
theorem calls_blk2 {P : Program} {f : FuncId} {args : Array Value} {w : World} {o1 o2 : Obj} {R : Ending → World → Prop}
    (h : ∀ W, W.heap[w.heap.size]? = some o1 → W.heap[w.heap.size + 1]? = some o2 → Below w.heap.size w W → Calls P f args W R) : Calls P f args ((w.alloc o1).alloc o2) R :=
  h _ (heap_push (heap_new_at rfl)) (heap_new_at (by simp)) (below_alloc (below_alloc (Below.refl _ _) _) _)
theorem calls_blk3 {P : Program} {f : FuncId} {args : Array Value} {w : World} {o1 o2 o3 : Obj} {R : Ending → World → Prop}
    (h : ∀ W, W.heap[w.heap.size]? = some o1 → W.heap[w.heap.size + 1]? = some o2 → W.heap[w.heap.size + 1 + 1]? = some o3 → Below w.heap.size w W → Calls P f args W R) : Calls P f args (((w.alloc o1).alloc o2).alloc o3) R :=
  h _ (heap_push (heap_push (heap_new_at rfl))) (heap_push (heap_new_at (by simp))) (heap_new_at (by simp)) (below_alloc (below_alloc (below_alloc (Below.refl _ _) _) _) _)
theorem ext_end {w W0 : World} {e : Ext W0} (hb : Below w.heap.size w W0) : Below w.heap.size w e.W := below_trans hb e.below
end Go.Proofs.YtlmdkmflbhnlgaaGreat
namespace Go.Proofs.YtlmdkmflbhnlgaaGreat
open Go.RowKit

section
variable {P : Program} (w : World)
theorem run_app (base : Nat) (t ty e : TypeId) (i : TypeInfo) (z : Value) (bytes : Nat) (ht : P.underlying t = some (.slice e)) (hi : P.info? e = some i) (hz : i.zero = some z)
    (hsize : i.size = 1) (hby : i.bytes = bytes) (hzs : z.cells.size = 1)
    (v : Value) (n : Nat) (xs : List Value) (hown : w.ownsRow base e 1 v n xs)
    (A : Option Addr) (c : Nat) (news : List Value) (hr : Rd w A news) (h1 : ∀ u ∈ news, u.oneCell' = true) (hc : news = [] → A = none → c = 0)
    (h63 : n + news.length ≤ maxLen) (hbytes : (n + news.length) * bytes ≤ 140737488355328) (hbase : base ≤ w.heap.size) :
    ∃ v' w', (Builtin.append_ #[t, t] ty #[v, .slice A news.length c]).run P w = .ok v' w' ∧ w'.ownsRow base e 1 v' (n + news.length) (xs ++ news) ∧ w.grownBy w' v.ownBlock ∧
      (v'.ownBlock = v.ownBlock ∨ v'.ownBlock = some w.heap.size) := by
  cases A with
  | none =>
    have hn : news = [] := by
      cases news with
      | nil => rfl
      | cons u us => obtain ⟨ad, he, _⟩ := hr 0 u rfl; cases he
    subst hn
    have hc0 := hc rfl rfl
    subst hc0
    exact ⟨v, w, run_append_owned_none w base t ty e i 1 ht hi v n xs hown, by simpa using hown, World.grownBy.refl w _, .inl rfl⟩
  | some ad =>
    obtain ⟨v', w', hrun, h2, h3, _, h5⟩ := run_append_own_at (P := P) w base t ty e i z 1 bytes ht hi hz hsize hby hzs (by omega) v n xs hown ad news.length c news (by simp)
      (fun j u hj => by obtain ⟨ad', he, hcell⟩ := hr j u hj; injection he with he; subst he; exact hcell) h1 h63 hbytes hbase
    exact ⟨v', w', hrun, h2, h3, h5⟩
theorem wp_app {o : Oper} {a : Act} {K : Act → World → Prop} {Q : Exit → Act → World → Prop} (s x : Operand) (t : TypeId)
    (ho : o.op = .call { callee := .builtin .append, args := #[s, x], argTypes := #[t, t] })
    (base : Nat) (e : TypeId) (i : TypeInfo) (z : Value) (bytes : Nat) (ht : P.underlying t = some (.slice e)) (hi : P.info? e = some i) (hz : i.zero = some z)
    (hsize : i.size = 1) (hby : i.bytes = bytes) (hzs : z.cells.size = 1)
    (v : Value) (n : Nat) (xs : List Value) (hs : a.eval s = v) (hown : w.ownsRow base e 1 v n xs)
    (A : Option Addr) (m c : Nat) (news : List Value) (hx : a.eval x = .slice A m c) (hm : news.length = m) (hr : Rd w A news) (h1 : ∀ u ∈ news, u.oneCell' = true) (hc : news = [] → A = none → c = 0)
    (h63 : n + m ≤ maxLen) (hbytes : (n + m) * bytes ≤ 140737488355328) (hbase : base ≤ w.heap.size)
    (h : ∀ v' w', w'.ownsRow base e 1 v' (n + m) (xs ++ news) → w.grownBy w' v.ownBlock → (v'.ownBlock = v.ownBlock ∨ v'.ownBlock = some w.heap.size) → K (a.put o.dst v') w') : o.wp P a w K Q := by
  subst hm
  obtain ⟨v', w', hrun, h2, h3, h4⟩ := run_app (P := P) w base t o.type e i z bytes ht hi hz hsize hby hzs v n xs hown A c news hr h1 hc h63 hbytes hbase
  unfold Oper.wp execOp
  simp only [ho, resolve, invoke, builtin, Sem.run_bind, Sem.run_pure, Result.andThen_ok, List.map_toArray, List.map_cons, List.map_nil, hs, hx, hrun]
  exact h v' w' h2 h3 h4
theorem wpList_app {ops : Array Oper} {rest : List Oper} {o : Oper} {a : Act} {Q : Exit → Act → World → Prop} (hgd : o.guard = none) (s x : Operand) (t : TypeId)
    (ho : o.op = .call { callee := .builtin .append, args := #[s, x], argTypes := #[t, t] })
    (base : Nat) (e : TypeId) (i : TypeInfo) (z : Value) (bytes : Nat) (ht : P.underlying t = some (.slice e)) (hi : P.info? e = some i) (hz : i.zero = some z)
    (hsize : i.size = 1) (hby : i.bytes = bytes) (hzs : z.cells.size = 1)
    (v : Value) (n : Nat) (xs : List Value) (hs : a.eval s = v) (hown : w.ownsRow base e 1 v n xs)
    (A : Option Addr) (m c : Nat) (news : List Value) (hx : a.eval x = .slice A m c) (hm : news.length = m) (hr : Rd w A news) (h1 : ∀ u ∈ news, u.oneCell' = true) (hc : news = [] → A = none → c = 0)
    (h63 : n + m ≤ maxLen) (hbytes : (n + m) * bytes ≤ 140737488355328) (hbase : base ≤ w.heap.size)
    (h : ∀ v' w', w'.ownsRow base e 1 v' (n + m) (xs ++ news) → w.grownBy w' v.ownBlock → (v'.ownBlock = v.ownBlock ∨ v'.ownBlock = some w.heap.size) → wpList P ops Q rest (a.put o.dst v') w') : wpList P ops Q (o :: rest) a w :=
  wpList_plain hgd fun _ hK => wp_app w s x t ho base e i z bytes ht hi hz hsize hby hzs v n xs hs hown A m c news hx hm hr h1 hc h63 hbytes hbase fun v' w' h2 h3 h4 => hK _ _ (h v' w' h2 h3 h4)
end
theorem own_slice {w : World} {base n : Nat} {e : TypeId} {v : Value} {xs : List Value} (h : w.ownsRow base e 1 v n xs) : ∃ A c, v = .slice A n c ∧ Rd w A xs ∧ n = xs.length ∧ n ≤ c ∧ (A = none → c = 0) := by
  rcases h.2 with ⟨rfl, rfl⟩ | ⟨g, cap, cur, rfl, _, _, hnc, _⟩
  · have hx : xs = [] := List.eq_nil_of_length_eq_zero (by simpa using h.1)
    subst hx
    exact ⟨none, 0, rfl, Rd.nil _ _, rfl, by omega, fun _ => rfl⟩
  · exact ⟨_, cap, rfl, Rd.own h, by have := h.1; omega, hnc, fun e => by cases e⟩
theorem own_below {w w' : World} {base n e : Nat} {v : Value} {xs : List Value} (h : w.ownsRow base e 1 v n xs) (hb : Below w.heap.size w w') : w'.ownsRow base e 1 v n xs := by
  obtain ⟨h1, h2⟩ := h
  refine ⟨h1, ?_⟩
  rcases h2 with h2 | ⟨g, cap, cur, hv, hg, hh, r⟩
  · exact .inl h2
  · exact .inr ⟨g, cap, cur, hv, hg, heap_below hb hh, r⟩
theorem own_mono {w : World} {base base' n e : Nat} {v : Value} {xs : List Value} (h : w.ownsRow base e 1 v n xs) (hb : base' ≤ base) : w.ownsRow base' e 1 v n xs := by
  obtain ⟨h1, h2⟩ := h
  exact ⟨h1, h2.imp id fun ⟨g, cap, cur, hv, hg, r⟩ => ⟨g, cap, cur, hv, Nat.le_trans hb hg, r⟩⟩
/-- append's step, for what lay below the base. -/
theorem own_grown {B : Nat} {w0 w w' : World} {base n e : Nat} {v : Value} {xs : List Value} (h : w.ownsRow base e 1 v n xs) (hb : Below B w0 w) (hB : B ≤ base) (hs : base ≤ w.heap.size) (hg : w.grownBy w' v.ownBlock) : Below B w0 w' :=
  hb.grown hg (by omega) (fun k hk => by have := (h.lt k hk).1; omega)
theorem own_lit {w : World} {cs : List Value} {n e base : Nat} (hb : base ≤ w.heap.size) (hn : cs.length = n) (hm : n ≤ maxLen) : (w.alloc (.cells cs.toArray e)).ownsRow base e 1 (.slice (some ⟨w.heap.size, 0, none⟩) n n) n cs := by
  have := World.ownsRow_lit (e := e) (size := 1) w cs.toArray n hb hm (by simp [hn])
  simpa using this

/-! ### the same, over worlds in which all that lay in one lies -/
theorem ext_lt {w : World} {g : Nat} {o : Obj} (h : w.heap[g]? = some o) (e : Ext w) : g < e.W.heap.size := heap_lt (ext_heap h e)
theorem Ext.step {w : World} (e : Ext w) {w' : World} (h : Below e.W.heap.size e.W w') : ∃ e2 : Ext w, w' = e2.W := ⟨⟨w', below_trans e.below h⟩, rfl⟩
theorem ext_ge {w : World} (e : Ext w) : w.heap.size ≤ e.W.heap.size := e.below.size
theorem Ext.below_alloc {w : World} (e : Ext w) (o : Obj) : Below w.heap.size w (e.W.alloc o) := Go.Proofs.YtlmdkmflbhnlgaaGreat.below_alloc e.below o
theorem extcB {P : Program} {f : FuncId} {args : Array Value} {w0 : World} {e : Ext w0} {R : Ending → World → Prop} (h : Calls P f args e.W fun x w' => R x w' ∧ Below e.W.heap.size e.W w') :
    Calls P f args e.W fun x w' => ∃ e2 : Ext w0, w' = e2.W ∧ Hid (Below e.W.heap.size e.W e2.W) ∧ R x e2.W := h.mono fun _ w' ⟨hx, hb⟩ => ⟨⟨w', below_trans e.below hb⟩, rfl, hb, hx⟩
/-- A slice's length, for a loop's measure. -/
def lenV : Value → Nat | .slice _ n _ => n | _ => 0
theorem liftE {w0 w1 : World} (hb : Below w0.heap.size w0 w1) {a : Addr} {v : Value} (h : ∀ e : Ext w0, e.W.cell? a = some v) : ∀ e : Ext w1, e.W.cell? a = some v := fun e => h ⟨e.W, below_trans hb e.below⟩
/-- A row of the call's own: where it lies, and what it holds. -/
def Row (w : World) (base t : Nat) (A : Option Addr) (c : Nat) (xs : List Value) : Prop := w.ownsRow base t 1 (.slice A xs.length c) xs.length xs
theorem Row.of {w : World} {base t n : Nat} {v : Value} {xs : List Value} (h : w.ownsRow base t 1 v n xs) (hn : n = xs.length) : ∃ A c, v = .slice A xs.length c ∧ Row w base t A c xs := by
  subst hn
  obtain ⟨A, c, rfl, -⟩ := own_slice h
  exact ⟨A, c, rfl, h⟩
theorem Row.below {w w' : World} {base t c : Nat} {A : Option Addr} {xs : List Value} (h : Row w base t A c xs) (hb : Below w.heap.size w w') : Row w' base t A c xs := own_below h hb
theorem Row.alloc {w : World} {base t c : Nat} {A : Option Addr} {xs : List Value} (h : Row w base t A c xs) (o : Obj) : Row (w.alloc o) base t A c xs := World.ownsRow.alloc h o
theorem Row.mono {w : World} {base base' t c : Nat} {A : Option Addr} {xs : List Value} (h : Row w base t A c xs) (hb : base' ≤ base) : Row w base' t A c xs := own_mono h hb
theorem Row.rd {w : World} {base t c : Nat} {A : Option Addr} {xs : List Value} (h : Row w base t A c xs) : Rd w A xs := Rd.own h
theorem Row.none_ {w : World} {base t c : Nat} {A : Option Addr} {xs : List Value} (h : Row w base t A c xs) (hA : A = none) : c = 0 := by
  obtain ⟨A', c', e, -, -, -, hn⟩ := own_slice h
  injection e with e1 _ e3
  subst e1 e3
  exact hn hA
theorem Row.cap {w : World} {base t c : Nat} {A : Option Addr} {xs : List Value} (h : Row w base t A c xs) : xs.length ≤ c := by
  obtain ⟨A', c', e, -, -, hc, -⟩ := own_slice h
  injection e with e1 _ e3
  subst e3
  exact hc
theorem Row.nil (w : World) (base t : Nat) : Row w base t none 0 [] := ⟨by simp, .inl ⟨rfl, rfl⟩⟩
theorem wpList_appE {P : Program} {w0 W : World} (hW : Below w0.heap.size w0 W) {ops : Array Oper} {rest : List Oper} {o : Oper} {a : Act} {Q : Exit → Act → World → Prop} (hgd : o.guard = none) (s x : Operand) (t : TypeId)
    (ho : o.op = .call { callee := .builtin .append, args := #[s, x], argTypes := #[t, t] })
    (base : Nat) (e : TypeId) (i : TypeInfo) (z : Value) (bytes : Nat) (ht : P.underlying t = some (.slice e)) (hi : P.info? e = some i) (hz : i.zero = some z)
    (hsize : i.size = 1) (hby : i.bytes = bytes) (hzs : z.cells.size = 1)
    (A : Option Addr) (n c : Nat) (xs : List Value) (hs : a.eval s = .slice A n c) (hn : xs.length = n) (hown : Row W base e A c xs)
    (B : Option Addr) (m d : Nat) (news : List Value) (hx : a.eval x = .slice B m d) (hm : news.length = m) (hr : Rd W B news) (h1 : ∀ u ∈ news, u.oneCell' = true) (hd : news = [] → B = none → d = 0)
    (N : Nat) (hN : n + m = N) (h63 : N ≤ maxLen) (hbytes : N * bytes ≤ 140737488355328) (hB : w0.heap.size ≤ base) (hbase : base ≤ W.heap.size)
    (h : ∀ (e3 : Ext w0) (A3 : Option Addr) (c3 : Nat), Hid (Row e3.W base e A3 c3 (xs ++ news)) → wpList P ops Q rest (a.put o.dst (.slice A3 N c3)) e3.W) : wpList P ops Q (o :: rest) a W := by
  subst hN hm hn
  refine wpList_app W hgd s x t ho base e i z bytes ht hi hz hsize hby hzs (.slice A xs.length c) xs.length xs hs hown B news.length d news hx rfl hr h1 hd h63 hbytes hbase fun v' w' h2 h3 _ => ?_
  obtain ⟨A3, c3, rfl, hrow⟩ := Row.of h2 (by simp)
  have := h ⟨w', own_grown hown hW hB hbase h3⟩ A3 c3 hrow
  simpa using this
theorem step_appE {P : Program} {w0 W : World} (hW : Below w0.heap.size w0 W) {ops : Array Oper} {o : Oper} {a : Act} {K : Act → World → Prop} {Q : Exit → Act → World → Prop} {E : Prop} (hgd : o.guard = none) (s x : Operand) (t : TypeId)
    (ho : o.op = .call { callee := .builtin .append, args := #[s, x], argTypes := #[t, t] })
    (base : Nat) (e : TypeId) (i : TypeInfo) (z : Value) (bytes : Nat) (ht : P.underlying t = some (.slice e)) (hi : P.info? e = some i) (hz : i.zero = some z)
    (hsize : i.size = 1) (hby : i.bytes = bytes) (hzs : z.cells.size = 1)
    (A : Option Addr) (n c : Nat) (xs : List Value) (hs : a.eval s = .slice A n c) (hn : xs.length = n) (hown : Row W base e A c xs)
    (B : Option Addr) (m d : Nat) (news : List Value) (hx : a.eval x = .slice B m d) (hm : news.length = m) (hr : Rd W B news) (h1 : ∀ u ∈ news, u.oneCell' = true) (hd : news = [] → B = none → d = 0)
    (N : Nat) (hN : n + m = N) (h63 : N ≤ maxLen) (hbytes : N * bytes ≤ 140737488355328) (hB : w0.heap.size ≤ base) (hbase : base ≤ W.heap.size)
    (h : ∀ (e3 : Ext w0) (A3 : Option Addr) (c3 : Nat), Hid (Row e3.W base e A3 c3 (xs ++ news)) → K (a.put o.dst (.slice A3 N c3)) e3.W) :
    if Region.wanted o (yielded ops a.tmps) = true then Oper.wp P o a W K Q else E := by
  subst hN hm hn
  have hw : Region.wanted o (yielded ops a.tmps) = true := by simp [Region.wanted, hgd]
  rw [if_pos hw]
  refine wp_app W s x t ho base e i z bytes ht hi hz hsize hby hzs (.slice A xs.length c) xs.length xs hs hown B news.length d news hx rfl hr h1 hd h63 hbytes hbase fun v' w' h2 h3 _ => ?_
  obtain ⟨A3, c3, rfl, hrow⟩ := Row.of h2 (by simp)
  have := h ⟨w', own_grown hown hW hB hbase h3⟩ A3 c3 hrow
  simpa using this
end Go.Proofs.YtlmdkmflbhnlgaaGreat
-- BitsN: Numbers' bits, and bits' number. No condition.
namespace Go.Proofs.YtlmdkmflbhnlgaaGreat
open Go.RowKit

/-- A number's low bits, the highest of them first. -/
def bitsN (n : Nat) : Nat → List Nat
  | 0 => []
  | k + 1 => (n / 2 ^ k % 2) :: bitsN n k
theorem bitsN_length (n k : Nat) : (bitsN n k).length = k := by induction k <;> simp [bitsN, *]
theorem bitsN_bit (n k : Nat) : ∀ x ∈ bitsN n k, x ≤ 1 := by
  induction k with
  | zero => intro x hx; simp [bitsN] at hx
  | succ k ih => intro x hx; simp only [bitsN, List.mem_cons] at hx; rcases hx with rfl | hx
                 · omega
                 · exact ih x hx
theorem info_u8 : (Tryz.prog.info? 5).map (fun i => (i.zero, i.size, i.bytes)) = some (some (.int .u8 0), 1, 1) := by kernel_rfl
theorem set_mid (k x : Nat) (l : List Nat) : (List.replicate (k + 1) 0 ++ l).set k x = List.replicate k 0 ++ (x :: l) := by
  induction k with
  | zero => simp
  | succ k ih => rw [List.replicate_succ, List.cons_append, List.set_cons_succ, ih]; rfl
theorem bys_set (l : List Nat) (k x : Nat) : (bys l).set k (.int .u8 (x : Int)) = bys (l.set k x) := by simp [bys, List.map_set]
/-- A bool as a bit. -/
def bitB (b : Bool) : Nat := if b then 1 else 0
/-- Bits' number. -/
def numN (l : List Nat) : Nat := l.foldl (fun n b => n * 2 + b) 0
theorem numN_snoc (l : List Nat) (b : Nat) : numN (l ++ [b]) = numN l * 2 + b := by simp [numN]
theorem numN_from (l : List Nat) (h : ∀ x ∈ l, x ≤ 1) : ∀ n, l.foldl (fun n b => n * 2 + b) n < (n + 1) * 2 ^ l.length := by
  induction l with
  | nil => intro n; simp
  | cons b l ih =>
    intro n
    have h2 := h b (by simp)
    have h1 := ih (fun x hx => h x (by simp [hx])) (n * 2 + b)
    rw [List.foldl_cons, List.length_cons, Nat.pow_succ]
    refine Nat.lt_of_lt_of_le h1 ?_
    rw [← Nat.mul_assoc, Nat.mul_right_comm]
    exact Nat.mul_le_mul_right _ (by omega)
theorem numN_lt (l : List Nat) (h : ∀ x ∈ l, x ≤ 1) : numN l < 2 ^ l.length := by have := numN_from l h 0; simpa [numN] using this
end Go.Proofs.YtlmdkmflbhnlgaaGreat
-- PCrc: Check sums as folds: a table that takes four bits at once makes what bit by bit makes. No condition.
namespace Go.Proofs.YtlmdkmflbhnlgaaGreat
open Go.RowKit
/-- A bit taken in. -/
def oneN (size poly sum b : Nat) : Nat := (sum * 2 % 2 ^ size) ^^^ (if sum / 2 ^ (size - 1) % 2 = b then 0 else poly)
/-- Bits taken in. -/
def crcN (size poly sum : Nat) (l : List Nat) : Nat := l.foldl (oneN size poly) sum
theorem crcN_append (size poly sum : Nat) (a b : List Nat) : crcN size poly sum (a ++ b) = crcN size poly (crcN size poly sum a) b := by simp [crcN]
theorem crcN_cons (size poly sum x : Nat) (l : List Nat) : crcN size poly sum (x :: l) = crcN size poly (oneN size poly sum x) l := rfl
theorem oneN_lt (size poly sum b : Nat) (hp : poly < 2 ^ size) : oneN size poly sum b < 2 ^ size := by
  unfold oneN
  refine Nat.xor_lt_two_pow (Nat.mod_lt _ (Nat.two_pow_pos _)) ?_
  split
  · exact Nat.two_pow_pos _
  · exact hp
theorem crcN_lt (size poly : Nat) (l : List Nat) (hp : poly < 2 ^ size) : ∀ sum, sum < 2 ^ size → crcN size poly sum l < 2 ^ size := by
  induction l with
  | nil => intro sum h; exact h
  | cons x l ih => intro sum _; rw [crcN_cons]; exact ih _ (oneN_lt size poly sum x hp)
theorem bit_xor (s t k : Nat) : (s ^^^ t) / 2 ^ k % 2 = (s / 2 ^ k % 2) ^^^ (t / 2 ^ k % 2) := by
  rw [← Nat.shiftRight_eq_div_pow, ← Nat.shiftRight_eq_div_pow, ← Nat.shiftRight_eq_div_pow, Nat.shiftRight_xor_distrib]
  have := Nat.xor_mod_two_pow (a := s >>> k) (b := t >>> k) (n := 1)
  simpa using this
theorem oneN_xor (size poly s t b c : Nat) (hb : b ≤ 1) (hc : c ≤ 1) : oneN size poly (s ^^^ t) (b ^^^ c) = oneN size poly s b ^^^ oneN size poly t c := by
  have h1 : (s ^^^ t) * 2 % 2 ^ size = (s * 2 % 2 ^ size) ^^^ (t * 2 % 2 ^ size) := by
    have e : ∀ x : Nat, x * 2 = x <<< 1 := fun x => by rw [Nat.shiftLeft_eq]
    rw [e, e, e, Nat.shiftLeft_xor_distrib, Nat.xor_mod_two_pow]
  unfold oneN
  rw [h1, bit_xor]
  have hs : s / 2 ^ (size - 1) % 2 < 2 := Nat.mod_lt _ (by omega)
  have ht : t / 2 ^ (size - 1) % 2 < 2 := Nat.mod_lt _ (by omega)
  generalize s / 2 ^ (size - 1) % 2 = u at *
  generalize t / 2 ^ (size - 1) % 2 = v at *
  generalize s * 2 % 2 ^ size = x at *
  generalize t * 2 % 2 ^ size = y at *
  obtain rfl | rfl : u = 0 ∨ u = 1 := by omega
  all_goals
    obtain rfl | rfl : v = 0 ∨ v = 1 := by omega
    all_goals
      obtain rfl | rfl : b = 0 ∨ b = 1 := by omega
      all_goals
        obtain rfl | rfl : c = 0 ∨ c = 1 := by omega
        all_goals
          refine Nat.eq_of_testBit_eq fun j => ?_
          simp [Nat.testBit_xor] <;> cases x.testBit j <;> cases y.testBit j <;> cases poly.testBit j <;> rfl
/-- A row bit by bit. -/
theorem crcN_xor (size poly : Nat) : ∀ (l m : List Nat) (s t : Nat), l.length = m.length → (∀ x ∈ l, x ≤ 1) → (∀ x ∈ m, x ≤ 1) → crcN size poly (s ^^^ t) (List.zipWith (· ^^^ ·) l m) = crcN size poly s l ^^^ crcN size poly t m := by
  intro l
  induction l with
  | nil => intro m s t h _ _; cases m with
           | nil => rfl
           | cons => simp at h
  | cons x l ih =>
    intro m s t h hl hm
    cases m with
    | nil => simp at h
    | cons y m =>
      simp only [List.zipWith_cons_cons, crcN_cons]
      rw [oneN_xor size poly s t x y (hl x (by simp)) (hm y (by simp))]
      exact ih m _ _ (by simpa using h) (fun x hx => hl x (by simp [hx])) (fun x hx => hm x (by simp [hx]))
theorem oneN_zero (size poly s : Nat) (h0 : 1 ≤ size) (h : s < 2 ^ (size - 1)) : oneN size poly s 0 = s * 2 := by
  unfold oneN
  rw [Nat.div_eq_of_lt h, if_pos rfl, Nat.xor_zero]
  refine Nat.mod_eq_of_lt ?_
  obtain ⟨k, rfl⟩ : ∃ k, size = k + 1 := ⟨size - 1, by omega⟩
  rw [Nat.pow_succ]
  simp at h
  omega
theorem crcN_zeros (size poly : Nat) : ∀ (k s : Nat), k ≤ size → s < 2 ^ (size - k) → crcN size poly s (List.replicate k 0) = s * 2 ^ k := by
  intro k
  induction k with
  | zero => intro s _ _; simp [crcN]
  | succ k ih =>
    intro s hk hs
    rw [List.replicate_succ, crcN_cons, oneN_zero size poly s (by omega) ?_, ih _ (by omega) ?_]
    · rw [Nat.pow_succ, Nat.mul_assoc, Nat.mul_comm 2]
    · have e : size - k = (size - (k + 1)) + 1 := by omega
      rw [e, Nat.pow_succ]; omega
    · exact Nat.lt_of_lt_of_le hs (Nat.pow_le_pow_right (by omega) (by omega))
/-- Four bits whose number is the sum's highest four. -/
theorem crcN_own (size poly : Nat) (h : 4 ≤ size) (b3 b2 b1 b0 : Nat) (h3 : b3 ≤ 1) (h2 : b2 ≤ 1) (h1 : b1 ≤ 1) (h0 : b0 ≤ 1) : crcN size poly ((b3 * 8 + b2 * 4 + b1 * 2 + b0) * 2 ^ (size - 4)) [b3, b2, b1, b0] = 0 := by
  obtain ⟨k, rfl⟩ : ∃ k, size = k + 4 := ⟨size - 4, by omega⟩
  have hp : 0 < 2 ^ k := Nat.two_pow_pos _
  have e3 : 2 ^ (k + 4 - 1) = 8 * 2 ^ k := by rw [show k + 4 - 1 = k + 3 from by omega, Nat.pow_add]; omega
  have e4 : 2 ^ (k + 4) = 16 * 2 ^ k := by rw [Nat.pow_add]; omega
  have e0 : k + 4 - 4 = k := by omega
  rw [e0]
  generalize hP : 2 ^ k = P at *
  have step : ∀ n b : Nat, n < 16 → n / 8 = b → oneN (k + 4) poly (n * P) b = (n * 2 % 16) * P := by
    intro n b hn hb
    unfold oneN
    rw [e3, e4, Nat.mul_div_mul_right _ _ hp, if_pos (by omega), Nat.xor_zero, Nat.mul_right_comm, Nat.mul_mod_mul_right]
  simp only [crcN, List.foldl_cons, List.foldl_nil]
  rw [step _ b3 (by omega) (by omega), step _ b2 (by omega) (by omega), step _ b1 (by omega) (by omega), step _ b0 (by omega) (by omega)]
  have : (((b3 * 8 + b2 * 4 + b1 * 2 + b0) * 2 % 16 * 2 % 16 * 2 % 16) * 2 % 16) = 0 := by omega
  rw [this, Nat.zero_mul]
theorem crcN_flip (size poly : Nat) (h : 4 ≤ size) (hi : Nat) (b3 b2 b1 b0 : Nat) (h3 : b3 ≤ 1) (h2 : b2 ≤ 1) (h1 : b1 ≤ 1) (h0 : b0 ≤ 1) :
    crcN size poly (hi * 2 ^ (size - 4)) [b3, b2, b1, b0] = crcN size poly ((hi ^^^ (b3 * 8 + b2 * 4 + b1 * 2 + b0)) * 2 ^ (size - 4)) [0, 0, 0, 0] := by
  have h1' := crcN_xor size poly [b3, b2, b1, b0] [b3, b2, b1, b0] (hi * 2 ^ (size - 4)) ((b3 * 8 + b2 * 4 + b1 * 2 + b0) * 2 ^ (size - 4)) rfl (by simp; omega) (by simp; omega)
  rw [crcN_own size poly h b3 b2 b1 b0 h3 h2 h1 h0, Nat.xor_zero] at h1'
  rw [← h1']
  simp only [List.zipWith_cons_cons, List.zipWith_nil_left, Nat.xor_self]
  rw [← Nat.shiftLeft_eq, ← Nat.shiftLeft_eq, ← Nat.shiftLeft_eq, ← Nat.shiftLeft_xor_distrib]
/-- The table's row. -/
def tabN (size poly i : Nat) : Nat := crcN size poly (i * 2 ^ (size - 4)) [0, 0, 0, 0]
theorem numN_four (b3 b2 b1 b0 : Nat) : numN [b3, b2, b1, b0] = b3 * 8 + b2 * 4 + b1 * 2 + b0 := by simp [numN]; omega
theorem crcN_four (size poly sum : Nat) (h : 4 ≤ size) (hs : sum < 2 ^ size) (l : List Nat) (hl : l.length = 4) (h01 : ∀ x ∈ l, x ≤ 1) :
    crcN size poly sum l = (sum * 16 % 2 ^ size) ^^^ tabN size poly ((sum / 2 ^ (size - 4)) ^^^ numN l) := by
  match l, hl with
  | [b3, b2, b1, b0], _ =>
    have h3 := h01 b3 (by simp)
    have h2 := h01 b2 (by simp)
    have h1 := h01 b1 (by simp)
    have h0 := h01 b0 (by simp)
    rw [numN_four]
    unfold tabN
    rw [← crcN_flip size poly h _ b3 b2 b1 b0 h3 h2 h1 h0]
    have hsplit : sum = (sum % 2 ^ (size - 4)) ^^^ (sum / 2 ^ (size - 4) * 2 ^ (size - 4)) := by
      refine Nat.eq_of_testBit_eq fun j => ?_
      rw [Nat.testBit_xor, Nat.testBit_mod_two_pow, Nat.testBit_mul_two_pow, Nat.testBit_div_two_pow]
      by_cases hj : j < size - 4
      · simp [hj, show ¬ size - 4 ≤ j by omega]
      · have e2 : j - (size - 4) + (size - 4) = j := by omega
        simp only [hj, decide_false, Bool.false_and, Bool.false_xor, decide_eq_true (show size - 4 ≤ j by omega), Bool.true_and, e2]
    have hz : crcN size poly (sum % 2 ^ (size - 4)) [0, 0, 0, 0] = sum * 16 % 2 ^ size := by
      have := crcN_zeros size poly 4 (sum % 2 ^ (size - 4)) h (Nat.mod_lt _ (Nat.two_pow_pos _))
      rw [show List.replicate 4 0 = [0, 0, 0, 0] from rfl] at this
      rw [this]
      obtain ⟨k, rfl⟩ : ∃ k, size = k + 4 := ⟨size - 4, by omega⟩
      rw [show k + 4 - 4 = k from by omega, Nat.pow_add, show (2 : Nat) ^ 4 = 16 from rfl, Nat.mul_mod_mul_right]
    have hx := crcN_xor size poly [0, 0, 0, 0] [b3, b2, b1, b0] (sum % 2 ^ (size - 4)) (sum / 2 ^ (size - 4) * 2 ^ (size - 4)) rfl (by simp) (by simp; omega)
    rw [← hsplit, hz] at hx
    simp only [List.zipWith_cons_cons, List.zipWith_nil_left, Nat.zero_xor] at hx
    exact hx
end Go.Proofs.YtlmdkmflbhnlgaaGreat
-- Blk: Words on blocks: their cells, and which two of them are turned. No condition.
namespace Go.Proofs.YtlmdkmflbhnlgaaGreat
open Go.RowKit
/-- Which of two numbers is lower, as Go tells it. -/
def cmpI (a b : Int) : Int := if a < b then -1 else if b < a then 1 else 0
theorem ret_fst {k : IntKind} {a b : Int} {v : Value} (h : a = b) : Ending.returned (.tuple #[.int k a, v]) = .returned (.tuple #[.int k b, v]) := by rw [h]
theorem cell_of_heap {w : World} {g : Nat} {cs : Array Value} {t : TypeId} {fr : Nat × Nat} (h : w.heap[g]? = some (.cells cs t fr)) (k : Nat) (v : Value) (hk : cs[k]? = some v) : w.cell? ⟨g, k, none⟩ = some v := by
  unfold World.cell?
  simp only
  rw [h]
  exact hk
theorem heap_setCell {w : World} {g : Nat} {cs : Array Value} {t : TypeId} {fr : Nat × Nat} (h : w.heap[g]? = some (.cells cs t fr)) (k : Nat) (v : Value) :
    (w.setCell ⟨g, k, none⟩ v).heap[g]? = some (.cells (cs.setIfInBounds k v) t fr) := by
  simp [World.setCell, Array.getElem?_modify, h]
/-- Only blocks b and g are turned, of what lay. -/
structure Touch (b g : Nat) (w w' : World) : Prop where
  os : w'.os = w.os
  tape : w'.tape = w.tape
  output : w'.output = w.output
  size : w.heap.size ≤ w'.heap.size
  block : ∀ k, k < w.heap.size → k ≠ b → k ≠ g → w'.heap[k]? = w.heap[k]?
theorem Touch.refl (b g : Nat) (w : World) : Touch b g w w := ⟨rfl, rfl, rfl, Nat.le_refl _, fun _ _ _ _ => rfl⟩
theorem Touch.trans {b g : Nat} {w w1 w2 : World} (h : Touch b g w w1) (k : Touch b g w1 w2) : Touch b g w w2 :=
  ⟨k.os.trans h.os, k.tape.trans h.tape, k.output.trans h.output, Nat.le_trans h.size k.size, fun i hi h1 h2 => (k.block i (Nat.lt_of_lt_of_le hi h.size) h1 h2).trans (h.block i hi h1 h2)⟩
theorem Touch.of {b g : Nat} {w w' : World} (h : Below w.heap.size w w') : Touch b g w w' := ⟨h.os, h.tape, h.output, h.size, fun k hk _ _ => h.block k hk⟩
theorem Touch.drew {b g : Nat} {w w' : World} (h : Touch b g w w') : Touch b g w w'.drew := ⟨h.os, h.tape, h.output, h.size, h.block⟩
theorem Touch.setCell {b g : Nat} {w w' : World} (h : Touch b g w w') {p : Addr} (hp : p.block = b ∨ p.block = g) (u : Value) : Touch b g w (w'.setCell p u) :=
  ⟨h.os, h.tape, h.output, by simpa [World.setCell] using h.size, fun k hk h1 h2 => by rw [Below.heap_setCell _ _ _ _ (by rcases hp with e | e <;> rw [e] <;> assumption)]; exact h.block k hk h1 h2⟩
theorem Touch.alloc {b g : Nat} {w w' : World} (h : Touch b g w w') (o : Obj) : Touch b g w (w'.alloc o) := h.trans (.of (below_alloc (Below.refl _ _) o))
theorem Touch.below {b g base : Nat} {w w' : World} (h : Touch b g w w') (hb : base ≤ b) (hg : base ≤ g) (hw : base ≤ w.heap.size) : Below base w w' :=
  ⟨h.os, h.tape, h.output, h.size, fun k hk => h.block k (by omega) (by omega) (by omega)⟩
theorem nblk (w : World) (a : Addr) (v : Value) : (w.setCell a v).heap.size = w.heap.size := by simp [World.setCell]
end Go.Proofs.YtlmdkmflbhnlgaaGreat
-- Pot: A row of bytes that grows behind a pointer: block b holds the slice, the row itself lies beyond B. No condition.
namespace Go.Proofs.YtlmdkmflbhnlgaaGreat
open Go.RowKit
/-- Of what lay below B only block b is turned. -/
structure Keep (B b : Nat) (w w' : World) : Prop where
  os : w'.os = w.os
  tape : w'.tape = w.tape
  output : w'.output = w.output
  size : w.heap.size ≤ w'.heap.size
  block : ∀ k, k < B → k ≠ b → w'.heap[k]? = w.heap[k]?
theorem Keep.refl (B b : Nat) (w : World) : Keep B b w w := ⟨rfl, rfl, rfl, Nat.le_refl _, fun _ _ _ => rfl⟩
theorem Keep.trans {B b : Nat} {w w1 w2 : World} (h : Keep B b w w1) (k : Keep B b w1 w2) : Keep B b w w2 :=
  ⟨k.os.trans h.os, k.tape.trans h.tape, k.output.trans h.output, Nat.le_trans h.size k.size, fun i hi h1 => (k.block i hi h1).trans (h.block i hi h1)⟩
theorem Keep.of {B b C : Nat} {w w' : World} (h : Below C w w') (hB : B ≤ C) : Keep B b w w' := ⟨h.os, h.tape, h.output, h.size, fun k hk _ => h.block k (by omega)⟩
theorem Keep.mono {B B' b : Nat} {w w' : World} (h : Keep B b w w') (hB : B' ≤ B) : Keep B' b w w' := ⟨h.os, h.tape, h.output, h.size, fun k hk h1 => h.block k (by omega) h1⟩
theorem Keep.drew {B b : Nat} {w w' : World} (h : Keep B b w w') : Keep B b w w'.drew := ⟨h.os, h.tape, h.output, h.size, h.block⟩
theorem Keep.setCell {B b : Nat} {w w' : World} (h : Keep B b w w') {p : Addr} (hp : p.block = b ∨ B ≤ p.block) (u : Value) : Keep B b w (w'.setCell p u) :=
  ⟨h.os, h.tape, h.output, by simpa [World.setCell] using h.size, fun k hk h1 => by rw [Below.heap_setCell _ _ _ _ (by rcases hp with e | e <;> omega)]; exact h.block k hk h1⟩
theorem Keep.alloc {B b : Nat} {w w' : World} (h : Keep B b w w') (hB : B ≤ w'.heap.size) (o : Obj) : Keep B b w (w'.alloc o) := h.trans (.of (Go.Proofs.YtlmdkmflbhnlgaaGreat.below_alloc (Below.refl _ _) o) hB)
theorem Keep.below {B b C : Nat} {w w' : World} (h : Keep B b w w') (hb : C ≤ b) (hB : C ≤ B) : Below C w w' := ⟨h.os, h.tape, h.output, h.size, fun k hk => h.block k (by omega) (by omega)⟩
theorem Keep.heap {B b k : Nat} {w w' : World} {o : Obj} (h : Keep B b w w') (hk : w.heap[k]? = some o) (h1 : k < B) (h2 : k ≠ b) : w'.heap[k]? = some o := (h.block k h1 h2).trans hk
/-- The row that grows. -/
structure Pot (w : World) (B b t : Nat) (A : Option Addr) (c : Nat) (l : List Nat) : Prop where
  box : w.heap[b]? = some (.cells #[.slice A l.length c] t)
  ne : ∀ ad, A = some ad → ad.block ≠ b
  size : B ≤ w.heap.size
  row : Row w B 5 A c (bys l)
theorem Pot.below {w w' : World} {B b t : Nat} {A : Option Addr} {c : Nat} {l : List Nat} (h : Pot w B b t A c l) (hb : Below w.heap.size w w') : Pot w' B b t A c l :=
  ⟨heap_below hb h.box, h.ne, Nat.le_trans h.size hb.size, h.row.below hb⟩
theorem Pot.alloc {w : World} {B b t : Nat} {A : Option Addr} {c : Nat} {l : List Nat} (h : Pot w B b t A c l) (o : Obj) : Pot (w.alloc o) B b t A c l := h.below (below_alloc (Below.refl _ _) _)
theorem Pot.drew {w : World} {B b t : Nat} {A : Option Addr} {c : Nat} {l : List Nat} (h : Pot w B b t A c l) : Pot w.drew B b t A c l := h.below (Below.refl _ _).drew
theorem Pot.cell {w : World} {B b t : Nat} {A : Option Addr} {c : Nat} {l : List Nat} (h : Pot w B b t A c l) : w.cell? ⟨b, 0, none⟩ = some (.slice A l.length c) := cell_of_heap h.box 0 _ rfl
theorem Pot.frozen {w : World} {B b t : Nat} {A : Option Addr} {c : Nat} {l : List Nat} (h : Pot w B b t A c l) : w.frozen? ⟨b, 0, none⟩ = false := by simp [World.frozen?, h.box]
theorem Pot.rd {w : World} {B b t : Nat} {A : Option Addr} {c : Nat} {l : List Nat} (h : Pot w B b t A c l) : Rd w A (bys l) := h.row.rd
theorem Pot.new (w : World) (t : Nat) : Pot (w.alloc (.cells #[.slice none 0 0] t)) (w.heap.size + 1) w.heap.size t none 0 [] :=
  ⟨heap_new_at rfl, fun _ e => (by cases e), by simp, Row.nil _ _ _⟩
/-- What lies behind append's step, ahead of the store. -/
structure Potd (W w' : World) (B b t : Nat) (v0 : Value) (A : Option Addr) (c : Nat) (l : List Nat) : Prop where
  box : w'.heap[b]? = some (.cells #[v0] t)
  ne : ∀ ad, A = some ad → ad.block ≠ b
  size : B ≤ w'.heap.size
  row : Row w' B 5 A c (bys l)
  keep : Keep B b W w'
theorem Row.setCell {w : World} {base t c b : Nat} {A : Option Addr} {xs : List Value} (h : Row w base t A c xs) (hb : ∀ ad, A = some ad → ad.block ≠ b) (k : Nat) (u : Value) : Row (w.setCell ⟨b, k, none⟩ u) base t A c xs := by
  refine ⟨h.1, h.2.imp id fun ⟨g, cap, cur, hv, hg, hh, r⟩ => ⟨g, cap, cur, hv, hg, ?_, r⟩⟩
  rw [Below.heap_setCell _ _ _ _ (by injection hv with e _ _; exact hb _ e)]; exact hh
theorem Potd.store {W w' : World} {B b t n : Nat} {v0 : Value} {A : Option Addr} {c : Nat} {l : List Nat} (h : Potd W w' B b t v0 A c l) (hn : l.length = n) :
    Pot (w'.setCell ⟨b, 0, none⟩ (.slice A n c)) B b t A c l ∧ Keep B b W (w'.setCell ⟨b, 0, none⟩ (.slice A n c)) := by
  subst hn
  obtain ⟨h1, h2, h3, h4, h5⟩ := h
  exact ⟨⟨heap_setCell h1 0 _, h2, by simpa [World.setCell] using h3, h4.setCell h2 _ _⟩, h5.setCell (p := ⟨b, 0, none⟩) (.inl rfl) _⟩
theorem wp_pot {P : Program} {W0 w : World} {B b t : Nat} {A : Option Addr} {c : Nat} {l : List Nat} (h : Pot w B b t A c l) (hW : Keep B b W0 w) {o : Oper} {a : Act} {K : Act → World → Prop} {Q : Exit → Act → World → Prop} (s x : Operand) (ty : TypeId)
    (ho : o.op = .call { callee := .builtin .append, args := #[s, x], argTypes := #[ty, ty] })
    (i : TypeInfo) (z : Value) (bytes : Nat) (ht : P.underlying ty = some (.slice 5)) (hi : P.info? 5 = some i) (hz : i.zero = some z) (hsize : i.size = 1) (hby : i.bytes = bytes) (hzs : z.cells.size = 1)
    (n : Nat) (hn : l.length = n) (hs : a.eval s = .slice A n c)
    (A2 : Option Addr) (m d : Nat) (news : List Nat) (hx : a.eval x = .slice A2 m d) (hm : news.length = m) (hr : Rd w A2 (bys news)) (hd : news = [] → A2 = none → d = 0)
    (N : Nat) (hN : n + m = N) (h63 : N ≤ maxLen) (hbytes : N * bytes ≤ 140737488355328)
    (hk : ∀ w' A3 c3, Hid (Potd W0 w' B b t (.slice A n c) A3 c3 (l ++ news)) → w'.cell? ⟨b, 0, none⟩ = some (.slice A n c) → w'.frozen? ⟨b, 0, none⟩ = false → K (a.put o.dst (.slice A3 N c3)) w') : o.wp P a w K Q := by
  subst hN hm hn
  have hrow := h.row
  unfold Row at hrow
  rw [bys_length] at hrow
  refine wp_app w s x ty ho B 5 i z bytes ht hi hz hsize hby hzs (.slice A l.length c) l.length (bys l) hs hrow A2 news.length d (bys news) hx (by rw [bys_length]) hr (bys_one _)
    (fun e => hd (by cases news with | nil => rfl | cons x l => simp [bys] at e)) h63 hbytes h.size fun v' w' h2 h3 h5 => ?_
  rw [← bys_append] at h2
  obtain ⟨A3, c3, rfl, hrow3⟩ := Row.of h2 (by simp [bys_length])
  have hsb := heap_lt h.box
  have hbx : w'.heap[b]? = some (.cells #[.slice A l.length c] t) := by
    rw [h3.block b hsb (by intro e; cases hA : A with | none => rw [hA] at e; cases e | some ad => rw [hA] at e; injection e with e; exact h.ne ad hA e.symm)]; exact h.box
  have hkeep : Keep B b W0 w' := hW.trans (.of ((Below.refl B w).grown h3 h.size (fun k hk => (World.ownsRow.lt hrow k hk).1)) (Nat.le_refl _))
  have hne3 : ∀ ad, A3 = some ad → ad.block ≠ b := by
    intro ad e
    subst e
    rcases h5 with h5 | h5
    · cases hA : A with
      | none => rw [hA] at h5; cases h5
      | some ad' => rw [hA] at h5; injection h5 with h5; rw [h5]; exact h.ne ad' hA
    · injection h5 with h5; omega
  have := hk w' A3 c3 ⟨hbx, hne3, Nat.le_trans h.size h3.size, hrow3, hkeep⟩ (cell_of_heap hbx 0 _ rfl) (by simp [World.frozen?, hbx])
  rw [bys_length, List.length_append]
  exact this
theorem step_pot {P : Program} {W0 w : World} {B b t : Nat} {A : Option Addr} {c : Nat} {l : List Nat} (h : Pot w B b t A c l) (hW : Keep B b W0 w) {ops : Array Oper} {o : Oper} {a : Act} {K : Act → World → Prop} {Q : Exit → Act → World → Prop} {E : Prop} (hgd : o.guard = none) (s x : Operand) (ty : TypeId)
    (ho : o.op = .call { callee := .builtin .append, args := #[s, x], argTypes := #[ty, ty] })
    (i : TypeInfo) (z : Value) (bytes : Nat) (ht : P.underlying ty = some (.slice 5)) (hi : P.info? 5 = some i) (hz : i.zero = some z) (hsize : i.size = 1) (hby : i.bytes = bytes) (hzs : z.cells.size = 1)
    (n : Nat) (hn : l.length = n) (hs : a.eval s = .slice A n c)
    (A2 : Option Addr) (m d : Nat) (news : List Nat) (hx : a.eval x = .slice A2 m d) (hm : news.length = m) (hr : Rd w A2 (bys news)) (hd : news = [] → A2 = none → d = 0)
    (N : Nat) (hN : n + m = N) (h63 : N ≤ maxLen) (hbytes : N * bytes ≤ 140737488355328)
    (hk : ∀ w' A3 c3, Hid (Potd W0 w' B b t (.slice A n c) A3 c3 (l ++ news)) → w'.cell? ⟨b, 0, none⟩ = some (.slice A n c) → w'.frozen? ⟨b, 0, none⟩ = false → K (a.put o.dst (.slice A3 N c3)) w') :
    if Region.wanted o (yielded ops a.tmps) = true then Oper.wp P o a w K Q else E := by
  have hw : Region.wanted o (yielded ops a.tmps) = true := by simp [Region.wanted, hgd]
  rw [if_pos hw]
  exact wp_pot h hW s x ty ho i z bytes ht hi hz hsize hby hzs n hn hs A2 m d news hx hm hr hd N hN h63 hbytes hk
theorem wpList_pot {P : Program} {W0 w : World} {B b t : Nat} {A : Option Addr} {c : Nat} {l : List Nat} (h : Pot w B b t A c l) (hW : Keep B b W0 w) {ops : Array Oper} {rest : List Oper} {o : Oper} {a : Act} {Q : Exit → Act → World → Prop} (hgd : o.guard = none) (s x : Operand) (ty : TypeId)
    (ho : o.op = .call { callee := .builtin .append, args := #[s, x], argTypes := #[ty, ty] })
    (i : TypeInfo) (z : Value) (bytes : Nat) (ht : P.underlying ty = some (.slice 5)) (hi : P.info? 5 = some i) (hz : i.zero = some z) (hsize : i.size = 1) (hby : i.bytes = bytes) (hzs : z.cells.size = 1)
    (n : Nat) (hn : l.length = n) (hs : a.eval s = .slice A n c)
    (A2 : Option Addr) (m d : Nat) (news : List Nat) (hx : a.eval x = .slice A2 m d) (hm : news.length = m) (hr : Rd w A2 (bys news)) (hd : news = [] → A2 = none → d = 0)
    (N : Nat) (hN : n + m = N) (h63 : N ≤ maxLen) (hbytes : N * bytes ≤ 140737488355328)
    (hk : ∀ w' A3 c3, Hid (Potd W0 w' B b t (.slice A n c) A3 c3 (l ++ news)) → w'.cell? ⟨b, 0, none⟩ = some (.slice A n c) → w'.frozen? ⟨b, 0, none⟩ = false → wpList P ops Q rest (a.put o.dst (.slice A3 N c3)) w') : wpList P ops Q (o :: rest) a w :=
  wpList_plain hgd fun _ hK => wp_pot h hW s x ty ho i z bytes ht hi hz hsize hby hzs n hn hs A2 m d news hx hm hr hd N hN h63 hbytes fun w' A3 c3 h2 h3 h4 => hK _ _ (hk w' A3 c3 h2 h3 h4)
/-! ### bits.row: its put -/
set_option maxRecDepth 100000 in
set_option maxHeartbeats 1000000 in
theorem rowPut_any (w : World) (B b t : Nat) (A : Option Addr) (c n size : Nat) (l : List Nat) (h : Pot w B b t A c l) (hn : n < 18446744073709551616) (hs : size ≤ 64) (hl : l.length + size ≤ 1000000) :
    Calls Tryz.prog 89 #[.pointer (some ⟨b, 0, none⟩), .int .u64 n, .int .i64 size] w fun e w' => e = .returned (.tuple #[]) ∧ (∃ A' c', Pot w' B b t A' c' (l ++ bitsN n size)) ∧ Keep B b w w' := by
  obtain ⟨i0, hi, hz0, hz1, hz2⟩ := info_parts info_u8
  have HP := Lib.hid h
  clear h
  go_enter Tryz.func89, Tryz.ntmps89
  go_wp2_with fail
  go_loopw [6] (fun iv wr => ∃ (k : Nat) (m : List Nat) (A' : Option Addr) (c' : Nat), k ≤ size ∧ m.length + k ≤ 1000000 ∧ Hid (m ++ bitsN n k = l ++ bitsN n size) ∧ iv = .int .i64 ((k : Int) - 1) ∧ Hid (Pot wr B b t A' c' m) ∧ Hid (Keep B b w wr)) (fun iv _ => (intOf iv + 1).toNat)
  case atStart => exact ⟨size, l, A, c, by omega, hl, rfl, rfl, HP, Keep.refl _ _ _⟩
  case round =>
    obtain ⟨k, m, A', c', hk, hm, HM, rfl, HQ, HK⟩ := hrel
    cases k with
    | zero =>
      go_wp2_with fail
      go_end0
      have := HM.out
      simp only [bitsN, List.append_nil] at this
      exact ⟨rfl, ⟨_, _, this ▸ HQ.out⟩, HK.out⟩
    | succ k =>
      rw [show (((k + 1 : Nat) : Int) - 1) = (k : Int) from by omega]
      obtain ⟨q, hq⟩ : ∃ q, m.length = q := ⟨_, rfl⟩
      have hq2 : q + 1 + k ≤ 1000000 := by omega
      have c0 : wr.cell? ⟨b, 0, none⟩ = some (.slice A' q c') := by rw [← hq]; exact HQ.out.cell
      have z0 : wr.frozen? ⟨b, 0, none⟩ = false := HQ.out.frozen
      have sb : b < wr.heap.size := heap_lt HQ.out.box
      have fz : ∀ o, (wr.alloc o).drew.frozen? ⟨b, 0, none⟩ = false := fun o => (HQ.out.alloc o).drew.frozen
      have HL := Lib.hid hq
      clear hq hm
      obtain ⟨x, hx⟩ : ∃ x, n / 2 ^ k % 2 = x := ⟨_, rfl⟩
      have hx1 : x ≤ 1 := by omega
      have hand : bits .and .u64 ((n : Int) / 2 ^ k) 1 = (x : Int) := by
        have e : ((n : Int) / 2 ^ k) = ((n / 2 ^ k : Nat) : Int) := by simp
        have hle : n / 2 ^ k ≤ n := Nat.div_le_self _ _
        rw [e, and_one_u64 _ (Int.natCast_nonneg _) (by omega), ← hx]; simp
      have hwr : IntKind.u8.wrap (x : Int) = (x : Int) := IntWalk.u8_in _ ⟨by omega, by omega⟩
      have HX := Lib.hid hx
      clear hx
      go_wp2_with fail
      go_region_law (first
        | (refine step_pot (W0 := w) (HQ.out.alloc _).drew ?c1 rfl (.tmp 17) (.tmp 23) 22 rfl i0 _ 1 Tryz.underlying22 hi hz0 hz1 hz2 rfl q HL.out rfl _ 1 1 [x] rfl rfl (Rd.blk (heap_new_at rfl)) (by intro h; cases h) (q + 1) rfl ?c2 ?c3 ?_; (case c1 => exact HK.out.trans (.of (below_alloc (Below.refl _ _) _).drew HQ.out.size)); (case c2 => unfold maxLen; omega); (case c3 => omega); intro w3 A3 c3 HP3 c03 z03))
      all_goals
        go_wp2_with fail
        go_roundw
        case rel =>
          obtain ⟨p1, p2⟩ := HP3.out.store (n := q + 1) (by rw [List.length_append, HL.out]; rfl)
          refine ⟨k, m ++ [x], A3, c3, by omega, by rw [List.length_append, HL.out, List.length_singleton]; omega, ?_, by go_num, p1, p2⟩
          show (m ++ [x]) ++ bitsN n k = l ++ bitsN n size
          rw [← HM.out, ← HX.out, List.append_assoc]; rfl
        case measure => simp [intOf]
set_option maxRecDepth 100000 in
set_option maxHeartbeats 1000000 in
theorem bitsPut_any (w : World) (n size : Nat) (hn : n < 18446744073709551616) (hs : size ≤ 64) (hlt : n < 2 ^ size) :
    Calls Tryz.prog 63 #[.int .u64 n, .int .i64 size] w fun e w' => (∃ A c, e = .returned (.tuple #[.slice A size c, .int .i64 0]) ∧ Row w' w.heap.size 5 A c (bys (bitsN n size))) ∧ Below w.heap.size w w' := by
  have hd : (n : Int) / 2 ^ size = 0 := by
    have e : (n : Int) / 2 ^ size = ((n / 2 ^ size : Nat) : Int) := by simp
    rw [e, Nat.div_eq_of_lt hlt]; rfl
  clear hlt
  have HR := Lib.hid (rowPut_any (w.alloc (.cells #[.slice none 0 0] 107)) (w.heap.size + 1) w.heap.size 107 none 0 n size [] (Pot.new w _) hn hs (by simp; omega))
  go_enter Tryz.func63, Tryz.ntmps63
  go_wp2_with fail
  refine HR.out.mono ?_
  rintro e w' ⟨rfl, ⟨A, c, hp⟩, hk⟩
  have hc := hp.cell
  rw [List.nil_append, bitsN_length] at hc
  have HP := Lib.hid hp
  have HK := Lib.hid hk
  clear hp hk
  go_wp2_with fail
  go_ret2
  exact ⟨⟨A, c, rfl, by have := HP.out.row; rw [List.nil_append] at this; exact this.mono (by omega)⟩, (below_alloc (Below.refl _ _) _).trans (HK.out.below (by omega) (by omega))⟩
end Go.Proofs.YtlmdkmflbhnlgaaGreat
-- AppB: append to a row of the call's own that lies beside other blocks of the call's own. No condition.
namespace Go.Proofs.YtlmdkmflbhnlgaaGreat
open Go.RowKit
/-- append to a row of the call's own: below the row's base nothing is turned. -/
theorem wpList_appB {P : Program} {W : World} {ops : Array Oper} {rest : List Oper} {o : Oper} {a : Act} {Q : Exit → Act → World → Prop} (hgd : o.guard = none) (s x : Operand) (t : TypeId)
    (ho : o.op = .call { callee := .builtin .append, args := #[s, x], argTypes := #[t, t] })
    (base : Nat) (e : TypeId) (i : TypeInfo) (z : Value) (bytes : Nat) (ht : P.underlying t = some (.slice e)) (hi : P.info? e = some i) (hz : i.zero = some z)
    (hsize : i.size = 1) (hby : i.bytes = bytes) (hzs : z.cells.size = 1)
    (A : Option Addr) (n c : Nat) (xs : List Value) (hs : a.eval s = .slice A n c) (hn : xs.length = n) (hown : Row W base e A c xs)
    (B : Option Addr) (m d : Nat) (news : List Value) (hx : a.eval x = .slice B m d) (hm : news.length = m) (hr : Rd W B news) (h1 : ∀ u ∈ news, u.oneCell' = true) (hd : news = [] → B = none → d = 0)
    (N : Nat) (hN : n + m = N) (h63 : N ≤ maxLen) (hbytes : N * bytes ≤ 140737488355328) (hbase : base ≤ W.heap.size)
    (h : ∀ (w3 : World) (A3 : Option Addr) (c3 : Nat), Hid (Row w3 base e A3 c3 (xs ++ news)) → Hid (Below base W w3) → wpList P ops Q rest (a.put o.dst (.slice A3 N c3)) w3) : wpList P ops Q (o :: rest) a W := by
  subst hN hm hn
  refine wpList_app W hgd s x t ho base e i z bytes ht hi hz hsize hby hzs (.slice A xs.length c) xs.length xs hs hown B news.length d news hx rfl hr h1 hd h63 hbytes hbase fun v' w' h2 h3 _ => ?_
  obtain ⟨A3, c3, rfl, hrow⟩ := Row.of h2 (by simp)
  have := h w' A3 c3 hrow (own_grown hown (Below.refl base W) (Nat.le_refl _) hbase h3)
  simpa using this
theorem wpList_append_run {P : Program} {w : World} {ops : Array Oper} {rest : List Oper} {o : Oper} {a : Act} {Q : Exit → Act → World → Prop} (hgd : o.guard = none) (s x : Operand) (t t2 : TypeId)
    (ho : o.op = .call { callee := .builtin .append, args := #[s, x], argTypes := #[t, t2] }) (v u v' : Value) (w' : World) (hs : a.eval s = v) (hx : a.eval x = u)
    (hrun : (Builtin.append_ #[t, t2] o.type #[v, u]).run P w = .ok v' w') (h : wpList P ops Q rest (a.put o.dst v') w') : wpList P ops Q (o :: rest) a w :=
  wpList_plain hgd fun _ hK => by
    unfold Oper.wp execOp
    simp only [ho, resolve, invoke, builtin, Sem.run_bind, Sem.run_pure, Result.andThen_ok, List.map_toArray, List.map_cons, List.map_nil, hs, hx, hrun]
    exact hK _ _ h
end Go.Proofs.YtlmdkmflbhnlgaaGreat
-- Concat: slices.Grow of nil, and slices.Concat over rows of bytes. No condition.
namespace Go.Proofs.YtlmdkmflbhnlgaaGreat
open Go.RowKit
set_option maxRecDepth 100000 in
set_option maxHeartbeats 400000 in
theorem growNil_any (n : Nat) (w : World) (hn : n ≤ 1000000) :
    Calls Tryz.prog 77 #[.slice none 0 0, .int .i64 n] w fun e w' => (∃ A c, e = .returned (.slice A 0 c) ∧ Row w' w.heap.size 5 A c []) ∧ Below w.heap.size w w' := by
  by_cases h0 : n = 0
  · subst h0
    go_enter Tryz.func77, Tryz.ntmps77
    go_wp2_with fail
    go_ret
    exact ⟨⟨none, 0, rfl, Row.nil _ _ _⟩, Below.refl _ _⟩
  · obtain ⟨i0, hi, hz0, hz1, hz2⟩ := info_parts info_u8
    have hp : 0 < (n : Int) := by omega
    have hfit : Builtin.nextslicecap (0 + n) 0 * i0.bytes ≤ 281474976710656 := by
      rw [hz2]
      have : Builtin.nextslicecap (0 + n) 0 = n := by unfold Builtin.nextslicecap; simp; omega
      omega
    have hrun := Lib.run_append_grow_zeros (P := Tryz.prog) w 22 3 22 5 i0 (.int .u8 0) .i64 .i64 Tryz.underlying22 Tryz.underlying3 hi hz0 none 0 0 [] (by simp [Builtin.firstCells]) n (by omega) (by omega) (by omega) (by omega) (by rw [hz2]; omega) hfit
    have hcap : 0 + n ≤ grownCap w (0 + n) 0 5 := grownCap_ge _ _ _ _
    have hcm : grownCap w (0 + n) 0 5 ≤ maxLen := grownCap_le_maxLen _ _ _ _ (by unfold maxLen; omega)
    generalize grownCap w (0 + n) 0 5 = cap at *
    rw [Nat.zero_add] at *
    have hown := World.ownsRow_made (e := 5) (size := 1) (base := w.heap.size) w.drew (([] : List Value).toArray ++ Builtin.zeroCells (Value.int .u8 0).cells n ++ Builtin.zeroCells (Value.int .u8 0).cells (cap - n)) cap (Nat.le_refl _) hcm (by simp [size_zeroCells, Value.cells]; omega)
    rw [show (([] : List Value).toArray ++ Builtin.zeroCells (Value.int .u8 0).cells n) = Builtin.zeroCells #[Value.int .u8 0] n from by simp [Value.cells]] at hown
    have HRUN := Lib.hid hrun
    have HOWN := Lib.hid hown
    have hcm2 : (cap : Int) ≤ 9223372036854775807 := by unfold maxLen at hcm; omega
    clear hrun hown hfit hi hz0 hz1 hz2 h0 hcm
    go_enter Tryz.func77, Tryz.ntmps77
    go_wp2_with (at_builtin; refine wpList_append_run rfl (.tmp 20) (.tmp 21) 22 3 rfl _ _ _ _ rfl rfl HRUN.out ?_)
    go_ret
    exact ⟨⟨_, _, rfl, HOWN.out⟩, (below_alloc (Below.refl _ _) _).drew⟩
/-- A row among those that are joined: where it lies, and what it holds. -/
abbrev Part := Option Addr × Nat × List Nat
def partV (p : Part) : Value := .slice p.1 p.2.2.length p.2.1
def partsL (ps : List Part) : List Nat := ps.flatMap (·.2.2)
theorem partsL_snoc (ps : List Part) (p : Part) : partsL (ps ++ [p]) = partsL ps ++ p.2.2 := by simp [partsL]
theorem partsL_take (ps : List Part) (k : Nat) (h : k < ps.length) : partsL (ps.take (k + 1)) = partsL (ps.take k) ++ ps[k].2.2 := by
  rw [List.take_succ_eq_append_getElem h, partsL_snoc]
theorem partsL_le (ps : List Part) (k : Nat) : (partsL (ps.take k)).length ≤ (partsL ps).length := by
  have h : partsL ps = partsL (ps.take k) ++ partsL (ps.drop k) := by
    unfold partsL; rw [← List.flatMap_append, List.take_append_drop]
  rw [h, List.length_append]; omega
structure PartOk (w : World) (p : Part) : Prop where
  rd : Rd w p.1 (bys p.2.2)
  nil : p.2.2 = [] → p.1 = none → p.2.1 = 0
theorem PartOk.below {w w' : World} {p : Part} (h : PartOk w p) (hb : Below w.heap.size w w') : PartOk w' p := ⟨h.rd.below hb, h.nil⟩
set_option maxRecDepth 100000 in
set_option maxHeartbeats 1000000 in
theorem concat_any (A : Option Addr) (c n N : Nat) (ps : List Part) (w : World) (hr : Rd w A (ps.map partV)) (hn : ps.length = n) (hps : ∀ p ∈ ps, PartOk w p) (hN : (partsL ps).length = N) (hN2 : N ≤ 1000000) (hn2 : n ≤ 1000) :
    Calls Tryz.prog 55 #[.slice A n c] w fun e w' => (∃ A' c', e = .returned (.slice A' N c') ∧ Row w' w.heap.size 5 A' c' (bys (partsL ps))) ∧ Below w.heap.size w w' := by
  obtain ⟨i0, hi, hz0, hz1, hz2⟩ := info_parts info_u8
  have HR := Lib.hid hr
  have HN := Lib.hid hn
  have HPS := Lib.hid hps
  have HL := Lib.hid hN
  clear hr hn hps hN
  go_enter Tryz.func55, Tryz.ntmps55
  go_wp2_with fail
  go_loop [3, 11] (fun sv iv => ∃ k s : Nat, k ≤ n ∧ s ≤ N ∧ Hid (s = (partsL (ps.take k)).length) ∧ sv = .int .i64 s ∧ iv = .int .i64 k) (fun _ iv => n - (intOf iv).toNat)
  case atStart => exact ⟨0, 0, by omega, by omega, (by simp [partsL] : (0 : Nat) = (partsL (ps.take 0)).length), rfl, rfl⟩
  case round =>
    obtain ⟨k, s, hk, hs, HS, rfl, rfl⟩ := hrel
    by_cases hkn : k < n
    · have hkl : k < ps.length := by rw [HN.out]; exact hkn
      obtain ⟨p, hp⟩ : ∃ p, ps[k] = p := ⟨_, rfl⟩
      obtain ⟨ad, rfl, ca⟩ := HR.out k (partV p) (by simp [hkl, hp])
      obtain ⟨m, hm⟩ : ∃ m, p.2.2.length = m := ⟨_, rfl⟩
      have ca' : w.cell? (ad.add k) = some (.slice p.1 m p.2.1) := by rw [ca, partV, hm]
      have hsum : s + m = (partsL (ps.take (k + 1))).length := by rw [partsL_take ps k hkl, List.length_append, hp, hm, ← HS.out]
      have hle : s + m ≤ N := by rw [hsum, ← HL.out]; exact partsL_le ps (k + 1)
      have HSUM := Lib.hid hsum
      clear ca hsum hm hp
      obtain ⟨p1, p2, p3⟩ := p
      dsimp only at ca'
      go_wp2_with fail
      go_round
      case rel => exact ⟨k + 1, s + m, by omega, by omega, HSUM.out, by go_num, by go_num⟩
      case measure => simp [intOf]; omega
    · obtain rfl : n = k := by omega
      have hsN : s = N := by rw [HS.out, ← HL.out, ← HN.out, List.take_length]
      subst hsN
      clear HS
      go_wp2_with fail
      refine (growNil_any s w hN2).mono ?_
      rintro x w1 ⟨⟨A0, c0, rfl, hrow⟩, hb⟩
      have HB := Lib.hid hb
      have HROW := Lib.hid hrow
      clear hb hrow
      go_wp2_with fail
      go_loopw [6, 27] (fun v iv wr => ∃ (k s' : Nat) (A' : Option Addr) (c' : Nat), k ≤ n ∧ s' ≤ s ∧ Hid (s' = (partsL (ps.take k)).length) ∧ v = .slice A' s' c' ∧ iv = .int .i64 k ∧ Hid (Row wr w.heap.size 5 A' c' (bys (partsL (ps.take k)))) ∧ Hid (Below w.heap.size w wr)) (fun _ iv _ => n - (intOf iv).toNat)
      case atStart => exact ⟨0, 0, A0, c0, by omega, by omega, (by simp [partsL] : (0 : Nat) = (partsL (ps.take 0)).length), rfl, rfl, by simpa [partsL, bys] using HROW, HB⟩
      case round =>
        obtain ⟨k, s', A', c', hk, hs', HS, rfl, rfl, HROW', HB'⟩ := hrel
        by_cases hkn : k < n
        · have hkl : k < ps.length := by rw [HN.out]; exact hkn
          obtain ⟨p, hp⟩ : ∃ p, ps[k] = p := ⟨_, rfl⟩
          obtain ⟨ad, rfl, ca⟩ := HR.out k (partV p) (by simp [hkl, hp])
          obtain ⟨m, hm⟩ : ∃ m, p.2.2.length = m := ⟨_, rfl⟩
          have ca' : wr.cell? (ad.add k) = some (.slice p.1 m p.2.1) := by rw [Below.cell_of HB'.out ca, partV, hm]
          have hsum : s' + m = (partsL (ps.take (k + 1))).length := by rw [partsL_take ps k hkl, List.length_append, hp, hm, ← HS.out]
          have hle : s' + m ≤ s := by rw [hsum, ← HL.out]; exact partsL_le ps (k + 1)
          have hpo : PartOk wr p := (HPS.out p (by rw [← hp]; exact List.getElem_mem hkl)).below HB'.out
          have hpl : bys (partsL (ps.take (k + 1))) = bys (partsL (ps.take k)) ++ bys p.2.2 := by rw [partsL_take ps k hkl, bys_append, hp]
          have HSUM := Lib.hid hsum
          have HPO := Lib.hid hpo
          have HPL := Lib.hid hpl
          have HM := Lib.hid hm
          clear ca hsum hm hp hpo hpl
          obtain ⟨p1, p2, p3⟩ := p
          dsimp only at ca' HPL HM
          go_wp2_with (at_builtin; refine wpList_appE (w0 := w) HB'.out rfl (.tmp 31) (.tmp 32) 22 rfl w.heap.size 5 i0 _ 1 Tryz.underlying22 hi hz0 hz1 hz2 rfl A' s' c' (bys (partsL (ps.take k))) rfl (by rw [bys_length]; exact HS.out.symm) HROW'.out p1 m p2 (bys p3) rfl (by rw [bys_length]; exact HM.out) HPO.out.rd (bys_one _) (fun e => HPO.out.nil (by cases p3 with | nil => rfl | cons x l => simp [bys] at e)) (s' + m) rfl (by unfold maxLen; omega) (by omega) (Nat.le_refl _) HB'.out.size ?_; intro e3 A3 c3 HO3)
          go_roundw
          case rel => exact ⟨k + 1, s' + m, A3, c3, by omega, by omega, HSUM.out, by go_num, by go_num, by rw [HPL.out]; exact HO3, e3.below⟩
          case measure => simp [intOf]; omega
        · obtain rfl : n = k := by omega
          go_wp2_with fail
          go_ret
          have e : ps.take n = ps := by rw [← HN.out, List.take_length]
          have h1 := HROW'.out
          have h2 := HS.out
          rw [e] at h1 h2
          rw [HL.out] at h2
          subst h2
          exact ⟨⟨A', c', rfl, h1⟩, HB'.out⟩
end Go.Proofs.YtlmdkmflbhnlgaaGreat
-- Bytes: bits.Bytes: what a row of bytes has as bits. No condition.
namespace Go.Proofs.YtlmdkmflbhnlgaaGreat
open Go.RowKit
theorem cell_same {w w' : World} {a : Addr} {v : Value} (h : w'.heap[a.block]? = w.heap[a.block]?) (hc : w.cell? a = some v) : w'.cell? a = some v := by
  unfold World.cell? at hc ⊢
  rw [h]
  exact hc
theorem Keep.cell_of {B b : Nat} {w w' : World} (h : Keep B b w w') {a : Addr} {v : Value} (hc : w.cell? a = some v) (h1 : a.block < B) (h2 : a.block ≠ b) : w'.cell? a = some v := cell_same (h.block _ h1 h2) hc
theorem Rd.keep {B b : Nat} {w w' : World} {A : Option Addr} {vs : List Value} (h : Rd w A vs) (hk : Keep B b w w') (ha : ∀ ad, A = some ad → vs ≠ [] → ad.block < B ∧ ad.block ≠ b) : Rd w' A vs := by
  intro j u hj
  obtain ⟨ad, e, hc⟩ := h j u hj
  obtain ⟨h1, h2⟩ := ha ad e (by intro e; subst e; simp at hj)
  exact ⟨ad, e, hk.cell_of hc (by rw [block_of_add]; exact h1) (by rw [block_of_add]; exact h2)⟩
theorem Rd.lt {w : World} {A : Option Addr} {vs : List Value} (h : Rd w A vs) : ∀ ad, A = some ad → vs ≠ [] → ad.block < w.heap.size := by
  intro ad e hne
  cases vs with
  | nil => exact absurd rfl hne
  | cons v vs =>
    obtain ⟨ad', e', hc⟩ := h 0 v rfl
    rw [e] at e'
    injection e' with e'
    subst e'
    have := cell_lt hc
    rw [block_of_add] at this
    exact this
/-- Bytes' bits. -/
def bytesN (l : List Nat) : List Nat := l.flatMap fun x => bitsN x 8
theorem bytesN_take (l : List Nat) (k : Nat) (h : k < l.length) : bytesN (l.take (k + 1)) = bytesN (l.take k) ++ bitsN l[k] 8 := by
  rw [List.take_succ_eq_append_getElem h, bytesN, List.flatMap_append, List.flatMap_singleton]; rfl
theorem bytesN_length (l : List Nat) : (bytesN l).length = 8 * l.length := by
  induction l with
  | nil => rfl
  | cons x l ih => simp only [bytesN, List.flatMap_cons, List.length_append, bitsN_length, List.length_cons] at ih ⊢; omega
theorem bytesN_bits (l : List Nat) : ∀ x ∈ bytesN l, x ≤ 1 := by
  intro x hx
  simp only [bytesN, List.mem_flatMap] at hx
  obtain ⟨y, _, hx⟩ := hx
  exact bitsN_bit _ _ x hx
theorem rowByte_any (w : World) (B b t : Nat) (A : Option Addr) (c x : Nat) (l : List Nat) (h : Pot w B b t A c l) (hx : x < 256) (hl : l.length + 8 ≤ 1000000) :
    Calls Tryz.prog 66 #[.pointer (some ⟨b, 0, none⟩), .int .u8 x] w fun e w' => e = .returned (.tuple #[]) ∧ (∃ A' c', Pot w' B b t A' c' (l ++ bitsN x 8)) ∧ Keep B b w w' := by
  have HP := Lib.hid (rowPut_any w B b t A c x 8 l h (by omega) (by omega) (by omega))
  clear h
  go_enter Tryz.func66, Tryz.ntmps66
  go_wp2_with fail
  refine HP.out.mono ?_
  rintro e w' ⟨rfl, h1, h2⟩
  have H1 := Lib.hid h1
  have H2 := Lib.hid h2
  clear h1 h2
  go_wp2_with fail
  go_end0
  exact ⟨rfl, H1.out, H2.out⟩
set_option maxHeartbeats 1000000 in
theorem eachByte_any (w : World) (B b t : Nat) (A A2 : Option Addr) (c c2 n : Nat) (src : List Nat) (h : Pot w B b t A c []) (hr : Rd w A2 (bys src)) (ha : ∀ ad, A2 = some ad → bys src ≠ [] → ad.block < B ∧ ad.block ≠ b) (hn : src.length = n) (h8 : n ≤ 100000) (hb : ∀ x ∈ src, x < 256) :
    Calls Tryz.prog 65 #[.slice A2 n c2, .func (.func 66) #[.pointer (some ⟨b, 0, none⟩)] #[]] w fun e w' => e = .returned (.tuple #[]) ∧ (∃ A' c', Pot w' B b t A' c' (bytesN src)) ∧ Keep B b w w' := by
  have HP := Lib.hid h
  have HR := Lib.hid hr
  have HA := Lib.hid ha
  have HN := Lib.hid hn
  have HB := Lib.hid hb
  clear h hr ha hn hb
  go_enter Tryz.func65, Tryz.ntmps65
  go_wp2_with fail
  go_loopw [8] (fun iv wr => ∃ (k : Nat) (A' : Option Addr) (c' : Nat), k ≤ n ∧ iv = .int .i64 k ∧ Hid (Pot wr B b t A' c' (bytesN (src.take k))) ∧ Hid (Keep B b w wr)) (fun iv _ => n - (intOf iv).toNat)
  case atStart => exact ⟨0, A, c, by omega, rfl, HP, Keep.refl _ _ _⟩
  case round =>
    obtain ⟨k, A', c', hk, rfl, HQ, HK⟩ := hrel
    by_cases hkn : k < n
    · have hkl : k < src.length := by rw [HN.out]; exact hkn
      obtain ⟨ad, rfl, ca⟩ := (HR.out.keep HK.out HA.out).at_ k hkl
      have hx := HB.out src[k] (List.getElem_mem hkl)
      have hlen : (bytesN (src.take k)).length + 8 ≤ 1000000 := by rw [bytesN_length, List.length_take]; omega
      have htk := bytesN_take src k hkl
      obtain ⟨x, hxe⟩ : ∃ x, src[k] = x := ⟨_, rfl⟩
      rw [hxe] at ca hx htk
      have HT := Lib.hid htk
      have HL := Lib.hid hlen
      clear htk hlen hxe
      go_wp2_with fail
      refine (rowByte_any wr B b t A' c' x _ HQ.out hx HL.out).mono ?_
      rintro e w2 ⟨rfl, ⟨A3, c3, h1⟩, h2⟩
      rw [← HT.out] at h1
      have H1 := Lib.hid h1
      have H2 := Lib.hid h2
      clear h1 h2
      go_wp2_with fail
      go_roundw
      case rel => exact ⟨k + 1, A3, c3, by omega, by go_num, H1, HK.out.trans H2.out⟩
      case measure => simp [intOf]; omega
    · obtain rfl : n = k := by omega
      go_wp2_with fail
      go_end0
      have h1 := HQ.out
      rw [← HN.out, List.take_length] at h1
      exact ⟨rfl, ⟨A', c', h1⟩, HK.out⟩
set_option maxHeartbeats 1000000 in
theorem Bytes_any (w : World) (A2 : Option Addr) (c2 n : Nat) (src : List Nat) (hr : Rd w A2 (bys src)) (hn : src.length = n) (h8 : n ≤ 100000) (hb : ∀ x ∈ src, x < 256) :
    Calls Tryz.prog 38 #[.slice A2 n c2] w fun e w' => (∃ A c, e = .returned (.slice A (8 * n) c) ∧ Row w' w.heap.size 5 A c (bys (bytesN src))) ∧ Below w.heap.size w w' := by
  have HE := Lib.hid (eachByte_any (w.alloc (.cells #[.slice none 0 0] 107)) (w.heap.size + 1) w.heap.size 107 none A2 0 c2 n src (Pot.new w _) (hr.alloc _) (fun ad e hne => by have := hr.lt ad e hne; omega) hn h8 hb)
  have HN := Lib.hid hn
  clear hr hn hb
  go_enter Tryz.func38, Tryz.ntmps38
  go_wp2_with fail
  refine HE.out.mono ?_
  rintro e w' ⟨rfl, ⟨A, c, hp⟩, hk⟩
  have hc := hp.cell
  rw [bytesN_length, HN.out] at hc
  have HP := Lib.hid hp
  have HK := Lib.hid hk
  clear hp hk
  go_wp2_with fail
  go_ret
  exact ⟨⟨A, c, rfl, HP.out.row.mono (by omega)⟩, (below_alloc (Below.refl _ _) _).trans (HK.out.below (by omega) (by omega))⟩
end Go.Proofs.YtlmdkmflbhnlgaaGreat
-- Ke: A world in which only what lies above B, and block b, has turned. No condition.
namespace Go.Proofs.YtlmdkmflbhnlgaaGreat
open Go.RowKit
/-- A world in which of what lay below B only block b is turned. -/
structure KE (B b : Nat) (w : World) where
  W : World
  keep : Keep B b w W
theorem ke_cell {B b : Nat} {w : World} {a : Addr} {v : Value} (h : w.cell? a = some v) (h1 : a.block < B) (h2 : a.block ≠ b) (e : KE B b w) : e.W.cell? a = some v := e.keep.cell_of h h1 h2
theorem kec {P : Program} {f : FuncId} {args : Array Value} {B b : Nat} {w0 : World} {e : KE B b w0} {v : Value} {R : World → Prop} (h : Calls P f args e.W fun x w' => x = .returned v ∧ R w' ∧ Keep B b e.W w') :
    Calls P f args e.W fun x w' => ∃ e2 : KE B b w0, w' = e2.W ∧ x = .returned v ∧ R e2.W := h.mono fun _ w' ⟨hx, hr, hb⟩ => ⟨⟨w', e.keep.trans hb⟩, rfl, hx, hr⟩
theorem kec_same {P : Program} {f : FuncId} {args : Array Value} {B b : Nat} {w0 : World} {v : Value} {R : World → Prop} (h : Calls P f args w0 fun x w' => x = .returned v ∧ R w' ∧ Keep B b w0 w') :
    Calls P f args w0 fun x w' => ∃ e2 : KE B b w0, w' = e2.W ∧ x = .returned v ∧ R e2.W := h.mono fun _ w' ⟨hx, hr, hb⟩ => ⟨⟨w', hb⟩, rfl, hx, hr⟩
end Go.Proofs.YtlmdkmflbhnlgaaGreat
-- BitsCheck: bits.Check: is a row bits? No condition.
namespace Go.Proofs.YtlmdkmflbhnlgaaGreat
open Go.RowKit
theorem isBit_any (x : Nat) (w : World) : Calls Tryz.prog 23 #[.int .u8 x] w fun e w' => e = .returned (.bool (decide (1 < x))) ∧ w = w' := by
  go_enter Tryz.func23, Tryz.ntmps23
  go_wp2
  go_ret
  exact ⟨ret_bool (by rw [Bool.eq_iff_iff]; simp; omega), rfl⟩
set_option maxHeartbeats 1000000 in
theorem indexBits_any (A : Option Addr) (n c : Nat) (l : List Nat) (w : World) (hr : Rd w A (bys l)) (hn : l.length = n) (hc : n ≤ 100000000) :
    Calls Tryz.prog 45 #[.slice A n c, .func (.func 23) #[] #[]] w fun e w' => (∃ k : Int, e = .returned (.int .i64 k) ∧ (k < 0 ↔ ∀ x ∈ l, x ≤ 1)) ∧ w = w' := by
  have HR := Lib.hid hr
  have HN := Lib.hid hn
  clear hr hn
  go_enter Tryz.func45, Tryz.ntmps45
  go_wp2_with fail
  go_loop [8] (fun iv => ∃ k : Nat, k ≤ n ∧ Hid (∀ j (h : j < l.length), j < k → l[j] ≤ 1) ∧ iv = .int .i64 k) (fun iv => n - (intOf iv).toNat)
  case atStart => exact ⟨0, by omega, fun j _ h => absurd h (by omega), rfl⟩
  case round =>
    obtain ⟨k, hk, HK, rfl⟩ := hrel
    by_cases hkn : k < n
    · have hkl : k < l.length := by rw [HN.out]; exact hkn
      obtain ⟨ad, rfl, ca⟩ := HR.out.at_ k hkl
      have hmem : l[k] ∈ l := List.getElem_mem hkl
      obtain ⟨x, hx⟩ : ∃ x, l[k] = x := ⟨_, rfl⟩
      rw [hx] at ca hmem
      have HX := Lib.hid hx
      have HM := Lib.hid hmem
      have HB := Lib.hid (isBit_any x)
      clear hx hmem
      by_cases hx1 : x ≤ 1
      · have hd : decide (1 < x) = false := decide_eq_false (by omega)
        rw [hd] at HB
        go_wp2_with fail
        refine (HB.out _).mono ?_
        rintro e _ ⟨rfl, rfl⟩
        go_wp2_with fail
        go_round
        case rel =>
          refine ⟨k + 1, by omega, fun j h hj => ?_, by go_num⟩
          by_cases hjk : j = k
          · subst hjk; rw [HX.out]; exact hx1
          · exact HK.out j h (by omega)
        case measure => simp [intOf]; omega
      · have hd : decide (1 < x) = true := decide_eq_true (by omega)
        rw [hd] at HB
        go_wp2_with fail
        refine (HB.out _).mono ?_
        rintro e _ ⟨rfl, rfl⟩
        go_wp2_with fail
        go_ret
        exact ⟨⟨_, rfl, by constructor <;> intro h; omega; exact absurd (h x HM.out) hx1⟩, rfl⟩
    · obtain rfl : k = n := by omega
      go_wp2_with fail
      go_ret
      refine ⟨⟨_, rfl, by
        constructor
        · intro _ x hx
          obtain ⟨j, hj, rfl⟩ := List.getElem_of_mem hx
          exact HK.out j hj (by rw [← HN.out]; exact hj)
        · intro _; omega⟩, rfl⟩
set_option maxHeartbeats 1000000 in
theorem containsBits_any (A : Option Addr) (n c : Nat) (l : List Nat) (w : World) (hr : Rd w A (bys l)) (hn : l.length = n) (hc : n ≤ 100000000) :
    Calls Tryz.prog 22 #[.slice A n c, .func (.func 23) #[] #[]] w fun e w' => e = .returned (.bool (!decide (∀ x ∈ l, x ≤ 1))) ∧ w = w' := by
  have HI := Lib.hid (indexBits_any A n c l w hr hn hc)
  clear hr hn
  go_enter Tryz.func22, Tryz.ntmps22
  go_wp2_with fail
  refine HI.out.mono ?_
  rintro e _ ⟨⟨k, rfl, hk⟩, rfl⟩
  have HK := Lib.hid hk
  clear hk
  go_wp2_with fail
  go_ret
  refine ⟨ret_bool ?_, rfl⟩
  have hk := HK.out
  by_cases h : ∀ x ∈ l, x ≤ 1
  · have := hk.2 h
    rw [decide_eq_true h]
    simp
    omega
  · have : ¬ k < 0 := fun h' => h (hk.1 h')
    rw [decide_eq_false h]
    simp
    omega
/-- Is a row bits, and not too long? -/
def bitsOk (l : List Nat) : Bool := decide (l.length ≤ 65536) && decide (∀ x ∈ l, x ≤ 1)
set_option maxHeartbeats 1000000 in
theorem BitsCheck_any (A : Option Addr) (n c : Nat) (l : List Nat) (w : World) (hr : Rd w A (bys l)) (hn : l.length = n) (hc : n ≤ 9223372036854775807) :
    Calls Tryz.prog 9 #[.slice A n c] w fun e w' => e = .returned (.int .i64 (if bitsOk l then 0 else 2)) ∧ w = w' := by
  by_cases hl : n ≤ 65536
  · have HI := Lib.hid (containsBits_any A n c l w hr hn (by omega))
    obtain ⟨r, hR⟩ : ∃ r, (!decide (∀ x ∈ l, x ≤ 1)) = r := ⟨_, rfl⟩
    rw [hR] at HI
    have hv : (if bitsOk l then (0 : Int) else 2) = if r then 2 else 0 := by
      unfold bitsOk
      rw [hn, decide_eq_true hl, Bool.true_and]
      subst hR
      cases decide (∀ x ∈ l, x ≤ 1) <;> rfl
    rw [hv]
    clear hr hv hR hn
    have hg : decide ((65536 : Int) < (n : Int)) = false := decide_eq_false (by omega)
    cases r <;>
    · go_enter Tryz.func9, Tryz.ntmps9
      go_wp2_with fail
      refine HI.out.mono ?_
      rintro e _ ⟨rfl, rfl⟩
      go_wp2_with fail
      go_ret
      exact ⟨rfl, rfl⟩
  · have hv : (if bitsOk l then (0 : Int) else 2) = 2 := by unfold bitsOk; rw [hn, decide_eq_false hl]; rfl
    rw [hv]
    clear hr hv
    have hg : (65536 : Int) < (n : Int) := by omega
    go_enter Tryz.func9, Tryz.ntmps9
    go_wp2_with fail
    go_ret
    exact ⟨rfl, rfl⟩
end Go.Proofs.YtlmdkmflbhnlgaaGreat
-- Crc: Check sums bit by bit, and the table's rows. No condition.
namespace Go.Proofs.YtlmdkmflbhnlgaaGreat
open Go.RowKit
abbrev kindV (size poly start : Nat) : Value := .agg #[.int .i64 size, .int .u64 poly, .int .u64 start]
theorem pow32 {size : Nat} (h32 : size ≤ 32) : 2 ^ size ≤ 4294967296 := by
  have h1 : 2 ^ size ≤ 2 ^ 32 := Nat.pow_le_pow_right (by omega) h32
  have h2 : (2 : Nat) ^ 32 = 4294967296 := by decide
  omega
theorem mask_u64 (size x : Nat) (h32 : size ≤ 32) (hx : x < 18446744073709551616) : bits .and .u64 (x : Int) (IntKind.u64.wrap (IntKind.u64.wrap (2 ^ size) - 1)) = ((x % 2 ^ size : Nat) : Int) := by
  have hp := pow32 h32
  have hp1 : 0 < 2 ^ size := Nat.two_pow_pos _
  have e1 : ((2 : Int) ^ size) = ((2 ^ size : Nat) : Int) := by simp
  have e2 : IntKind.u64.wrap ((2 ^ size : Nat) : Int) = ((2 ^ size : Nat) : Int) := IntWalk.u64_in _ ⟨by omega, by omega⟩
  have e3 : IntKind.u64.wrap (((2 ^ size : Nat) : Int) - 1) = ((2 ^ size - 1 : Nat) : Int) := by
    rw [IntWalk.u64_in _ ⟨by omega, by omega⟩]; omega
  rw [e1, e2, e3, u64_and_nat _ _ hx (by omega), Nat.and_two_pow_sub_one_eq_mod]
theorem top_u64 (k sum : Nat) (hs : sum < 18446744073709551616) : bits .and .u64 ((sum : Int) / 2 ^ k) 1 = ((sum / 2 ^ k % 2 : Nat) : Int) := by
  have e : ((sum : Int) / 2 ^ k) = ((sum / 2 ^ k : Nat) : Int) := by simp
  have hle : sum / 2 ^ k ≤ sum := Nat.div_le_self _ _
  rw [e, and_one_u64 _ (Int.natCast_nonneg _) (by omega)]; simp
set_option maxRecDepth 100000 in
set_option maxHeartbeats 1000000 in
theorem one_any (size poly start sum b : Nat) (w : World) (h4 : 4 ≤ size) (h32 : size ≤ 32) (hp : poly < 2 ^ size) (hs : sum < 2 ^ size) :
    Calls Tryz.prog 124 #[kindV size poly start, .int .u64 sum, .int .u8 b] w fun e w' => e = .returned (.int .u64 (oneN size poly sum b : Nat)) ∧ Below w.heap.size w w' := by
  have hpw := pow32 h32
  have hand := top_u64 (size - 1) sum (by omega)
  have hmask : bits .and .u64 (IntKind.u64.wrap ((sum : Int) * 2)) (IntKind.u64.wrap (IntKind.u64.wrap (2 ^ size) - 1)) = ((sum * 2 % 2 ^ size : Nat) : Int) := by
    have e : IntKind.u64.wrap ((sum : Int) * 2) = ((sum * 2 : Nat) : Int) := by rw [IntWalk.u64_in _ ⟨by omega, by omega⟩]; omega
    rw [e, mask_u64 size _ h32 (by omega)]
  have hlt : sum * 2 % 2 ^ size < 2 ^ size := Nat.mod_lt _ (Nat.two_pow_pos _)
  have hxor : bits .xor .u64 ((sum * 2 % 2 ^ size : Nat) : Int) (poly : Int) = ((sum * 2 % 2 ^ size ^^^ poly : Nat) : Int) := u64_xor_nat _ _ (by omega) (by omega)
  have hh : sum / 2 ^ (size - 1) % 2 ≤ 1 := by omega
  have hone : oneN size poly sum b = (sum * 2 % 2 ^ size) ^^^ (if sum / 2 ^ (size - 1) % 2 = b then 0 else poly) := rfl
  generalize oneN size poly sum b = r at *
  generalize sum / 2 ^ (size - 1) % 2 = h at *
  generalize sum * 2 % 2 ^ size = s2 at *
  have hmod : (h : Int) % 256 = h := by omega
  have HO := Lib.hid hone
  clear hone hlt hpw hs hp
  by_cases e : h = b
  · have hd : ((h : Int) != (b : Int)) = false := by rw [e]; simp
    have HE := Lib.hid e
    clear e
    go_enter Tryz.func124, Tryz.ntmps124
    go_wp2_with fail
    go_ret
    exact ⟨ret_int (by rw [HO.out, if_pos HE.out, Nat.xor_zero]), below_alloc (Below.refl _ _) _⟩
  · have hd : ((h : Int) != (b : Int)) = true := by rw [bne_iff_ne]; omega
    have HE := Lib.hid e
    clear e
    go_enter Tryz.func124, Tryz.ntmps124
    go_wp2_with fail
    go_ret
    exact ⟨ret_int (by rw [HO.out, if_neg HE.out]), below_alloc (Below.refl _ _) _⟩

set_option maxHeartbeats 1000000 in
theorem all_any (size poly start sum : Nat) (A : Option Addr) (n c : Nat) (l : List Nat) (w : World) (h4 : 4 ≤ size) (h32 : size ≤ 32) (hp : poly < 2 ^ size) (hs : sum < 2 ^ size) (hr : Rd w A (bys l)) (hn : l.length = n) (hn2 : n ≤ 1000000) (hb : ∀ x ∈ l, x ≤ 1) :
    Calls Tryz.prog 123 #[.int .u64 sum, .slice A n c, .func (.func 124) #[kindV size poly start] #[]] w fun e w' => e = .returned (.int .u64 (crcN size poly sum l : Nat)) ∧ Below w.heap.size w w' := by
  have HR := Lib.hid hr
  have HN := Lib.hid hn
  have HB := Lib.hid hb
  have HP := Lib.hid hp
  have HS := Lib.hid hs
  clear hr hn hb hp hs
  go_enter Tryz.func123, Tryz.ntmps123
  go_wp2_with fail
  go_loopw [0, 11] (fun sv iv wr => ∃ k s : Nat, k ≤ n ∧ Hid (s < 2 ^ size) ∧ Hid (s = crcN size poly sum (l.take k)) ∧ sv = .int .u64 s ∧ iv = .int .i64 k ∧ Hid (Below w.heap.size w wr)) (fun _ iv _ => n - (intOf iv).toNat)
  case atStart => exact ⟨0, sum, by omega, HS, rfl, rfl, rfl, Below.refl _ _⟩
  case round =>
    obtain ⟨k, s, hk, hs, HC, rfl, rfl, HW⟩ := hrel
    by_cases hkn : k < n
    · have hkl : k < l.length := by rw [HN.out]; exact hkn
      obtain ⟨ad, rfl, ca⟩ := (HR.out.below HW.out).at_ k hkl
      have hx := HB.out l[k] (List.getElem_mem hkl)
      have hnext : oneN size poly s l[k] = crcN size poly sum (l.take (k + 1)) := by
        rw [List.take_succ_eq_append_getElem hkl, crcN_append, ← HC.out]; rfl
      obtain ⟨x, hxe⟩ : ∃ x, l[k] = x := ⟨_, rfl⟩
      rw [hxe] at ca hx hnext
      have HX := Lib.hid hnext
      clear hnext hxe
      go_wp2_with fail
      refine (one_any size poly start s x _ h4 h32 HP.out hs.out).mono ?_
      rintro e w2 ⟨rfl, hb2⟩
      have HB2 := Lib.hid hb2
      clear hb2
      go_wp2_with fail
      go_roundw
      case rel => exact ⟨k + 1, _, by omega, oneN_lt size poly s x HP.out, HX.out, rfl, by go_num, below_trans HW.out HB2.out⟩
      case measure => simp [intOf]; omega
    · obtain rfl : n = k := by omega
      go_wp2_with fail
      go_ret
      have h1 := HC.out
      rw [← HN.out, List.take_length] at h1
      exact ⟨ret_int (by rw [h1]), HW.out⟩
end Go.Proofs.YtlmdkmflbhnlgaaGreat
-- Table: The check sums' table. No condition.
namespace Go.Proofs.YtlmdkmflbhnlgaaGreat
open Go.RowKit
def tabV (size poly k : Nat) : List Value := (List.range 16).map fun i => .int .u64 ((if i < k then tabN size poly i else 0 : Nat) : Int)
theorem tabV_length (size poly k : Nat) : (tabV size poly k).length = 16 := by simp [tabV]
theorem tabV_set (size poly k : Nat) (_hk : k < 16) : (tabV size poly k).set k (.int .u64 (tabN size poly k : Nat)) = tabV size poly (k + 1) := by
  refine List.ext_getElem? fun i => ?_
  unfold tabV
  rw [List.getElem?_set]
  by_cases hi : i < 16
  · by_cases e : k = i
    · subst e; simp [hi]
    · simp [hi, e, show (i < k + 1) ↔ i < k by omega]
  · simp [hi]; omega
set_option maxRecDepth 100000 in
set_option maxHeartbeats 2000000 in
theorem table_any (size poly start : Nat) (w : World) (h4 : 4 ≤ size) (h32 : size ≤ 32) (hp : poly < 2 ^ size) :
    Calls Tryz.prog 122 #[kindV size poly start] w fun e w' => e = .returned (.agg (tabV size poly 16).toArray) ∧ Below w.heap.size w w' := by
  have HP := Lib.hid hp
  clear hp
  have hz : tabV size poly 0 = List.replicate 16 (.int .u64 0) := by simp [tabV]; rfl
  have HZ := Lib.hid hz
  clear hz
  go_enter Tryz.func122, Tryz.ntmps122
  go_wp2_with fail
  obtain ⟨g, hg⟩ : ∃ g, w.heap.size = g := ⟨_, rfl⟩
  go_loopw [4] (fun iv wr => ∃ k : Nat, k ≤ 16 ∧ iv = .int .i64 k ∧ Hid (wr.heap[g]? = some (.cells #[.int .i64 size, .int .u64 poly, .int .u64 start] 147)) ∧ Hid (wr.heap[g + 1]? = some (.cells (tabV size poly k).toArray 161)) ∧ Hid (Below g w wr)) (fun iv _ => 16 - (intOf iv).toNat)
  case atStart =>
    refine ⟨0, by omega, rfl, ?_, ?_, ?_⟩
    · exact heap_push (heap_new_at hg.symm)
    · rw [HZ.out]; exact heap_new_at (by simp [hg])
    · subst hg; exact below_alloc (below_alloc (Below.refl _ _) _) _
  case round =>
    obtain ⟨k, hk, rfl, HK, HT, HW⟩ := hrel
    by_cases hk16 : k < 16
    · obtain ⟨a0, a1, a2⟩ : wr.cell? ⟨g, 0, none⟩ = some (.int .i64 size) ∧ wr.cell? ⟨g, 1, none⟩ = some (.int .u64 poly) ∧ wr.cell? ⟨g, 2, none⟩ = some (.int .u64 start) := ⟨cell_of_heap HK.out 0 _ rfl, cell_of_heap HK.out 1 _ rfl, cell_of_heap HK.out 2 _ rfl⟩
      obtain ⟨u, hu⟩ : ∃ u, wr.cell? ⟨g + 1, k, none⟩ = some u := ⟨_, cell_of_heap HT.out k ((tabV size poly k)[k]'(by rw [tabV_length]; exact hk16)) (by simp)⟩
      have hf : wr.frozen? ⟨g + 1, k, none⟩ = false := by simp [World.frozen?, HT.out]
      subst hg
      have hpw := pow32 h32
      obtain ⟨p, hp4⟩ : ∃ p, size - 4 = p := ⟨_, rfl⟩
      have hlt : k * 2 ^ p < 2 ^ size := by
        obtain rfl : size = p + 4 := by omega
        rw [Nat.pow_add]
        have h0 : 0 < 2 ^ p := Nat.two_pow_pos _
        have := Nat.mul_lt_mul_of_pos_right hk16 h0
        omega
      have hwk : IntKind.u64.wrap (k : Int) = k := IntWalk.u64_in _ ⟨by omega, by omega⟩
      have hs4 : IntKind.i64.wrap ((size : Int) - 4) = (p : Int) := by rw [IntWalk.i64_in _ (by omega)]; omega
      have hsh : IntKind.u64.wrap ((k : Int) * 2 ^ p) = ((k * 2 ^ p : Nat) : Int) := by
        have e : ((k : Int) * 2 ^ p) = ((k * 2 ^ p : Nat) : Int) := by simp
        rw [e, IntWalk.u64_in _ ⟨by omega, by omega⟩]
      have hpb : p ≤ 32 := by omega
      have hdec : decide ((k : Int) < 16) = true := by simp; omega
      have hall := fun W (hW : Rd W (some ⟨wr.heap.size, 0, none⟩) (bys [0, 0, 0, 0])) => all_any size poly start (k * 2 ^ p) (some ⟨wr.heap.size, 0, none⟩) 4 4 [0, 0, 0, 0] W h4 h32 HP.out hlt hW rfl (by omega) (by simp)
      have hset := tabV_set size poly k hk16
      have htab : tabN size poly k = crcN size poly (k * 2 ^ p) [0, 0, 0, 0] := by rw [← hp4]; rfl
      rw [← htab] at hall
      generalize tabN size poly k = r at *
      generalize k * 2 ^ p = q at *
      have hmk : ∀ W : World, Sem.run Tryz.prog (Instr.makeSlice 22 (.int .i64 4) (.int .i64 4)) W = .ok (.slice (some ⟨W.heap.size, 0, none⟩) 4 4) (W.alloc (.cells #[.int .u8 0, .int .u8 0, .int .u8 0, .int .u8 0] 5)) := fun _ => by kernel_rfl
      have hk16i : (k : Int) < 16 := by omega
      have hk0 : (0 : Int) ≤ (k : Int) := by omega
      have hu2 : (wr.alloc (.cells #[.int .u8 0, .int .u8 0, .int .u8 0, .int .u8 0] 5)).drew.cell? ⟨w.heap.size + 1, k, none⟩ = some u := Below.cell_of (below_alloc (Below.refl _ _) _).drew hu
      have hlt1 : w.heap.size + 1 < wr.heap.size := heap_lt HT.out
      have hbl : w.heap.size + 1 < (wr.alloc (.cells #[.int .u8 0, .int .u8 0, .int .u8 0, .int .u8 0] 5)).drew.heap.size := Nat.lt_of_lt_of_le hlt1 (below_alloc (Below.refl _ _) _).drew.size
      have hf2 : (wr.alloc (.cells #[.int .u8 0, .int .u8 0, .int .u8 0, .int .u8 0] 5)).drew.frozen? ⟨w.heap.size + 1, k, none⟩ = false := ((below_alloc (Below.refl _ _) _).drew.frozen (p := ⟨w.heap.size + 1, k, none⟩) hlt1).trans hf
      have HALL := Lib.hid hall
      have HTAB := Lib.hid htab
      have HSET := Lib.hid hset
      clear hall htab hlt hpw hp4 hset
      go_wp2_with fail
      go_region_held3 (fun w' => w'.cell? ⟨w.heap.size, 0, none⟩ = some (.int .i64 size) ∧ w'.cell? ⟨w.heap.size, 1, none⟩ = some (.int .u64 poly) ∧ w'.cell? ⟨w.heap.size, 2, none⟩ = some (.int .u64 start))
        (first
          | go_keep
          | exact ⟨a0, a1, a2⟩
          | (refine ⟨Below.cell_of hb2 (by assumption), Below.cell_of hb2 (by assumption), Below.cell_of hb2 (by assumption)⟩)
          | (refine ⟨Below.cell_of hb2 ?_, Below.cell_of hb2 ?_, Below.cell_of hb2 ?_⟩ <;> simp [*]))
        (first
          | (go_at_call 123; refine (HALL.out _ (Rd.drew (Rd.blk (heap_new_at rfl)))).mono ?_; rintro x w2 ⟨rfl, hb2⟩; have hs2 : w2.cell? ⟨w.heap.size + 1, k, none⟩ = some u := Below.cell_of hb2 hu2; have hz2 : w2.frozen? ⟨w.heap.size + 1, k, none⟩ = false := (hb2.frozen hbl).trans hf2))
      all_goals
        go_wp2_with fail
        go_roundw
        case rel =>
          refine ⟨k + 1, by omega, by go_num, ?_, ?_, ?_⟩
          · show _ = _
            rw [Below.heap_setCell _ _ _ _ (by show w.heap.size ≠ w.heap.size + 1; omega)]
            exact heap_below hb2 (heap_below (below_alloc (Below.refl _ _) _).drew HK.out)
          · show _ = _
            rw [heap_setCell (heap_below hb2 (heap_below (below_alloc (Below.refl _ _) _).drew HT.out)) k _, ← HSET.out]
            simp
          · show Below _ _ _
            exact (below_trans HW.out (below_trans (below_alloc (Below.refl _ _) _).drew hb2)).setCell (p := ⟨w.heap.size + 1, k, none⟩) (by show w.heap.size ≤ w.heap.size + 1; omega) _
        case measure => simp [intOf]; omega
    · obtain rfl : k = 16 := by omega
      subst hg
      have hT := HT.out
      have hu : Tryz.prog.underlying 161 = some (.array 16 71) := Tryz.underlying161
      have hi : (Tryz.prog.info? 161).map (·.size) = some (tabV size poly 16).toArray.size := by
        have : (Tryz.prog.info? 161).map (·.size) = some 16 := by kernel_rfl
        rw [this]; simp [tabV_length]
      have h1 : (tabV size poly 16).toArray.all (·.oneCell') = true := by simp [tabV]; intros; rfl
      obtain ⟨cs, hcs⟩ : ∃ cs, (tabV size poly 16).toArray = cs := ⟨_, rfl⟩
      rw [hcs] at hT hi h1
      have HCS := Lib.hid hcs
      clear hcs
      have HT2 := Lib.hid hT
      have HI := Lib.hid hi
      have HU := Lib.hid hu
      have H1 := Lib.hid h1
      clear hT hi hu h1 HT HK
      go_wp2_with (first
        | (with_reducible refine wpList_load_row rfl 161 (.tmp 2) rfl (w.heap.size + 1) rfl 161 cs (0, 0) _ HT2.out HU.out rfl HI.out ?_)
        | (with_reducible refine wpList_store_row rfl 161 (.tmp 2) (.tmp 20) rfl (w.heap.size + 1) cs rfl rfl 161 cs HT2.out HI.out rfl H1.out ?_))
      refine bodyPost_ret (v := .agg cs) (results_cell_row rfl _ _ (w.heap.size + 1) _ cs _ _ rfl (setRow_heap _ _ _ _ _ _ HT2.out) HU.out rfl HI.out) rfl ⟨by rw [HCS.out], ?_⟩
      have hw := HW.out
      exact ⟨hw.os, hw.tape, hw.output, by rw [setRow_size]; exact hw.size, fun j hj => by rw [setRow_other _ _ _ _ (by omega)]; exact hw.block j hj⟩
end Go.Proofs.YtlmdkmflbhnlgaaGreat
-- Get: bits.Get: bits' number. No condition.
namespace Go.Proofs.YtlmdkmflbhnlgaaGreat
open Go.RowKit
set_option maxHeartbeats 400000 in
theorem add_any (b N x t : Nat) (w : World) (h : w.heap[b]? = some (.cells #[.int .u64 N] t)) (hN : N < 9223372036854775808) (hx : x ≤ 1) :
    Calls Tryz.prog 104 #[.pointer (some ⟨b, 0, none⟩), .int .u8 x] w fun e w' => e = .returned (.tuple #[]) ∧ w'.heap[b]? = some (.cells #[.int .u64 (N * 2 + x : Nat)] t) ∧ Keep w.heap.size b w w' := by
  have c0 := cell_of_heap h 0 _ rfl
  have z0 : w.frozen? ⟨b, 0, none⟩ = false := by simp [World.frozen?, h]
  have hor : bits .or .u64 ((N : Int) * 2) (x : Int) = ((N * 2 + x : Nat) : Int) := by
    have e : ((N : Int) * 2) = ((N * 2 : Nat) : Int) := by omega
    rw [e, u64_or_nat _ _ (by omega) (by omega), nat_join 1 _ _ (by omega) (by omega)]
  have hw2 : IntKind.u64.wrap ((N : Int) * 2) = (N : Int) * 2 := IntWalk.u64_in _ ⟨by omega, by omega⟩
  have HH := Lib.hid h
  clear h
  go_enter Tryz.func104, Tryz.ntmps104
  go_wp2_with fail
  go_end0
  refine ⟨rfl, ?_, (Keep.refl _ _ _).setCell (p := ⟨b, 0, none⟩) (.inl rfl) _⟩
  rw [heap_setCell HH.out 0 _]
  rfl
set_option maxHeartbeats 1000000 in
theorem eachAdd_any (w : World) (b t : Nat) (A2 : Option Addr) (c2 n : Nat) (src : List Nat) (h : w.heap[b]? = some (.cells #[.int .u64 0] t)) (hr : Rd w A2 (bys src)) (ha : ∀ ad, A2 = some ad → bys src ≠ [] → ad.block < w.heap.size ∧ ad.block ≠ b) (hn : src.length = n) (h8 : n ≤ 64) (hb : ∀ x ∈ src, x ≤ 1) :
    Calls Tryz.prog 65 #[.slice A2 n c2, .func (.func 104) #[.pointer (some ⟨b, 0, none⟩)] #[]] w fun e w' => e = .returned (.tuple #[]) ∧ w'.heap[b]? = some (.cells #[.int .u64 (numN src : Nat)] t) ∧ Keep w.heap.size b w w' := by
  have HP := Lib.hid h
  have HR := Lib.hid hr
  have HA := Lib.hid ha
  have HN := Lib.hid hn
  have HB := Lib.hid hb
  clear h hr ha hn hb
  go_enter Tryz.func65, Tryz.ntmps65
  go_wp2_with fail
  go_loopw [8] (fun iv wr => ∃ (k N : Nat), k ≤ n ∧ iv = .int .i64 k ∧ Hid (N = numN (src.take k)) ∧ Hid (wr.heap[b]? = some (.cells #[.int .u64 N] t)) ∧ Hid (Keep w.heap.size b w wr)) (fun iv _ => n - (intOf iv).toNat)
  case atStart => exact ⟨0, 0, by omega, rfl, rfl, HP, Keep.refl _ _ _⟩
  case round =>
    obtain ⟨k, N, hk, rfl, HNum, HQ, HK⟩ := hrel
    by_cases hkn : k < n
    · have hkl : k < src.length := by rw [HN.out]; exact hkn
      obtain ⟨ad, rfl, ca⟩ := (HR.out.keep HK.out HA.out).at_ k hkl
      have hx := HB.out src[k] (List.getElem_mem hkl)
      have hs : N * 2 + src[k] = numN (src.take (k + 1)) := by rw [List.take_succ_eq_append_getElem hkl, numN_snoc, ← HNum.out]
      have hNb : N < 9223372036854775808 := by
        have h1 := numN_lt (src.take k) (fun x hx => HB.out x (List.mem_of_mem_take hx))
        rw [← HNum.out] at h1
        have h2 : (src.take k).length ≤ 63 := by rw [List.length_take]; omega
        have h3 : 2 ^ (src.take k).length ≤ 2 ^ 63 := Nat.pow_le_pow_right (by omega) h2
        have h4 : (2 : Nat) ^ 63 = 9223372036854775808 := by decide
        omega
      obtain ⟨x, hxe⟩ : ∃ x, src[k] = x := ⟨_, rfl⟩
      rw [hxe] at ca hx hs
      have HS := Lib.hid hs
      clear hs hxe
      go_wp2_with fail
      refine (add_any b N x t wr HQ.out hNb hx).mono ?_
      rintro e w2 ⟨rfl, h1, h2⟩
      have H1 := Lib.hid h1
      have H2 := Lib.hid h2
      clear h1 h2
      go_wp2_with fail
      go_roundw
      case rel => exact ⟨k + 1, N * 2 + x, by omega, by go_num, HS.out, H1, HK.out.trans (H2.out.mono HK.out.size)⟩
      case measure => simp [intOf]; omega
    · obtain rfl : n = k := by omega
      go_wp2_with fail
      go_end0
      have h1 := HNum.out
      rw [← HN.out, List.take_length] at h1
      subst h1
      exact ⟨rfl, HQ.out, HK.out⟩
theorem ret_fst2 {k : IntKind} {a b : Int} {v : Value} (h : a = b) : Ending.returned (.tuple #[.int k a, v]) = .returned (.tuple #[.int k b, v]) := by rw [h]
set_option maxHeartbeats 1000000 in
theorem Get_any (w : World) (A2 : Option Addr) (c2 n : Nat) (src : List Nat) (hr : Rd w A2 (bys src)) (hn : src.length = n) (h8 : n ≤ 64) (hb : ∀ x ∈ src, x ≤ 1) :
    Calls Tryz.prog 95 #[.slice A2 n c2] w fun e w' => e = .returned (.tuple #[.int .u64 (numN src : Nat), .int .i64 0]) ∧ Below w.heap.size w w' := by
  have hok : bitsOk src = true := by unfold bitsOk; rw [decide_eq_true (by omega : src.length ≤ 65536), decide_eq_true hb]; rfl
  have hC := BitsCheck_any A2 n c2 src w hr hn (by omega)
  rw [hok, if_pos rfl] at hC
  have HC := Lib.hid hC
  have HE := Lib.hid (eachAdd_any (w.alloc (.cells #[.int .u64 0] 149)) w.heap.size 149 A2 c2 n src (heap_new_at rfl) (hr.alloc _) (fun ad e hne => by have := hr.lt ad e hne; simp; omega) hn h8 hb)
  clear hr hn hb hok hC
  go_enter Tryz.func95, Tryz.ntmps95
  go_wp2_with fail
  refine HC.out.mono ?_
  rintro e _ ⟨rfl, rfl⟩
  go_wp2_with fail
  refine HE.out.mono ?_
  rintro e w' ⟨rfl, h1, h2⟩
  have hc := cell_of_heap h1 0 _ rfl
  have H2 := Lib.hid h2
  clear h1 h2
  go_wp2_with fail
  go_ret2
  exact ⟨rfl, (below_alloc (Below.refl _ _) _).trans (H2.out.below (by omega) (by simp))⟩
end Go.Proofs.YtlmdkmflbhnlgaaGreat
