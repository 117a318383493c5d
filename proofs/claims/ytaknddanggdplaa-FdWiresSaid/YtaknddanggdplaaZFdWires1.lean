/- What the law FdWires needs, part 1: words, walks and plain facts, each with its own head. No condition. -/
import Derived.WalkKit
import Derived.WalkSpells
import Derived.WalkLawsBesides
import Derived.Lib.Hide
import Derived.Deep.QuietTactic
import Derived.BigQuiet
import Derived.Below
import Derived.Deep.AppendLies
import Derived.Deep.RegionHeld3
import Derived.Deep.Draws
import Derived.Deep.Cut
import Derived.Deep.DeepCutAuto
import Derived.Test.YtaknddanggdplaaProg
import Derived.Test.YtaknddanggdplaaRows
import Derived.ProofKit
import Derived.OpenShut
import Derived.ChangeOld
import Derived.SizedLaws
import Derived.OwnWalk
import Derived.Maps.AppendAt
import Derived.BigRegion
import Derived.Deep.RegionLaw
import Derived.WalkSmall
import Derived.Handy
import Derived.Lib.AppendZerosOnto
-- Base: Words for slices that read as lists and rows of a call's own, which the walks of this seat use. No condition.
namespace Go.Proofs.Ytaknddanggdplaa
open Go
/-! ### five bools held against five -/
theorem run_eql_bools5 {P : Program} (w : World) {t tb : TypeId} {i : TypeInfo} (ht : P.underlying t = some (.array 5 tb)) (hb : P.underlying tb = some .bool) (hi : P.info? tb = some i) (hs : i.size = 1)
    (a0 a1 a2 a3 a4 b0 b1 b2 b3 b4 : Bool) : (binOp .eql t (.agg #[.bool a0, .bool a1, .bool a2, .bool a3, .bool a4]) (.agg #[.bool b0, .bool b1, .bool b2, .bool b3, .bool b4])).run P w = .ok (.bool (decide ([a0, a1, a2, a3, a4] = [b0, b1, b2, b3, b4]))) w := by
  have h : ∀ d : Nat, (Op.equalIn (d + 2) t (.agg #[.bool a0, .bool a1, .bool a2, .bool a3, .bool a4]) (.agg #[.bool b0, .bool b1, .bool b2, .bool b3, .bool b4])).run P w = .ok (decide ([a0, a1, a2, a3, a4] = [b0, b1, b2, b3, b4])) w := by
    intro d
    have hq : ∀ x y : Bool, (Op.equalIn (d + 1) tb (.bool x) (.bool y)).run P w = .ok (x == y) w := fun x y => run_equalIn_bool' w d tb x y hb
    have hp : ∀ (xs : Array Value) (k : Nat) (v : Value), xs[k]? = some v → (part tb xs k).run P w = .ok v w := by
      intro xs k v hv
      have := hb
      simp [part, run_underlying hb, isAgg, sizeOf, typeInfo, hi, hs, hv]
    rw [Op.equalIn]
    simp only [Sem.run_bind, run_underlying ht, Result.andThen_ok, sizeOf, typeInfo, run_program, hi, Sem.run_pure, hs]
    have h0 : List.range' 0 5 = [0, 1, 2, 3, 4] := rfl
    have p0 : ∀ x0 x1 x2 x3 x4 : Bool, (part tb #[.bool x0, .bool x1, .bool x2, .bool x3, .bool x4] 0).run P w = .ok (.bool x0) w := fun x0 x1 x2 x3 x4 => hp _ 0 _ rfl
    have p1 : ∀ x0 x1 x2 x3 x4 : Bool, (part tb #[.bool x0, .bool x1, .bool x2, .bool x3, .bool x4] 1).run P w = .ok (.bool x1) w := fun x0 x1 x2 x3 x4 => hp _ 1 _ rfl
    have p2 : ∀ x0 x1 x2 x3 x4 : Bool, (part tb #[.bool x0, .bool x1, .bool x2, .bool x3, .bool x4] 2).run P w = .ok (.bool x2) w := fun x0 x1 x2 x3 x4 => hp _ 2 _ rfl
    have p3 : ∀ x0 x1 x2 x3 x4 : Bool, (part tb #[.bool x0, .bool x1, .bool x2, .bool x3, .bool x4] 3).run P w = .ok (.bool x3) w := fun x0 x1 x2 x3 x4 => hp _ 3 _ rfl
    have p4 : ∀ x0 x1 x2 x3 x4 : Bool, (part tb #[.bool x0, .bool x1, .bool x2, .bool x3, .bool x4] 4).run P w = .ok (.bool x4) w := fun x0 x1 x2 x3 x4 => hp _ 4 _ rfl
    simp [h0, p0, hq]
    by_cases e0 : a0 = b0 <;> simp [e0, p1, hq]
    by_cases e1 : a1 = b1 <;> simp [e1, p2, hq]
    by_cases e2 : a2 = b2 <;> simp [e2, p3, hq]
    by_cases e3 : a3 = b3 <;> simp [e3, p4, hq]
    by_cases e4 : a4 = b4 <;> simp [e4]
  simp only [binOp]
  simp [Op.equal, Op.maxDepth, h 9998]

open Go.RowKit

/-! ### lists of numbers as values -/
def bys (l : List Nat) : List Value := l.map fun (x : Nat) => .int .u8 (x : Int)
def ins (l : List Int) : List Value := l.map fun x => .int .i64 x
theorem bys_length (l : List Nat) : (bys l).length = l.length := by simp [bys]
theorem ins_length (l : List Int) : (ins l).length = l.length := by simp [ins]
theorem bys_get (l : List Nat) (j : Nat) (h : j < l.length) : (bys l)[j]? = some (.int .u8 (l[j] : Int)) := by simp [bys, h]
theorem bys_append (a b : List Nat) : bys (a ++ b) = bys a ++ bys b := by simp [bys]
theorem ins_append (a b : List Int) : ins (a ++ b) = ins a ++ ins b := by simp [ins]
theorem bys_one (l : List Nat) : ∀ u ∈ bys l, u.oneCell' = true := by
  intro u hu; simp [bys] at hu; obtain ⟨a, _, rfl⟩ := hu; rfl
theorem ins_one (l : List Int) : ∀ u ∈ ins l, u.oneCell' = true := by
  intro u hu; simp [ins] at hu; obtain ⟨a, _, rfl⟩ := hu; rfl

/-! ### a slice that reads as a list of values (nil let in) -/
def Rd (w : World) (A : Option Addr) (vs : List Value) : Prop := ∀ j u, vs[j]? = some u → ∃ ad, A = some ad ∧ w.cell? (ad.add j) = some u
theorem Rd.nil (w : World) (A : Option Addr) : Rd w A [] := fun j u h => by simp at h
theorem block_of_add (a : Addr) (n : Nat) : (a.add n).block = a.block := by unfold Addr.add; split <;> rfl
theorem add_of_add (a : Addr) (i j : Nat) : (a.add i).add j = a.add (i + j) := by
  unfold Addr.add
  by_cases hi : i = 0 <;> by_cases hj : j = 0 <;> simp [hi, hj, Nat.add_assoc]
theorem cell_lt {w : World} {a : Addr} {u : Value} (h : w.cell? a = some u) : a.block < w.heap.size := World.block_lt_of_cell? w a h
theorem Below.cell_of {w w' : World} (hb : Below w.heap.size w w') {a : Addr} {u : Value} (h : w.cell? a = some u) : w'.cell? a = some u := (hb.cell (cell_lt h)).trans h
theorem Rd.below {w w' : World} {A : Option Addr} {vs : List Value} (h : Rd w A vs) (hb : Below w.heap.size w w') : Rd w' A vs :=
  fun j u hj => let ⟨ad, e, hc⟩ := h j u hj; ⟨ad, e, Below.cell_of hb hc⟩
theorem Rd.alloc {w : World} {A : Option Addr} {vs : List Value} (h : Rd w A vs) (o : Obj) : Rd (w.alloc o) A vs := h.below ((Below.refl _ _).alloc (Nat.le_refl _) o)
theorem Rd.drew {w : World} {A : Option Addr} {vs : List Value} (h : Rd w A vs) : Rd w.drew A vs := h
theorem Rd.drewN {w : World} {A : Option Addr} {vs : List Value} (h : Rd w A vs) (n : Nat) : Rd (w.drewN n) A vs := h
theorem Rd.own {w : World} {base e size n c : Nat} {A : Option Addr} {vs : List Value} (h : w.ownsRow base e size (.slice A n c) n vs) : Rd w A vs := by
  intro j u hj
  have hn : 0 < n := by
    rcases Nat.eq_zero_or_pos n with h0 | h0
    · subst h0; have := h.1; simp at this; subst this; simp at hj
    · exact h0
  obtain ⟨g, cap, hv, _, _⟩ := h.form hn
  have hA : A = some ⟨g, 0, none⟩ := by injection hv
  subst hA
  exact ⟨_, rfl, h.cells (g := g) rfl j u hj⟩
theorem Rd.at_ {w : World} {A : Option Addr} {l : List Nat} (h : Rd w A (bys l)) (k : Nat) (hk : k < l.length) : ∃ ad, A = some ad ∧ w.cell? (ad.add k) = some (.int .u8 (l[k] : Int)) :=
  h k _ (bys_get l k hk)
theorem heap_new_at {w : World} {o : Obj} {g : Nat} (h : g = w.heap.size) : (w.alloc o).heap[g]? = some o := by subst h; exact heap_alloc_new _ _
theorem Rd.blk {w : World} {g : Nat} {cs : Array Value} {t : TypeId} {fr : Nat × Nat} (h : w.heap[g]? = some (.cells cs t fr)) : Rd w (some ⟨g, 0, none⟩) cs.toList :=
  fun j u hj => ⟨_, rfl, World.news_of_block h j u hj⟩
/-- The strings that two rows of bytes are. -/
def strOf (l : List Nat) : ByteArray := strOfNums (l.map fun (x : Nat) => (x : Int))
theorem Rd.conv {P : Program} {w : World} {src dst e : TypeId} {A : Option Addr} {l : List Nat} (hs : P.underlying src = some (.slice e)) (he : P.underlying e = some (.int .u8)) (hd : P.underlying dst = some .string)
    (c : Nat) (h : Rd w A (bys l)) : (convert src dst (.slice A l.length c)).run P w = .ok (.string (strOf l)) w := by
  rw [run_convert_bytes_string w src dst e _ _ c hs he hd]
  cases A with
  | none =>
    have : l = [] := by
      cases l with
      | nil => rfl
      | cons x l => obtain ⟨ad, e, _⟩ := h 0 _ (by simp [bys]; rfl); cases e
    subst this
    simp [Conv.bytesToString, strOf, strOfNums]; rfl
  | some a =>
    have hl : (loadCells a l.length).run P w = .ok ((l.map fun (x : Nat) => (x : Int)).map (Value.int .u8)).toArray w := by
      have := run_loadCells_list (P := P) w a (bys l) (fun j v hj => by
        obtain ⟨ad, e, hc⟩ := h j v hj
        injection e with e; subst e; exact hc)
      rw [bys_length] at this
      rw [this, List.map_map]; rfl
    rw [run_bytesToString w a l.length c (l.map fun (x : Nat) => (x : Int)) hl, foldl_push_bytes]
    simp [strOf, strOfNums, ByteArray.empty, ByteArray.emptyWithCapacity]
    rfl
theorem strOf_inj {a b : List Nat} (ha : ∀ x ∈ a, x < 256) (hb : ∀ x ∈ b, x < 256) : ((strOf a).toList == (strOf b).toList) = decide (a = b) := by
  rw [Bool.eq_iff_iff]
  simp only [beq_iff_eq, decide_eq_true_eq]
  constructor
  · intro h
    rw [ByteArray.toList_eq, ByteArray.toList_eq] at h
    have h1 : (strOf a).data.toList = (strOf b).data.toList := h
    unfold strOf at h1
    rw [strOfNums_data, strOfNums_data] at h1
    have key : ∀ l : List Nat, (∀ x ∈ l, x < 256) → (((l.map fun (x : Nat) => (x : Int)).map fun n => UInt8.ofNat n.toNat).map fun u => u.toNat) = l := by
      intro l hl
      induction l with
      | nil => rfl
      | cons x l ih =>
        simp only [List.map_cons, List.mem_cons, forall_eq_or_imp] at hl ⊢
        rw [ih hl.2]
        simp
        omega
    rw [← key a ha, ← key b hb, h1]
  · rintro rfl; rfl

/-! ### calls that turn nothing, within a region that draws -/
theorem qcall {P : Program} {f : FuncId} {args : Array Value} {w : World} {v : Value} {n : Nat} (h : Calls P f args (w.drewN n) fun e w' => e = .returned v ∧ w.drewN n = w') :
    Calls P f args (w.drewN n) fun e w'' => e = .returned v ∧ ∃ m, w'' = w.drewN m := h.mono fun _ _ ⟨he, hm⟩ => ⟨he, n, hm.symm⟩
theorem qcall2 {P : Program} {f : FuncId} {args : Array Value} {w : World} {v : Value} {a n : Nat} (h : Calls P f args (w.drewN (a + n)) fun e w' => e = .returned v ∧ w.drewN (a + n) = w') :
    Calls P f args (w.drewN (a + n)) fun e w'' => e = .returned v ∧ ∃ m, w'' = w.drewN (a + m) := h.mono fun _ _ ⟨he, hm⟩ => ⟨he, n, hm.symm⟩
/-! ### steps of worlds -/
theorem below_then {B : Nat} {w w1 w2 : World} (h : Below B w w1) (hB : B ≤ w1.heap.size) (k : Below w1.heap.size w1 w2) : Below B w w2 := h.trans (k.mono hB)
theorem below_trans {w w1 w2 : World} (h : Below w.heap.size w w1) (k : Below w1.heap.size w1 w2) : Below w.heap.size w w2 := below_then h h.size k
theorem below_drewN {B : Nat} {a w : World} (h : Below B a w) (n : Nat) : Below B a (w.drewN n) := ⟨h.os, h.tape, h.output, h.size, h.block⟩
theorem below_alloc {w W : World} (h : Below w.heap.size w W) (o : Obj) : Below w.heap.size w (W.alloc o) := h.alloc h.size o
/-- all cells and marks that were there -/
theorem bcell {W w1 : World} (hb : Below W.heap.size W w1) : (∀ b o, b < W.heap.size → w1.cell? ⟨b, o, none⟩ = W.cell? ⟨b, o, none⟩) ∧ (∀ b o, b < W.heap.size → w1.frozen? ⟨b, o, none⟩ = W.frozen? ⟨b, o, none⟩) :=
  ⟨fun b o h => hb.cell (p := ⟨b, o, none⟩) h, fun b o h => hb.frozen (p := ⟨b, o, none⟩) h⟩
theorem ret_int {k : IntKind} {a b : Int} (h : a = b) : Ending.returned (.int k a) = .returned (.int k b) := by rw [h]
theorem ret_bool {a b : Bool} (h : a = b) : Ending.returned (.bool a) = .returned (.bool b) := by rw [h]
/-- a world that only drew -/
theorem drawn_below {B : Nat} {w w' : World} (h : ∃ n, w' = w.drewN n) : Below B w w' := by obtain ⟨n, rfl⟩ := h; exact below_drewN (Below.refl _ _) n

/-! ### regions that draw their order, whose operations read what stays and whose calls turn nothing that was there: one walk in the text's order -/
/-- A world in which all that lay in w lies as it lay. -/
structure Ext (w : World) where
  W : World
  below : Below w.heap.size w W
instance {w : World} : Nonempty (Ext w) := ⟨⟨w, Below.refl _ _⟩⟩
section
variable {P : Program}
theorem wp_region_ext {id : Nat} {Q : Exit → Act → World → Prop} {a : Act} {w : World} {l : List Oper} (hm : P.follows .mixedOrders = true) (hB : Region.lexB .any l.toArray = true)
    (h : wpQuiet P l.toArray (fun w' => ∃ e : Ext w, w' = e.W) (fun a' => ∀ w', (∃ e : Ext w, w' = e.W) → Q .normal a' w') l a) : (Code.region id l.toArray true).wp P Q a w :=
  wp_region_quiet (C := fun w' => ∃ e : Ext w, w' = e.W) hm hB ⟨⟨w.drew, (Below.refl _ _).drew⟩, rfl⟩ (by simpa using h)
theorem ecall {f : FuncId} {args : Array Value} {w : World} {v : Value} {e : Ext w} (h : Calls P f args e.W fun x w' => x = .returned v ∧ Below e.W.heap.size e.W w') :
    Calls P f args e.W fun x w'' => x = .returned v ∧ ∃ e2 : Ext w, w'' = e2.W := h.mono fun _ w' ⟨hx, hb⟩ => ⟨hx, ⟨w', below_trans e.below hb⟩, rfl⟩
theorem ecall_same {f : FuncId} {args : Array Value} {w : World} {v : Value} {e : Ext w} (h : Calls P f args e.W fun x w' => x = .returned v ∧ e.W = w') :
    Calls P f args e.W fun x w'' => x = .returned v ∧ ∃ e2 : Ext w, w'' = e2.W := h.mono fun _ _ ⟨hx, hb⟩ => ⟨hx, e, hb.symm⟩
end
theorem ext_cell {w : World} {a : Addr} {v : Value} (h : w.cell? a = some v) (e : Ext w) : e.W.cell? a = some v := Below.cell_of e.below h
theorem ext_heap {w : World} {g : Nat} {o : Obj} (h : w.heap[g]? = some o) (e : Ext w) : e.W.heap[g]? = some o := by
  have hl : g < w.heap.size := by
    rcases Nat.lt_or_ge g w.heap.size with h' | h'
    · exact h'
    · rw [Array.getElem?_eq_none h'] at h; cases h
  exact (e.below.block g hl).trans h
theorem heap_below {w w' : World} (hb : Below w.heap.size w w') {g : Nat} {o : Obj} (h : w.heap[g]? = some o) : w'.heap[g]? = some o := ext_heap h ⟨w', hb⟩
theorem Rd.ext {w : World} {A : Option Addr} {vs : List Value} (h : Rd w A vs) (e : Ext w) : Rd e.W A vs := h.below e.below
theorem heap_lt {w : World} {g : Nat} {o : Obj} (h : w.heap[g]? = some o) : g < w.heap.size := by
  rcases Nat.lt_or_ge g w.heap.size with h' | h'
  · exact h'
  · rw [Array.getElem?_eq_none h'] at h; cases h
/-- A call's world is one more in which all that lay in w0 lies. -/
theorem extc {P : Program} {f : FuncId} {args : Array Value} {w0 : World} {e : Ext w0} {R : Ending → World → Prop} (h : Calls P f args e.W fun x w' => R x w' ∧ Below e.W.heap.size e.W w') :
    Calls P f args e.W fun x w' => ∃ e2 : Ext w0, w' = e2.W ∧ R x e2.W := h.mono fun _ w' ⟨hx, hb⟩ => ⟨⟨w', below_trans e.below hb⟩, rfl, hx⟩
theorem extc_same {P : Program} {f : FuncId} {args : Array Value} {w0 : World} {R : Ending → World → Prop} (h : Calls P f args w0 fun x w' => R x w' ∧ Below w0.heap.size w0 w') :
    Calls P f args w0 fun x w' => ∃ e2 : Ext w0, w' = e2.W ∧ R x e2.W := h.mono fun _ w' ⟨hx, hb⟩ => ⟨⟨w', hb⟩, rfl, hx⟩
/-- The eleven cells of a frame's block. -/
theorem cells11 {w : World} {g : Nat} {v0 v1 v2 v3 v4 v5 v6 v7 v8 v9 v10 : Value} {t : TypeId} {fr : Nat × Nat} (h : w.heap[g]? = some (.cells #[v0, v1, v2, v3, v4, v5, v6, v7, v8, v9, v10] t fr)) :
    w.cell? ⟨g, 0, none⟩ = some v0 ∧ w.cell? ⟨g, 1, none⟩ = some v1 ∧ w.cell? ⟨g, 2, none⟩ = some v2 ∧ w.cell? ⟨g, 3, none⟩ = some v3 ∧ w.cell? ⟨g, 4, none⟩ = some v4 ∧ w.cell? ⟨g, 5, none⟩ = some v5 ∧
    w.cell? ⟨g, 6, none⟩ = some v6 ∧ w.cell? ⟨g, 7, none⟩ = some v7 ∧ w.cell? ⟨g, 8, none⟩ = some v8 ∧ w.cell? ⟨g, 9, none⟩ = some v9 ∧ w.cell? ⟨g, 10, none⟩ = some v10 := by
  simp [World.cell?, h]
theorem ext11 {w : World} {g : Nat} {v0 v1 v2 v3 v4 v5 v6 v7 v8 v9 v10 : Value} {t : TypeId} {fr : Nat × Nat} (h : w.heap[g]? = some (.cells #[v0, v1, v2, v3, v4, v5, v6, v7, v8, v9, v10] t fr)) :
    (∀ e : Ext w, e.W.cell? ⟨g, 0, none⟩ = some v0) ∧ (∀ e : Ext w, e.W.cell? ⟨g, 1, none⟩ = some v1) ∧ (∀ e : Ext w, e.W.cell? ⟨g, 2, none⟩ = some v2) ∧ (∀ e : Ext w, e.W.cell? ⟨g, 3, none⟩ = some v3) ∧ (∀ e : Ext w, e.W.cell? ⟨g, 4, none⟩ = some v4) ∧
    (∀ e : Ext w, e.W.cell? ⟨g, 5, none⟩ = some v5) ∧ (∀ e : Ext w, e.W.cell? ⟨g, 6, none⟩ = some v6) ∧ (∀ e : Ext w, e.W.cell? ⟨g, 7, none⟩ = some v7) ∧ (∀ e : Ext w, e.W.cell? ⟨g, 8, none⟩ = some v8) ∧ (∀ e : Ext w, e.W.cell? ⟨g, 9, none⟩ = some v9) ∧ (∀ e : Ext w, e.W.cell? ⟨g, 10, none⟩ = some v10) := by
  have hE := fun e : Ext w => cells11 (ext_heap h e)
  exact ⟨fun e => (hE e).1, fun e => (hE e).2.1, fun e => (hE e).2.2.1, fun e => (hE e).2.2.2.1, fun e => (hE e).2.2.2.2.1, fun e => (hE e).2.2.2.2.2.1, fun e => (hE e).2.2.2.2.2.2.1, fun e => (hE e).2.2.2.2.2.2.2.1, fun e => (hE e).2.2.2.2.2.2.2.2.1, fun e => (hE e).2.2.2.2.2.2.2.2.2.1, fun e => (hE e).2.2.2.2.2.2.2.2.2.2⟩
theorem heap_push {w : World} {g : Nat} {o o' : Obj} (h : w.heap[g]? = some o) : (w.alloc o').heap[g]? = some o := heap_below ((Below.refl _ _).alloc (Nat.le_refl _) o') h
/-! ### the blocks that a call lays first, under a name -/
theorem calls_blk1 {P : Program} {f : FuncId} {args : Array Value} {w : World} {o1 : Obj} {R : Ending → World → Prop}
    (h : ∀ W, W.heap[w.heap.size]? = some o1 → Below w.heap.size w W → Calls P f args W R) : Calls P f args (w.alloc o1) R :=
  h _ (heap_new_at rfl) (below_alloc (Below.refl _ _) _)
theorem calls_blk2 {P : Program} {f : FuncId} {args : Array Value} {w : World} {o1 o2 : Obj} {R : Ending → World → Prop}
    (h : ∀ W, W.heap[w.heap.size]? = some o1 → W.heap[w.heap.size + 1]? = some o2 → Below w.heap.size w W → Calls P f args W R) : Calls P f args ((w.alloc o1).alloc o2) R :=
  h _ (heap_push (heap_new_at rfl)) (heap_new_at (by simp)) (below_alloc (below_alloc (Below.refl _ _) _) _)
theorem calls_blk3 {P : Program} {f : FuncId} {args : Array Value} {w : World} {o1 o2 o3 : Obj} {R : Ending → World → Prop}
    (h : ∀ W, W.heap[w.heap.size]? = some o1 → W.heap[w.heap.size + 1]? = some o2 → W.heap[w.heap.size + 1 + 1]? = some o3 → Below w.heap.size w W → Calls P f args W R) : Calls P f args (((w.alloc o1).alloc o2).alloc o3) R :=
  h _ (heap_push (heap_push (heap_new_at rfl))) (heap_push (heap_new_at (by simp))) (heap_new_at (by simp)) (below_alloc (below_alloc (below_alloc (Below.refl _ _) _) _) _)
theorem ext_end {w W0 : World} {e : Ext W0} (hb : Below w.heap.size w W0) : Below w.heap.size w e.W := below_trans hb e.below
end Go.Proofs.Ytaknddanggdplaa
-- Frame0: What the functions of layer 5 (frame) answer: sizes, codes, and which frames may be. No condition.
namespace Go.Proofs.Ytaknddanggdplaa
open Go.RowKit

theorem isNaN_cmp (n : Int) (w : World) : Calls Try.prog 119 #[.int .i64 n] w fun e w' => e = .returned (.bool false) ∧ w = w' := by
  go_enter Try.func119, Try.ntmps119
  go_wp2
  go_ret
  exact ⟨by simp, rfl⟩
theorem isNaN_slices (n : Int) (w : World) : Calls Try.prog 115 #[.int .i64 n] w fun e w' => e = .returned (.bool false) ∧ w = w' := by
  go_enter Try.func115, Try.ntmps115
  go_wp2
  go_ret
  exact ⟨by simp, rfl⟩
theorem less_int (a b : Int) (w : World) : Calls Try.prog 114 #[.int .i64 a, .int .i64 b] w fun e w' => e = .returned (.bool (decide (a < b))) ∧ w = w' := by
  go_enter Try.func114, Try.ntmps114
  go_wp2_with (go_at_call 119; refine (isNaN_cmp _ _).mono ?_; rintro e w' ⟨rfl, rfl⟩)
  go_ret
  exact ⟨by simp, rfl⟩

/-- The first place of a rising list whose number isn't less. -/
def lb (l : List Int) (n : Int) : Nat := (l.takeWhile (· < n)).length
theorem lb_le (l : List Int) (n : Int) : lb l n ≤ l.length := by
  unfold lb; induction l with
  | nil => simp
  | cons x l ih => simp only [List.takeWhile_cons]; split <;> simp; omega
theorem lb_eq (l : List Int) (n : Int) (i : Nat) (hi : i ≤ l.length) (h1 : ∀ k (h : k < l.length), k < i → l[k] < n) (h2 : ∀ k (h : k < l.length), i ≤ k → n ≤ l[k]) : lb l n = i := by
  unfold lb
  induction l generalizing i with
  | nil => simp at hi; simp [hi]
  | cons x l ih =>
    cases i with
    | zero => have := h2 0 (by simp) (by omega); simp at this; simp [show ¬ x < n by omega]
    | succ i =>
      have := h1 0 (by simp) (by omega); simp at this
      simp [this]
      exact ih i (by simpa using hi) (fun k h hk => by have := h1 (k + 1) (by simpa using h) (by omega); simpa using this) (fun k h hk => by have := h2 (k + 1) (by simpa using h) (by omega); simpa using this)
set_option maxHeartbeats 400000 in
theorem bsearch_any (A : Option Addr) (c : Nat) (l : List Int) (n : Int) (w : World) (hr : Rd w A (ins l)) (hl : l.length ≤ 1000000) (hs : ∀ i k (hi : i < l.length) (hk : k < l.length), i ≤ k → l[i] ≤ l[k]) :
    Calls Try.prog 110 #[.slice A l.length c, .int .i64 n] w fun e w' => e = .returned (.tuple #[.int .i64 (lb l n : Int), .bool (decide (l[lb l n]? = some n))]) ∧ w = w' := by
  go_enter Try.func110, Try.ntmps110
  go_wp2_with fail
  go_loop [7, 8] (fun u v => ∃ i j : Nat, i ≤ j ∧ j ≤ l.length ∧ (∀ k (h : k < l.length), k < i → l[k] < n) ∧ (∀ k (h : k < l.length), j ≤ k → n ≤ l[k]) ∧ u = .int .i64 i ∧ v = .int .i64 j) (fun u v => ((intOf v) - (intOf u)).toNat)
  case atStart => exact ⟨0, l.length, by omega, by omega, by omega, by omega, rfl, rfl⟩
  case round =>
    obtain ⟨i, j, hij, hjl, h1, h2, rfl, rfl⟩ := hrel
    by_cases hlt : i < j
    · have hm : (i + j) / 2 < l.length := by omega
      obtain ⟨ad, rfl, hc⟩ := hr ((i + j) / 2) (.int .i64 l[(i + j) / 2]) (by simp [ins, hm])
      by_cases hx : l[(i + j) / 2] < n
      all_goals
        go_wp2_with (go_at_call 114; refine (less_int _ _ _).mono ?_; rintro e w' ⟨rfl, rfl⟩)
        go_round
        case measure => simp [intOf]; omega
      · refine ⟨(i + j) / 2 + 1, j, by omega, hjl, fun k h hk => ?_, h2, by go_num, rfl⟩
        have := hs k ((i + j) / 2) h hm (by omega)
        omega
      · refine ⟨i, (i + j) / 2, by omega, by omega, h1, fun k h hk => ?_, rfl, by go_num⟩
        have := hs ((i + j) / 2) k hm h hk
        omega
    · have hij' : j = i := by omega
      subst hij'
      have hlb := Lib.hid (lb_eq l n j hjl h1 h2)
      by_cases hin : j < l.length
      · obtain ⟨ad, rfl, hc⟩ := hr j (.int .i64 l[j]) (by simp [ins, hin])
        have hle := h2 j hin (Nat.le_refl _)
        by_cases hx : l[j] = n
        · have hb : (l[j] == n) = true := by simp [hx]
          clear hx
          go_wp2_with (go_at_call 115; refine (isNaN_slices _ _).mono ?_; rintro e w' ⟨rfl, rfl⟩)
          go_ret2
          exact ⟨by rw [hlb.out]; simp at hb; simp [hin, hb], rfl⟩
        · have hb : (l[j] == n) = false := by simp [hx]
          go_wp2_with (go_at_call 115; refine (isNaN_slices _ _).mono ?_; rintro e w' ⟨rfl, rfl⟩)
          go_ret2
          exact ⟨by rw [hlb.out]; simp [hin, hx], rfl⟩
      · go_wp2_with (go_at_call 115; refine (isNaN_slices _ _).mono ?_; rintro e w' ⟨rfl, rfl⟩)
        go_ret2
        exact ⟨by rw [hlb.out]; simp [hin], rfl⟩

/-! ### the sizes of a kind -/
def fdSizes : List Int := [0, 1, 2, 3, 4, 5, 6, 7, 8, 12, 16, 20, 24, 32, 48, 64]
theorem fdSizes_rise : ∀ i k (hi : i < fdSizes.length) (hk : k < fdSizes.length), i ≤ k → fdSizes[i] ≤ fdSizes[k] := by
  have h : ∀ k : Fin 16, ∀ i : Fin 16, i.val ≤ k.val → fdSizes[i.val]'i.isLt ≤ fdSizes[k.val]'k.isLt := by decide
  exact fun i k hi hk hik => h ⟨k, hk⟩ ⟨i, hi⟩ hik
/-- What kinds but FD have: the bounds of a row without gaps. -/
def loOf (k : Int) : Int := if k = 1 then 0 else 1
def hiOf (k : Int) : Int := if k = 1 then 8 else if k = 3 then 2048 else 0
set_option maxHeartbeats 400000 in
theorem of_other (k : Int) (w : World) (h : k ≠ 2) :
    Calls Try.prog 109 #[.int .i64 k] w fun e w' => e = .returned (.agg #[.slice none 0 0, .int .i64 (loOf k), .int .i64 (hiOf k)]) ∧ Below w.heap.size w w' := by
  have h2 : (k == 2) = false := by simp [h]
  by_cases h1 : k = 1
  · subst h1
    clear h h2
    go_enter Try.func109, Try.ntmps109
    go_wp2
    exact bodyPost_ret (v := .agg #[.slice none 0 0, .int .i64 0, .int .i64 8]) (by simp [results, Try.results109, go_sem]) rfl ⟨rfl, ((Below.refl _ _).alloc (Nat.le_refl _) _)⟩
  · by_cases h3 : k = 3
    · subst h3
      clear h h2 h1
      go_enter Try.func109, Try.ntmps109
      go_wp2
      exact bodyPost_ret (v := .agg #[.slice none 0 0, .int .i64 1, .int .i64 2048]) (by simp [results, Try.results109, go_sem]) rfl ⟨rfl, ((Below.refl _ _).alloc (Nat.le_refl _) _)⟩
    · have hl : loOf k = 1 := by simp [loOf, h1]
      have hh : hiOf k = 0 := by simp [hiOf, h1, h3]
      rw [hl, hh]
      have h1' : (k == 1) = false := by simp [h1]
      have h3' : (k == 3) = false := by simp [h3]
      clear h h1 h3 hl hh
      go_enter Try.func109, Try.ntmps109
      go_wp2
      exact bodyPost_ret (v := .agg #[.slice none 0 0, .int .i64 1, .int .i64 0]) (by simp [results, Try.results109, go_sem]) rfl ⟨rfl, ((Below.refl _ _).alloc (Nat.le_refl _) _)⟩
set_option maxHeartbeats 400000 in
theorem of_fd (w : World) :
    Calls Try.prog 109 #[.int .i64 2] w fun e w' => ∃ ad, e = .returned (.agg #[.slice (some ad) 16 16, .int .i64 0, .int .i64 0]) ∧ Rd w' (some ad) (ins fdSizes) ∧ Below w.heap.size w w' := by
  go_enter Try.func109, Try.ntmps109
  go_wp2
  refine bodyPost_ret (v := .agg #[.slice (some ⟨w.heap.size + 1, 0, none⟩) 16 16, .int .i64 0, .int .i64 0]) (by simp [results, Try.results109, go_sem]) rfl ⟨_, rfl, ?_, below_alloc ((Below.refl _ _).alloc (Nat.le_refl _) _) _⟩
  refine Rd.blk (cs := (ins fdSizes).toArray) (t := 3) (fr := (0, 0)) ?_
  exact heap_new_at (by simp)
end Go.Proofs.Ytaknddanggdplaa
-- Frame: What the functions of layer 5 (frame) answer: sizes, codes, and which frames may be. No condition.
namespace Go.Proofs.Ytaknddanggdplaa
open Go.RowKit


/-! ### codes -/
/-- A size's code; none: there is none. -/
def codeF (k n : Int) : Option Int :=
  if k = 2 then (if fdSizes[lb fdSizes n]? = some n then some (lb fdSizes n : Int) else none)
  else if loOf k ≤ n ∧ n ≤ hiOf k then some (n - loOf k) else none
/-- What a size's code is told as: the code, and the error. -/
def codeV (o : Option Int) : Value := .tuple #[.int .i64 (o.getD 0), .int .i64 (if o.isSome then 0 else 2)]

/-- What a size's code is told as, within layer 5: the code, and whether there is one. -/
def CodeB (o : Option Int) (e : Ending) : Prop := ∃ c b, e = .returned (.tuple #[.int .i64 c, .bool b]) ∧ ((b = true ∧ o = some c) ∨ (b = false ∧ o = none))
set_option maxHeartbeats 400000 in
theorem sizes_code_other (k n : Int) (w : World) (hk : k ≠ 2) (h0 : 0 ≤ n) (h1 : n ≤ 9223372036854775807) :
    Calls Try.prog 94 #[.agg #[.slice none 0 0, .int .i64 (loOf k), .int .i64 (hiOf k)], .int .i64 n] w fun e w' => CodeB (codeF k n) e ∧ Below w.heap.size w w' := by
  have hl : 0 ≤ loOf k ∧ loOf k ≤ 1 := by unfold loOf; split <;> omega
  obtain ⟨hl0, hl1⟩ := hl
  have hf : codeF k n = if loOf k ≤ n ∧ n ≤ hiOf k then some (n - loOf k) else none := by simp [codeF, hk]
  generalize codeF k n = o at *
  generalize loOf k = lo at *
  generalize hiOf k = hi at *
  have HF := Lib.hid hf
  clear hf hk
  by_cases hc : lo ≤ n
  · by_cases hd : n ≤ hi
    all_goals
      go_enter Try.func94, Try.ntmps94
      go_wp2
      go_quiet (fail)
      go_wp2
      go_ret2
      exact ⟨⟨_, _, rfl, by rw [HF.out]; simp [hc, hd]⟩, below_drewN (below_alloc (Below.refl _ _) _) _⟩
  · have hc' : decide (lo ≤ n) = false := by simp [hc]
    go_enter Try.func94, Try.ntmps94
    go_wp2
    go_quiet (fail)
    go_wp2
    go_ret2
    exact ⟨⟨_, _, rfl, by rw [HF.out]; simp; omega⟩, below_drewN (below_alloc (Below.refl _ _) _) _⟩
set_option maxHeartbeats 400000 in
theorem sizes_code_fd (ad : Addr) (n : Int) (w : World) (hr : Rd w (some ad) (ins fdSizes)) :
    Calls Try.prog 94 #[.agg #[.slice (some ad) 16 16, .int .i64 0, .int .i64 0], .int .i64 n] w fun e w' => CodeB (codeF 2 n) e ∧ Below w.heap.size w w' := by
  have hf : codeF 2 n = if fdSizes[lb fdSizes n]? = some n then some (lb fdSizes n : Int) else none := by simp [codeF]
  generalize codeF 2 n = o at *
  have HF := Lib.hid hf
  have HR := Lib.hid hr
  clear hf hr
  go_enter Try.func94, Try.ntmps94
  go_wp2_with fail
  refine (bsearch_any (some ad) 16 fdSizes n _ (HR.out.alloc _) (by decide) fdSizes_rise).mono ?_
  rintro e w' ⟨rfl, rfl⟩
  go_wp2
  go_ret2
  refine ⟨⟨_, _, rfl, ?_⟩, below_alloc (Below.refl _ _) _⟩
  rw [HF.out]
  by_cases h : fdSizes[lb fdSizes n]? = some n <;> simp [h]

theorem codeV_some (c : Int) : codeV (some c) = .tuple #[.int .i64 c, .int .i64 0] := rfl
theorem codeV_none : codeV none = .tuple #[.int .i64 0, .int .i64 2] := rfl
set_option maxHeartbeats 400000 in
theorem Code_any (k n : Int) (w : World) (h0 : 0 ≤ n) (h1 : n ≤ 9223372036854775807) :
    Calls Try.prog 54 #[.int .i64 k, .int .i64 n] w fun e w' => e = .returned (codeV (codeF k n)) ∧ Below w.heap.size w w' := by
  have ask : Calls Try.prog 93 #[.func (.func 94) #[] #[], .int .i64 k, .int .i64 n] w fun e w' => e = .returned (codeV (codeF k n)) ∧ Below w.heap.size w w' := by
    by_cases hk : k = 2
    · subst hk
      generalize ho : codeF 2 n = o
      have HO := Lib.hid ho
      clear ho
      go_enter Try.func93, Try.ntmps93
      go_wp2_with fail
      refine (of_fd _).mono ?_
      rintro e w1 ⟨ad, rfl, hr, hb⟩
      have HB := Lib.hid hb
      have HR := Lib.hid hr
      clear hb hr
      go_wp2_with fail
      refine (sizes_code_fd ad n _ HR.out).mono ?_
      rintro e w2 ⟨⟨c, b, rfl, hcb⟩, hb2⟩
      rw [HO.out] at hcb
      have HB2 := Lib.hid hb2
      have HCB := Lib.hid hcb
      clear hb2 hcb
      go_wp2
      all_goals
        go_ret2
        refine ⟨?_, below_trans HB.out HB2.out⟩
        rcases HCB.out with ⟨h1, h2⟩ | ⟨h1, h2⟩ <;> simp_all [codeV]
    · generalize ho : codeF k n = o
      have HO := Lib.hid ho
      have HK := Lib.hid hk
      clear ho hk
      go_enter Try.func93, Try.ntmps93
      go_wp2_with fail
      refine (of_other k _ HK.out).mono ?_
      rintro e w1 ⟨rfl, hb⟩
      have HB := Lib.hid hb
      clear hb
      go_wp2_with fail
      refine (sizes_code_other k n _ HK.out h0 h1).mono ?_
      rintro e w2 ⟨⟨c, b, rfl, hcb⟩, hb2⟩
      rw [HO.out] at hcb
      have HB2 := Lib.hid hb2
      have HCB := Lib.hid hcb
      clear hb2 hcb
      go_wp2
      all_goals
        go_ret2
        refine ⟨?_, below_trans HB.out HB2.out⟩
        rcases HCB.out with ⟨h1, h2⟩ | ⟨h1, h2⟩ <;> simp_all [codeV]
  have HA := Lib.hid ask
  clear ask
  generalize codeF k n = o at *
  go_enter Try.func54, Try.ntmps54
  go_wp2_with fail
  refine HA.out.mono ?_
  rintro e w1 ⟨rfl, hb⟩
  have HB := Lib.hid hb
  clear hb
  cases o <;> simp only [codeV_some, codeV_none]
  all_goals
    go_wp2
    go_ret2
    exact ⟨rfl, HB.out⟩
end Go.Proofs.Ytaknddanggdplaa
-- Same: What the functions of layer 5 (frame) answer: sizes, codes, and which frames may be. No condition.
namespace Go.Proofs.Ytaknddanggdplaa
open Go.RowKit



/-! ### frames -/
structure Fr where
  kind : Int
  id : Int
  ext : Bool
  rtr : Bool
  brs : Bool
  esi : Bool
  sec : Bool
  sdt : Int
  vcid : Int
  af : Int
  data : List Nat
/-- A frame's value, whose data lie at a slice. -/
abbrev frv (f : Fr) (s : Value) : Value := .agg #[.int .i64 f.kind, .int .u32 f.id, .bool f.ext, .bool f.rtr, .bool f.brs, .bool f.esi, .bool f.sec, .int .u8 f.sdt, .int .u8 f.vcid, .int .u32 f.af, s]
def isBytes (l : List Nat) : Prop := ∀ x ∈ l, x < 256
set_option maxHeartbeats 400000 in
theorem bytesEqual_any (A B : Option Addr) (c d : Nat) (a b : List Nat) (w : World) (ha : Rd w A (bys a)) (hb : Rd w B (bys b)) (ba : isBytes a) (bb : isBytes b) :
    Calls Try.prog 44 #[.slice A a.length c, .slice B b.length d] w fun e w' => e = .returned (.bool (decide (a = b))) ∧ w = w' := by
  rw [← strOf_inj ba bb]
  have h1 := ha.conv (P := Try.prog) (src := 23) (e := 5) (dst := 9) Try.underlying23 Try.underlying5 Try.underlying9 c
  have h2 := hb.conv (P := Try.prog) (src := 23) (e := 5) (dst := 9) Try.underlying23 Try.underlying5 Try.underlying9 d
  clear ha hb ba bb
  go_enter Try.func44, Try.ntmps44
  go_wp2
  go_ret
  exact ⟨rfl, rfl⟩
def sameF (a b : Fr) : Bool := decide (a.kind = b.kind ∧ a.id = b.id ∧ ([a.ext, a.rtr, a.brs, a.esi, a.sec] = [b.ext, b.rtr, b.brs, b.esi, b.sec]) ∧ a.sdt = b.sdt ∧ a.vcid = b.vcid ∧ a.af = b.af ∧ a.data = b.data)
theorem info_bool : (Try.prog.info? 4).map (fun i => (i.zero, i.size, i.bytes)) = some (some (.bool false), 1, 1) := by kernel_rfl
theorem guard_bools : Try.prog.eqGuardType Try.prog.depth 53 = false := by kernel_rfl
set_option maxRecDepth 100000 in
set_option maxHeartbeats 1000000 in
theorem Same_any (a b : Fr) (A B : Option Addr) (c d : Nat) (w : World) (ha : Rd w A (bys a.data)) (hb : Rd w B (bys b.data)) (ba : isBytes a.data) (bb : isBytes b.data) :
    Calls Try.prog 18 #[frv a (.slice A a.data.length c), frv b (.slice B b.data.length d)] w fun e w' => e = .returned (.bool (sameF a b)) ∧ Below w.heap.size w w' := by
  obtain ⟨i0, hi, hz0, hz1, hz2⟩ := info_parts info_bool
  have he := fun (w : World) => run_eql_bools5 (P := Try.prog) w (t := 53) (tb := 4) Try.underlying53 Try.underlying4 hi hz1
  have hg := guard_bools
  have HE := Lib.hid (fun W hW1 hW2 => bytesEqual_any A B c d a.data b.data W hW1 hW2 ba bb)
  clear ba bb hi hz0 hz1 hz2
  have HA := Lib.hid ha
  have HB := Lib.hid hb
  clear ha hb
  go_enter Try.func18, Try.ntmps18
  go_upto_region 1 with (fail)
  simp only [List.append_eq, List.cons_append, List.nil_append]
  go_wp2_with (go_at_call 44; refine (HE.out _ ((HA.out.alloc _).alloc _) ((HB.out.alloc _).alloc _)).mono ?_; rintro e w' ⟨rfl, rfl⟩)
  all_goals
    go_ret
    exact ⟨ret_bool (by simp [sameF, *]), (below_alloc (below_alloc (Below.refl _ _) _) _)⟩
end Go.Proofs.Ytaknddanggdplaa
-- Row: How a law's arguments read as frames, for the laws' rows. No condition.
namespace Go.Proofs.Ytaknddanggdplaa
open Go.ChangeShapes Go.WideShapes Go.ChangeAt Go.RowKit

theorem own : ownKnob Try.prog.godebug = none := by kernel_rfl
theorem laidOut : laidOutB Try.prog = true := by kernel_rfl
/-- The numbers of a frame that was read are of their kinds. -/
structure FrWf (f : Fr) : Prop where
  id0 : 0 ≤ f.id
  id1 : f.id < 4294967296
  kind0 : -9223372036854775808 ≤ f.kind
  kind1 : f.kind ≤ 9223372036854775807
  sdt0 : 0 ≤ f.sdt
  sdt1 : f.sdt < 256
  vcid0 : 0 ≤ f.vcid
  vcid1 : f.vcid < 256
  af0 : 0 ≤ f.af
  af1 : f.af < 4294967296
  data : isBytes f.data
  len : f.data.length ≤ 9223372036854775807
section
variable {H : Type} {enc : TypeId × Value → H} {W : World} {base : Nat} {spare : Nat → Bool} {held : Bool}
theorem one_cell (t : TypeId) (h : Try.prog.cellsOf t = 1) (cs : List Value) (k : Nat) (v : Value) (hv : cs[k]? = some v) : List.take (Try.prog.cellsOf t) (List.drop k cs) = [v] := by
  rw [h]
  have hk : k < cs.length := (List.getElem?_eq_some_iff.1 hv).1
  rw [List.drop_eq_getElem_cons hk]
  simp [List.getElem?_eq_getElem hk] at hv
  simp [hv]
theorem cells_frame : Try.prog.cellsOf 25 = 11 := by kernel_rfl
theorem cells_int : Try.prog.cellsOf 3 = 1 := by kernel_rfl
theorem cells_u32 : Try.prog.cellsOf 22 = 1 := by kernel_rfl
theorem cells_u8 : Try.prog.cellsOf 5 = 1 := by kernel_rfl
theorem cells_bool : Try.prog.cellsOf 4 = 1 := by kernel_rfl
theorem cells_bytes : Try.prog.cellsOf 23 = 1 := by kernel_rfl
/-- A slice of bytes that reads. -/
theorem read_bytes {fuel : Nat} {v : Value} {x : DataW H × List MemPlace} (h : DataW.trod enc Try.prog W base spare held fuel 23 [v] = some x) :
    ∃ (A : Option Addr) (l : List Nat) (c : Nat), v = .slice A l.length c ∧ Rd W A (bys l) ∧ isBytes l ∧ l.length ≤ c ∧ c ≤ 9223372036854775807 := by
  rcases open_ints Try.underlying23 Try.underlying5 cells_u8 h with ⟨hcs, _⟩ | ⟨a, len, cap, zs, hcs, _, hl, hm, hz, _, hcell, hwz⟩
  · simp at hcs
    subst hcs
    exact ⟨none, [], 0, rfl, Rd.nil _ _, by intro x hx; simp at hx, by simp, by omega⟩
  · simp at hcs
    subst hcs
    have hzl : len ≤ zs.length := by rw [hz]; split <;> omega
    have hbd : ∀ n ∈ zs, 0 ≤ n ∧ n < 256 := fun n hn => by have := bounds_u8 (hwz n hn); omega
    refine ⟨some a, (zs.take len).map Int.toNat, cap, by simp [hzl], ?_, ?_, by simp [hzl]; exact hl, by unfold maxLen at hm; omega⟩
    · intro j u hj
      refine ⟨a, rfl, ?_⟩
      simp only [bys, List.map_map] at hj
      have hj' : j < len := by
        have := (List.getElem?_eq_some_iff.1 hj).1
        simp at this
        omega
      rw [hcell j (by omega)]
      rw [← hj]
      have hjz : j < zs.length := by omega
      simp [hj', List.getElem?_eq_getElem hjz, List.getD]
      have := hbd zs[j] (List.getElem_mem hjz)
      omega
    · intro x hx
      rw [List.mem_map] at hx
      obtain ⟨n, hn, rfl⟩ := hx
      have := hbd n (List.mem_of_mem_take hn)
      omega
set_option maxRecDepth 100000 in
/-- A frame's eleven cells that read. -/
theorem read_frame {fuel : Nat} {cs : List Value} {x : DataW H × List MemPlace} (h : DataW.trod enc Try.prog W base spare held fuel 25 cs = some x) :
    ∃ (f : Fr) (A : Option Addr) (c : Nat), cs = [.int .i64 f.kind, .int .u32 f.id, .bool f.ext, .bool f.rtr, .bool f.brs, .bool f.esi, .bool f.sec, .int .u8 f.sdt, .int .u8 f.vcid, .int .u32 f.af, .slice A f.data.length c] ∧
      Rd W A (bys f.data) ∧ FrWf f ∧ f.data.length ≤ c := by
  obtain ⟨xs, n, _, _, hlen, hxl, hg⟩ := DataW.trod_struct Try.underlying25 h
  rw [cells_frame] at hlen
  match cs, hlen with
  | [v0, v1, v2, v3, v4, v5, v6, v7, v8, v9, v10], _ =>
    match xs, hxl with
    | [y0, y1, y2, y3, y4, y5, y6, y7, y8, y9, y10], _ =>
      have g0 : DataW.trod enc Try.prog W base spare held n 3 (List.take (Try.prog.cellsOf 3) (List.drop 0 [v0, v1, v2, v3, v4, v5, v6, v7, v8, v9, v10])) = some y0 := hg 0 _ rfl
      have g1 : DataW.trod enc Try.prog W base spare held n 22 (List.take (Try.prog.cellsOf 22) (List.drop 1 [v0, v1, v2, v3, v4, v5, v6, v7, v8, v9, v10])) = some y1 := hg 1 _ rfl
      have g2 : DataW.trod enc Try.prog W base spare held n 4 (List.take (Try.prog.cellsOf 4) (List.drop 2 [v0, v1, v2, v3, v4, v5, v6, v7, v8, v9, v10])) = some y2 := hg 2 _ rfl
      have g3 : DataW.trod enc Try.prog W base spare held n 4 (List.take (Try.prog.cellsOf 4) (List.drop 3 [v0, v1, v2, v3, v4, v5, v6, v7, v8, v9, v10])) = some y3 := hg 3 _ rfl
      have g4 : DataW.trod enc Try.prog W base spare held n 4 (List.take (Try.prog.cellsOf 4) (List.drop 4 [v0, v1, v2, v3, v4, v5, v6, v7, v8, v9, v10])) = some y4 := hg 4 _ rfl
      have g5 : DataW.trod enc Try.prog W base spare held n 4 (List.take (Try.prog.cellsOf 4) (List.drop 5 [v0, v1, v2, v3, v4, v5, v6, v7, v8, v9, v10])) = some y5 := hg 5 _ rfl
      have g6 : DataW.trod enc Try.prog W base spare held n 4 (List.take (Try.prog.cellsOf 4) (List.drop 6 [v0, v1, v2, v3, v4, v5, v6, v7, v8, v9, v10])) = some y6 := hg 6 _ rfl
      have g7 : DataW.trod enc Try.prog W base spare held n 5 (List.take (Try.prog.cellsOf 5) (List.drop 7 [v0, v1, v2, v3, v4, v5, v6, v7, v8, v9, v10])) = some y7 := hg 7 _ rfl
      have g8 : DataW.trod enc Try.prog W base spare held n 5 (List.take (Try.prog.cellsOf 5) (List.drop 8 [v0, v1, v2, v3, v4, v5, v6, v7, v8, v9, v10])) = some y8 := hg 8 _ rfl
      have g9 : DataW.trod enc Try.prog W base spare held n 22 (List.take (Try.prog.cellsOf 22) (List.drop 9 [v0, v1, v2, v3, v4, v5, v6, v7, v8, v9, v10])) = some y9 := hg 9 _ rfl
      have g10 : DataW.trod enc Try.prog W base spare held n 23 (List.take (Try.prog.cellsOf 23) (List.drop 10 [v0, v1, v2, v3, v4, v5, v6, v7, v8, v9, v10])) = some y10 := hg 10 _ rfl
      rw [one_cell _ cells_int _ 0 v0 rfl] at g0
      rw [one_cell _ cells_u32 _ 1 v1 rfl] at g1
      rw [one_cell _ cells_bool _ 2 v2 rfl] at g2
      rw [one_cell _ cells_bool _ 3 v3 rfl] at g3
      rw [one_cell _ cells_bool _ 4 v4 rfl] at g4
      rw [one_cell _ cells_bool _ 5 v5 rfl] at g5
      rw [one_cell _ cells_bool _ 6 v6 rfl] at g6
      rw [one_cell _ cells_u8 _ 7 v7 rfl] at g7
      rw [one_cell _ cells_u8 _ 8 v8 rfl] at g8
      rw [one_cell _ cells_u32 _ 9 v9 rfl] at g9
      rw [one_cell _ cells_bytes _ 10 v10 rfl] at g10
      obtain ⟨n0, e0, _, w0⟩ := DataW.trod_int Try.underlying3 g0
      obtain ⟨n1, e1, _, w1⟩ := DataW.trod_int Try.underlying22 g1
      obtain ⟨b2, e2, _⟩ := DataW.trod_bool Try.underlying4 g2
      obtain ⟨b3, e3, _⟩ := DataW.trod_bool Try.underlying4 g3
      obtain ⟨b4, e4, _⟩ := DataW.trod_bool Try.underlying4 g4
      obtain ⟨b5, e5, _⟩ := DataW.trod_bool Try.underlying4 g5
      obtain ⟨b6, e6, _⟩ := DataW.trod_bool Try.underlying4 g6
      obtain ⟨n7, e7, _, w7⟩ := DataW.trod_int Try.underlying5 g7
      obtain ⟨n8, e8, _, w8⟩ := DataW.trod_int Try.underlying5 g8
      obtain ⟨n9, e9, _, w9⟩ := DataW.trod_int Try.underlying22 g9
      obtain ⟨A, l, c, e10, hr, hb, hlc, hcm⟩ := read_bytes g10
      simp only [List.cons.injEq, and_true] at e0 e1 e2 e3 e4 e5 e6 e7 e8 e9
      subst e0 e1 e2 e3 e4 e5 e6 e7 e8 e9 e10
      have k0 := bounds_i64 w0
      have k1 := bounds_u32 w1
      have k7 := bounds_u8 w7
      have k8 := bounds_u8 w8
      have k9 := bounds_u32 w9
      exact ⟨⟨n0, n1, b2, b3, b4, b5, b6, n7, n8, n9, l⟩, A, c, rfl, hr, by constructor <;> first | exact hb | (dsimp only; omega), hlc⟩
set_option maxRecDepth 100000 in
/-- A frame by value. -/
theorem open_frame {r : Reach} {b0 : Nat} {v : Value} {d : DataW H} {p : List MemPlace} (hv : Value.okWide Try.prog W r b0 25 v) (h : DataW.Trod enc Try.prog W base spare held 25 v d p) :
    ∃ (f : Fr) (A : Option Addr) (c : Nat), v = frv f (.slice A f.data.length c) ∧ Rd W A (bys f.data) ∧ FrWf f ∧ f.data.length ≤ c := by
  obtain ⟨cs, rfl, _⟩ := okWide_struct Try.underlying25 hv
  obtain ⟨fuel, hf⟩ := h
  obtain ⟨f, A, c, hcs, hr, hw, hc⟩ := read_frame hf
  refine ⟨f, A, c, ?_, hr, hw, hc⟩
  obtain ⟨l⟩ := cs
  simp only [Value.cells] at hcs
  rw [hcs]
end
/-- The frame of zeros. -/
abbrev zeroV : Value := .agg #[.int .i64 0, .int .u32 0, .bool false, .bool false, .bool false, .bool false, .bool false, .int .u8 0, .int .u8 0, .int .u32 0, .slice none 0 0]
end Go.Proofs.Ytaknddanggdplaa
-- Append: Words for rows that grow: append from whatever source that reads as a list. No condition.
namespace Go.Proofs.Ytaknddanggdplaa
open Go.RowKit

section
variable {P : Program} (w : World)
theorem run_app (base : Nat) (t ty e : TypeId) (i : TypeInfo) (z : Value) (bytes : Nat) (ht : P.underlying t = some (.slice e)) (hi : P.info? e = some i) (hz : i.zero = some z)
    (hsize : i.size = 1) (hby : i.bytes = bytes) (hzs : z.cells.size = 1)
    (v : Value) (n : Nat) (xs : List Value) (hown : w.ownsRow base e 1 v n xs)
    (A : Option Addr) (c : Nat) (news : List Value) (hr : Rd w A news) (h1 : ∀ u ∈ news, u.oneCell' = true) (hc : news = [] → A = none → c = 0)
    (h63 : n + news.length ≤ maxLen) (hbytes : (n + news.length) * bytes ≤ 140737488355328) (hbase : base ≤ w.heap.size) :
    ∃ v' w', (Builtin.append_ #[t, t] ty #[v, .slice A news.length c]).run P w = .ok v' w' ∧ w'.ownsRow base e 1 v' (n + news.length) (xs ++ news) ∧ w.grownBy w' v.ownBlock ∧
      (v'.ownBlock = v.ownBlock ∨ v'.ownBlock = some w.heap.size) := by
  cases A with
  | none =>
    have hn : news = [] := by
      cases news with
      | nil => rfl
      | cons u us => obtain ⟨ad, he, _⟩ := hr 0 u rfl; cases he
    subst hn
    have hc0 := hc rfl rfl
    subst hc0
    exact ⟨v, w, run_append_owned_none w base t ty e i 1 ht hi v n xs hown, by simpa using hown, World.grownBy.refl w _, .inl rfl⟩
  | some ad =>
    obtain ⟨v', w', hrun, h2, h3, _, h5⟩ := run_append_own_at (P := P) w base t ty e i z 1 bytes ht hi hz hsize hby hzs (by omega) v n xs hown ad news.length c news (by simp)
      (fun j u hj => by obtain ⟨ad', he, hcell⟩ := hr j u hj; injection he with he; subst he; exact hcell) h1 h63 hbytes hbase
    exact ⟨v', w', hrun, h2, h3, h5⟩
theorem wp_app {o : Oper} {a : Act} {K : Act → World → Prop} {Q : Exit → Act → World → Prop} (s x : Operand) (t : TypeId)
    (ho : o.op = .call { callee := .builtin .append, args := #[s, x], argTypes := #[t, t] })
    (base : Nat) (e : TypeId) (i : TypeInfo) (z : Value) (bytes : Nat) (ht : P.underlying t = some (.slice e)) (hi : P.info? e = some i) (hz : i.zero = some z)
    (hsize : i.size = 1) (hby : i.bytes = bytes) (hzs : z.cells.size = 1)
    (v : Value) (n : Nat) (xs : List Value) (hs : a.eval s = v) (hown : w.ownsRow base e 1 v n xs)
    (A : Option Addr) (m c : Nat) (news : List Value) (hx : a.eval x = .slice A m c) (hm : news.length = m) (hr : Rd w A news) (h1 : ∀ u ∈ news, u.oneCell' = true) (hc : news = [] → A = none → c = 0)
    (h63 : n + m ≤ maxLen) (hbytes : (n + m) * bytes ≤ 140737488355328) (hbase : base ≤ w.heap.size)
    (h : ∀ v' w', w'.ownsRow base e 1 v' (n + m) (xs ++ news) → w.grownBy w' v.ownBlock → (v'.ownBlock = v.ownBlock ∨ v'.ownBlock = some w.heap.size) → K (a.put o.dst v') w') : o.wp P a w K Q := by
  subst hm
  obtain ⟨v', w', hrun, h2, h3, h4⟩ := run_app (P := P) w base t o.type e i z bytes ht hi hz hsize hby hzs v n xs hown A c news hr h1 hc h63 hbytes hbase
  unfold Oper.wp execOp
  simp only [ho, resolve, invoke, builtin, Sem.run_bind, Sem.run_pure, Result.andThen_ok, List.map_toArray, List.map_cons, List.map_nil, hs, hx, hrun]
  exact h v' w' h2 h3 h4
theorem wpList_app {ops : Array Oper} {rest : List Oper} {o : Oper} {a : Act} {Q : Exit → Act → World → Prop} (hgd : o.guard = none) (s x : Operand) (t : TypeId)
    (ho : o.op = .call { callee := .builtin .append, args := #[s, x], argTypes := #[t, t] })
    (base : Nat) (e : TypeId) (i : TypeInfo) (z : Value) (bytes : Nat) (ht : P.underlying t = some (.slice e)) (hi : P.info? e = some i) (hz : i.zero = some z)
    (hsize : i.size = 1) (hby : i.bytes = bytes) (hzs : z.cells.size = 1)
    (v : Value) (n : Nat) (xs : List Value) (hs : a.eval s = v) (hown : w.ownsRow base e 1 v n xs)
    (A : Option Addr) (m c : Nat) (news : List Value) (hx : a.eval x = .slice A m c) (hm : news.length = m) (hr : Rd w A news) (h1 : ∀ u ∈ news, u.oneCell' = true) (hc : news = [] → A = none → c = 0)
    (h63 : n + m ≤ maxLen) (hbytes : (n + m) * bytes ≤ 140737488355328) (hbase : base ≤ w.heap.size)
    (h : ∀ v' w', w'.ownsRow base e 1 v' (n + m) (xs ++ news) → w.grownBy w' v.ownBlock → (v'.ownBlock = v.ownBlock ∨ v'.ownBlock = some w.heap.size) → wpList P ops Q rest (a.put o.dst v') w') : wpList P ops Q (o :: rest) a w :=
  wpList_plain hgd fun _ hK => wp_app w s x t ho base e i z bytes ht hi hz hsize hby hzs v n xs hs hown A m c news hx hm hr h1 hc h63 hbytes hbase fun v' w' h2 h3 h4 => hK _ _ (h v' w' h2 h3 h4)
end
theorem own_slice {w : World} {base n : Nat} {e : TypeId} {v : Value} {xs : List Value} (h : w.ownsRow base e 1 v n xs) : ∃ A c, v = .slice A n c ∧ Rd w A xs ∧ n = xs.length ∧ n ≤ c ∧ (A = none → c = 0) := by
  rcases h.2 with ⟨rfl, rfl⟩ | ⟨g, cap, cur, rfl, _, _, hnc, _⟩
  · have hx : xs = [] := List.eq_nil_of_length_eq_zero (by simpa using h.1)
    subst hx
    exact ⟨none, 0, rfl, Rd.nil _ _, rfl, by omega, fun _ => rfl⟩
  · exact ⟨_, cap, rfl, Rd.own h, by have := h.1; omega, hnc, fun e => by cases e⟩
theorem own_below {w w' : World} {base n e : Nat} {v : Value} {xs : List Value} (h : w.ownsRow base e 1 v n xs) (hb : Below w.heap.size w w') : w'.ownsRow base e 1 v n xs := by
  obtain ⟨h1, h2⟩ := h
  refine ⟨h1, ?_⟩
  rcases h2 with h2 | ⟨g, cap, cur, hv, hg, hh, r⟩
  · exact .inl h2
  · exact .inr ⟨g, cap, cur, hv, hg, heap_below hb hh, r⟩
theorem own_mono {w : World} {base base' n e : Nat} {v : Value} {xs : List Value} (h : w.ownsRow base e 1 v n xs) (hb : base' ≤ base) : w.ownsRow base' e 1 v n xs := by
  obtain ⟨h1, h2⟩ := h
  exact ⟨h1, h2.imp id fun ⟨g, cap, cur, hv, hg, r⟩ => ⟨g, cap, cur, hv, Nat.le_trans hb hg, r⟩⟩
/-- append's step, for what lay below the base. -/
theorem own_grown {B : Nat} {w0 w w' : World} {base n e : Nat} {v : Value} {xs : List Value} (h : w.ownsRow base e 1 v n xs) (hb : Below B w0 w) (hB : B ≤ base) (hs : base ≤ w.heap.size) (hg : w.grownBy w' v.ownBlock) : Below B w0 w' :=
  hb.grown hg (by omega) (fun k hk => by have := (h.lt k hk).1; omega)
theorem own_lit {w : World} {cs : List Value} {n e base : Nat} (hb : base ≤ w.heap.size) (hn : cs.length = n) (hm : n ≤ maxLen) : (w.alloc (.cells cs.toArray e)).ownsRow base e 1 (.slice (some ⟨w.heap.size, 0, none⟩) n n) n cs := by
  have := World.ownsRow_lit (e := e) (size := 1) w cs.toArray n hb hm (by simp [hn])
  simpa using this

/-! ### the same, over worlds in which all that lay in one lies -/
theorem ext_lt {w : World} {g : Nat} {o : Obj} (h : w.heap[g]? = some o) (e : Ext w) : g < e.W.heap.size := heap_lt (ext_heap h e)
theorem Ext.step {w : World} (e : Ext w) {w' : World} (h : Below e.W.heap.size e.W w') : ∃ e2 : Ext w, w' = e2.W := ⟨⟨w', below_trans e.below h⟩, rfl⟩
theorem ext_ge {w : World} (e : Ext w) : w.heap.size ≤ e.W.heap.size := e.below.size
theorem Ext.below_alloc {w : World} (e : Ext w) (o : Obj) : Below w.heap.size w (e.W.alloc o) := Go.Proofs.Ytaknddanggdplaa.below_alloc e.below o
theorem extcB {P : Program} {f : FuncId} {args : Array Value} {w0 : World} {e : Ext w0} {R : Ending → World → Prop} (h : Calls P f args e.W fun x w' => R x w' ∧ Below e.W.heap.size e.W w') :
    Calls P f args e.W fun x w' => ∃ e2 : Ext w0, w' = e2.W ∧ Hid (Below e.W.heap.size e.W e2.W) ∧ R x e2.W := h.mono fun _ w' ⟨hx, hb⟩ => ⟨⟨w', below_trans e.below hb⟩, rfl, hb, hx⟩
/-- A slice's length, for a loop's measure. -/
def lenV : Value → Nat | .slice _ n _ => n | _ => 0
theorem liftE {w0 w1 : World} (hb : Below w0.heap.size w0 w1) {a : Addr} {v : Value} (h : ∀ e : Ext w0, e.W.cell? a = some v) : ∀ e : Ext w1, e.W.cell? a = some v := fun e => h ⟨e.W, below_trans hb e.below⟩
/-- A row of the call's own: where it lies, and what it holds. -/
def Row (w : World) (base t : Nat) (A : Option Addr) (c : Nat) (xs : List Value) : Prop := w.ownsRow base t 1 (.slice A xs.length c) xs.length xs
theorem Row.of {w : World} {base t n : Nat} {v : Value} {xs : List Value} (h : w.ownsRow base t 1 v n xs) (hn : n = xs.length) : ∃ A c, v = .slice A xs.length c ∧ Row w base t A c xs := by
  subst hn
  obtain ⟨A, c, rfl, -⟩ := own_slice h
  exact ⟨A, c, rfl, h⟩
theorem Row.below {w w' : World} {base t c : Nat} {A : Option Addr} {xs : List Value} (h : Row w base t A c xs) (hb : Below w.heap.size w w') : Row w' base t A c xs := own_below h hb
theorem Row.alloc {w : World} {base t c : Nat} {A : Option Addr} {xs : List Value} (h : Row w base t A c xs) (o : Obj) : Row (w.alloc o) base t A c xs := World.ownsRow.alloc h o
theorem Row.mono {w : World} {base base' t c : Nat} {A : Option Addr} {xs : List Value} (h : Row w base t A c xs) (hb : base' ≤ base) : Row w base' t A c xs := own_mono h hb
theorem Row.rd {w : World} {base t c : Nat} {A : Option Addr} {xs : List Value} (h : Row w base t A c xs) : Rd w A xs := Rd.own h
theorem Row.none_ {w : World} {base t c : Nat} {A : Option Addr} {xs : List Value} (h : Row w base t A c xs) (hA : A = none) : c = 0 := by
  obtain ⟨A', c', e, -, -, -, hn⟩ := own_slice h
  injection e with e1 _ e3
  subst e1 e3
  exact hn hA
theorem Row.cap {w : World} {base t c : Nat} {A : Option Addr} {xs : List Value} (h : Row w base t A c xs) : xs.length ≤ c := by
  obtain ⟨A', c', e, -, -, hc, -⟩ := own_slice h
  injection e with e1 _ e3
  subst e3
  exact hc
theorem Row.nil (w : World) (base t : Nat) : Row w base t none 0 [] := ⟨by simp, .inl ⟨rfl, rfl⟩⟩
theorem wpList_appE {P : Program} {w0 W : World} (hW : Below w0.heap.size w0 W) {ops : Array Oper} {rest : List Oper} {o : Oper} {a : Act} {Q : Exit → Act → World → Prop} (hgd : o.guard = none) (s x : Operand) (t : TypeId)
    (ho : o.op = .call { callee := .builtin .append, args := #[s, x], argTypes := #[t, t] })
    (base : Nat) (e : TypeId) (i : TypeInfo) (z : Value) (bytes : Nat) (ht : P.underlying t = some (.slice e)) (hi : P.info? e = some i) (hz : i.zero = some z)
    (hsize : i.size = 1) (hby : i.bytes = bytes) (hzs : z.cells.size = 1)
    (A : Option Addr) (n c : Nat) (xs : List Value) (hs : a.eval s = .slice A n c) (hn : xs.length = n) (hown : Row W base e A c xs)
    (B : Option Addr) (m d : Nat) (news : List Value) (hx : a.eval x = .slice B m d) (hm : news.length = m) (hr : Rd W B news) (h1 : ∀ u ∈ news, u.oneCell' = true) (hd : news = [] → B = none → d = 0)
    (N : Nat) (hN : n + m = N) (h63 : N ≤ maxLen) (hbytes : N * bytes ≤ 140737488355328) (hB : w0.heap.size ≤ base) (hbase : base ≤ W.heap.size)
    (h : ∀ (e3 : Ext w0) (A3 : Option Addr) (c3 : Nat), Hid (Row e3.W base e A3 c3 (xs ++ news)) → wpList P ops Q rest (a.put o.dst (.slice A3 N c3)) e3.W) : wpList P ops Q (o :: rest) a W := by
  subst hN hm hn
  refine wpList_app W hgd s x t ho base e i z bytes ht hi hz hsize hby hzs (.slice A xs.length c) xs.length xs hs hown B news.length d news hx rfl hr h1 hd h63 hbytes hbase fun v' w' h2 h3 _ => ?_
  obtain ⟨A3, c3, rfl, hrow⟩ := Row.of h2 (by simp)
  have := h ⟨w', own_grown hown hW hB hbase h3⟩ A3 c3 hrow
  simpa using this
theorem step_appE {P : Program} {w0 W : World} (hW : Below w0.heap.size w0 W) {ops : Array Oper} {o : Oper} {a : Act} {K : Act → World → Prop} {Q : Exit → Act → World → Prop} {E : Prop} (hgd : o.guard = none) (s x : Operand) (t : TypeId)
    (ho : o.op = .call { callee := .builtin .append, args := #[s, x], argTypes := #[t, t] })
    (base : Nat) (e : TypeId) (i : TypeInfo) (z : Value) (bytes : Nat) (ht : P.underlying t = some (.slice e)) (hi : P.info? e = some i) (hz : i.zero = some z)
    (hsize : i.size = 1) (hby : i.bytes = bytes) (hzs : z.cells.size = 1)
    (A : Option Addr) (n c : Nat) (xs : List Value) (hs : a.eval s = .slice A n c) (hn : xs.length = n) (hown : Row W base e A c xs)
    (B : Option Addr) (m d : Nat) (news : List Value) (hx : a.eval x = .slice B m d) (hm : news.length = m) (hr : Rd W B news) (h1 : ∀ u ∈ news, u.oneCell' = true) (hd : news = [] → B = none → d = 0)
    (N : Nat) (hN : n + m = N) (h63 : N ≤ maxLen) (hbytes : N * bytes ≤ 140737488355328) (hB : w0.heap.size ≤ base) (hbase : base ≤ W.heap.size)
    (h : ∀ (e3 : Ext w0) (A3 : Option Addr) (c3 : Nat), Hid (Row e3.W base e A3 c3 (xs ++ news)) → K (a.put o.dst (.slice A3 N c3)) e3.W) :
    if Region.wanted o (yielded ops a.tmps) = true then Oper.wp P o a W K Q else E := by
  subst hN hm hn
  have hw : Region.wanted o (yielded ops a.tmps) = true := by simp [Region.wanted, hgd]
  rw [if_pos hw]
  refine wp_app W s x t ho base e i z bytes ht hi hz hsize hby hzs (.slice A xs.length c) xs.length xs hs hown B news.length d news hx rfl hr h1 hd h63 hbytes hbase fun v' w' h2 h3 _ => ?_
  obtain ⟨A3, c3, rfl, hrow⟩ := Row.of h2 (by simp)
  have := h ⟨w', own_grown hown hW hB hbase h3⟩ A3 c3 hrow
  simpa using this
end Go.Proofs.Ytaknddanggdplaa
-- Bits: What the document's answer for layer 1 makes of numbers: their bits, and bits' number. No condition.
namespace Go.Proofs.Ytaknddanggdplaa
open Go.RowKit

/-- A number's low bits, the highest of them first. -/
def bitsN (n : Nat) : Nat → List Nat
  | 0 => []
  | k + 1 => (n / 2 ^ k % 2) :: bitsN n k
theorem bitsN_length (n k : Nat) : (bitsN n k).length = k := by induction k <;> simp [bitsN, *]
theorem bitsN_bit (n k : Nat) : ∀ x ∈ bitsN n k, x ≤ 1 := by
  induction k with
  | zero => intro x hx; simp [bitsN] at hx
  | succ k ih => intro x hx; simp only [bitsN, List.mem_cons] at hx; rcases hx with rfl | hx
                 · omega
                 · exact ih x hx
theorem info_u8 : (Try.prog.info? 5).map (fun i => (i.zero, i.size, i.bytes)) = some (some (.int .u8 0), 1, 1) := by kernel_rfl
theorem set_mid (k x : Nat) (l : List Nat) : (List.replicate (k + 1) 0 ++ l).set k x = List.replicate k 0 ++ (x :: l) := by
  induction k with
  | zero => simp
  | succ k ih => rw [List.replicate_succ, List.cons_append, List.set_cons_succ, ih]; rfl
theorem bys_set (l : List Nat) (k x : Nat) : (bys l).set k (.int .u8 (x : Int)) = bys (l.set k x) := by simp [bys, List.map_set]
set_option maxHeartbeats 400000 in
theorem BitsR_any (n size : Nat) (w : World) (h1 : 1 ≤ size) (h2 : size ≤ 64) (hn : n < 18446744073709551616) :
    Calls Try.prog 61 #[.int .u64 n, .int .i64 size] w fun e w' => ∃ v, e = .returned v ∧ w'.ownsRow w.heap.size 5 1 v size (bys (bitsN n size)) ∧ Below w.heap.size w w' := by
  obtain ⟨i0, hi, hz0, hz1, hz2⟩ := info_parts info_u8
  go_enter Try.func61, Try.ntmps61
  go_wp2_with (refine wpList_make_full _ rfl (.tmp 7) (.tmp 7) 23 rfl w.heap.size 5 i0 (.int .u8 0) 1 Try.underlying23 hi hz0 hz1 .i64 .i64 size size size rfl rfl rfl rfl (by rw [hz2]; omega) (by unfold maxLen; omega) (Nat.le_refl _) ?_; intro w1 hown hgr)
  have hb1 : Below w.heap.size w w1 := (Below.refl _ _).grown hgr (Nat.le_refl _) (by simp)
  have hx : (madeCells (Value.int IntKind.u8 0).cells (size * 1)).toList = bys (List.replicate size 0) := by
    rw [Nat.mul_one]
    show (madeCells #[Value.int IntKind.u8 0] size).toList = _
    rw [toList_madeCells_one]; simp [bys]
  rw [hx] at hown
  generalize hgg : w.heap.size = g at *
  have HG := Lib.hid hgg
  clear hgr hx hi hz0 hz1 hz2 hgg
  go_loopw [0, 6] (fun u iv wr => ∃ r N : Nat, r ≤ size ∧ Hid (N = n / 2 ^ (size - r)) ∧ N < 18446744073709551616 ∧ u = .int .u64 N ∧ iv = .int .i64 ((r : Int) - 1) ∧
      Hid (wr.ownsRow g 5 1 (.slice (some ⟨g, 0, none⟩) size size) size (bys (List.replicate r 0 ++ bitsN n (size - r)))) ∧ Hid (Below g w wr)) (fun _ iv _ => (intOf iv + 1).toNat)
  case atStart => exact ⟨size, n, by omega, (by simp : n = n / 2 ^ (size - size)), hn, rfl, rfl, Lib.hid (by simpa [bitsN] using hown), hb1⟩
  case round =>
    obtain ⟨r, N, hr, hN, hN2, rfl, rfl, HO, HB⟩ := hrel
    cases r with
    | zero =>
      go_wp2
      go_ret
      exact ⟨_, rfl, by rw [HG.out]; simpa using HO.out, by rw [HG.out]; exact HB.out⟩
    | succ k =>
      rw [show (((k + 1 : Nat) : Int) - 1) = (k : Int) from by omega]
      have hc : wr.cell? ⟨g, k, none⟩ = some (.int .u8 0) := by
        rw [HO.out.cellAt k (by omega)]
        simp [bys, List.replicate_succ']
      have hf : wr.frozen? ⟨g, k, none⟩ = false := HO.out.frozenAt k
      go_wp2
      go_roundw
      case rel =>
        refine ⟨k, N / 2, by omega, ?_, by omega, by go_num, by go_num, ?_, HB.out.setCell (p := ⟨g, k, none⟩) (Nat.le_refl _) _⟩
        · show N / 2 = n / 2 ^ (size - k)
          rw [hN.out, Nat.div_div_eq_div_mul, ← Nat.pow_succ]
          congr 2; omega
        · have h := (HO.out.stored k (.int .u8 ((N % 2 : Nat) : Int))).1
          rw [bys_set, set_mid] at h
          have e : bitsN n (size - k) = (N % 2) :: bitsN n (size - (k + 1)) := by
            obtain ⟨m, hm⟩ : ∃ m, size - (k + 1) = m := ⟨_, rfl⟩
            rw [show size - k = m + 1 from by omega, hm, bitsN, hN.out, hm]
          show World.ownsRow _ _ _ _ _ _ _
          rw [e]
          exact h
      case measure => simp [intOf]

theorem BitsR_row (n size : Int) (N S : Nat) (w : World) (eN : n = (N : Int)) (eS : size = (S : Int)) (h1 : 1 ≤ S) (h2 : S ≤ 64) (hn : N < 18446744073709551616) :
    Calls Try.prog 61 #[.int .u64 n, .int .i64 size] w fun e w' => (∃ A c, e = .returned (.slice A S c) ∧ Row w' w.heap.size 5 A c (bys (bitsN N S))) ∧ Below w.heap.size w w' := by
  subst eN eS
  refine (BitsR_any N S w h1 h2 hn).mono ?_
  rintro e w' ⟨v, rfl, ho, hb⟩
  obtain ⟨A, c, rfl, hr⟩ := Row.of ho (by rw [bys_length, bitsN_length])
  refine ⟨⟨A, c, ?_, hr⟩, hb⟩
  rw [bys_length, bitsN_length]
/-- A bool as a bit. -/
def bitB (b : Bool) : Nat := if b then 1 else 0
theorem BitR_any (b : Bool) (w : World) : Calls Try.prog 62 #[.bool b] w fun e w' => e = .returned (.int .u8 (bitB b : Nat)) ∧ w = w' := by
  cases b
  all_goals
    go_enter Try.func62, Try.ntmps62
    go_wp2
    go_ret
    exact ⟨rfl, rfl⟩
/-- Bits' number. -/
def numN (l : List Nat) : Nat := l.foldl (fun n b => n * 2 + b) 0
theorem numN_snoc (l : List Nat) (b : Nat) : numN (l ++ [b]) = numN l * 2 + b := by simp [numN]
theorem numN_from (l : List Nat) (h : ∀ x ∈ l, x ≤ 1) : ∀ n, l.foldl (fun n b => n * 2 + b) n < (n + 1) * 2 ^ l.length := by
  induction l with
  | nil => intro n; simp
  | cons b l ih =>
    intro n
    have h2 := h b (by simp)
    have h1 := ih (fun x hx => h x (by simp [hx])) (n * 2 + b)
    rw [List.foldl_cons, List.length_cons, Nat.pow_succ]
    refine Nat.lt_of_lt_of_le h1 ?_
    rw [← Nat.mul_assoc, Nat.mul_right_comm]
    exact Nat.mul_le_mul_right _ (by omega)
theorem numN_lt (l : List Nat) (h : ∀ x ∈ l, x ≤ 1) : numN l < 2 ^ l.length := by have := numN_from l h 0; simpa [numN] using this
end Go.Proofs.Ytaknddanggdplaa
-- Blk: Words on blocks: their cells, and which two of them are turned. No condition.
namespace Go.Proofs.Ytaknddanggdplaa
open Go.RowKit
/-- Which of two numbers is lower, as Go tells it. -/
def cmpI (a b : Int) : Int := if a < b then -1 else if b < a then 1 else 0
theorem ret_fst {k : IntKind} {a b : Int} {v : Value} (h : a = b) : Ending.returned (.tuple #[.int k a, v]) = .returned (.tuple #[.int k b, v]) := by rw [h]
theorem cell_of_heap {w : World} {g : Nat} {cs : Array Value} {t : TypeId} {fr : Nat × Nat} (h : w.heap[g]? = some (.cells cs t fr)) (k : Nat) (v : Value) (hk : cs[k]? = some v) : w.cell? ⟨g, k, none⟩ = some v := by
  unfold World.cell?
  simp only
  rw [h]
  exact hk
theorem heap_setCell {w : World} {g : Nat} {cs : Array Value} {t : TypeId} {fr : Nat × Nat} (h : w.heap[g]? = some (.cells cs t fr)) (k : Nat) (v : Value) :
    (w.setCell ⟨g, k, none⟩ v).heap[g]? = some (.cells (cs.setIfInBounds k v) t fr) := by
  simp [World.setCell, Array.getElem?_modify, h]
/-- Only blocks b and g are turned, of what lay. -/
structure Touch (b g : Nat) (w w' : World) : Prop where
  os : w'.os = w.os
  tape : w'.tape = w.tape
  output : w'.output = w.output
  size : w.heap.size ≤ w'.heap.size
  block : ∀ k, k < w.heap.size → k ≠ b → k ≠ g → w'.heap[k]? = w.heap[k]?
theorem Touch.refl (b g : Nat) (w : World) : Touch b g w w := ⟨rfl, rfl, rfl, Nat.le_refl _, fun _ _ _ _ => rfl⟩
theorem Touch.trans {b g : Nat} {w w1 w2 : World} (h : Touch b g w w1) (k : Touch b g w1 w2) : Touch b g w w2 :=
  ⟨k.os.trans h.os, k.tape.trans h.tape, k.output.trans h.output, Nat.le_trans h.size k.size, fun i hi h1 h2 => (k.block i (Nat.lt_of_lt_of_le hi h.size) h1 h2).trans (h.block i hi h1 h2)⟩
theorem Touch.of {b g : Nat} {w w' : World} (h : Below w.heap.size w w') : Touch b g w w' := ⟨h.os, h.tape, h.output, h.size, fun k hk _ _ => h.block k hk⟩
theorem Touch.drew {b g : Nat} {w w' : World} (h : Touch b g w w') : Touch b g w w'.drew := ⟨h.os, h.tape, h.output, h.size, h.block⟩
theorem Touch.setCell {b g : Nat} {w w' : World} (h : Touch b g w w') {p : Addr} (hp : p.block = b ∨ p.block = g) (u : Value) : Touch b g w (w'.setCell p u) :=
  ⟨h.os, h.tape, h.output, by simpa [World.setCell] using h.size, fun k hk h1 h2 => by rw [Below.heap_setCell _ _ _ _ (by rcases hp with e | e <;> rw [e] <;> assumption)]; exact h.block k hk h1 h2⟩
theorem Touch.alloc {b g : Nat} {w w' : World} (h : Touch b g w w') (o : Obj) : Touch b g w (w'.alloc o) := h.trans (.of (below_alloc (Below.refl _ _) o))
theorem Touch.below {b g base : Nat} {w w' : World} (h : Touch b g w w') (hb : base ≤ b) (hg : base ≤ g) (hw : base ≤ w.heap.size) : Below base w w' :=
  ⟨h.os, h.tape, h.output, h.size, fun k hk => h.block k (by omega) (by omega) (by omega)⟩
theorem nblk (w : World) (a : Addr) (v : Value) : (w.setCell a v).heap.size = w.heap.size := by simp [World.setCell]
end Go.Proofs.Ytaknddanggdplaa
-- Pot: A row of bytes that grows behind a pointer: block b holds the slice, the row itself lies beyond B. No condition.
namespace Go.Proofs.Ytaknddanggdplaa
open Go.RowKit
/-- Of what lay below B only block b is turned. -/
structure Keep (B b : Nat) (w w' : World) : Prop where
  os : w'.os = w.os
  tape : w'.tape = w.tape
  output : w'.output = w.output
  size : w.heap.size ≤ w'.heap.size
  block : ∀ k, k < B → k ≠ b → w'.heap[k]? = w.heap[k]?
theorem Keep.refl (B b : Nat) (w : World) : Keep B b w w := ⟨rfl, rfl, rfl, Nat.le_refl _, fun _ _ _ => rfl⟩
theorem Keep.trans {B b : Nat} {w w1 w2 : World} (h : Keep B b w w1) (k : Keep B b w1 w2) : Keep B b w w2 :=
  ⟨k.os.trans h.os, k.tape.trans h.tape, k.output.trans h.output, Nat.le_trans h.size k.size, fun i hi h1 => (k.block i hi h1).trans (h.block i hi h1)⟩
theorem Keep.of {B b C : Nat} {w w' : World} (h : Below C w w') (hB : B ≤ C) : Keep B b w w' := ⟨h.os, h.tape, h.output, h.size, fun k hk _ => h.block k (by omega)⟩
theorem Keep.mono {B B' b : Nat} {w w' : World} (h : Keep B b w w') (hB : B' ≤ B) : Keep B' b w w' := ⟨h.os, h.tape, h.output, h.size, fun k hk h1 => h.block k (by omega) h1⟩
theorem Keep.drew {B b : Nat} {w w' : World} (h : Keep B b w w') : Keep B b w w'.drew := ⟨h.os, h.tape, h.output, h.size, h.block⟩
theorem Keep.setCell {B b : Nat} {w w' : World} (h : Keep B b w w') {p : Addr} (hp : p.block = b ∨ B ≤ p.block) (u : Value) : Keep B b w (w'.setCell p u) :=
  ⟨h.os, h.tape, h.output, by simpa [World.setCell] using h.size, fun k hk h1 => by rw [Below.heap_setCell _ _ _ _ (by rcases hp with e | e <;> omega)]; exact h.block k hk h1⟩
theorem Keep.alloc {B b : Nat} {w w' : World} (h : Keep B b w w') (hB : B ≤ w'.heap.size) (o : Obj) : Keep B b w (w'.alloc o) := h.trans (.of (Go.Proofs.Ytaknddanggdplaa.below_alloc (Below.refl _ _) o) hB)
theorem Keep.below {B b C : Nat} {w w' : World} (h : Keep B b w w') (hb : C ≤ b) (hB : C ≤ B) : Below C w w' := ⟨h.os, h.tape, h.output, h.size, fun k hk => h.block k (by omega) (by omega)⟩
theorem Keep.heap {B b k : Nat} {w w' : World} {o : Obj} (h : Keep B b w w') (hk : w.heap[k]? = some o) (h1 : k < B) (h2 : k ≠ b) : w'.heap[k]? = some o := (h.block k h1 h2).trans hk
/-- The row that grows. -/
structure Pot (w : World) (B b t : Nat) (A : Option Addr) (c : Nat) (l : List Nat) : Prop where
  box : w.heap[b]? = some (.cells #[.slice A l.length c] t)
  ne : ∀ ad, A = some ad → ad.block ≠ b
  size : B ≤ w.heap.size
  row : Row w B 5 A c (bys l)
theorem Pot.below {w w' : World} {B b t : Nat} {A : Option Addr} {c : Nat} {l : List Nat} (h : Pot w B b t A c l) (hb : Below w.heap.size w w') : Pot w' B b t A c l :=
  ⟨heap_below hb h.box, h.ne, Nat.le_trans h.size hb.size, h.row.below hb⟩
theorem Pot.alloc {w : World} {B b t : Nat} {A : Option Addr} {c : Nat} {l : List Nat} (h : Pot w B b t A c l) (o : Obj) : Pot (w.alloc o) B b t A c l := h.below (below_alloc (Below.refl _ _) _)
theorem Pot.drew {w : World} {B b t : Nat} {A : Option Addr} {c : Nat} {l : List Nat} (h : Pot w B b t A c l) : Pot w.drew B b t A c l := h.below (Below.refl _ _).drew
theorem Pot.cell {w : World} {B b t : Nat} {A : Option Addr} {c : Nat} {l : List Nat} (h : Pot w B b t A c l) : w.cell? ⟨b, 0, none⟩ = some (.slice A l.length c) := cell_of_heap h.box 0 _ rfl
theorem Pot.frozen {w : World} {B b t : Nat} {A : Option Addr} {c : Nat} {l : List Nat} (h : Pot w B b t A c l) : w.frozen? ⟨b, 0, none⟩ = false := by simp [World.frozen?, h.box]
theorem Pot.rd {w : World} {B b t : Nat} {A : Option Addr} {c : Nat} {l : List Nat} (h : Pot w B b t A c l) : Rd w A (bys l) := h.row.rd
theorem Pot.new (w : World) (t : Nat) : Pot (w.alloc (.cells #[.slice none 0 0] t)) (w.heap.size + 1) w.heap.size t none 0 [] :=
  ⟨heap_new_at rfl, fun _ e => (by cases e), by simp, Row.nil _ _ _⟩
/-- What lies behind append's step, ahead of the store. -/
structure Potd (W w' : World) (B b t : Nat) (v0 : Value) (A : Option Addr) (c : Nat) (l : List Nat) : Prop where
  box : w'.heap[b]? = some (.cells #[v0] t)
  ne : ∀ ad, A = some ad → ad.block ≠ b
  size : B ≤ w'.heap.size
  row : Row w' B 5 A c (bys l)
  keep : Keep B b W w'
theorem Row.setCell {w : World} {base t c b : Nat} {A : Option Addr} {xs : List Value} (h : Row w base t A c xs) (hb : ∀ ad, A = some ad → ad.block ≠ b) (k : Nat) (u : Value) : Row (w.setCell ⟨b, k, none⟩ u) base t A c xs := by
  refine ⟨h.1, h.2.imp id fun ⟨g, cap, cur, hv, hg, hh, r⟩ => ⟨g, cap, cur, hv, hg, ?_, r⟩⟩
  rw [Below.heap_setCell _ _ _ _ (by injection hv with e _ _; exact hb _ e)]; exact hh
theorem Potd.store {W w' : World} {B b t n : Nat} {v0 : Value} {A : Option Addr} {c : Nat} {l : List Nat} (h : Potd W w' B b t v0 A c l) (hn : l.length = n) :
    Pot (w'.setCell ⟨b, 0, none⟩ (.slice A n c)) B b t A c l ∧ Keep B b W (w'.setCell ⟨b, 0, none⟩ (.slice A n c)) := by
  subst hn
  obtain ⟨h1, h2, h3, h4, h5⟩ := h
  exact ⟨⟨heap_setCell h1 0 _, h2, by simpa [World.setCell] using h3, h4.setCell h2 _ _⟩, h5.setCell (p := ⟨b, 0, none⟩) (.inl rfl) _⟩
theorem wp_pot {P : Program} {W0 w : World} {B b t : Nat} {A : Option Addr} {c : Nat} {l : List Nat} (h : Pot w B b t A c l) (hW : Keep B b W0 w) {o : Oper} {a : Act} {K : Act → World → Prop} {Q : Exit → Act → World → Prop} (s x : Operand) (ty : TypeId)
    (ho : o.op = .call { callee := .builtin .append, args := #[s, x], argTypes := #[ty, ty] })
    (i : TypeInfo) (z : Value) (bytes : Nat) (ht : P.underlying ty = some (.slice 5)) (hi : P.info? 5 = some i) (hz : i.zero = some z) (hsize : i.size = 1) (hby : i.bytes = bytes) (hzs : z.cells.size = 1)
    (n : Nat) (hn : l.length = n) (hs : a.eval s = .slice A n c)
    (A2 : Option Addr) (m d : Nat) (news : List Nat) (hx : a.eval x = .slice A2 m d) (hm : news.length = m) (hr : Rd w A2 (bys news)) (hd : news = [] → A2 = none → d = 0)
    (N : Nat) (hN : n + m = N) (h63 : N ≤ maxLen) (hbytes : N * bytes ≤ 140737488355328)
    (hk : ∀ w' A3 c3, Hid (Potd W0 w' B b t (.slice A n c) A3 c3 (l ++ news)) → w'.cell? ⟨b, 0, none⟩ = some (.slice A n c) → w'.frozen? ⟨b, 0, none⟩ = false → K (a.put o.dst (.slice A3 N c3)) w') : o.wp P a w K Q := by
  subst hN hm hn
  have hrow := h.row
  unfold Row at hrow
  rw [bys_length] at hrow
  refine wp_app w s x ty ho B 5 i z bytes ht hi hz hsize hby hzs (.slice A l.length c) l.length (bys l) hs hrow A2 news.length d (bys news) hx (by rw [bys_length]) hr (bys_one _)
    (fun e => hd (by cases news with | nil => rfl | cons x l => simp [bys] at e)) h63 hbytes h.size fun v' w' h2 h3 h5 => ?_
  rw [← bys_append] at h2
  obtain ⟨A3, c3, rfl, hrow3⟩ := Row.of h2 (by simp [bys_length])
  have hsb := heap_lt h.box
  have hbx : w'.heap[b]? = some (.cells #[.slice A l.length c] t) := by
    rw [h3.block b hsb (by intro e; cases hA : A with | none => rw [hA] at e; cases e | some ad => rw [hA] at e; injection e with e; exact h.ne ad hA e.symm)]; exact h.box
  have hkeep : Keep B b W0 w' := hW.trans (.of ((Below.refl B w).grown h3 h.size (fun k hk => (World.ownsRow.lt hrow k hk).1)) (Nat.le_refl _))
  have hne3 : ∀ ad, A3 = some ad → ad.block ≠ b := by
    intro ad e
    subst e
    rcases h5 with h5 | h5
    · cases hA : A with
      | none => rw [hA] at h5; cases h5
      | some ad' => rw [hA] at h5; injection h5 with h5; rw [h5]; exact h.ne ad' hA
    · injection h5 with h5; omega
  have := hk w' A3 c3 ⟨hbx, hne3, Nat.le_trans h.size h3.size, hrow3, hkeep⟩ (cell_of_heap hbx 0 _ rfl) (by simp [World.frozen?, hbx])
  rw [bys_length, List.length_append]
  exact this
theorem step_pot {P : Program} {W0 w : World} {B b t : Nat} {A : Option Addr} {c : Nat} {l : List Nat} (h : Pot w B b t A c l) (hW : Keep B b W0 w) {ops : Array Oper} {o : Oper} {a : Act} {K : Act → World → Prop} {Q : Exit → Act → World → Prop} {E : Prop} (hgd : o.guard = none) (s x : Operand) (ty : TypeId)
    (ho : o.op = .call { callee := .builtin .append, args := #[s, x], argTypes := #[ty, ty] })
    (i : TypeInfo) (z : Value) (bytes : Nat) (ht : P.underlying ty = some (.slice 5)) (hi : P.info? 5 = some i) (hz : i.zero = some z) (hsize : i.size = 1) (hby : i.bytes = bytes) (hzs : z.cells.size = 1)
    (n : Nat) (hn : l.length = n) (hs : a.eval s = .slice A n c)
    (A2 : Option Addr) (m d : Nat) (news : List Nat) (hx : a.eval x = .slice A2 m d) (hm : news.length = m) (hr : Rd w A2 (bys news)) (hd : news = [] → A2 = none → d = 0)
    (N : Nat) (hN : n + m = N) (h63 : N ≤ maxLen) (hbytes : N * bytes ≤ 140737488355328)
    (hk : ∀ w' A3 c3, Hid (Potd W0 w' B b t (.slice A n c) A3 c3 (l ++ news)) → w'.cell? ⟨b, 0, none⟩ = some (.slice A n c) → w'.frozen? ⟨b, 0, none⟩ = false → K (a.put o.dst (.slice A3 N c3)) w') :
    if Region.wanted o (yielded ops a.tmps) = true then Oper.wp P o a w K Q else E := by
  have hw : Region.wanted o (yielded ops a.tmps) = true := by simp [Region.wanted, hgd]
  rw [if_pos hw]
  exact wp_pot h hW s x ty ho i z bytes ht hi hz hsize hby hzs n hn hs A2 m d news hx hm hr hd N hN h63 hbytes hk
theorem wpList_pot {P : Program} {W0 w : World} {B b t : Nat} {A : Option Addr} {c : Nat} {l : List Nat} (h : Pot w B b t A c l) (hW : Keep B b W0 w) {ops : Array Oper} {rest : List Oper} {o : Oper} {a : Act} {Q : Exit → Act → World → Prop} (hgd : o.guard = none) (s x : Operand) (ty : TypeId)
    (ho : o.op = .call { callee := .builtin .append, args := #[s, x], argTypes := #[ty, ty] })
    (i : TypeInfo) (z : Value) (bytes : Nat) (ht : P.underlying ty = some (.slice 5)) (hi : P.info? 5 = some i) (hz : i.zero = some z) (hsize : i.size = 1) (hby : i.bytes = bytes) (hzs : z.cells.size = 1)
    (n : Nat) (hn : l.length = n) (hs : a.eval s = .slice A n c)
    (A2 : Option Addr) (m d : Nat) (news : List Nat) (hx : a.eval x = .slice A2 m d) (hm : news.length = m) (hr : Rd w A2 (bys news)) (hd : news = [] → A2 = none → d = 0)
    (N : Nat) (hN : n + m = N) (h63 : N ≤ maxLen) (hbytes : N * bytes ≤ 140737488355328)
    (hk : ∀ w' A3 c3, Hid (Potd W0 w' B b t (.slice A n c) A3 c3 (l ++ news)) → w'.cell? ⟨b, 0, none⟩ = some (.slice A n c) → w'.frozen? ⟨b, 0, none⟩ = false → wpList P ops Q rest (a.put o.dst (.slice A3 N c3)) w') : wpList P ops Q (o :: rest) a w :=
  wpList_plain hgd fun _ hK => wp_pot h hW s x ty ho i z bytes ht hi hz hsize hby hzs n hn hs A2 m d news hx hm hr hd N hN h63 hbytes fun w' A3 c3 h2 h3 h4 => hK _ _ (hk w' A3 c3 h2 h3 h4)
/-! ### bits.row: its put -/
set_option maxRecDepth 100000 in
set_option maxHeartbeats 1000000 in
theorem rowPut_any (w : World) (B b t : Nat) (A : Option Addr) (c n size : Nat) (l : List Nat) (h : Pot w B b t A c l) (hn : n < 18446744073709551616) (hs : size ≤ 64) (hl : l.length + size ≤ 1000000) :
    Calls Try.prog 111 #[.pointer (some ⟨b, 0, none⟩), .int .u64 n, .int .i64 size] w fun e w' => e = .returned (.tuple #[]) ∧ (∃ A' c', Pot w' B b t A' c' (l ++ bitsN n size)) ∧ Keep B b w w' := by
  obtain ⟨i0, hi, hz0, hz1, hz2⟩ := info_parts info_u8
  have HP := Lib.hid h
  clear h
  go_enter Try.func111, Try.ntmps111
  go_wp2_with fail
  go_loopw [6] (fun iv wr => ∃ (k : Nat) (m : List Nat) (A' : Option Addr) (c' : Nat), k ≤ size ∧ m.length + k ≤ 1000000 ∧ Hid (m ++ bitsN n k = l ++ bitsN n size) ∧ iv = .int .i64 ((k : Int) - 1) ∧ Hid (Pot wr B b t A' c' m) ∧ Hid (Keep B b w wr)) (fun iv _ => (intOf iv + 1).toNat)
  case atStart => exact ⟨size, l, A, c, by omega, hl, rfl, rfl, HP, Keep.refl _ _ _⟩
  case round =>
    obtain ⟨k, m, A', c', hk, hm, HM, rfl, HQ, HK⟩ := hrel
    cases k with
    | zero =>
      go_wp2_with fail
      go_end0
      have := HM.out
      simp only [bitsN, List.append_nil] at this
      exact ⟨rfl, ⟨_, _, this ▸ HQ.out⟩, HK.out⟩
    | succ k =>
      rw [show (((k + 1 : Nat) : Int) - 1) = (k : Int) from by omega]
      obtain ⟨q, hq⟩ : ∃ q, m.length = q := ⟨_, rfl⟩
      have hq2 : q + 1 + k ≤ 1000000 := by omega
      have c0 : wr.cell? ⟨b, 0, none⟩ = some (.slice A' q c') := by rw [← hq]; exact HQ.out.cell
      have z0 : wr.frozen? ⟨b, 0, none⟩ = false := HQ.out.frozen
      have sb : b < wr.heap.size := heap_lt HQ.out.box
      have fz : ∀ o, (wr.alloc o).drew.frozen? ⟨b, 0, none⟩ = false := fun o => (HQ.out.alloc o).drew.frozen
      have HL := Lib.hid hq
      clear hq hm
      obtain ⟨x, hx⟩ : ∃ x, n / 2 ^ k % 2 = x := ⟨_, rfl⟩
      have hx1 : x ≤ 1 := by omega
      have hand : bits .and .u64 ((n : Int) / 2 ^ k) 1 = (x : Int) := by
        have e : ((n : Int) / 2 ^ k) = ((n / 2 ^ k : Nat) : Int) := by simp
        have hle : n / 2 ^ k ≤ n := Nat.div_le_self _ _
        rw [e, and_one_u64 _ (Int.natCast_nonneg _) (by omega), ← hx]; simp
      have hwr : IntKind.u8.wrap (x : Int) = (x : Int) := IntWalk.u8_in _ ⟨by omega, by omega⟩
      have HX := Lib.hid hx
      clear hx
      go_wp2_with fail
      go_region_law (first
        | (refine step_pot (W0 := w) (HQ.out.alloc _).drew ?c1 rfl (.tmp 17) (.tmp 23) 23 rfl i0 _ 1 Try.underlying23 hi hz0 hz1 hz2 rfl q HL.out rfl _ 1 1 [x] rfl rfl (Rd.blk (heap_new_at rfl)) (by intro h; cases h) (q + 1) rfl ?c2 ?c3 ?_; (case c1 => exact HK.out.trans (.of (below_alloc (Below.refl _ _) _).drew HQ.out.size)); (case c2 => unfold maxLen; omega); (case c3 => omega); intro w3 A3 c3 HP3 c03 z03))
      all_goals
        go_wp2_with fail
        go_roundw
        case rel =>
          obtain ⟨p1, p2⟩ := HP3.out.store (n := q + 1) (by rw [List.length_append, HL.out]; rfl)
          refine ⟨k, m ++ [x], A3, c3, by omega, by rw [List.length_append, HL.out, List.length_singleton]; omega, ?_, by go_num, p1, p2⟩
          show (m ++ [x]) ++ bitsN n k = l ++ bitsN n size
          rw [← HM.out, ← HX.out, List.append_assoc]; rfl
        case measure => simp [intOf]
set_option maxRecDepth 100000 in
set_option maxHeartbeats 1000000 in
theorem bitsPut_any (w : World) (n size : Nat) (hn : n < 18446744073709551616) (hs : size ≤ 64) (hlt : n < 2 ^ size) :
    Calls Try.prog 95 #[.int .u64 n, .int .i64 size] w fun e w' => (∃ A c, e = .returned (.tuple #[.slice A size c, .int .i64 0]) ∧ Row w' w.heap.size 5 A c (bys (bitsN n size))) ∧ Below w.heap.size w w' := by
  have hd : (n : Int) / 2 ^ size = 0 := by
    have e : (n : Int) / 2 ^ size = ((n / 2 ^ size : Nat) : Int) := by simp
    rw [e, Nat.div_eq_of_lt hlt]; rfl
  clear hlt
  have HR := Lib.hid (rowPut_any (w.alloc (.cells #[.slice none 0 0] 108)) (w.heap.size + 1) w.heap.size 108 none 0 n size [] (Pot.new w _) hn hs (by simp; omega))
  go_enter Try.func95, Try.ntmps95
  go_wp2_with fail
  refine HR.out.mono ?_
  rintro e w' ⟨rfl, ⟨A, c, hp⟩, hk⟩
  have hc := hp.cell
  rw [List.nil_append, bitsN_length] at hc
  have HP := Lib.hid hp
  have HK := Lib.hid hk
  clear hp hk
  go_wp2_with fail
  go_ret2
  exact ⟨⟨A, c, rfl, by have := HP.out.row; rw [List.nil_append] at this; exact this.mono (by omega)⟩, (below_alloc (Below.refl _ _) _).trans (HK.out.below (by omega) (by omega))⟩
end Go.Proofs.Ytaknddanggdplaa
-- Concat: slices.Grow of nil, and slices.Concat over rows of bytes. No condition.
namespace Go.Proofs.Ytaknddanggdplaa
open Go.RowKit
theorem wpList_append_run {P : Program} {w : World} {ops : Array Oper} {rest : List Oper} {o : Oper} {a : Act} {Q : Exit → Act → World → Prop} (hgd : o.guard = none) (s x : Operand) (t t2 : TypeId)
    (ho : o.op = .call { callee := .builtin .append, args := #[s, x], argTypes := #[t, t2] }) (v u v' : Value) (w' : World) (hs : a.eval s = v) (hx : a.eval x = u)
    (hrun : (Builtin.append_ #[t, t2] o.type #[v, u]).run P w = .ok v' w') (h : wpList P ops Q rest (a.put o.dst v') w') : wpList P ops Q (o :: rest) a w :=
  wpList_plain hgd fun _ hK => by
    unfold Oper.wp execOp
    simp only [ho, resolve, invoke, builtin, Sem.run_bind, Sem.run_pure, Result.andThen_ok, List.map_toArray, List.map_cons, List.map_nil, hs, hx, hrun]
    exact hK _ _ h
set_option maxRecDepth 100000 in
set_option maxHeartbeats 400000 in
theorem growNil_any (n : Nat) (w : World) (hn : n ≤ 1000000) :
    Calls Try.prog 89 #[.slice none 0 0, .int .i64 n] w fun e w' => (∃ A c, e = .returned (.slice A 0 c) ∧ Row w' w.heap.size 5 A c []) ∧ Below w.heap.size w w' := by
  by_cases h0 : n = 0
  · subst h0
    go_enter Try.func89, Try.ntmps89
    go_wp2_with fail
    go_ret
    exact ⟨⟨none, 0, rfl, Row.nil _ _ _⟩, Below.refl _ _⟩
  · obtain ⟨i0, hi, hz0, hz1, hz2⟩ := info_parts info_u8
    have hp : 0 < (n : Int) := by omega
    have hfit : Builtin.nextslicecap (0 + n) 0 * i0.bytes ≤ 281474976710656 := by
      rw [hz2]
      have : Builtin.nextslicecap (0 + n) 0 = n := by unfold Builtin.nextslicecap; simp; omega
      omega
    have hrun := Lib.run_append_grow_zeros (P := Try.prog) w 23 3 23 5 i0 (.int .u8 0) .i64 .i64 Try.underlying23 Try.underlying3 hi hz0 none 0 0 [] (by simp [Builtin.firstCells]) n (by omega) (by omega) (by omega) (by omega) (by rw [hz2]; omega) hfit
    have hcap : 0 + n ≤ grownCap w (0 + n) 0 5 := grownCap_ge _ _ _ _
    have hcm : grownCap w (0 + n) 0 5 ≤ maxLen := grownCap_le_maxLen _ _ _ _ (by unfold maxLen; omega)
    generalize grownCap w (0 + n) 0 5 = cap at *
    rw [Nat.zero_add] at *
    have hown := World.ownsRow_made (e := 5) (size := 1) (base := w.heap.size) w.drew (([] : List Value).toArray ++ Builtin.zeroCells (Value.int .u8 0).cells n ++ Builtin.zeroCells (Value.int .u8 0).cells (cap - n)) cap (Nat.le_refl _) hcm (by simp [size_zeroCells, Value.cells]; omega)
    rw [show (([] : List Value).toArray ++ Builtin.zeroCells (Value.int .u8 0).cells n) = Builtin.zeroCells #[Value.int .u8 0] n from by simp [Value.cells]] at hown
    have HRUN := Lib.hid hrun
    have HOWN := Lib.hid hown
    have hcm2 : (cap : Int) ≤ 9223372036854775807 := by unfold maxLen at hcm; omega
    clear hrun hown hfit hi hz0 hz1 hz2 h0 hcm
    go_enter Try.func89, Try.ntmps89
    go_wp2_with (at_builtin; refine wpList_append_run rfl (.tmp 20) (.tmp 21) 23 3 rfl _ _ _ _ rfl rfl HRUN.out ?_)
    go_ret
    exact ⟨⟨_, _, rfl, HOWN.out⟩, (below_alloc (Below.refl _ _) _).drew⟩
/-- A row among those that are joined: where it lies, and what it holds. -/
abbrev Part := Option Addr × Nat × List Nat
def partV (p : Part) : Value := .slice p.1 p.2.2.length p.2.1
def partsL (ps : List Part) : List Nat := ps.flatMap (·.2.2)
theorem partsL_snoc (ps : List Part) (p : Part) : partsL (ps ++ [p]) = partsL ps ++ p.2.2 := by simp [partsL]
theorem partsL_take (ps : List Part) (k : Nat) (h : k < ps.length) : partsL (ps.take (k + 1)) = partsL (ps.take k) ++ ps[k].2.2 := by
  rw [List.take_succ_eq_append_getElem h, partsL_snoc]
theorem partsL_le (ps : List Part) (k : Nat) : (partsL (ps.take k)).length ≤ (partsL ps).length := by
  have h : partsL ps = partsL (ps.take k) ++ partsL (ps.drop k) := by
    unfold partsL; rw [← List.flatMap_append, List.take_append_drop]
  rw [h, List.length_append]; omega
structure PartOk (w : World) (p : Part) : Prop where
  rd : Rd w p.1 (bys p.2.2)
  nil : p.2.2 = [] → p.1 = none → p.2.1 = 0
theorem PartOk.below {w w' : World} {p : Part} (h : PartOk w p) (hb : Below w.heap.size w w') : PartOk w' p := ⟨h.rd.below hb, h.nil⟩
set_option maxRecDepth 100000 in
set_option maxHeartbeats 1000000 in
theorem concat_any (A : Option Addr) (c n N : Nat) (ps : List Part) (w : World) (hr : Rd w A (ps.map partV)) (hn : ps.length = n) (hps : ∀ p ∈ ps, PartOk w p) (hN : (partsL ps).length = N) (hN2 : N ≤ 1000000) (hn2 : n ≤ 1000) :
    Calls Try.prog 41 #[.slice A n c] w fun e w' => (∃ A' c', e = .returned (.slice A' N c') ∧ Row w' w.heap.size 5 A' c' (bys (partsL ps))) ∧ Below w.heap.size w w' := by
  obtain ⟨i0, hi, hz0, hz1, hz2⟩ := info_parts info_u8
  have HR := Lib.hid hr
  have HN := Lib.hid hn
  have HPS := Lib.hid hps
  have HL := Lib.hid hN
  clear hr hn hps hN
  go_enter Try.func41, Try.ntmps41
  go_wp2_with fail
  go_loop [3, 11] (fun sv iv => ∃ k s : Nat, k ≤ n ∧ s ≤ N ∧ Hid (s = (partsL (ps.take k)).length) ∧ sv = .int .i64 s ∧ iv = .int .i64 k) (fun _ iv => n - (intOf iv).toNat)
  case atStart => exact ⟨0, 0, by omega, by omega, (by simp [partsL] : (0 : Nat) = (partsL (ps.take 0)).length), rfl, rfl⟩
  case round =>
    obtain ⟨k, s, hk, hs, HS, rfl, rfl⟩ := hrel
    by_cases hkn : k < n
    · have hkl : k < ps.length := by rw [HN.out]; exact hkn
      obtain ⟨p, hp⟩ : ∃ p, ps[k] = p := ⟨_, rfl⟩
      obtain ⟨ad, rfl, ca⟩ := HR.out k (partV p) (by simp [hkl, hp])
      obtain ⟨m, hm⟩ : ∃ m, p.2.2.length = m := ⟨_, rfl⟩
      have ca' : w.cell? (ad.add k) = some (.slice p.1 m p.2.1) := by rw [ca, partV, hm]
      have hsum : s + m = (partsL (ps.take (k + 1))).length := by rw [partsL_take ps k hkl, List.length_append, hp, hm, ← HS.out]
      have hle : s + m ≤ N := by rw [hsum, ← HL.out]; exact partsL_le ps (k + 1)
      have HSUM := Lib.hid hsum
      clear ca hsum hm hp
      obtain ⟨p1, p2, p3⟩ := p
      dsimp only at ca'
      go_wp2_with fail
      go_round
      case rel => exact ⟨k + 1, s + m, by omega, by omega, HSUM.out, by go_num, by go_num⟩
      case measure => simp [intOf]; omega
    · obtain rfl : n = k := by omega
      have hsN : s = N := by rw [HS.out, ← HL.out, ← HN.out, List.take_length]
      subst hsN
      clear HS
      go_wp2_with fail
      refine (growNil_any s w hN2).mono ?_
      rintro x w1 ⟨⟨A0, c0, rfl, hrow⟩, hb⟩
      have HB := Lib.hid hb
      have HROW := Lib.hid hrow
      clear hb hrow
      go_wp2_with fail
      go_loopw [6, 27] (fun v iv wr => ∃ (k s' : Nat) (A' : Option Addr) (c' : Nat), k ≤ n ∧ s' ≤ s ∧ Hid (s' = (partsL (ps.take k)).length) ∧ v = .slice A' s' c' ∧ iv = .int .i64 k ∧ Hid (Row wr w.heap.size 5 A' c' (bys (partsL (ps.take k)))) ∧ Hid (Below w.heap.size w wr)) (fun _ iv _ => n - (intOf iv).toNat)
      case atStart => exact ⟨0, 0, A0, c0, by omega, by omega, (by simp [partsL] : (0 : Nat) = (partsL (ps.take 0)).length), rfl, rfl, by simpa [partsL, bys] using HROW, HB⟩
      case round =>
        obtain ⟨k, s', A', c', hk, hs', HS, rfl, rfl, HROW', HB'⟩ := hrel
        by_cases hkn : k < n
        · have hkl : k < ps.length := by rw [HN.out]; exact hkn
          obtain ⟨p, hp⟩ : ∃ p, ps[k] = p := ⟨_, rfl⟩
          obtain ⟨ad, rfl, ca⟩ := HR.out k (partV p) (by simp [hkl, hp])
          obtain ⟨m, hm⟩ : ∃ m, p.2.2.length = m := ⟨_, rfl⟩
          have ca' : wr.cell? (ad.add k) = some (.slice p.1 m p.2.1) := by rw [Below.cell_of HB'.out ca, partV, hm]
          have hsum : s' + m = (partsL (ps.take (k + 1))).length := by rw [partsL_take ps k hkl, List.length_append, hp, hm, ← HS.out]
          have hle : s' + m ≤ s := by rw [hsum, ← HL.out]; exact partsL_le ps (k + 1)
          have hpo : PartOk wr p := (HPS.out p (by rw [← hp]; exact List.getElem_mem hkl)).below HB'.out
          have hpl : bys (partsL (ps.take (k + 1))) = bys (partsL (ps.take k)) ++ bys p.2.2 := by rw [partsL_take ps k hkl, bys_append, hp]
          have HSUM := Lib.hid hsum
          have HPO := Lib.hid hpo
          have HPL := Lib.hid hpl
          have HM := Lib.hid hm
          clear ca hsum hm hp hpo hpl
          obtain ⟨p1, p2, p3⟩ := p
          dsimp only at ca' HPL HM
          go_wp2_with (at_builtin; refine wpList_appE (w0 := w) HB'.out rfl (.tmp 31) (.tmp 32) 23 rfl w.heap.size 5 i0 _ 1 Try.underlying23 hi hz0 hz1 hz2 rfl A' s' c' (bys (partsL (ps.take k))) rfl (by rw [bys_length]; exact HS.out.symm) HROW'.out p1 m p2 (bys p3) rfl (by rw [bys_length]; exact HM.out) HPO.out.rd (bys_one _) (fun e => HPO.out.nil (by cases p3 with | nil => rfl | cons x l => simp [bys] at e)) (s' + m) rfl (by unfold maxLen; omega) (by omega) (Nat.le_refl _) HB'.out.size ?_; intro e3 A3 c3 HO3)
          go_roundw
          case rel => exact ⟨k + 1, s' + m, A3, c3, by omega, by omega, HSUM.out, by go_num, by go_num, by rw [HPL.out]; exact HO3, e3.below⟩
          case measure => simp [intOf]; omega
        · obtain rfl : n = k := by omega
          go_wp2_with fail
          go_ret
          have e : ps.take n = ps := by rw [← HN.out, List.take_length]
          have h1 := HROW'.out
          have h2 := HS.out
          rw [e] at h1 h2
          rw [HL.out] at h2
          subst h2
          exact ⟨⟨A', c', rfl, h1⟩, HB'.out⟩
end Go.Proofs.Ytaknddanggdplaa
-- Bytes: bits.Bytes: what a row of bytes has as bits. No condition.
namespace Go.Proofs.Ytaknddanggdplaa
open Go.RowKit
theorem cell_same {w w' : World} {a : Addr} {v : Value} (h : w'.heap[a.block]? = w.heap[a.block]?) (hc : w.cell? a = some v) : w'.cell? a = some v := by
  unfold World.cell? at hc ⊢
  rw [h]
  exact hc
theorem Keep.cell_of {B b : Nat} {w w' : World} (h : Keep B b w w') {a : Addr} {v : Value} (hc : w.cell? a = some v) (h1 : a.block < B) (h2 : a.block ≠ b) : w'.cell? a = some v := cell_same (h.block _ h1 h2) hc
theorem Rd.keep {B b : Nat} {w w' : World} {A : Option Addr} {vs : List Value} (h : Rd w A vs) (hk : Keep B b w w') (ha : ∀ ad, A = some ad → vs ≠ [] → ad.block < B ∧ ad.block ≠ b) : Rd w' A vs := by
  intro j u hj
  obtain ⟨ad, e, hc⟩ := h j u hj
  obtain ⟨h1, h2⟩ := ha ad e (by intro e; subst e; simp at hj)
  exact ⟨ad, e, hk.cell_of hc (by rw [block_of_add]; exact h1) (by rw [block_of_add]; exact h2)⟩
theorem Rd.lt {w : World} {A : Option Addr} {vs : List Value} (h : Rd w A vs) : ∀ ad, A = some ad → vs ≠ [] → ad.block < w.heap.size := by
  intro ad e hne
  cases vs with
  | nil => exact absurd rfl hne
  | cons v vs =>
    obtain ⟨ad', e', hc⟩ := h 0 v rfl
    rw [e] at e'
    injection e' with e'
    subst e'
    have := cell_lt hc
    rw [block_of_add] at this
    exact this
/-- Bytes' bits. -/
def bytesN (l : List Nat) : List Nat := l.flatMap fun x => bitsN x 8
theorem bytesN_take (l : List Nat) (k : Nat) (h : k < l.length) : bytesN (l.take (k + 1)) = bytesN (l.take k) ++ bitsN l[k] 8 := by
  rw [List.take_succ_eq_append_getElem h, bytesN, List.flatMap_append, List.flatMap_singleton]; rfl
theorem bytesN_length (l : List Nat) : (bytesN l).length = 8 * l.length := by
  induction l with
  | nil => rfl
  | cons x l ih => simp only [bytesN, List.flatMap_cons, List.length_append, bitsN_length, List.length_cons] at ih ⊢; omega
theorem bytesN_bits (l : List Nat) : ∀ x ∈ bytesN l, x ≤ 1 := by
  intro x hx
  simp only [bytesN, List.mem_flatMap] at hx
  obtain ⟨y, _, hx⟩ := hx
  exact bitsN_bit _ _ x hx
theorem rowByte_any (w : World) (B b t : Nat) (A : Option Addr) (c x : Nat) (l : List Nat) (h : Pot w B b t A c l) (hx : x < 256) (hl : l.length + 8 ≤ 1000000) :
    Calls Try.prog 98 #[.pointer (some ⟨b, 0, none⟩), .int .u8 x] w fun e w' => e = .returned (.tuple #[]) ∧ (∃ A' c', Pot w' B b t A' c' (l ++ bitsN x 8)) ∧ Keep B b w w' := by
  have HP := Lib.hid (rowPut_any w B b t A c x 8 l h (by omega) (by omega) (by omega))
  clear h
  go_enter Try.func98, Try.ntmps98
  go_wp2_with fail
  refine HP.out.mono ?_
  rintro e w' ⟨rfl, h1, h2⟩
  have H1 := Lib.hid h1
  have H2 := Lib.hid h2
  clear h1 h2
  go_wp2_with fail
  go_end0
  exact ⟨rfl, H1.out, H2.out⟩
set_option maxHeartbeats 1000000 in
theorem eachByte_any (w : World) (B b t : Nat) (A A2 : Option Addr) (c c2 n : Nat) (src : List Nat) (h : Pot w B b t A c []) (hr : Rd w A2 (bys src)) (ha : ∀ ad, A2 = some ad → bys src ≠ [] → ad.block < B ∧ ad.block ≠ b) (hn : src.length = n) (h8 : n ≤ 100000) (hb : ∀ x ∈ src, x < 256) :
    Calls Try.prog 97 #[.slice A2 n c2, .func (.func 98) #[.pointer (some ⟨b, 0, none⟩)] #[]] w fun e w' => e = .returned (.tuple #[]) ∧ (∃ A' c', Pot w' B b t A' c' (bytesN src)) ∧ Keep B b w w' := by
  have HP := Lib.hid h
  have HR := Lib.hid hr
  have HA := Lib.hid ha
  have HN := Lib.hid hn
  have HB := Lib.hid hb
  clear h hr ha hn hb
  go_enter Try.func97, Try.ntmps97
  go_wp2_with fail
  go_loopw [8] (fun iv wr => ∃ (k : Nat) (A' : Option Addr) (c' : Nat), k ≤ n ∧ iv = .int .i64 k ∧ Hid (Pot wr B b t A' c' (bytesN (src.take k))) ∧ Hid (Keep B b w wr)) (fun iv _ => n - (intOf iv).toNat)
  case atStart => exact ⟨0, A, c, by omega, rfl, HP, Keep.refl _ _ _⟩
  case round =>
    obtain ⟨k, A', c', hk, rfl, HQ, HK⟩ := hrel
    by_cases hkn : k < n
    · have hkl : k < src.length := by rw [HN.out]; exact hkn
      obtain ⟨ad, rfl, ca⟩ := (HR.out.keep HK.out HA.out).at_ k hkl
      have hx := HB.out src[k] (List.getElem_mem hkl)
      have hlen : (bytesN (src.take k)).length + 8 ≤ 1000000 := by rw [bytesN_length, List.length_take]; omega
      have htk := bytesN_take src k hkl
      obtain ⟨x, hxe⟩ : ∃ x, src[k] = x := ⟨_, rfl⟩
      rw [hxe] at ca hx htk
      have HT := Lib.hid htk
      have HL := Lib.hid hlen
      clear htk hlen hxe
      go_wp2_with fail
      refine (rowByte_any wr B b t A' c' x _ HQ.out hx HL.out).mono ?_
      rintro e w2 ⟨rfl, ⟨A3, c3, h1⟩, h2⟩
      rw [← HT.out] at h1
      have H1 := Lib.hid h1
      have H2 := Lib.hid h2
      clear h1 h2
      go_wp2_with fail
      go_roundw
      case rel => exact ⟨k + 1, A3, c3, by omega, by go_num, H1, HK.out.trans H2.out⟩
      case measure => simp [intOf]; omega
    · obtain rfl : n = k := by omega
      go_wp2_with fail
      go_end0
      have h1 := HQ.out
      rw [← HN.out, List.take_length] at h1
      exact ⟨rfl, ⟨A', c', h1⟩, HK.out⟩
set_option maxHeartbeats 1000000 in
theorem Bytes_any (w : World) (A2 : Option Addr) (c2 n : Nat) (src : List Nat) (hr : Rd w A2 (bys src)) (hn : src.length = n) (h8 : n ≤ 100000) (hb : ∀ x ∈ src, x < 256) :
    Calls Try.prog 58 #[.slice A2 n c2] w fun e w' => (∃ A c, e = .returned (.slice A (8 * n) c) ∧ Row w' w.heap.size 5 A c (bys (bytesN src))) ∧ Below w.heap.size w w' := by
  have HE := Lib.hid (eachByte_any (w.alloc (.cells #[.slice none 0 0] 108)) (w.heap.size + 1) w.heap.size 108 none A2 0 c2 n src (Pot.new w _) (hr.alloc _) (fun ad e hne => by have := hr.lt ad e hne; omega) hn h8 hb)
  have HN := Lib.hid hn
  clear hr hn hb
  go_enter Try.func58, Try.ntmps58
  go_wp2_with fail
  refine HE.out.mono ?_
  rintro e w' ⟨rfl, ⟨A, c, hp⟩, hk⟩
  have hc := hp.cell
  rw [bytesN_length, HN.out] at hc
  have HP := Lib.hid hp
  have HK := Lib.hid hk
  clear hp hk
  go_wp2_with fail
  go_ret
  exact ⟨⟨A, c, rfl, HP.out.row.mono (by omega)⟩, (below_alloc (Below.refl _ _) _).trans (HK.out.below (by omega) (by omega))⟩
end Go.Proofs.Ytaknddanggdplaa
-- BitsCheck: bits.Check: is a row bits? No condition.
namespace Go.Proofs.Ytaknddanggdplaa
open Go.RowKit
theorem isBit_any (x : Nat) (w : World) : Calls Try.prog 78 #[.int .u8 x] w fun e w' => e = .returned (.bool (decide (1 < x))) ∧ w = w' := by
  go_enter Try.func78, Try.ntmps78
  go_wp2
  go_ret
  exact ⟨ret_bool (by rw [Bool.eq_iff_iff]; simp; omega), rfl⟩
set_option maxHeartbeats 1000000 in
theorem indexBits_any (A : Option Addr) (n c : Nat) (l : List Nat) (w : World) (hr : Rd w A (bys l)) (hn : l.length = n) (hc : n ≤ 100000000) :
    Calls Try.prog 105 #[.slice A n c, .func (.func 78) #[] #[]] w fun e w' => (∃ k : Int, e = .returned (.int .i64 k) ∧ (k < 0 ↔ ∀ x ∈ l, x ≤ 1)) ∧ w = w' := by
  have HR := Lib.hid hr
  have HN := Lib.hid hn
  clear hr hn
  go_enter Try.func105, Try.ntmps105
  go_wp2_with fail
  go_loop [8] (fun iv => ∃ k : Nat, k ≤ n ∧ Hid (∀ j (h : j < l.length), j < k → l[j] ≤ 1) ∧ iv = .int .i64 k) (fun iv => n - (intOf iv).toNat)
  case atStart => exact ⟨0, by omega, fun j _ h => absurd h (by omega), rfl⟩
  case round =>
    obtain ⟨k, hk, HK, rfl⟩ := hrel
    by_cases hkn : k < n
    · have hkl : k < l.length := by rw [HN.out]; exact hkn
      obtain ⟨ad, rfl, ca⟩ := HR.out.at_ k hkl
      have hmem : l[k] ∈ l := List.getElem_mem hkl
      obtain ⟨x, hx⟩ : ∃ x, l[k] = x := ⟨_, rfl⟩
      rw [hx] at ca hmem
      have HX := Lib.hid hx
      have HM := Lib.hid hmem
      have HB := Lib.hid (isBit_any x)
      clear hx hmem
      by_cases hx1 : x ≤ 1
      · have hd : decide (1 < x) = false := decide_eq_false (by omega)
        rw [hd] at HB
        go_wp2_with fail
        refine (HB.out _).mono ?_
        rintro e _ ⟨rfl, rfl⟩
        go_wp2_with fail
        go_round
        case rel =>
          refine ⟨k + 1, by omega, fun j h hj => ?_, by go_num⟩
          by_cases hjk : j = k
          · subst hjk; rw [HX.out]; exact hx1
          · exact HK.out j h (by omega)
        case measure => simp [intOf]; omega
      · have hd : decide (1 < x) = true := decide_eq_true (by omega)
        rw [hd] at HB
        go_wp2_with fail
        refine (HB.out _).mono ?_
        rintro e _ ⟨rfl, rfl⟩
        go_wp2_with fail
        go_ret
        exact ⟨⟨_, rfl, by constructor <;> intro h; omega; exact absurd (h x HM.out) hx1⟩, rfl⟩
    · obtain rfl : k = n := by omega
      go_wp2_with fail
      go_ret
      refine ⟨⟨_, rfl, by
        constructor
        · intro _ x hx
          obtain ⟨j, hj, rfl⟩ := List.getElem_of_mem hx
          exact HK.out j hj (by rw [← HN.out]; exact hj)
        · intro _; omega⟩, rfl⟩
set_option maxHeartbeats 1000000 in
theorem containsBits_any (A : Option Addr) (n c : Nat) (l : List Nat) (w : World) (hr : Rd w A (bys l)) (hn : l.length = n) (hc : n ≤ 100000000) :
    Calls Try.prog 77 #[.slice A n c, .func (.func 78) #[] #[]] w fun e w' => e = .returned (.bool (!decide (∀ x ∈ l, x ≤ 1))) ∧ w = w' := by
  have HI := Lib.hid (indexBits_any A n c l w hr hn hc)
  clear hr hn
  go_enter Try.func77, Try.ntmps77
  go_wp2_with fail
  refine HI.out.mono ?_
  rintro e _ ⟨⟨k, rfl, hk⟩, rfl⟩
  have HK := Lib.hid hk
  clear hk
  go_wp2_with fail
  go_ret
  refine ⟨ret_bool ?_, rfl⟩
  have hk := HK.out
  by_cases h : ∀ x ∈ l, x ≤ 1
  · have := hk.2 h
    rw [decide_eq_true h]
    simp
    omega
  · have : ¬ k < 0 := fun h' => h (hk.1 h')
    rw [decide_eq_false h]
    simp
    omega
/-- Is a row bits, and not too long? -/
def bitsOk (l : List Nat) : Bool := decide (l.length ≤ 65536) && decide (∀ x ∈ l, x ≤ 1)
set_option maxHeartbeats 1000000 in
theorem BitsCheck_any (A : Option Addr) (n c : Nat) (l : List Nat) (w : World) (hr : Rd w A (bys l)) (hn : l.length = n) (hc : n ≤ 9223372036854775807) :
    Calls Try.prog 33 #[.slice A n c] w fun e w' => e = .returned (.int .i64 (if bitsOk l then 0 else 2)) ∧ w = w' := by
  by_cases hl : n ≤ 65536
  · have HI := Lib.hid (containsBits_any A n c l w hr hn (by omega))
    obtain ⟨r, hR⟩ : ∃ r, (!decide (∀ x ∈ l, x ≤ 1)) = r := ⟨_, rfl⟩
    rw [hR] at HI
    have hv : (if bitsOk l then (0 : Int) else 2) = if r then 2 else 0 := by
      unfold bitsOk
      rw [hn, decide_eq_true hl, Bool.true_and]
      subst hR
      cases decide (∀ x ∈ l, x ≤ 1) <;> rfl
    rw [hv]
    clear hr hv hR hn
    have hg : decide ((65536 : Int) < (n : Int)) = false := decide_eq_false (by omega)
    cases r <;>
    · go_enter Try.func33, Try.ntmps33
      go_wp2_with fail
      refine HI.out.mono ?_
      rintro e _ ⟨rfl, rfl⟩
      go_wp2_with fail
      go_ret
      exact ⟨rfl, rfl⟩
  · have hv : (if bitsOk l then (0 : Int) else 2) = 2 := by unfold bitsOk; rw [hn, decide_eq_false hl]; rfl
    rw [hv]
    clear hr hv
    have hg : (65536 : Int) < (n : Int) := by omega
    go_enter Try.func33, Try.ntmps33
    go_wp2_with fail
    go_ret
    exact ⟨rfl, rfl⟩
end Go.Proofs.Ytaknddanggdplaa
-- Ref01b: The document's answers for layer 1: bytes' bits, whether a row is bits, whether two rows are the same. No condition.
namespace Go.Proofs.Ytaknddanggdplaa
open Go.RowKit
theorem Row.lit {w : World} {cs : List Value} {base : Nat} {t : TypeId} (hb : base ≤ w.heap.size) (hm : cs.length ≤ maxLen) : Row (w.alloc (.cells cs.toArray t)) base t (some ⟨w.heap.size, 0, none⟩) cs.length cs := own_lit hb rfl hm
set_option maxRecDepth 100000 in
set_option maxHeartbeats 1000000 in
theorem BytesR_any (w : World) (A : Option Addr) (c n : Nat) (src : List Nat) (hr : Rd w A (bys src)) (hn : src.length = n) (h8 : n ≤ 100000) (hb : ∀ x ∈ src, x < 256) :
    Calls Try.prog 64 #[.slice A n c] w fun e w' => (∃ A' c', e = .returned (.slice A' (8 * n) c') ∧ Row w' w.heap.size 5 A' c' (bys (bytesN src))) ∧ Below w.heap.size w w' := by
  obtain ⟨i0, hi, hz0, hz1, hz2⟩ := info_parts info_u8
  have HR := Lib.hid hr
  have HN := Lib.hid hn
  have HB := Lib.hid hb
  clear hr hn hb
  go_enter Try.func64, Try.ntmps64
  go_wp2_with fail
  go_loopw [3, 8] (fun v iv wr => ∃ (k N : Nat) (A' : Option Addr) (c' : Nat), k ≤ n ∧ Hid (N = 8 * k) ∧ N ≤ 800000 ∧ v = .slice A' N c' ∧ iv = .int .i64 k ∧ Hid (Row wr w.heap.size 5 A' c' (bys (bytesN (src.take k)))) ∧ Hid (Below w.heap.size w wr)) (fun _ iv _ => n - (intOf iv).toNat)
  case atStart => exact ⟨0, 0, none, 0, by omega, rfl, by omega, rfl, rfl, Row.nil _ _ _, Below.refl _ _⟩
  case round =>
    obtain ⟨k, N, A', c', hk, hN, hN2, rfl, rfl, HQ, HW⟩ := hrel
    by_cases hkn : k < n
    · have hkl : k < src.length := by rw [HN.out]; exact hkn
      obtain ⟨ad, rfl, ca⟩ := (HR.out.below HW.out).at_ k hkl
      have hx := HB.out src[k] (List.getElem_mem hkl)
      have hlen : (bytesN (src.take k)).length = N := by rw [bytesN_length, List.length_take, hN.out]; omega
      have htk := bytesN_take src k hkl
      have hN8 : N + 8 ≤ 800000 := by have := hN.out; omega
      obtain ⟨x, hxe⟩ : ∃ x, src[k] = x := ⟨_, rfl⟩
      rw [hxe] at ca hx htk
      have HT := Lib.hid htk
      have HL := Lib.hid hlen
      clear htk hlen hxe
      go_wp2_with fail
      refine (BitsR_row _ 8 x 8 wr rfl rfl (by omega) (by omega) (by omega)).mono ?_
      rintro e w2 ⟨⟨A2, c2, rfl, hrow2⟩, hb2⟩
      have HROW2 := Lib.hid hrow2
      have HQ2 := Lib.hid (HQ.out.below hb2)
      have HB2 := Lib.hid (below_trans HW.out hb2)
      clear hrow2 hb2
      go_wp2_with (at_builtin; refine wpList_appE (w0 := w) HB2.out rfl (.tmp 12) (.tmp 15) 23 rfl w.heap.size 5 i0 _ 1 Try.underlying23 hi hz0 hz1 hz2 rfl A' N c' (bys (bytesN (src.take k))) rfl (by rw [bys_length]; exact HL.out) HQ2.out A2 8 c2 (bys (bitsN x 8)) rfl (by rw [bys_length, bitsN_length]) HROW2.out.rd (bys_one _) (fun _ e => HROW2.out.none_ e) (N + 8) rfl (by unfold maxLen; omega) (by omega) (Nat.le_refl _) HB2.out.size ?_; intro e3 A3 c3 HO3)
      go_roundw
      case rel => exact ⟨k + 1, N + 8, A3, c3, by omega, by show _ = _; have := hN.out; omega, by omega, rfl, by go_num, by rw [HT.out, bys_append]; exact HO3, e3.below⟩
      case measure => simp [intOf]; omega
    · obtain rfl : n = k := by omega
      go_wp2_with fail
      go_ret
      have h1 := HQ.out
      rw [← HN.out, List.take_length] at h1
      have h2 := hN.out
      subst h2
      exact ⟨⟨A', c', rfl, h1⟩, HW.out⟩
set_option maxHeartbeats 1000000 in
theorem SameR_refl (w : World) (A B : Option Addr) (c d n : Nat) (l : List Nat) (ha : Rd w A (bys l)) (hb : Rd w B (bys l)) (hn : l.length = n) (hn2 : n ≤ 100000000) :
    Calls Try.prog 27 #[.slice A n c, .slice B n d] w fun e w' => e = .returned (.bool true) ∧ Below w.heap.size w w' := by
  have HA := Lib.hid ha
  have HB := Lib.hid hb
  have HN := Lib.hid hn
  clear ha hb hn
  go_enter Try.func27, Try.ntmps27
  go_wp2_with fail
  go_loopw [13] (fun iv wr => ∃ k : Nat, k ≤ n ∧ iv = .int .i64 k ∧ Hid (Below w.heap.size w wr)) (fun iv _ => n - (intOf iv).toNat)
  case atStart => exact ⟨0, by omega, rfl, Below.refl _ _⟩
  case round =>
    obtain ⟨k, hk, rfl, HW⟩ := hrel
    by_cases hkn : k < n
    · have hkl : k < l.length := by rw [HN.out]; exact hkn
      obtain ⟨ad, rfl, ca⟩ := (HA.out.below HW.out).at_ k hkl
      obtain ⟨bd, rfl, cb⟩ := (HB.out.below HW.out).at_ k hkl
      obtain ⟨x, hx⟩ : ∃ x, l[k] = x := ⟨_, rfl⟩
      rw [hx] at ca cb
      have hki : (k : Int) < (n : Int) := by omega
      clear hx
      go_wp2_with fail
      go_quiet (fail)
      go_wp2_with fail
      go_roundw
      case rel => exact ⟨k + 1, by omega, by go_num, below_drewN HW.out _⟩
      case measure => simp [intOf]; omega
    · obtain rfl : n = k := by omega
      go_wp2_with fail
      go_ret
      exact ⟨rfl, HW.out⟩
set_option maxHeartbeats 1000000 in
theorem Check01_ok (w : World) (A : Option Addr) (c n : Nat) (l : List Nat) (ha : Rd w A (bys l)) (hn : l.length = n) (hn2 : n ≤ 65536) (h01 : ∀ x ∈ l, x ≤ 1) :
    Calls Try.prog 117 #[.slice A n c] w fun e w' => e = .returned (.int .i64 0) ∧ w = w' := by
  have HA := Lib.hid ha
  have HN := Lib.hid hn
  have H01 := Lib.hid h01
  have hg : ¬ (65536 : Int) < (n : Int) := by omega
  clear ha hn h01
  go_enter Try.func117, Try.ntmps117
  go_wp2_with fail
  go_loop [10] (fun iv => ∃ k : Nat, k ≤ n ∧ iv = .int .i64 k) (fun iv => n - (intOf iv).toNat)
  case atStart => exact ⟨0, by omega, rfl⟩
  case round =>
    obtain ⟨k, hk, rfl⟩ := hrel
    by_cases hkn : k < n
    · have hkl : k < l.length := by rw [HN.out]; exact hkn
      obtain ⟨ad, rfl, ca⟩ := HA.out.at_ k hkl
      have hx := H01.out l[k] (List.getElem_mem hkl)
      obtain ⟨x, hxe⟩ : ∃ x, l[k] = x := ⟨_, rfl⟩
      rw [hxe] at ca hx
      have hx1 : ¬ (1 : Int) < (x : Int) := by omega
      clear hxe
      go_wp2_with fail
      go_round
      case rel => exact ⟨k + 1, by omega, by go_num⟩
      case measure => simp [intOf]; omega
    · obtain rfl : n = k := by omega
      go_wp2_with fail
      go_ret
      exact ⟨rfl, rfl⟩
end Go.Proofs.Ytaknddanggdplaa
-- Check: Which frames may be: what frame.Check answers. No condition.
namespace Go.Proofs.Ytaknddanggdplaa
open Go.RowKit

/-- A frame without what its kind may have. -/
def bareF (f : Fr) : Fr :=
  { kind := f.kind, id := 0, ext := if f.kind = 1 then false else f.ext, rtr := if f.kind = 1 then false else f.rtr, brs := if f.kind = 2 then false else f.brs, esi := if f.kind = 2 then false else f.esi,
    sec := if f.kind = 3 then false else f.sec, sdt := if f.kind = 3 then 0 else f.sdt, vcid := if f.kind = 3 then 0 else f.vcid, af := if f.kind = 3 then 0 else f.af, data := [] }
set_option maxRecDepth 100000 in
set_option maxHeartbeats 1000000 in
theorem bare_any (f : Fr) (s : Option Addr) (n c : Nat) (w : World) :
    Calls Try.prog 80 #[frv f (.slice s n c)] w fun e w' => e = .returned (frv (bareF f) (.slice none 0 0)) ∧ Below w.heap.size w w' := by
  by_cases h1 : f.kind = 1
  · have hb : bareF f = { kind := 1, id := 0, ext := false, rtr := false, brs := f.brs, esi := f.esi, sec := f.sec, sdt := f.sdt, vcid := f.vcid, af := f.af, data := [] } := by simp [bareF, h1]
    rw [hb]
    dsimp only [frv]
    rw [h1]
    clear hb h1
    go_enter Try.func80, Try.ntmps80
    go_wp2
    exact bodyPost_ret (v := .agg #[.int .i64 1, .int .u32 0, .bool false, .bool false, .bool f.brs, .bool f.esi, .bool f.sec, .int .u8 f.sdt, .int .u8 f.vcid, .int .u32 f.af, .slice none 0 0]) (by simp [results, Try.results80, go_sem]) rfl ⟨rfl, below_alloc (below_alloc (Below.refl _ _) _) _⟩
  · by_cases h2 : f.kind = 2
    · have hb : bareF f = { kind := 2, id := 0, ext := f.ext, rtr := f.rtr, brs := false, esi := false, sec := f.sec, sdt := f.sdt, vcid := f.vcid, af := f.af, data := [] } := by simp [bareF, h2]
      rw [hb]
      dsimp only [frv]
      rw [h2]
      clear hb h1 h2
      go_enter Try.func80, Try.ntmps80
      go_wp2
      exact bodyPost_ret (v := .agg #[.int .i64 2, .int .u32 0, .bool f.ext, .bool f.rtr, .bool false, .bool false, .bool f.sec, .int .u8 f.sdt, .int .u8 f.vcid, .int .u32 f.af, .slice none 0 0]) (by simp [results, Try.results80, go_sem]) rfl ⟨rfl, below_alloc (below_alloc (Below.refl _ _) _) _⟩
    · by_cases h3 : f.kind = 3
      · have hb : bareF f = { kind := 3, id := 0, ext := f.ext, rtr := f.rtr, brs := f.brs, esi := f.esi, sec := false, sdt := 0, vcid := 0, af := 0, data := [] } := by simp [bareF, h3]
        rw [hb]
        dsimp only [frv]
        rw [h3]
        clear hb h1 h2 h3
        go_enter Try.func80, Try.ntmps80
        go_wp2
        exact bodyPost_ret (v := .agg #[.int .i64 3, .int .u32 0, .bool f.ext, .bool f.rtr, .bool f.brs, .bool f.esi, .bool false, .int .u8 0, .int .u8 0, .int .u32 0, .slice none 0 0]) (by simp [results, Try.results80, go_sem]) rfl ⟨rfl, below_alloc (below_alloc (Below.refl _ _) _) _⟩
      · have hb : bareF f = { kind := f.kind, id := 0, ext := f.ext, rtr := f.rtr, brs := f.brs, esi := f.esi, sec := f.sec, sdt := f.sdt, vcid := f.vcid, af := f.af, data := [] } := by simp [bareF, h1, h2, h3]
        rw [hb]
        dsimp only [frv]
        have k1 : (f.kind == 1) = false := by simp [h1]
        have k2 : (f.kind == 2) = false := by simp [h2]
        have k3 : (f.kind == 3) = false := by simp [h3]
        clear hb h1 h2 h3
        go_enter Try.func80, Try.ntmps80
        go_wp2
        exact bodyPost_ret (v := .agg #[.int .i64 f.kind, .int .u32 0, .bool f.ext, .bool f.rtr, .bool f.brs, .bool f.esi, .bool f.sec, .int .u8 f.sdt, .int .u8 f.vcid, .int .u32 f.af, .slice none 0 0]) (by simp [results, Try.results80, go_sem]) rfl ⟨rfl, below_alloc (below_alloc (Below.refl _ _) _) _⟩
end Go.Proofs.Ytaknddanggdplaa
