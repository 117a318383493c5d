/- Words for slices that read as lists and rows of a call's own, which the walks of this seat use. No condition. -/
import Derived.WalkKit
import Derived.WalkSpells
import Derived.WalkLawsBesides
import Derived.Lib.Hide
import Derived.Deep.QuietTactic
import Derived.BigQuiet
import Derived.Below
import Derived.Deep.AppendLies
import Derived.Deep.RegionHeld3
import Derived.Deep.Draws
import Derived.Deep.Cut
import Derived.Deep.DeepCutAuto
import Derived.OwnWalk
import Derived.Maps.AppendAt
namespace Go.Proofs.YtlmdkmflbhnlgaaGreat
open Go
/-! ### five bools held against five -/
theorem run_eql_bools5 {P : Program} (w : World) {t tb : TypeId} {i : TypeInfo} (ht : P.underlying t = some (.array 5 tb)) (hb : P.underlying tb = some .bool) (hi : P.info? tb = some i) (hs : i.size = 1)
    (a0 a1 a2 a3 a4 b0 b1 b2 b3 b4 : Bool) : (binOp .eql t (.agg #[.bool a0, .bool a1, .bool a2, .bool a3, .bool a4]) (.agg #[.bool b0, .bool b1, .bool b2, .bool b3, .bool b4])).run P w = .ok (.bool (decide ([a0, a1, a2, a3, a4] = [b0, b1, b2, b3, b4]))) w := by
  have h : ∀ d : Nat, (Op.equalIn (d + 2) t (.agg #[.bool a0, .bool a1, .bool a2, .bool a3, .bool a4]) (.agg #[.bool b0, .bool b1, .bool b2, .bool b3, .bool b4])).run P w = .ok (decide ([a0, a1, a2, a3, a4] = [b0, b1, b2, b3, b4])) w := by
    intro d
    have hq : ∀ x y : Bool, (Op.equalIn (d + 1) tb (.bool x) (.bool y)).run P w = .ok (x == y) w := fun x y => run_equalIn_bool' w d tb x y hb
    have hp : ∀ (xs : Array Value) (k : Nat) (v : Value), xs[k]? = some v → (part tb xs k).run P w = .ok v w := by
      intro xs k v hv
      have := hb
      simp [part, run_underlying hb, isAgg, sizeOf, typeInfo, hi, hs, hv]
    rw [Op.equalIn]
    simp only [Sem.run_bind, run_underlying ht, Result.andThen_ok, sizeOf, typeInfo, run_program, hi, Sem.run_pure, hs]
    have h0 : List.range' 0 5 = [0, 1, 2, 3, 4] := rfl
    have p0 : ∀ x0 x1 x2 x3 x4 : Bool, (part tb #[.bool x0, .bool x1, .bool x2, .bool x3, .bool x4] 0).run P w = .ok (.bool x0) w := fun x0 x1 x2 x3 x4 => hp _ 0 _ rfl
    have p1 : ∀ x0 x1 x2 x3 x4 : Bool, (part tb #[.bool x0, .bool x1, .bool x2, .bool x3, .bool x4] 1).run P w = .ok (.bool x1) w := fun x0 x1 x2 x3 x4 => hp _ 1 _ rfl
    have p2 : ∀ x0 x1 x2 x3 x4 : Bool, (part tb #[.bool x0, .bool x1, .bool x2, .bool x3, .bool x4] 2).run P w = .ok (.bool x2) w := fun x0 x1 x2 x3 x4 => hp _ 2 _ rfl
    have p3 : ∀ x0 x1 x2 x3 x4 : Bool, (part tb #[.bool x0, .bool x1, .bool x2, .bool x3, .bool x4] 3).run P w = .ok (.bool x3) w := fun x0 x1 x2 x3 x4 => hp _ 3 _ rfl
    have p4 : ∀ x0 x1 x2 x3 x4 : Bool, (part tb #[.bool x0, .bool x1, .bool x2, .bool x3, .bool x4] 4).run P w = .ok (.bool x4) w := fun x0 x1 x2 x3 x4 => hp _ 4 _ rfl
    simp [h0, p0, hq]
    by_cases e0 : a0 = b0 <;> simp [e0, p1, hq]
    by_cases e1 : a1 = b1 <;> simp [e1, p2, hq]
    by_cases e2 : a2 = b2 <;> simp [e2, p3, hq]
    by_cases e3 : a3 = b3 <;> simp [e3, p4, hq]
    by_cases e4 : a4 = b4 <;> simp [e4]
  simp only [binOp]
  simp [Op.equal, Op.maxDepth, h 9998]

open Go.RowKit

/-! ### lists of numbers as values -/
def bys (l : List Nat) : List Value := l.map fun (x : Nat) => .int .u8 (x : Int)
def ins (l : List Int) : List Value := l.map fun x => .int .i64 x
theorem bys_length (l : List Nat) : (bys l).length = l.length := by simp [bys]
theorem ins_length (l : List Int) : (ins l).length = l.length := by simp [ins]
theorem bys_get (l : List Nat) (j : Nat) (h : j < l.length) : (bys l)[j]? = some (.int .u8 (l[j] : Int)) := by simp [bys, h]
theorem bys_append (a b : List Nat) : bys (a ++ b) = bys a ++ bys b := by simp [bys]
theorem ins_append (a b : List Int) : ins (a ++ b) = ins a ++ ins b := by simp [ins]
theorem bys_one (l : List Nat) : ∀ u ∈ bys l, u.oneCell' = true := by
  intro u hu; simp [bys] at hu; obtain ⟨a, _, rfl⟩ := hu; rfl
theorem ins_one (l : List Int) : ∀ u ∈ ins l, u.oneCell' = true := by
  intro u hu; simp [ins] at hu; obtain ⟨a, _, rfl⟩ := hu; rfl

/-! ### a slice that reads as a list of values (nil let in) -/
def Rd (w : World) (A : Option Addr) (vs : List Value) : Prop := ∀ j u, vs[j]? = some u → ∃ ad, A = some ad ∧ w.cell? (ad.add j) = some u
theorem Rd.nil (w : World) (A : Option Addr) : Rd w A [] := fun j u h => by simp at h
theorem block_of_add (a : Addr) (n : Nat) : (a.add n).block = a.block := by unfold Addr.add; split <;> rfl
theorem add_of_add (a : Addr) (i j : Nat) : (a.add i).add j = a.add (i + j) := by
  unfold Addr.add
  by_cases hi : i = 0 <;> by_cases hj : j = 0 <;> simp [hi, hj, Nat.add_assoc]
theorem cell_lt {w : World} {a : Addr} {u : Value} (h : w.cell? a = some u) : a.block < w.heap.size := World.block_lt_of_cell? w a h
theorem Below.cell_of {w w' : World} (hb : Below w.heap.size w w') {a : Addr} {u : Value} (h : w.cell? a = some u) : w'.cell? a = some u := (hb.cell (cell_lt h)).trans h
theorem Rd.below {w w' : World} {A : Option Addr} {vs : List Value} (h : Rd w A vs) (hb : Below w.heap.size w w') : Rd w' A vs :=
  fun j u hj => let ⟨ad, e, hc⟩ := h j u hj; ⟨ad, e, Below.cell_of hb hc⟩
theorem Rd.alloc {w : World} {A : Option Addr} {vs : List Value} (h : Rd w A vs) (o : Obj) : Rd (w.alloc o) A vs := h.below ((Below.refl _ _).alloc (Nat.le_refl _) o)
theorem Rd.drew {w : World} {A : Option Addr} {vs : List Value} (h : Rd w A vs) : Rd w.drew A vs := h
theorem Rd.drewN {w : World} {A : Option Addr} {vs : List Value} (h : Rd w A vs) (n : Nat) : Rd (w.drewN n) A vs := h
theorem Rd.own {w : World} {base e size n c : Nat} {A : Option Addr} {vs : List Value} (h : w.ownsRow base e size (.slice A n c) n vs) : Rd w A vs := by
  intro j u hj
  have hn : 0 < n := by
    rcases Nat.eq_zero_or_pos n with h0 | h0
    · subst h0; have := h.1; simp at this; subst this; simp at hj
    · exact h0
  obtain ⟨g, cap, hv, _, _⟩ := h.form hn
  have hA : A = some ⟨g, 0, none⟩ := by injection hv
  subst hA
  exact ⟨_, rfl, h.cells (g := g) rfl j u hj⟩
theorem Rd.at_ {w : World} {A : Option Addr} {l : List Nat} (h : Rd w A (bys l)) (k : Nat) (hk : k < l.length) : ∃ ad, A = some ad ∧ w.cell? (ad.add k) = some (.int .u8 (l[k] : Int)) :=
  h k _ (bys_get l k hk)
theorem heap_new_at {w : World} {o : Obj} {g : Nat} (h : g = w.heap.size) : (w.alloc o).heap[g]? = some o := by subst h; exact heap_alloc_new _ _
theorem Rd.blk {w : World} {g : Nat} {cs : Array Value} {t : TypeId} {fr : Nat × Nat} (h : w.heap[g]? = some (.cells cs t fr)) : Rd w (some ⟨g, 0, none⟩) cs.toList :=
  fun j u hj => ⟨_, rfl, World.news_of_block h j u hj⟩
/-- The strings that two rows of bytes are. -/
def strOf (l : List Nat) : ByteArray := strOfNums (l.map fun (x : Nat) => (x : Int))
theorem Rd.conv {P : Program} {w : World} {src dst e : TypeId} {A : Option Addr} {l : List Nat} (hs : P.underlying src = some (.slice e)) (he : P.underlying e = some (.int .u8)) (hd : P.underlying dst = some .string)
    (c : Nat) (h : Rd w A (bys l)) : (convert src dst (.slice A l.length c)).run P w = .ok (.string (strOf l)) w := by
  rw [run_convert_bytes_string w src dst e _ _ c hs he hd]
  cases A with
  | none =>
    have : l = [] := by
      cases l with
      | nil => rfl
      | cons x l => obtain ⟨ad, e, _⟩ := h 0 _ (by simp [bys]; rfl); cases e
    subst this
    simp [Conv.bytesToString, strOf, strOfNums]; rfl
  | some a =>
    have hl : (loadCells a l.length).run P w = .ok ((l.map fun (x : Nat) => (x : Int)).map (Value.int .u8)).toArray w := by
      have := run_loadCells_list (P := P) w a (bys l) (fun j v hj => by
        obtain ⟨ad, e, hc⟩ := h j v hj
        injection e with e; subst e; exact hc)
      rw [bys_length] at this
      rw [this, List.map_map]; rfl
    rw [run_bytesToString w a l.length c (l.map fun (x : Nat) => (x : Int)) hl, foldl_push_bytes]
    simp [strOf, strOfNums, ByteArray.empty, ByteArray.emptyWithCapacity]
    rfl
theorem strOf_inj {a b : List Nat} (ha : ∀ x ∈ a, x < 256) (hb : ∀ x ∈ b, x < 256) : ((strOf a).toList == (strOf b).toList) = decide (a = b) := by
  rw [Bool.eq_iff_iff]
  simp only [beq_iff_eq, decide_eq_true_eq]
  constructor
  · intro h
    rw [ByteArray.toList_eq, ByteArray.toList_eq] at h
    have h1 : (strOf a).data.toList = (strOf b).data.toList := h
    unfold strOf at h1
    rw [strOfNums_data, strOfNums_data] at h1
    have key : ∀ l : List Nat, (∀ x ∈ l, x < 256) → (((l.map fun (x : Nat) => (x : Int)).map fun n => UInt8.ofNat n.toNat).map fun u => u.toNat) = l := by
      intro l hl
      induction l with
      | nil => rfl
      | cons x l ih =>
        simp only [List.map_cons, List.mem_cons, forall_eq_or_imp] at hl ⊢
        rw [ih hl.2]
        simp
        omega
    rw [← key a ha, ← key b hb, h1]
  · rintro rfl; rfl

/-! ### calls that turn nothing, within a region that draws -/
theorem qcall {P : Program} {f : FuncId} {args : Array Value} {w : World} {v : Value} {n : Nat} (h : Calls P f args (w.drewN n) fun e w' => e = .returned v ∧ w.drewN n = w') :
    Calls P f args (w.drewN n) fun e w'' => e = .returned v ∧ ∃ m, w'' = w.drewN m := h.mono fun _ _ ⟨he, hm⟩ => ⟨he, n, hm.symm⟩
theorem qcall2 {P : Program} {f : FuncId} {args : Array Value} {w : World} {v : Value} {a n : Nat} (h : Calls P f args (w.drewN (a + n)) fun e w' => e = .returned v ∧ w.drewN (a + n) = w') :
    Calls P f args (w.drewN (a + n)) fun e w'' => e = .returned v ∧ ∃ m, w'' = w.drewN (a + m) := h.mono fun _ _ ⟨he, hm⟩ => ⟨he, n, hm.symm⟩
/-! ### steps of worlds -/
theorem below_then {B : Nat} {w w1 w2 : World} (h : Below B w w1) (hB : B ≤ w1.heap.size) (k : Below w1.heap.size w1 w2) : Below B w w2 := h.trans (k.mono hB)
theorem below_trans {w w1 w2 : World} (h : Below w.heap.size w w1) (k : Below w1.heap.size w1 w2) : Below w.heap.size w w2 := below_then h h.size k
theorem below_drewN {B : Nat} {a w : World} (h : Below B a w) (n : Nat) : Below B a (w.drewN n) := ⟨h.os, h.tape, h.output, h.size, h.block⟩
theorem below_alloc {w W : World} (h : Below w.heap.size w W) (o : Obj) : Below w.heap.size w (W.alloc o) := h.alloc h.size o
/-- all cells and marks that were there -/
theorem bcell {W w1 : World} (hb : Below W.heap.size W w1) : (∀ b o, b < W.heap.size → w1.cell? ⟨b, o, none⟩ = W.cell? ⟨b, o, none⟩) ∧ (∀ b o, b < W.heap.size → w1.frozen? ⟨b, o, none⟩ = W.frozen? ⟨b, o, none⟩) :=
  ⟨fun b o h => hb.cell (p := ⟨b, o, none⟩) h, fun b o h => hb.frozen (p := ⟨b, o, none⟩) h⟩
theorem ret_int {k : IntKind} {a b : Int} (h : a = b) : Ending.returned (.int k a) = .returned (.int k b) := by rw [h]
theorem ret_bool {a b : Bool} (h : a = b) : Ending.returned (.bool a) = .returned (.bool b) := by rw [h]
/-- a world that only drew -/
theorem drawn_below {B : Nat} {w w' : World} (h : ∃ n, w' = w.drewN n) : Below B w w' := by obtain ⟨n, rfl⟩ := h; exact below_drewN (Below.refl _ _) n

/-! ### regions that draw their order, whose operations read what stays and whose calls turn nothing that was there: one walk in the text's order -/
/-- A world in which all that lay in w lies as it lay. -/
structure Ext (w : World) where
  W : World
  below : Below w.heap.size w W
instance {w : World} : Nonempty (Ext w) := ⟨⟨w, Below.refl _ _⟩⟩
section
variable {P : Program}
theorem wp_region_ext {id : Nat} {Q : Exit → Act → World → Prop} {a : Act} {w : World} {l : List Oper} (hm : P.follows .mixedOrders = true) (hB : Region.lexB .any l.toArray = true)
    (h : wpQuiet P l.toArray (fun w' => ∃ e : Ext w, w' = e.W) (fun a' => ∀ w', (∃ e : Ext w, w' = e.W) → Q .normal a' w') l a) : (Code.region id l.toArray true).wp P Q a w :=
  wp_region_quiet (C := fun w' => ∃ e : Ext w, w' = e.W) hm hB ⟨⟨w.drew, (Below.refl _ _).drew⟩, rfl⟩ (by simpa using h)
theorem ecall {f : FuncId} {args : Array Value} {w : World} {v : Value} {e : Ext w} (h : Calls P f args e.W fun x w' => x = .returned v ∧ Below e.W.heap.size e.W w') :
    Calls P f args e.W fun x w'' => x = .returned v ∧ ∃ e2 : Ext w, w'' = e2.W := h.mono fun _ w' ⟨hx, hb⟩ => ⟨hx, ⟨w', below_trans e.below hb⟩, rfl⟩
theorem ecall_same {f : FuncId} {args : Array Value} {w : World} {v : Value} {e : Ext w} (h : Calls P f args e.W fun x w' => x = .returned v ∧ e.W = w') :
    Calls P f args e.W fun x w'' => x = .returned v ∧ ∃ e2 : Ext w, w'' = e2.W := h.mono fun _ _ ⟨hx, hb⟩ => ⟨hx, e, hb.symm⟩
end
theorem ext_cell {w : World} {a : Addr} {v : Value} (h : w.cell? a = some v) (e : Ext w) : e.W.cell? a = some v := Below.cell_of e.below h
theorem ext_heap {w : World} {g : Nat} {o : Obj} (h : w.heap[g]? = some o) (e : Ext w) : e.W.heap[g]? = some o := by
  have hl : g < w.heap.size := by
    rcases Nat.lt_or_ge g w.heap.size with h' | h'
    · exact h'
    · rw [Array.getElem?_eq_none h'] at h; cases h
  exact (e.below.block g hl).trans h
theorem heap_below {w w' : World} (hb : Below w.heap.size w w') {g : Nat} {o : Obj} (h : w.heap[g]? = some o) : w'.heap[g]? = some o := ext_heap h ⟨w', hb⟩
theorem Rd.ext {w : World} {A : Option Addr} {vs : List Value} (h : Rd w A vs) (e : Ext w) : Rd e.W A vs := h.below e.below
theorem heap_lt {w : World} {g : Nat} {o : Obj} (h : w.heap[g]? = some o) : g < w.heap.size := by
  rcases Nat.lt_or_ge g w.heap.size with h' | h'
  · exact h'
  · rw [Array.getElem?_eq_none h'] at h; cases h
/-- A call's world is one more in which all that lay in w0 lies. -/
theorem extc {P : Program} {f : FuncId} {args : Array Value} {w0 : World} {e : Ext w0} {R : Ending → World → Prop} (h : Calls P f args e.W fun x w' => R x w' ∧ Below e.W.heap.size e.W w') :
    Calls P f args e.W fun x w' => ∃ e2 : Ext w0, w' = e2.W ∧ R x e2.W := h.mono fun _ w' ⟨hx, hb⟩ => ⟨⟨w', below_trans e.below hb⟩, rfl, hx⟩
theorem extc_same {P : Program} {f : FuncId} {args : Array Value} {w0 : World} {R : Ending → World → Prop} (h : Calls P f args w0 fun x w' => R x w' ∧ Below w0.heap.size w0 w') :
    Calls P f args w0 fun x w' => ∃ e2 : Ext w0, w' = e2.W ∧ R x e2.W := h.mono fun _ w' ⟨hx, hb⟩ => ⟨⟨w', hb⟩, rfl, hx⟩
/-- The eleven cells of a frame's block. -/
theorem cells11 {w : World} {g : Nat} {v0 v1 v2 v3 v4 v5 v6 v7 v8 v9 v10 : Value} {t : TypeId} {fr : Nat × Nat} (h : w.heap[g]? = some (.cells #[v0, v1, v2, v3, v4, v5, v6, v7, v8, v9, v10] t fr)) :
    w.cell? ⟨g, 0, none⟩ = some v0 ∧ w.cell? ⟨g, 1, none⟩ = some v1 ∧ w.cell? ⟨g, 2, none⟩ = some v2 ∧ w.cell? ⟨g, 3, none⟩ = some v3 ∧ w.cell? ⟨g, 4, none⟩ = some v4 ∧ w.cell? ⟨g, 5, none⟩ = some v5 ∧
    w.cell? ⟨g, 6, none⟩ = some v6 ∧ w.cell? ⟨g, 7, none⟩ = some v7 ∧ w.cell? ⟨g, 8, none⟩ = some v8 ∧ w.cell? ⟨g, 9, none⟩ = some v9 ∧ w.cell? ⟨g, 10, none⟩ = some v10 := by
  simp [World.cell?, h]
theorem ext11 {w : World} {g : Nat} {v0 v1 v2 v3 v4 v5 v6 v7 v8 v9 v10 : Value} {t : TypeId} {fr : Nat × Nat} (h : w.heap[g]? = some (.cells #[v0, v1, v2, v3, v4, v5, v6, v7, v8, v9, v10] t fr)) :
    (∀ e : Ext w, e.W.cell? ⟨g, 0, none⟩ = some v0) ∧ (∀ e : Ext w, e.W.cell? ⟨g, 1, none⟩ = some v1) ∧ (∀ e : Ext w, e.W.cell? ⟨g, 2, none⟩ = some v2) ∧ (∀ e : Ext w, e.W.cell? ⟨g, 3, none⟩ = some v3) ∧ (∀ e : Ext w, e.W.cell? ⟨g, 4, none⟩ = some v4) ∧
    (∀ e : Ext w, e.W.cell? ⟨g, 5, none⟩ = some v5) ∧ (∀ e : Ext w, e.W.cell? ⟨g, 6, none⟩ = some v6) ∧ (∀ e : Ext w, e.W.cell? ⟨g, 7, none⟩ = some v7) ∧ (∀ e : Ext w, e.W.cell? ⟨g, 8, none⟩ = some v8) ∧ (∀ e : Ext w, e.W.cell? ⟨g, 9, none⟩ = some v9) ∧ (∀ e : Ext w, e.W.cell? ⟨g, 10, none⟩ = some v10) := by
  have hE := fun e : Ext w => cells11 (ext_heap h e)
  exact ⟨fun e => (hE e).1, fun e => (hE e).2.1, fun e => (hE e).2.2.1, fun e => (hE e).2.2.2.1, fun e => (hE e).2.2.2.2.1, fun e => (hE e).2.2.2.2.2.1, fun e => (hE e).2.2.2.2.2.2.1, fun e => (hE e).2.2.2.2.2.2.2.1, fun e => (hE e).2.2.2.2.2.2.2.2.1, fun e => (hE e).2.2.2.2.2.2.2.2.2.1, fun e => (hE e).2.2.2.2.2.2.2.2.2.2⟩
theorem heap_push {w : World} {g : Nat} {o o' : Obj} (h : w.heap[g]? = some o) : (w.alloc o').heap[g]? = some o := heap_below ((Below.refl _ _).alloc (Nat.le_refl _) o') h
/-! ### the blocks that a call lays first, under a name -/
theorem calls_blk1 {P : Program} {f : FuncId} {args : Array Value} {w : World} {o1 : Obj} {R : Ending → World → Prop}
    (h : ∀ W, W.heap[w.heap.size]? = some o1 → Below w.heap.size w W → Calls P f args W R) : Calls P f args (w.alloc o1) R :=
  h _ (heap_new_at rfl) (below_alloc (Below.refl _ _) _)
theorem calls_blk2 {P : Program} {f : FuncId} {args : Array Value} {w : World} {o1 o2 : Obj} {R : Ending → World → Prop}
    (h : ∀ W, W.heap[w.heap.size]? = some o1 → W.heap[w.heap.size + 1]? = some o2 → Below w.heap.size w W → Calls P f args W R) : Calls P f args ((w.alloc o1).alloc o2) R :=
  h _ (heap_push (heap_new_at rfl)) (heap_new_at (by simp)) (below_alloc (below_alloc (Below.refl _ _) _) _)
theorem calls_blk3 {P : Program} {f : FuncId} {args : Array Value} {w : World} {o1 o2 o3 : Obj} {R : Ending → World → Prop}
    (h : ∀ W, W.heap[w.heap.size]? = some o1 → W.heap[w.heap.size + 1]? = some o2 → W.heap[w.heap.size + 1 + 1]? = some o3 → Below w.heap.size w W → Calls P f args W R) : Calls P f args (((w.alloc o1).alloc o2).alloc o3) R :=
  h _ (heap_push (heap_push (heap_new_at rfl))) (heap_push (heap_new_at (by simp))) (heap_new_at (by simp)) (below_alloc (below_alloc (below_alloc (Below.refl _ _) _) _) _)
theorem ext_end {w W0 : World} {e : Ext W0} (hb : Below w.heap.size w W0) : Below w.heap.size w e.W := below_trans hb e.below
end Go.Proofs.YtlmdkmflbhnlgaaGreat
namespace Go.Proofs.YtlmdkmflbhnlgaaGreat
open Go.RowKit

section
variable {P : Program} (w : World)
theorem run_app (base : Nat) (t ty e : TypeId) (i : TypeInfo) (z : Value) (bytes : Nat) (ht : P.underlying t = some (.slice e)) (hi : P.info? e = some i) (hz : i.zero = some z)
    (hsize : i.size = 1) (hby : i.bytes = bytes) (hzs : z.cells.size = 1)
    (v : Value) (n : Nat) (xs : List Value) (hown : w.ownsRow base e 1 v n xs)
    (A : Option Addr) (c : Nat) (news : List Value) (hr : Rd w A news) (h1 : ∀ u ∈ news, u.oneCell' = true) (hc : news = [] → A = none → c = 0)
    (h63 : n + news.length ≤ maxLen) (hbytes : (n + news.length) * bytes ≤ 140737488355328) (hbase : base ≤ w.heap.size) :
    ∃ v' w', (Builtin.append_ #[t, t] ty #[v, .slice A news.length c]).run P w = .ok v' w' ∧ w'.ownsRow base e 1 v' (n + news.length) (xs ++ news) ∧ w.grownBy w' v.ownBlock ∧
      (v'.ownBlock = v.ownBlock ∨ v'.ownBlock = some w.heap.size) := by
  cases A with
  | none =>
    have hn : news = [] := by
      cases news with
      | nil => rfl
      | cons u us => obtain ⟨ad, he, _⟩ := hr 0 u rfl; cases he
    subst hn
    have hc0 := hc rfl rfl
    subst hc0
    exact ⟨v, w, run_append_owned_none w base t ty e i 1 ht hi v n xs hown, by simpa using hown, World.grownBy.refl w _, .inl rfl⟩
  | some ad =>
    obtain ⟨v', w', hrun, h2, h3, _, h5⟩ := run_append_own_at (P := P) w base t ty e i z 1 bytes ht hi hz hsize hby hzs (by omega) v n xs hown ad news.length c news (by simp)
      (fun j u hj => by obtain ⟨ad', he, hcell⟩ := hr j u hj; injection he with he; subst he; exact hcell) h1 h63 hbytes hbase
    exact ⟨v', w', hrun, h2, h3, h5⟩
theorem wp_app {o : Oper} {a : Act} {K : Act → World → Prop} {Q : Exit → Act → World → Prop} (s x : Operand) (t : TypeId)
    (ho : o.op = .call { callee := .builtin .append, args := #[s, x], argTypes := #[t, t] })
    (base : Nat) (e : TypeId) (i : TypeInfo) (z : Value) (bytes : Nat) (ht : P.underlying t = some (.slice e)) (hi : P.info? e = some i) (hz : i.zero = some z)
    (hsize : i.size = 1) (hby : i.bytes = bytes) (hzs : z.cells.size = 1)
    (v : Value) (n : Nat) (xs : List Value) (hs : a.eval s = v) (hown : w.ownsRow base e 1 v n xs)
    (A : Option Addr) (m c : Nat) (news : List Value) (hx : a.eval x = .slice A m c) (hm : news.length = m) (hr : Rd w A news) (h1 : ∀ u ∈ news, u.oneCell' = true) (hc : news = [] → A = none → c = 0)
    (h63 : n + m ≤ maxLen) (hbytes : (n + m) * bytes ≤ 140737488355328) (hbase : base ≤ w.heap.size)
    (h : ∀ v' w', w'.ownsRow base e 1 v' (n + m) (xs ++ news) → w.grownBy w' v.ownBlock → (v'.ownBlock = v.ownBlock ∨ v'.ownBlock = some w.heap.size) → K (a.put o.dst v') w') : o.wp P a w K Q := by
  subst hm
  obtain ⟨v', w', hrun, h2, h3, h4⟩ := run_app (P := P) w base t o.type e i z bytes ht hi hz hsize hby hzs v n xs hown A c news hr h1 hc h63 hbytes hbase
  unfold Oper.wp execOp
  simp only [ho, resolve, invoke, builtin, Sem.run_bind, Sem.run_pure, Result.andThen_ok, List.map_toArray, List.map_cons, List.map_nil, hs, hx, hrun]
  exact h v' w' h2 h3 h4
theorem wpList_app {ops : Array Oper} {rest : List Oper} {o : Oper} {a : Act} {Q : Exit → Act → World → Prop} (hgd : o.guard = none) (s x : Operand) (t : TypeId)
    (ho : o.op = .call { callee := .builtin .append, args := #[s, x], argTypes := #[t, t] })
    (base : Nat) (e : TypeId) (i : TypeInfo) (z : Value) (bytes : Nat) (ht : P.underlying t = some (.slice e)) (hi : P.info? e = some i) (hz : i.zero = some z)
    (hsize : i.size = 1) (hby : i.bytes = bytes) (hzs : z.cells.size = 1)
    (v : Value) (n : Nat) (xs : List Value) (hs : a.eval s = v) (hown : w.ownsRow base e 1 v n xs)
    (A : Option Addr) (m c : Nat) (news : List Value) (hx : a.eval x = .slice A m c) (hm : news.length = m) (hr : Rd w A news) (h1 : ∀ u ∈ news, u.oneCell' = true) (hc : news = [] → A = none → c = 0)
    (h63 : n + m ≤ maxLen) (hbytes : (n + m) * bytes ≤ 140737488355328) (hbase : base ≤ w.heap.size)
    (h : ∀ v' w', w'.ownsRow base e 1 v' (n + m) (xs ++ news) → w.grownBy w' v.ownBlock → (v'.ownBlock = v.ownBlock ∨ v'.ownBlock = some w.heap.size) → wpList P ops Q rest (a.put o.dst v') w') : wpList P ops Q (o :: rest) a w :=
  wpList_plain hgd fun _ hK => wp_app w s x t ho base e i z bytes ht hi hz hsize hby hzs v n xs hs hown A m c news hx hm hr h1 hc h63 hbytes hbase fun v' w' h2 h3 h4 => hK _ _ (h v' w' h2 h3 h4)
end
theorem own_slice {w : World} {base n : Nat} {e : TypeId} {v : Value} {xs : List Value} (h : w.ownsRow base e 1 v n xs) : ∃ A c, v = .slice A n c ∧ Rd w A xs ∧ n = xs.length ∧ n ≤ c ∧ (A = none → c = 0) := by
  rcases h.2 with ⟨rfl, rfl⟩ | ⟨g, cap, cur, rfl, _, _, hnc, _⟩
  · have hx : xs = [] := List.eq_nil_of_length_eq_zero (by simpa using h.1)
    subst hx
    exact ⟨none, 0, rfl, Rd.nil _ _, rfl, by omega, fun _ => rfl⟩
  · exact ⟨_, cap, rfl, Rd.own h, by have := h.1; omega, hnc, fun e => by cases e⟩
theorem own_below {w w' : World} {base n e : Nat} {v : Value} {xs : List Value} (h : w.ownsRow base e 1 v n xs) (hb : Below w.heap.size w w') : w'.ownsRow base e 1 v n xs := by
  obtain ⟨h1, h2⟩ := h
  refine ⟨h1, ?_⟩
  rcases h2 with h2 | ⟨g, cap, cur, hv, hg, hh, r⟩
  · exact .inl h2
  · exact .inr ⟨g, cap, cur, hv, hg, heap_below hb hh, r⟩
theorem own_mono {w : World} {base base' n e : Nat} {v : Value} {xs : List Value} (h : w.ownsRow base e 1 v n xs) (hb : base' ≤ base) : w.ownsRow base' e 1 v n xs := by
  obtain ⟨h1, h2⟩ := h
  exact ⟨h1, h2.imp id fun ⟨g, cap, cur, hv, hg, r⟩ => ⟨g, cap, cur, hv, Nat.le_trans hb hg, r⟩⟩
/-- append's step, for what lay below the base. -/
theorem own_grown {B : Nat} {w0 w w' : World} {base n e : Nat} {v : Value} {xs : List Value} (h : w.ownsRow base e 1 v n xs) (hb : Below B w0 w) (hB : B ≤ base) (hs : base ≤ w.heap.size) (hg : w.grownBy w' v.ownBlock) : Below B w0 w' :=
  hb.grown hg (by omega) (fun k hk => by have := (h.lt k hk).1; omega)
theorem own_lit {w : World} {cs : List Value} {n e base : Nat} (hb : base ≤ w.heap.size) (hn : cs.length = n) (hm : n ≤ maxLen) : (w.alloc (.cells cs.toArray e)).ownsRow base e 1 (.slice (some ⟨w.heap.size, 0, none⟩) n n) n cs := by
  have := World.ownsRow_lit (e := e) (size := 1) w cs.toArray n hb hm (by simp [hn])
  simpa using this

/-! ### the same, over worlds in which all that lay in one lies -/
theorem ext_lt {w : World} {g : Nat} {o : Obj} (h : w.heap[g]? = some o) (e : Ext w) : g < e.W.heap.size := heap_lt (ext_heap h e)
theorem Ext.step {w : World} (e : Ext w) {w' : World} (h : Below e.W.heap.size e.W w') : ∃ e2 : Ext w, w' = e2.W := ⟨⟨w', below_trans e.below h⟩, rfl⟩
theorem ext_ge {w : World} (e : Ext w) : w.heap.size ≤ e.W.heap.size := e.below.size
theorem Ext.below_alloc {w : World} (e : Ext w) (o : Obj) : Below w.heap.size w (e.W.alloc o) := Go.Proofs.YtlmdkmflbhnlgaaGreat.below_alloc e.below o
theorem extcB {P : Program} {f : FuncId} {args : Array Value} {w0 : World} {e : Ext w0} {R : Ending → World → Prop} (h : Calls P f args e.W fun x w' => R x w' ∧ Below e.W.heap.size e.W w') :
    Calls P f args e.W fun x w' => ∃ e2 : Ext w0, w' = e2.W ∧ Hid (Below e.W.heap.size e.W e2.W) ∧ R x e2.W := h.mono fun _ w' ⟨hx, hb⟩ => ⟨⟨w', below_trans e.below hb⟩, rfl, hb, hx⟩
/-- A slice's length, for a loop's measure. -/
def lenV : Value → Nat | .slice _ n _ => n | _ => 0
theorem liftE {w0 w1 : World} (hb : Below w0.heap.size w0 w1) {a : Addr} {v : Value} (h : ∀ e : Ext w0, e.W.cell? a = some v) : ∀ e : Ext w1, e.W.cell? a = some v := fun e => h ⟨e.W, below_trans hb e.below⟩
/-- A row of the call's own: where it lies, and what it holds. -/
def Row (w : World) (base t : Nat) (A : Option Addr) (c : Nat) (xs : List Value) : Prop := w.ownsRow base t 1 (.slice A xs.length c) xs.length xs
theorem Row.of {w : World} {base t n : Nat} {v : Value} {xs : List Value} (h : w.ownsRow base t 1 v n xs) (hn : n = xs.length) : ∃ A c, v = .slice A xs.length c ∧ Row w base t A c xs := by
  subst hn
  obtain ⟨A, c, rfl, -⟩ := own_slice h
  exact ⟨A, c, rfl, h⟩
theorem Row.below {w w' : World} {base t c : Nat} {A : Option Addr} {xs : List Value} (h : Row w base t A c xs) (hb : Below w.heap.size w w') : Row w' base t A c xs := own_below h hb
theorem Row.alloc {w : World} {base t c : Nat} {A : Option Addr} {xs : List Value} (h : Row w base t A c xs) (o : Obj) : Row (w.alloc o) base t A c xs := World.ownsRow.alloc h o
theorem Row.mono {w : World} {base base' t c : Nat} {A : Option Addr} {xs : List Value} (h : Row w base t A c xs) (hb : base' ≤ base) : Row w base' t A c xs := own_mono h hb
theorem Row.rd {w : World} {base t c : Nat} {A : Option Addr} {xs : List Value} (h : Row w base t A c xs) : Rd w A xs := Rd.own h
theorem Row.none_ {w : World} {base t c : Nat} {A : Option Addr} {xs : List Value} (h : Row w base t A c xs) (hA : A = none) : c = 0 := by
  obtain ⟨A', c', e, -, -, -, hn⟩ := own_slice h
  injection e with e1 _ e3
  subst e1 e3
  exact hn hA
theorem Row.cap {w : World} {base t c : Nat} {A : Option Addr} {xs : List Value} (h : Row w base t A c xs) : xs.length ≤ c := by
  obtain ⟨A', c', e, -, -, hc, -⟩ := own_slice h
  injection e with e1 _ e3
  subst e3
  exact hc
theorem Row.nil (w : World) (base t : Nat) : Row w base t none 0 [] := ⟨by simp, .inl ⟨rfl, rfl⟩⟩
theorem wpList_appE {P : Program} {w0 W : World} (hW : Below w0.heap.size w0 W) {ops : Array Oper} {rest : List Oper} {o : Oper} {a : Act} {Q : Exit → Act → World → Prop} (hgd : o.guard = none) (s x : Operand) (t : TypeId)
    (ho : o.op = .call { callee := .builtin .append, args := #[s, x], argTypes := #[t, t] })
    (base : Nat) (e : TypeId) (i : TypeInfo) (z : Value) (bytes : Nat) (ht : P.underlying t = some (.slice e)) (hi : P.info? e = some i) (hz : i.zero = some z)
    (hsize : i.size = 1) (hby : i.bytes = bytes) (hzs : z.cells.size = 1)
    (A : Option Addr) (n c : Nat) (xs : List Value) (hs : a.eval s = .slice A n c) (hn : xs.length = n) (hown : Row W base e A c xs)
    (B : Option Addr) (m d : Nat) (news : List Value) (hx : a.eval x = .slice B m d) (hm : news.length = m) (hr : Rd W B news) (h1 : ∀ u ∈ news, u.oneCell' = true) (hd : news = [] → B = none → d = 0)
    (N : Nat) (hN : n + m = N) (h63 : N ≤ maxLen) (hbytes : N * bytes ≤ 140737488355328) (hB : w0.heap.size ≤ base) (hbase : base ≤ W.heap.size)
    (h : ∀ (e3 : Ext w0) (A3 : Option Addr) (c3 : Nat), Hid (Row e3.W base e A3 c3 (xs ++ news)) → wpList P ops Q rest (a.put o.dst (.slice A3 N c3)) e3.W) : wpList P ops Q (o :: rest) a W := by
  subst hN hm hn
  refine wpList_app W hgd s x t ho base e i z bytes ht hi hz hsize hby hzs (.slice A xs.length c) xs.length xs hs hown B news.length d news hx rfl hr h1 hd h63 hbytes hbase fun v' w' h2 h3 _ => ?_
  obtain ⟨A3, c3, rfl, hrow⟩ := Row.of h2 (by simp)
  have := h ⟨w', own_grown hown hW hB hbase h3⟩ A3 c3 hrow
  simpa using this
theorem step_appE {P : Program} {w0 W : World} (hW : Below w0.heap.size w0 W) {ops : Array Oper} {o : Oper} {a : Act} {K : Act → World → Prop} {Q : Exit → Act → World → Prop} {E : Prop} (hgd : o.guard = none) (s x : Operand) (t : TypeId)
    (ho : o.op = .call { callee := .builtin .append, args := #[s, x], argTypes := #[t, t] })
    (base : Nat) (e : TypeId) (i : TypeInfo) (z : Value) (bytes : Nat) (ht : P.underlying t = some (.slice e)) (hi : P.info? e = some i) (hz : i.zero = some z)
    (hsize : i.size = 1) (hby : i.bytes = bytes) (hzs : z.cells.size = 1)
    (A : Option Addr) (n c : Nat) (xs : List Value) (hs : a.eval s = .slice A n c) (hn : xs.length = n) (hown : Row W base e A c xs)
    (B : Option Addr) (m d : Nat) (news : List Value) (hx : a.eval x = .slice B m d) (hm : news.length = m) (hr : Rd W B news) (h1 : ∀ u ∈ news, u.oneCell' = true) (hd : news = [] → B = none → d = 0)
    (N : Nat) (hN : n + m = N) (h63 : N ≤ maxLen) (hbytes : N * bytes ≤ 140737488355328) (hB : w0.heap.size ≤ base) (hbase : base ≤ W.heap.size)
    (h : ∀ (e3 : Ext w0) (A3 : Option Addr) (c3 : Nat), Hid (Row e3.W base e A3 c3 (xs ++ news)) → K (a.put o.dst (.slice A3 N c3)) e3.W) :
    if Region.wanted o (yielded ops a.tmps) = true then Oper.wp P o a W K Q else E := by
  subst hN hm hn
  have hw : Region.wanted o (yielded ops a.tmps) = true := by simp [Region.wanted, hgd]
  rw [if_pos hw]
  refine wp_app W s x t ho base e i z bytes ht hi hz hsize hby hzs (.slice A xs.length c) xs.length xs hs hown B news.length d news hx rfl hr h1 hd h63 hbytes hbase fun v' w' h2 h3 _ => ?_
  obtain ⟨A3, c3, rfl, hrow⟩ := Row.of h2 (by simp)
  have := h ⟨w', own_grown hown hW hB hbase h3⟩ A3 c3 hrow
  simpa using this
end Go.Proofs.YtlmdkmflbhnlgaaGreat
