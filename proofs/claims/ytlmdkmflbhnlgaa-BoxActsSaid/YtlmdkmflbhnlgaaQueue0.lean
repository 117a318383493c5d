/- queue: its entries, how they lie, and which of two comes first. No condition. -/
import Derived.Test.YtlmdkmflbhnlgaaHeap0
import Derived.Test.YtlmdkmflbhnlgaaQPlain
import Derived.Test.YtlmdkmflbhnlgaaFifo2
namespace Go.Proofs.Ytlmdkmflbhnlgaa
open Go.RowKit
/-- An entry as it lies. -/
structure QN where
  no : Int
  f : Fr
  A : Option Addr
  c : Nat
  key : Int
instance : Inhabited QN := ⟨⟨0, ⟨0, 0, false, false, false, false, false, 0, 0, 0, []⟩, none, 0, 0⟩⟩
abbrev qV (e : QN) : Value := .agg #[.int .i64 e.no, .int .i64 e.f.kind, .int .u32 e.f.id, .bool e.f.ext, .bool e.f.rtr, .bool e.f.brs, .bool e.f.esi, .bool e.f.sec, .int .u8 e.f.sdt, .int .u8 e.f.vcid, .int .u32 e.f.af, .slice e.A e.f.data.length e.c, .int .u64 e.key]
def qL (e : QN) : List Value := [.int .i64 e.no, .int .i64 e.f.kind, .int .u32 e.f.id, .bool e.f.ext, .bool e.f.rtr, .bool e.f.brs, .bool e.f.esi, .bool e.f.sec, .int .u8 e.f.sdt, .int .u8 e.f.vcid, .int .u32 e.f.af, .slice e.A e.f.data.length e.c, .int .u64 e.key]
theorem qL_length (e : QN) : (qL e).length = 13 := rfl
theorem qL_one (e : QN) : ∀ v ∈ qL e, v.oneCell' = true := by
  intro v hv; simp [qL] at hv; rcases hv with rfl | rfl | rfl | rfl | rfl | rfl | rfl | rfl | rfl | rfl | rfl | rfl | rfl <;> rfl
/-- What an entry is ordered by. -/
def kyQ (e : QN) : En := (e.key, e.no)
def flatQ (l : List QN) : List Value := l.flatMap qL
theorem flat_get {α : Type} {f : α → List Value} {N : Nat} (hN : ∀ a, (f a).length = N) (l : List α) (k : Nat) (hk : k < l.length) (j : Nat) (hj : j < N) : (l.flatMap f)[k * N + j]? = (f l[k])[j]? := by
  induction l generalizing k with
  | nil => simp at hk
  | cons x l ih =>
    rw [List.flatMap_cons]
    cases k with
    | zero => rw [List.getElem?_append_left (by rw [hN]; omega)]; simp
    | succ k =>
      rw [List.getElem?_append_right (by rw [hN, Nat.succ_mul]; omega), hN]
      have e : (k + 1) * N + j - N = k * N + j := by rw [Nat.succ_mul]; omega
      rw [e]
      simpa using ih k (by simpa using hk)
theorem flat_length {α : Type} {f : α → List Value} {N : Nat} (hN : ∀ a, (f a).length = N) (l : List α) : (l.flatMap f).length = l.length * N := by
  induction l with
  | nil => simp
  | cons x l ih => rw [List.flatMap_cons, List.length_append, hN, ih, List.length_cons, Nat.succ_mul]; omega
/-- The entries as they lie in block g. -/
structure QRow (w : World) (base g cap : Nat) (l : List QN) (cur : Array Value) : Prop where
  blk : w.heap[g]? = some (.cells cur 130 (0, 0))
  lo : base ≤ g
  size : cur.size = cap * 13
  len : l.length ≤ cap
  cap : cap ≤ maxLen
  at_ : ∀ k (h : k < l.length) j u, (qL l[k])[j]? = some u → cur[k * 13 + j]? = some u
/-- The heap as it lies: block qb holds the queue, A is the row of entries (none: there is none yet). -/
structure HeapQ (w : World) (base qb room last : Nat) (A : Option Addr) (cap : Nat) (l : List QN) : Prop where
  box : w.heap[qb]? = some (.cells #[.int .i64 room, .int .i64 last, .slice A l.length cap] 114 (0, 0))
  row : (A = none ∧ cap = 0 ∧ l = []) ∨ ∃ g cur, A = some ⟨g, 0, none⟩ ∧ QRow w base g cap l cur
def blkA : Option Addr → List Nat
  | none => []
  | some a => [a.block]
theorem HeapQ.cells {w : World} {base qb room last cap : Nat} {A : Option Addr} {l : List QN} (h : HeapQ w base qb room last A cap l) (k : Nat) (hk : k < l.length) :
    ∃ g, A = some ⟨g, 0, none⟩ ∧ ∀ j u, (qL l[k])[j]? = some u → w.cell? ⟨g, k * 13 + j, none⟩ = some u := by
  rcases h.row with ⟨_, _, rfl⟩ | ⟨g, cur, hA, hr⟩
  · simp at hk
  · exact ⟨g, hA, fun j u hu => cell_of_heap hr.blk _ _ (hr.at_ k hk j u hu)⟩
theorem HeapQ.turn {w w' : World} {s : List Nat} {base qb room last cap : Nat} {A : Option Addr} {l : List QN} (h : HeapQ w base qb room last A cap l) (ht : Turn s w w') (h1 : qb ∉ s) (h2 : ∀ a ∈ blkA A, a ∉ s) : HeapQ w' base qb room last A cap l := by
  refine ⟨ht.heap h.box h1, h.row.imp id ?_⟩
  rintro ⟨g, cur, rfl, hr⟩
  exact ⟨g, cur, rfl, ht.heap hr.blk (h2 g (by simp [blkA])), hr.lo, hr.size, hr.len, hr.cap, hr.at_⟩
theorem HeapQ.below {w w' : World} {base qb room last cap : Nat} {A : Option Addr} {l : List QN} (h : HeapQ w base qb room last A cap l) (hb : Below w.heap.size w w') : HeapQ w' base qb room last A cap l := h.turn (Turn.of (s := []) hb) (by simp) (by simp)
/-- Which of two comes first, as Go tells it. -/
def cmpQ (a b : QN) : Int := if cmpI a.key b.key = 0 then cmpI a.no b.no else cmpI a.key b.key
theorem cmpQ_lt (a b : QN) : decide (cmpQ a b < 0) = ltE (kyQ a) (kyQ b) := ltE_cmp a.key a.no b.key b.no
set_option maxRecDepth 100000 in
set_option maxHeartbeats 2000000 in
theorem compare_any (a b : QN) (w : World) : Calls Try.prog 114 #[qV a, qV b] w fun e w' => e = .returned (.int .i64 (cmpQ a b)) ∧ Below w.heap.size w w' := by
  obtain ⟨n1, f, A, c, k1⟩ := a
  obtain ⟨n2, f', A', c', k2⟩ := b
  have hf : cmpQ ⟨n1, f, A, c, k1⟩ ⟨n2, f', A', c', k2⟩ = if cmpI k1 k2 = 0 then cmpI n1 n2 else cmpI k1 k2 := rfl
  generalize cmpQ ⟨n1, f, A, c, k1⟩ ⟨n2, f', A', c', k2⟩ = r at *
  have HC := fun W => cmp_u64 k1 k2 W
  have HD := fun W => cmp_int n1 n2 W
  generalize cmpI k1 k2 = x at *
  generalize cmpI n1 n2 = y at *
  have HE := fun g t W => Or_two g x y t W
  generalize (if x = 0 then y else x) = z at *
  subst hf
  have H1 := Lib.hid HC
  have H2 := Lib.hid HD
  have H3 := Lib.hid HE
  clear HC HD HE
  dsimp only [qV]
  go_enter Try.func114, Try.ntmps114
  go_wp2_with fail
  obtain ⟨W0, hW0, q1, q2, hb⟩ : ∃ W0, W0 = (w.alloc (.cells (qL ⟨n1, f, A, c, k1⟩).toArray 130)).alloc (.cells (qL ⟨n2, f', A', c', k2⟩).toArray 130) ∧ W0.heap[w.heap.size]? = some (.cells (qL ⟨n1, f, A, c, k1⟩).toArray 130) ∧ W0.heap[w.heap.size + 1]? = some (.cells (qL ⟨n2, f', A', c', k2⟩).toArray 130) ∧ Below w.heap.size w W0 :=
    ⟨_, rfl, heap_push (heap_new_at rfl), heap_new_at (by simp), below_alloc (below_alloc (Below.refl _ _) _) _⟩
  simp only [qL] at hW0
  rw [← hW0]
  have c0 : W0.cell? ⟨w.heap.size, 12, none⟩ = some (.int .u64 k1) := cell_of_heap q1 12 _ rfl
  have c1 : W0.cell? ⟨w.heap.size, 0, none⟩ = some (.int .i64 n1) := cell_of_heap q1 0 _ rfl
  have c2 : W0.cell? ⟨w.heap.size + 1, 12, none⟩ = some (.int .u64 k2) := cell_of_heap q2 12 _ rfl
  have c3 : W0.cell? ⟨w.heap.size + 1, 0, none⟩ = some (.int .i64 n2) := cell_of_heap q2 0 _ rfl
  have HB := Lib.hid hb
  clear q1 q2 hb hW0
  go_region_held3 (fun w' => w'.cell? ⟨w.heap.size, 12, none⟩ = some (.int .u64 k1) ∧ w'.cell? ⟨w.heap.size, 0, none⟩ = some (.int .i64 n1) ∧ w'.cell? ⟨w.heap.size + 1, 12, none⟩ = some (.int .u64 k2) ∧ w'.cell? ⟨w.heap.size + 1, 0, none⟩ = some (.int .i64 n2))
    (first
      | go_keep
      | exact ⟨c0, c1, c2, c3⟩
      | (refine ⟨?_, ?_, ?_, ?_⟩ <;> simp [*]))
    (first
      | (go_at_call 116; refine (H1.out _).mono ?_; rintro x _ ⟨rfl, rfl⟩)
      | (go_at_call 117; refine (H2.out _).mono ?_; rintro x _ ⟨rfl, rfl⟩)
      | (go_at_call 115; refine (H3.out _ _ (World.drew (W0.alloc (.cells #[.int .i64 x, .int .i64 y] 3))) (heap_new_at rfl)).mono ?_; rintro x _ ⟨rfl, rfl⟩))
  go_wp2
  go_ret
  exact ⟨rfl, (below_alloc HB.out _).drew⟩
set_option maxRecDepth 100000 in
set_option maxHeartbeats 2000000 in
theorem qLess_any (w : World) (base qb room last cap : Nat) (A : Option Addr) (l : List QN) (i j : Nat) (h : HeapQ w base qb room last A cap l) (hi : i < l.length) (hj : j < l.length) :
    Calls Try.prog 112 #[.slice A l.length cap, .int .i64 i, .int .i64 j] w fun e w' => e = .returned (.bool (ltE (kyQ (ag l i)) (kyQ (ag l j)))) ∧ Below w.heap.size w w' := by
  obtain ⟨g, rfl, ci⟩ := h.cells i hi
  obtain ⟨g2, hg, cj⟩ := h.cells j hj
  obtain rfl : g = g2 := by injection hg with e; injection e
  have HA := fun W => compare_any l[i] l[j] W
  rw [ag_get hi, ag_get hj, ← cmpQ_lt]
  obtain ⟨x, hx⟩ : ∃ x, l[i] = x := ⟨_, rfl⟩
  obtain ⟨y, hy⟩ : ∃ y, l[j] = y := ⟨_, rfl⟩
  rw [hx] at ci HA
  rw [hy] at cj HA
  rw [hx, hy]
  obtain ⟨xn, ⟨x0, x1, x2, x3, x4, x5, x6, x7, x8, x9, xd⟩, xA, xc, xk⟩ := x
  obtain ⟨yn, ⟨y0, y1, y2, y3, y4, y5, y6, y7, y8, y9, yd⟩, yA, yc, yk⟩ := y
  have c0 : ∀ e : Ext w, e.W.cell? ⟨g, i * 13, none⟩ = some (.int .i64 xn) := fun e => ext_cell (ci 0 _ rfl) e
  have c1 : ∀ e : Ext w, e.W.cell? ⟨g, i * 13 + 1, none⟩ = some (.int .i64 x0) := fun e => ext_cell (ci 1 _ rfl) e
  have c2 : ∀ e : Ext w, e.W.cell? ⟨g, i * 13 + 2, none⟩ = some (.int .u32 x1) := fun e => ext_cell (ci 2 _ rfl) e
  have c3 : ∀ e : Ext w, e.W.cell? ⟨g, i * 13 + 3, none⟩ = some (.bool x2) := fun e => ext_cell (ci 3 _ rfl) e
  have c4 : ∀ e : Ext w, e.W.cell? ⟨g, i * 13 + 4, none⟩ = some (.bool x3) := fun e => ext_cell (ci 4 _ rfl) e
  have c5 : ∀ e : Ext w, e.W.cell? ⟨g, i * 13 + 5, none⟩ = some (.bool x4) := fun e => ext_cell (ci 5 _ rfl) e
  have c6 : ∀ e : Ext w, e.W.cell? ⟨g, i * 13 + 6, none⟩ = some (.bool x5) := fun e => ext_cell (ci 6 _ rfl) e
  have c7 : ∀ e : Ext w, e.W.cell? ⟨g, i * 13 + 7, none⟩ = some (.bool x6) := fun e => ext_cell (ci 7 _ rfl) e
  have c8 : ∀ e : Ext w, e.W.cell? ⟨g, i * 13 + 8, none⟩ = some (.int .u8 x7) := fun e => ext_cell (ci 8 _ rfl) e
  have c9 : ∀ e : Ext w, e.W.cell? ⟨g, i * 13 + 9, none⟩ = some (.int .u8 x8) := fun e => ext_cell (ci 9 _ rfl) e
  have c10 : ∀ e : Ext w, e.W.cell? ⟨g, i * 13 + 10, none⟩ = some (.int .u32 x9) := fun e => ext_cell (ci 10 _ rfl) e
  have c11 : ∀ e : Ext w, e.W.cell? ⟨g, i * 13 + 11, none⟩ = some (.slice xA xd.length xc) := fun e => ext_cell (ci 11 _ rfl) e
  have c12 : ∀ e : Ext w, e.W.cell? ⟨g, i * 13 + 12, none⟩ = some (.int .u64 xk) := fun e => ext_cell (ci 12 _ rfl) e
  have d0 : ∀ e : Ext w, e.W.cell? ⟨g, j * 13, none⟩ = some (.int .i64 yn) := fun e => ext_cell (cj 0 _ rfl) e
  have d1 : ∀ e : Ext w, e.W.cell? ⟨g, j * 13 + 1, none⟩ = some (.int .i64 y0) := fun e => ext_cell (cj 1 _ rfl) e
  have d2 : ∀ e : Ext w, e.W.cell? ⟨g, j * 13 + 2, none⟩ = some (.int .u32 y1) := fun e => ext_cell (cj 2 _ rfl) e
  have d3 : ∀ e : Ext w, e.W.cell? ⟨g, j * 13 + 3, none⟩ = some (.bool y2) := fun e => ext_cell (cj 3 _ rfl) e
  have d4 : ∀ e : Ext w, e.W.cell? ⟨g, j * 13 + 4, none⟩ = some (.bool y3) := fun e => ext_cell (cj 4 _ rfl) e
  have d5 : ∀ e : Ext w, e.W.cell? ⟨g, j * 13 + 5, none⟩ = some (.bool y4) := fun e => ext_cell (cj 5 _ rfl) e
  have d6 : ∀ e : Ext w, e.W.cell? ⟨g, j * 13 + 6, none⟩ = some (.bool y5) := fun e => ext_cell (cj 6 _ rfl) e
  have d7 : ∀ e : Ext w, e.W.cell? ⟨g, j * 13 + 7, none⟩ = some (.bool y6) := fun e => ext_cell (cj 7 _ rfl) e
  have d8 : ∀ e : Ext w, e.W.cell? ⟨g, j * 13 + 8, none⟩ = some (.int .u8 y7) := fun e => ext_cell (cj 8 _ rfl) e
  have d9 : ∀ e : Ext w, e.W.cell? ⟨g, j * 13 + 9, none⟩ = some (.int .u8 y8) := fun e => ext_cell (cj 9 _ rfl) e
  have d10 : ∀ e : Ext w, e.W.cell? ⟨g, j * 13 + 10, none⟩ = some (.int .u32 y9) := fun e => ext_cell (cj 10 _ rfl) e
  have d11 : ∀ e : Ext w, e.W.cell? ⟨g, j * 13 + 11, none⟩ = some (.slice yA yd.length yc) := fun e => ext_cell (cj 11 _ rfl) e
  have d12 : ∀ e : Ext w, e.W.cell? ⟨g, j * 13 + 12, none⟩ = some (.int .u64 yk) := fun e => ext_cell (cj 12 _ rfl) e
  generalize cmpQ _ _ = r at *
  dsimp only [qV] at *
  have H1 := Lib.hid HA
  clear h HA ci cj hx hy hg
  generalize l.length = n at *
  generalize xd.length = xm at *
  generalize yd.length = ym at *
  go_enter Try.func112, Try.ntmps112
  go_wp2_with fail
  refine wp_region_ext (by kernel_rfl) (by kernel_rfl) ?_
  repeat (go_big_quiet_step (first | (go_at_call 114; exact ecall (H1.out _))))
  refine wpQuiet_nil ?_
  rintro _ ⟨⟨w2, hb2⟩, rfl⟩
  go_wp2
  go_ret
  exact ⟨rfl, hb2⟩
end Go.Proofs.Ytlmdkmflbhnlgaa
