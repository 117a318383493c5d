/- What the law FdWires needs, part 3: words, walks and plain facts, each with its own head. No condition. -/
import Derived.Test.YtaknddanggdplaaZFdWires2
import Derived.Shelf.Abstract
import Derived.OrdersHeld
import Derived.Deep.Quiet
import Derived.StillTail
import Derived.LoopN
import Derived.Handy
-- Run: crc's kind.run: check sums by the table. No condition.
namespace Go.Proofs.Ytaknddanggdplaa
open Go.RowKit
attribute [local go_sem] Oper.semAt_some
theorem wpListIn_store_row {F : Fence} {n : Nat} {P : Program} {ops : Array Oper} {rest : List Oper} {o : Oper} {a : Act} {w : World} {Q : Exit → Act → World → Prop} (hgd : o.guard = none) (ty : TypeId) (x y : Operand) (ho : o.op = .store ty x y)
    (g : Nat) (cells : Array Value) (hx : a.eval x = .pointer (some ⟨g, 0, none⟩)) (hy : a.eval y = .agg cells)
    (t : TypeId) (old : Array Value) (hg : w.heap[g]? = some (.cells old t (0, 0))) (hi : (P.info? ty).map (·.size) = some cells.size)
    (hold : old.size = cells.size) (h1 : cells.all (·.oneCell') = true)
    (h : wpListIn F n P ops Q rest (a.put o.dst undef) (w.setRow g cells)) : wpListIn F n P ops Q (o :: rest) a w := by
  refine wpListIn_plain hgd fun K hK => ?_
  unfold Oper.wpIn
  refine ⟨?_, ?_⟩
  · simp [Oper.about, ho]
  · rw [Oper.semAt_plain F _ _ (by rw [ho]; intro c hc'; cases hc')]
    unfold execOp
    simp only [ho, hx, hy, Instr.storeAt, Instr.sureAddr, Sem.run_bind, Sem.run_pure, Result.andThen_ok, run_storeVar_row w g t ty old cells hg hi hold h1]
    exact hK _ _ h
/-- The x-th piece's bits. -/
def chunkL (l : List Nat) (sz x : Nat) : List Nat := (l.drop (sz * x)).take sz
theorem chunkL_length (l : List Nat) (sz x : Nat) : (chunkL l sz x).length = min sz (l.length - sz * x) := by simp [chunkL]
theorem chunkL_all (l : List Nat) (sz : Nat) : ∀ k, (List.range k).flatMap (chunkL l sz) = l.take (sz * k) := by
  intro k
  induction k with
  | zero => simp
  | succ k ih =>
    rw [List.range_succ, List.flatMap_append, ih, List.flatMap_singleton, Nat.mul_succ, List.take_add]
    rfl
theorem chunkL_mem (l : List Nat) (sz x : Nat) : ∀ y ∈ chunkL l sz x, y ∈ l := fun _ h => List.mem_of_mem_drop (List.mem_of_mem_take h)
theorem chunkL_rd {w : World} {b off : Nat} {l : List Nat} (h : Rd w (some ⟨b, off, none⟩) (bys l)) (sz x : Nat) : Rd w (some ⟨b, off + sz * x, none⟩) (bys (chunkL l sz x)) := by
  intro j u hj
  refine ⟨_, rfl, ?_⟩
  have hl : j < (chunkL l sz x).length := by have := (List.getElem?_eq_some_iff.1 hj).1; rwa [bys_length] at this
  have h2 : (bys l)[sz * x + j]? = some u := by
    rw [← hj]
    unfold bys chunkL
    rw [chunkL_length] at hl
    simp [List.getElem?_map, List.getElem?_drop, show j < sz by omega]
  obtain ⟨ad, e, hc⟩ := h _ _ h2
  injection e with e
  subst e
  rw [← hc]
  congr 1
  unfold Addr.add
  by_cases h0 : j = 0
  · subst h0
    by_cases h1 : sz * x = 0 <;> simp [h1]
  · simp [h0, Nat.add_assoc]
theorem name_world {F : Fence} {n : Nat} {P : Program} {cd : Code} {Q : Exit → Act → World → Prop} {a : Act} {W : World} {T : World → Prop} (hT : T W) (h : ∀ W0, T W0 → cd.wpIn F n P Q a W0) : cd.wpIn F n P Q a W := h W hT
theorem grown_keep {B b : Nat} {W W' : World} {row : Option Nat} (hg : W.grownBy W' row) (hB : B ≤ W.heap.size) (hr : ∀ r, row = some r → B ≤ r) : Keep B b W W' :=
  ⟨hg.os, hg.tape, hg.output, hg.size, fun k hk _ => hg.block k (by omega) (fun e => by have := hr k e.symm; omega)⟩
theorem ownFrom_keep {β : Type} {B b : Nat} {w0 : World} (h : B ≤ w0.heap.size) : OwnFrom B (fun (_ : β) W => Keep B b w0 W) :=
  fun _ _ _ _ hs hg hr => hs.trans (grown_keep hg (Nat.le_trans h hs.size) (fun r e => (hr r e).1))
theorem ownFrom_heap {β : Type} {B g : Nat} (f : β → Obj) (hg : g < B) : OwnFrom B (fun s W => W.heap[g]? = some (f s)) :=
  fun _ _ _ _ hs hgr hr => (hgr.block g (heap_lt hs) (fun e => by have := (hr g e.symm).1; omega)).trans hs
theorem ownFrom_fact {β : Type} {B : Nat} (p : β → Prop) : OwnFrom B (fun s _ => p s) := fun _ _ _ _ hs _ _ => hs
theorem keepsFrom_below {B : Nat} {W W' : World} (h : Below W.heap.size W W') : KeepsFrom B W W' :=
  ⟨h.size, fun k _ _ hk _ => (h.block k (heap_lt hk)).trans hk⟩
theorem Keep.setRow {B b : Nat} {w w' : World} (h : Keep B b w w') (g : Nat) (hB : B ≤ g) (cs : Array Value) : Keep B b w (w'.setRow g cs) :=
  ⟨h.os, h.tape, h.output, by rw [setRow_size]; exact h.size, fun k hk h1 => by rw [setRow_other _ _ _ _ (by omega)]; exact h.block k hk h1⟩
theorem below_setRow {B : Nat} {w w' : World} (h : Below B w w') (g : Nat) (hB : B ≤ g) (cs : Array Value) : Below B w (w'.setRow g cs) :=
  ⟨h.os, h.tape, h.output, by rw [setRow_size]; exact h.size, fun k hk => by rw [setRow_other _ _ _ _ (by omega)]; exact h.block k hk⟩
set_option maxRecDepth 100000 in
set_option maxHeartbeats 4000000 in
theorem run_any (size poly start sum : Nat) (b off n c : Nat) (A : Option Addr) (hA : A = some ⟨b, off, none⟩ ∨ n = 0) (l : List Nat) (w : World) (h4 : 4 ≤ size) (h32 : size ≤ 32) (hp : poly < 2 ^ size) (hs : sum < 2 ^ size) (hr : Rd w A (bys l)) (hn : l.length = n) (hn2 : n ≤ 1000000) (hc1 : n ≤ c) (hc2 : c ≤ 9223372036854775807) (h01 : ∀ x ∈ l, x ≤ 1) :
    Calls Try.prog 116 #[kindV size poly start, .int .u64 sum, .slice A n c] w fun e w' => e = .returned (.int .u64 (crcN size poly sum l : Nat)) ∧ Below w.heap.size w w' := by
  have HT := Lib.hid (fun W => table_any size poly start W h4 h32 hp)
  obtain ⟨cs, hcs⟩ : ∃ cs, (tabV size poly 16).toArray = cs := ⟨_, rfl⟩
  rw [hcs] at HT
  have hi : (Try.prog.info? 140).map (·.size) = some cs.size := by
    have : (Try.prog.info? 140).map (·.size) = some 16 := by kernel_rfl
    rw [this, ← hcs]; simp [tabV_length]
  have hcz : (#[Value.int IntKind.u64 0, Value.int IntKind.u64 0, Value.int IntKind.u64 0, Value.int IntKind.u64 0, Value.int IntKind.u64 0, Value.int IntKind.u64 0, Value.int IntKind.u64 0, Value.int IntKind.u64 0, Value.int IntKind.u64 0, Value.int IntKind.u64 0, Value.int IntKind.u64 0, Value.int IntKind.u64 0, Value.int IntKind.u64 0, Value.int IntKind.u64 0, Value.int IntKind.u64 0, Value.int IntKind.u64 0] : Array Value).size = cs.size := by rw [← hcs]; simp [tabV_length]
  have h1 : cs.all (·.oneCell') = true := by rw [← hcs]; simp [tabV]; intros; rfl
  have HCS := Lib.hid hcs
  have HI := Lib.hid hi
  have HCZ := Lib.hid hcz
  have H1 := Lib.hid h1
  have HP := Lib.hid hp
  have HS := Lib.hid hs
  have HR := Lib.hid hr
  have HN := Lib.hid hn
  have H01 := Lib.hid h01
  have HA := Lib.hid hA
  clear hcs hi hcz h1 hp hs hr hn h01 hA
  refine (callsIn_wide (n := 5)).1 ?_
  refine callsIn_of_wp_marks Try.func116 rfl trivial ?_ rfl
  simp only [Try.ntmps116, List.size_toArray, List.length_cons, List.length_nil, Nat.reduceAdd, Nat.reduceSub, Array.replicate_succ, Array.replicate_zero, List.push_toArray, List.append_toArray, List.nil_append, List.cons_append]
  gi_wp2_with (first
    | (refine ⟨trivial, ?_⟩; gi_at_call 120; refine (callsIn_wide.2 (HT.out _)).mono ?_; rintro e w1 ⟨rfl, hb1⟩; have HB1 := Lib.hid hb1; clear hb1)
    | (with_reducible refine wpListIn_store_row rfl 140 (.tmp 7) (.tmp 13) rfl w1.heap.size cs rfl rfl 140 #[Value.int IntKind.u64 0, Value.int IntKind.u64 0, Value.int IntKind.u64 0, Value.int IntKind.u64 0, Value.int IntKind.u64 0, Value.int IntKind.u64 0, Value.int IntKind.u64 0, Value.int IntKind.u64 0, Value.int IntKind.u64 0, Value.int IntKind.u64 0, Value.int IntKind.u64 0, Value.int IntKind.u64 0, Value.int IntKind.u64 0, Value.int IntKind.u64 0, Value.int IntKind.u64 0, Value.int IntKind.u64 0] (heap_new_at rfl) HI.out HCZ.out H1.out ?_)
    | (refine ⟨trivial, ?_⟩; gi_at_call 121; refine (callsIn_wide.2 (Chunk_any A n c 4 _ (by omega) (by omega))).mono ?_; rintro e _ ⟨rfl, rfl⟩))
  obtain ⟨g, hg⟩ : ∃ g, w.heap.size = g := ⟨_, rfl⟩
  obtain ⟨q, hq⟩ : ∃ q, w1.heap.size = q := ⟨_, rfl⟩
  have HG := Lib.hid hg
  have HQ := Lib.hid hq
  have hgq : g + 1 + 1 < q := by
    have h1 := HB1.out.size
    simp at h1
    omega
  refine name_world (T := fun W0 => W0.heap[g]? = some (.cells #[.int .i64 size, .int .u64 poly, .int .u64 start] 118) ∧ W0.heap[g + 1]? = some (.cells #[.int .u64 sum] 67) ∧ W0.heap[g + 1 + 1]? = some (.cells #[.int .u64 0] 67) ∧ W0.heap[q]? = some (.cells cs 140) ∧
    W0.heap[q + 1]? = some (.cells #[.slice A n c] 23) ∧ W0.heap[q + 1 + 1]? = some (.cells #[.int .i64 4] 3) ∧ W0.heap.size = q + 1 + 1 + 1 ∧ Below g w W0) ?_ ?_
  · have e1 : ((w.alloc (.cells #[.int .i64 size, .int .u64 poly, .int .u64 start] 118)).alloc (.cells #[.int .u64 sum] 67)).heap.size = g + 1 + 1 := by simp [hg]
    have k0 := heap_below HB1.out (heap_push (heap_push (heap_new_at (w := w) (o := .cells #[.int .i64 size, .int .u64 poly, .int .u64 start] 118) hg.symm)))
    have k1 := heap_below HB1.out (heap_push (heap_new_at (g := g + 1) (w := w.alloc (.cells #[.int .i64 size, .int .u64 poly, .int .u64 start] 118)) (o := .cells #[.int .u64 sum] 67) (by simp [hg])))
    have k2 := heap_below HB1.out (heap_new_at (g := g + 1 + 1) (w := (w.alloc (.cells #[.int .i64 size, .int .u64 poly, .int .u64 start] 118)).alloc (.cells #[.int .u64 sum] 67)) (o := .cells #[.int .u64 0] 67) (by rw [e1]))
    refine ⟨?_, ?_, ?_, ?_, ?_, ?_, ?_, ?_⟩
    · refine heap_push (heap_push ?_)
      rw [setRow_other _ _ _ _ (by omega)]
      exact heap_push k0
    · refine heap_push (heap_push ?_)
      rw [setRow_other _ _ _ _ (by omega)]
      exact heap_push k1
    · refine heap_push (heap_push ?_)
      rw [setRow_other _ _ _ _ (by omega)]
      exact heap_push k2
    · refine heap_push (heap_push ?_)
      rw [hq]
      exact setRow_heap _ _ _ _ _ _ (heap_new_at hq.symm)
    · exact heap_push (heap_new_at (by simp [hq]))
    · exact heap_new_at (by simp [hq])
    · simp [hq]
    · have b1 : Below g w w1 := ((((Below.refl g w).alloc (by omega) _).alloc (by simp; omega) _).alloc (by simp; omega) _).trans (HB1.out.mono (by simp; omega))
      exact ((below_setRow (b1.alloc (by omega) _) _ (by omega) _).alloc (by simp; omega) _).alloc (by simp; omega) _
  rw [hg, hq]
  clear hg hq HB1
  rintro W0 ⟨f0, f1, f2, f3, f4, f5, fs, fb⟩
  have F0 := Lib.hid f0
  have F1 := Lib.hid f1
  have F2 := Lib.hid f2
  have F3 := Lib.hid f3
  have FS := Lib.hid fs
  have FB := Lib.hid fb
  refine wpIn_rangeFunc_ownG rfl (by omega) (gf := 125) (lb := #[.pointer (some ⟨q + 1, 0, none⟩), .pointer (some ⟨q + 1 + 1, 0, none⟩)]) rfl trivial (enters_of Try.func125 (by kernel_rfl) rfl)
    (chunk_stops (5 - 1) (by omega) (q + 1) (q + 1 + 1) W0.heap.size (g + 1) b off n c 4 A HA.out (by omega) (by omega) hn2 hc1 hc2 (by omega) (by omega) W0 (cell_of_heap f4 0 _ rfl) (cell_of_heap f5 0 _ rfl))
    (fun h k => h.trans k) (fun W j o o' hj ho _ _ => grown_keep (grownBy_putObj' W j o') (by have := heap_lt ho; omega) (fun r e => by cases e; exact hj)) (Below.refl _ _) (fun _ => rfl)
    (fun pre W => Keep W0.heap.size (g + 1) W0 W ∧ W.heap[g + 1]? = some (.cells #[.int .u64 (crcN size poly sum (pre.flatMap (chunkL l 4)) : Nat)] 67))
    (fun cd pre W => (cd = .ret ∧ ∃ ini x, pre = ini ++ [x] ∧ n - 4 * x < 4) ∧ W.heap[g + 1 + 1]? = some (.cells #[.int .u64 (crcN size poly sum (pre.flatMap (chunkL l 4)) : Nat)] 67) ∧ Below g w W)
    (OwnFrom.and (ownFrom_keep (Nat.le_refl _)) (ownFrom_heap _ (by omega)))
    (fun cd => OwnFrom.and (ownFrom_fact _) (OwnFrom.and (ownFrom_heap _ (by omega)) (ownFrom_below (by rw [HG.out]; exact Nat.le_refl _) (by omega))))
    ⟨Keep.refl _ _ _, f1⟩
    (fun x => { tmps := #[kindV size poly start, .int .u64 sum, .slice A n c, .pointer (some ⟨g, 0, none⟩), .pointer (some ⟨g + 1, 0, none⟩), undef, .pointer (some ⟨g + 1 + 1, 0, none⟩), .pointer (some ⟨q, 0, none⟩), chunkV b off n 4 x, undef, undef, undef, .agg #[.int .i64 size, .int .u64 poly, .int .u64 start], .agg cs, .slice A n c,
      .func (.func 125) #[] #[.pointer (some ⟨q + 1, 0, none⟩), .pointer (some ⟨q + 1 + 1, 0, none⟩)], chunkV b off n 4 x, undef, undef, undef, undef, undef, undef, undef, undef, undef, undef, undef, undef, undef, undef, undef, undef, undef, undef, undef, undef, undef, undef, undef, undef, undef, undef, undef, undef, undef, undef, undef, undef], defers := [] }) ?assign ?body ?done ?stop
  case assign =>
    intro j x W K hK
    gi_wp2
    exact hK
  case body =>
    rintro lp pre x W ⟨hKp, hsum⟩ _
    have a0 : W.cell? ⟨g, 0, none⟩ = some (.int .i64 size) := cell_of_heap (hKp.heap F0.out (by omega) (by omega)) 0 _ rfl
    have a1 : W.cell? ⟨g, 1, none⟩ = some (.int .u64 poly) := cell_of_heap (hKp.heap F0.out (by omega) (by omega)) 1 _ rfl
    have a2 : W.cell? ⟨g, 2, none⟩ = some (.int .u64 start) := cell_of_heap (hKp.heap F0.out (by omega) (by omega)) 2 _ rfl
    have hres := hKp.heap F2.out (by omega) (by omega)
    have htab := hKp.heap F3.out (by omega) (by omega)
    have hbel : Below g w W := FB.out.trans (hKp.below (by omega) (by omega))
    have hsz : q + 1 + 1 + 1 ≤ W.heap.size := by rw [← FS.out]; exact hKp.size
    obtain ⟨s, hsv⟩ : ∃ s, crcN size poly sum (pre.flatMap (chunkL l 4)) = s := ⟨_, rfl⟩
    have hslt : s < 2 ^ size := by rw [← hsv]; exact crcN_lt size poly _ HP.out sum HS.out
    have hnext : crcN size poly sum ((pre ++ [x]).flatMap (chunkL l 4)) = crcN size poly s (chunkL l 4 x) := by
      rw [List.flatMap_append, crcN_append, hsv, List.flatMap_singleton]
    rw [hsv] at hsum
    have b0 : W.cell? ⟨g + 1, 0, none⟩ = some (.int .u64 s) := cell_of_heap hsum 0 _ rfl
    have hlenc : (chunkL l 4 x).length = min 4 (n - 4 * x) := by rw [chunkL_length, HN.out]
    have hrd : ∀ W2, Below W.heap.size W W2 → 0 < min 4 (n - 4 * x) → Rd W2 (some ⟨b, off + 4 * x, none⟩) (bys (chunkL l 4 x)) := by
      intro W2 hW2 hpos
      have hA2 : A = some ⟨b, off, none⟩ := by
        rcases HA.out with e | e
        · exact e
        · omega
      have h1 := HR.out.below (w' := W) (by rw [HG.out]; exact hbel)
      rw [hA2] at h1
      exact (chunkL_rd h1 4 x).below hW2
    have h01c : ∀ y ∈ chunkL l 4 x, y ≤ 1 := fun y hy => H01.out y (chunkL_mem l 4 x y hy)
    have HSV := Lib.hid hsv
    have HNX := Lib.hid hnext
    have HKP := Lib.hid hKp
    have HSUM := Lib.hid hsum
    have HRES := Lib.hid hres
    have HTAB := Lib.hid htab
    have HBEL := Lib.hid hbel
    have HLC := Lib.hid hlenc
    have HRD := Lib.hid hrd
    have H01C := Lib.hid h01c
    have HSLT := Lib.hid hslt
    clear hsv hnext hKp hsum hres htab hbel hlenc hrd h01c f1 f2 f3 f4 f5 fs fb f0 hslt
    by_cases hm : n - 4 * x < 4
    · have hmin : min 4 (n - 4 * x) = n - 4 * x := Nat.min_eq_right (by omega)
      have hall : ∀ W2, W2 = W → Calls Try.prog 122 #[.int .u64 s, .slice (some ⟨b, off + 4 * x, none⟩) (n - 4 * x) (n - 4 * x), .func (.func 123) #[kindV size poly start] #[]] W2 fun e w' => e = .returned (.int .u64 (crcN size poly s (chunkL l 4 x) : Nat)) ∧ Below W2.heap.size W2 w' := by
        rintro W2 rfl
        by_cases h0 : 0 < n - 4 * x
        · exact all_any size poly start s _ _ _ (chunkL l 4 x) W2 h4 h32 HP.out HSLT.out (HRD.out W2 (Below.refl _ _) (by omega)) (by rw [HLC.out]; omega) (by omega) H01C.out
        · have e0 : chunkL l 4 x = [] := List.eq_nil_of_length_eq_zero (by rw [HLC.out]; omega)
          exact all_any size poly start s _ _ _ (chunkL l 4 x) W2 h4 h32 HP.out HSLT.out (by rw [e0]; exact Rd.nil _ _) (by rw [e0]; simp; omega) (by omega) H01C.out
      have HALL := Lib.hid (hall W rfl)
      have HM := Lib.hid hmin
      have hlt4 : ((n - 4 * x : Nat) : Int) < 4 := by omega
      clear hall hmin
      dsimp only [chunkV]
      rw [HM.out]
      gi_wp2_with (refine ⟨trivial, ?_⟩; gi_at_call 122; refine (CallsIn.inRound lp (callsIn_wide.2 HALL.out)).mono ?_; rintro e w2 ⟨rfl, hb2⟩; have r0 : w2.cell? ⟨g + 1 + 1, 0, none⟩ = some (.int .u64 0) := Below.cell_of hb2 (cell_of_heap HRES.out 0 _ rfl); have z0 : w2.frozen? ⟨g + 1 + 1, 0, none⟩ = false := (by simp [World.frozen?, heap_below hb2 HRES.out]); have HB2 := Lib.hid hb2; clear hb2)
      refine ⟨(keepsFrom_below HB2.out).trans ((KeepsOthers.setCell _ _ _).from _), ⟨rfl, pre, x, rfl, hm⟩, ?_, (HBEL.out.trans (HB2.out.mono (by omega))).setCell (p := ⟨g + 1 + 1, 0, none⟩) (by show g ≤ g + 1 + 1; omega) _⟩
      rw [heap_setCell (heap_below HB2.out HRES.out) 0 _, HNX.out]
      rfl
    · have hmin : min 4 (n - 4 * x) = 4 := Nat.min_eq_left (by omega)
      have hl4 : (chunkL l 4 x).length = 4 := by rw [HLC.out]; exact hmin
      have hget := Get_any W (some ⟨b, off + 4 * x, none⟩) 4 4 (chunkL l 4 x) (HRD.out W (Below.refl _ _) (by omega)) hl4 (by omega) H01C.out
      have hN := numN_lt (chunkL l 4 x) H01C.out
      rw [hl4] at hN
      have hcr := crcN_four size poly s h4 HSLT.out (chunkL l 4 x) hl4 H01C.out
      have hpw := pow32 h32
      have hslt' := HSLT.out
      obtain ⟨p4, hp4⟩ : ∃ p4, size - 4 = p4 := ⟨_, rfl⟩
      have hhi : s / 2 ^ p4 < 16 := by
        refine Nat.div_lt_of_lt_mul ?_
        obtain rfl : size = p4 + 4 := by omega
        rw [Nat.pow_add] at hslt'
        exact hslt'
      have hxlt : (s / 2 ^ p4) ^^^ numN (chunkL l 4 x) < 16 := Nat.xor_lt_two_pow (n := 4) hhi hN
      have hxor1 : bits .xor .u64 ((s : Int) / 2 ^ p4) ((numN (chunkL l 4 x) : Nat) : Int) = (((s / 2 ^ p4) ^^^ numN (chunkL l 4 x) : Nat) : Int) := by
        have e : ((s : Int) / 2 ^ p4) = ((s / 2 ^ p4 : Nat) : Int) := by simp
        rw [e]; exact u64_xor_nat _ _ (by omega) (by omega)
      have hmin64 : min p4 64 = p4 := Nat.min_eq_left (by omega)
      have hs4 : IntKind.i64.wrap ((size : Int) - 4) = (p4 : Int) := by rw [IntWalk.i64_in _ (by omega)]; omega
      have hmask : bits .and .u64 (IntKind.u64.wrap ((s : Int) * 16)) (IntKind.u64.wrap (IntKind.u64.wrap (2 ^ size) - 1)) = ((s * 16 % 2 ^ size : Nat) : Int) := by
        have e : IntKind.u64.wrap ((s : Int) * 16) = ((s * 16 : Nat) : Int) := by rw [IntWalk.u64_in _ ⟨by omega, by omega⟩]; omega
        rw [e, mask_u64 size _ h32 (by omega)]
      have htlt : tabN size poly ((s / 2 ^ p4) ^^^ numN (chunkL l 4 x)) < 2 ^ size := by
        refine crcN_lt size poly _ HP.out _ ?_
        rw [hp4]
        obtain rfl : size = p4 + 4 := by omega
        rw [Nat.pow_add]
        have h0 : 0 < 2 ^ p4 := Nat.two_pow_pos _
        have := Nat.mul_lt_mul_of_pos_right hxlt h0
        omega
      have hmlt : s * 16 % 2 ^ size < 2 ^ size := Nat.mod_lt _ (Nat.two_pow_pos _)
      have hxor2 : bits .xor .u64 ((s * 16 % 2 ^ size : Nat) : Int) ((tabN size poly ((s / 2 ^ p4) ^^^ numN (chunkL l 4 x)) : Nat) : Int) = ((s * 16 % 2 ^ size ^^^ tabN size poly ((s / 2 ^ p4) ^^^ numN (chunkL l 4 x)) : Nat) : Int) := u64_xor_nat _ _ (by omega) (by omega)
      rw [hp4] at hcr
      have hcell : cs[(s / 2 ^ p4) ^^^ numN (chunkL l 4 x)]? = some (.int .u64 (tabN size poly ((s / 2 ^ p4) ^^^ numN (chunkL l 4 x)) : Nat)) := by
        rw [← HCS.out]; simp [tabV, hxlt]
      obtain ⟨N, hNe⟩ : ∃ N, numN (chunkL l 4 x) = N := ⟨_, rfl⟩
      rw [hNe] at hget hN hcr hxlt hxor1 htlt hxor2 hcell
      obtain ⟨hi, hhie⟩ : ∃ hi, (s / 2 ^ p4) ^^^ N = hi := ⟨_, rfl⟩
      rw [hhie] at hcr hxlt hxor1 htlt hxor2 hcell
      obtain ⟨T, hTe⟩ : ∃ T, tabN size poly hi = T := ⟨_, rfl⟩
      rw [hTe] at hcr htlt hxor2 hcell
      obtain ⟨M, hMe⟩ : ∃ M, s * 16 % 2 ^ size = M := ⟨_, rfl⟩
      rw [hMe] at hmask hmlt hcr hxor2
      have HGET := Lib.hid hget
      have HM := Lib.hid hmin
      have HCR := Lib.hid hcr
      have HCELL := Lib.hid hcell
      have HFACT : Hid (hs4 = hs4) := rfl
      clear hget hmin hcr hNe hhie hTe hMe hslt' htlt hmlt hpw hhi hN hl4 hcell hp4 HFACT
      have hi16 : (hi : Int) < 16 := by omega
      have hi0 : (0 : Int) ≤ (hi : Int) := by omega
      have hm4 : ¬ (4 : Int) < 4 := by omega
      dsimp only [chunkV]
      rw [HM.out]
      gi_wp2_with (refine ⟨trivial, ?_⟩; gi_at_call 124; refine (CallsIn.inRound lp (callsIn_wide.2 HGET.out)).mono ?_; rintro e w2 ⟨rfl, hb2⟩; have a0' := Below.cell_of hb2 a0; have b0' := Below.cell_of hb2 b0; have z0 : w2.frozen? ⟨g + 1, 0, none⟩ = false := (by simp [World.frozen?, heap_below hb2 HSUM.out]); have t0 : w2.cell? ⟨q, hi, none⟩ = some (.int .u64 T) := Below.cell_of hb2 (cell_of_heap HTAB.out hi _ HCELL.out); have HB2 := Lib.hid hb2; clear hb2)
      refine wpIn_region_still_tail 11 (by kernel_rfl) (by kernel_rfl) (by kernel_rfl) ?_
      simp only [List.take_succ_cons, List.take_zero, List.drop_succ_cons, List.drop_zero]
      repeat still_step
      refine wpStill_nil ?_
      gi_wp2
      have hk1 : Keep W0.heap.size (g + 1) W ((w2.setCell ⟨g + 1, 0, none⟩ (.int .u64 ((M ^^^ T : Nat) : Int))).drew) := ((Keep.of HB2.out HKP.out.size).setCell (p := ⟨g + 1, 0, none⟩) (.inl rfl) _).drew
      refine ⟨((keepsFrom_below HB2.out).trans ((KeepsOthers.setCell _ _ _).from _)).trans ((KeepsOthers.drew _).from _), hk1, HKP.out.trans hk1, ?_⟩
      rw [HNX.out, HCR.out]
      show (w2.setCell _ _).heap[g + 1]? = _
      rw [heap_setCell (heap_below HB2.out HSUM.out) 0 _]
      rfl
  case done =>
    rintro D ys W hD rfl ⟨hKp, hsum⟩ hKd
    have hall : crcN size poly sum ((List.range (nchN n 4)).flatMap (chunkL l 4)) = crcN size poly sum l := by
      rw [chunkL_all, List.take_of_length_le]
      rw [HN.out]; exact (nchN_spec n 4 (by omega)).2
    rw [hall] at hsum
    have HALL := Lib.hid hall
    obtain ⟨r, hr⟩ : ∃ r, crcN size poly sum l = r := ⟨_, rfl⟩
    rw [hr] at hsum
    have HRV := Lib.hid hr
    have b0 : W.cell? ⟨g + 1, 0, none⟩ = some (.int .u64 r) := cell_of_heap hsum 0 _ rfl
    have hres := hKp.heap F2.out (by omega) (by omega)
    have r0 : W.cell? ⟨g + 1 + 1, 0, none⟩ = some (.int .u64 0) := cell_of_heap hres 0 _ rfl
    have z0 : W.frozen? ⟨g + 1 + 1, 0, none⟩ = false := by simp [World.frozen?, hres]
    have hbel : Below g w W := FB.out.trans (hKp.below (by omega) (by omega))
    have HRES := Lib.hid hres
    have HBEL := Lib.hid hbel
    have HKD := Lib.hid hKd
    clear hall hr hsum hres hbel hKd f0 f1 f2 f3 f4 f5 fs fb
    gi_wp2
    have hK' := (KeepsOthers.setCell W ⟨g + 1 + 1, 0, none⟩ (.int .u64 r)).same D _ HKD.out rfl
    refine ⟨by simp, .inl ⟨_, _, rfl, run_takeDeferred hK', ?_⟩⟩
    have hc5 := cell_kept (World.cell?_setCell_same' W ⟨g + 1 + 1, 0, none⟩ (.int .u64 r) (by rw [r0]; rfl)) (grownBy_putObj' _ D (.deferred none)) (fun r e => by cases e; exact ⟨_, hK', rfl⟩)
    refine ⟨.int .u64 r, by simp [results, Try.f116, go_sem, hc5], ⟨by rw [HRV.out], ?_⟩⟩
    rw [HG.out]
    exact (HBEL.out.setCell (p := ⟨g + 1 + 1, 0, none⟩) (by show g ≤ g + 1 + 1; omega) _).trans (belowK_b (w := W0) (by rw [FS.out]; omega) _ D _ _ hD hK' rfl rfl)
  case stop =>
    rintro D cd pre W hD ⟨k, hk, rfl⟩ ⟨⟨rfl, ini, x, e1, e2⟩, hres, hB⟩ hKd
    have hall : crcN size poly sum ((List.range k).flatMap (chunkL l 4)) = crcN size poly sum l := by
      rw [chunkL_all, List.take_of_length_le]
      rw [HN.out]
      cases k with
      | zero => simp at e1
      | succ k =>
        rw [List.range_succ] at e1
        have e3 := List.append_inj_right' e1 rfl
        simp at e3
        omega
    rw [hall] at hres
    obtain ⟨r, hr⟩ : ∃ r, crcN size poly sum l = r := ⟨_, rfl⟩
    rw [hr] at hres
    have HRV := Lib.hid hr
    have r0 : W.cell? ⟨g + 1 + 1, 0, none⟩ = some (.int .u64 r) := cell_of_heap hres 0 _ rfl
    have HBEL := Lib.hid hB
    have HKD := Lib.hid hKd
    clear hall hr hres hB hKd f0 f1 f2 f3 f4 f5 fs fb e1
    gi_wp2
    have hK' := HKD.out
    refine ⟨by simp, .inl ⟨_, _, rfl, run_takeDeferred hK', ?_⟩⟩
    have hc5 := cell_kept r0 (grownBy_putObj' _ D (.deferred none)) (fun r e => by cases e; exact ⟨_, hK', rfl⟩)
    refine ⟨.int .u64 r, by simp [results, Try.f116, go_sem, hc5], ⟨by rw [HRV.out], ?_⟩⟩
    rw [HG.out]
    exact HBEL.out.trans (belowK_b (w := W0) (by rw [FS.out]; omega) _ D _ _ hD hK' rfl rfl)
end Go.Proofs.Ytaknddanggdplaa
-- Add: crc.More, crc.Sum, crc.Size, crc.Add. No condition.
namespace Go.Proofs.Ytaknddanggdplaa
open Go.RowKit
/-- A kind of sums: its size, its polynomial, its start. -/
structure OfK (k : Int) (size poly start : Nat) : Prop where
  call : ∀ W : World, Calls Try.prog 104 #[.int .i64 k] W fun e w' => e = .returned (kindV size poly start) ∧ Below W.heap.size W w'
  h4 : 4 ≤ size
  h32 : size ≤ 32
  poly : poly < 2 ^ size
  start : start < 2 ^ size
set_option maxRecDepth 100000 in
theorem of_1 : OfK 1 15 17817 0 := by
  refine ⟨fun W => ?_, by decide, by decide, by decide, by decide⟩
  go_enter Try.func104, Try.ntmps104
  go_wp2
  exact bodyPost_ret (v := .agg #[.int .i64 15, .int .u64 17817, .int .u64 0]) (by simp [results, Try.results104, go_sem]) rfl ⟨rfl, below_alloc (below_alloc (Below.refl _ _) _) _⟩
theorem field_kind (size poly start : Nat) (w : World) : Sem.run Try.prog (Instr.field 118 (kindV size poly start) 0) w = .ok (.int .i64 size) w := by kernel_rfl
theorem field_kind2 (size poly start : Nat) (w : World) : Sem.run Try.prog (Instr.field 118 (kindV size poly start) 2) w = .ok (.int .u64 start) w := by kernel_rfl
theorem Size_any {k : Int} {size poly start : Nat} (h : OfK k size poly start) (w : World) : Calls Try.prog 74 #[.int .i64 k] w fun e w' => e = .returned (.int .i64 size) ∧ Below w.heap.size w w' := by
  have HO := Lib.hid h.call
  have hf := field_kind size poly start
  clear h
  go_enter Try.func74, Try.ntmps74
  go_wp2_with fail
  refine (HO.out _).mono ?_
  rintro e w1 ⟨rfl, hb⟩
  have HB := Lib.hid hb
  clear hb
  go_wp2_with fail
  go_ret
  exact ⟨rfl, HB.out⟩
set_option maxRecDepth 100000 in
set_option maxHeartbeats 1000000 in
theorem More_any {k : Int} {size poly start : Nat} (h : OfK k size poly start) (sum b off n c : Nat) (A : Option Addr) (hA : A = some ⟨b, off, none⟩ ∨ n = 0) (l : List Nat) (w : World) (hs : sum < 2 ^ size) (hr : Rd w A (bys l)) (hn : l.length = n) (hn2 : n ≤ 65536) (hc1 : n ≤ c) (hc2 : c ≤ 9223372036854775807) (h01 : ∀ x ∈ l, x ≤ 1) :
    Calls Try.prog 112 #[.int .i64 k, .int .u64 sum, .slice A n c] w fun e w' => e = .returned (.tuple #[.int .u64 (crcN size poly sum l : Nat), .int .i64 0]) ∧ Below w.heap.size w w' := by
  have hok : bitsOk l = true := by unfold bitsOk; rw [decide_eq_true (by omega : l.length ≤ 65536), decide_eq_true h01]; rfl
  have hC := fun (W : World) (hW : Rd W A (bys l)) => BitsCheck_any A n c l W hW hn (by omega)
  simp only [hok, if_true] at hC
  have hrun := fun (W : World) (hW : Rd W A (bys l)) => run_any size poly start sum b off n c A hA l W h.h4 h.h32 h.poly hs hW hn (by omega) hc1 hc2 h01
  have HC := Lib.hid hC
  have HRUN := Lib.hid hrun
  have HO := Lib.hid h.call
  have HR := Lib.hid hr
  obtain ⟨r, hre⟩ : ∃ r, crcN size poly sum l = r := ⟨_, rfl⟩
  rw [hre] at HRUN ⊢
  have hz : ((size : Int) == 0) = false := by have := h.h4; rw [beq_eq_false_iff_ne]; omega
  have hdiv : (sum : Int) / 2 ^ min size 64 = 0 := by
    rw [Nat.min_eq_left (by have := h.h32; omega)]
    have e : (sum : Int) / 2 ^ size = ((sum / 2 ^ size : Nat) : Int) := by simp
    rw [e, Nat.div_eq_of_lt hs]; rfl
  have hdiv2 : (sum : Int) / 2 ^ size = 0 := by
    have e : (sum : Int) / 2 ^ size = ((sum / 2 ^ size : Nat) : Int) := by simp
    rw [e, Nat.div_eq_of_lt hs]; rfl
  have hs32 : size ≤ 32 := h.h32
  clear hok hC hrun hr hre h01 hA hs h
  go_enter Try.func112, Try.ntmps112
  go_wp2_with fail
  refine (HO.out _).mono ?_
  rintro e w1 ⟨rfl, hb⟩
  have HB := Lib.hid hb
  clear hb
  go_wp2_with fail
  refine (HC.out _ ((HR.out.below HB.out).alloc _)).mono ?_
  rintro e _ ⟨rfl, rfl⟩
  go_wp2_with fail
  refine (HRUN.out _ ((HR.out.below HB.out).alloc _)).mono ?_
  rintro e w2 ⟨rfl, hb2⟩
  have HB2 := Lib.hid hb2
  clear hb2
  go_wp2_with fail
  go_ret2
  exact ⟨rfl, below_trans (below_alloc HB.out _) HB2.out⟩
set_option maxHeartbeats 1000000 in
theorem Sum_any {k : Int} {size poly start : Nat} (h : OfK k size poly start) (b off n c : Nat) (A : Option Addr) (hA : A = some ⟨b, off, none⟩ ∨ n = 0) (l : List Nat) (w : World) (hr : Rd w A (bys l)) (hn : l.length = n) (hn2 : n ≤ 65536) (hc1 : n ≤ c) (hc2 : c ≤ 9223372036854775807) (h01 : ∀ x ∈ l, x ≤ 1) :
    Calls Try.prog 96 #[.int .i64 k, .slice A n c] w fun e w' => e = .returned (.tuple #[.int .u64 (crcN size poly start l : Nat), .int .i64 0]) ∧ Below w.heap.size w w' := by
  have hM := fun (W : World) (hW : Rd W A (bys l)) => More_any h start b off n c A hA l W h.start hW hn hn2 hc1 hc2 h01
  obtain ⟨r, hre⟩ : ∃ r, crcN size poly start l = r := ⟨_, rfl⟩
  rw [hre]
  simp only [hre] at hM
  have HM := Lib.hid hM
  have HO := Lib.hid h.call
  have HR := Lib.hid hr
  have hf := field_kind2 size poly start
  clear hr hM hA h01 h hre
  go_enter Try.func96, Try.ntmps96
  go_wp2_with fail
  refine (HO.out _).mono ?_
  rintro e w1 ⟨rfl, hb⟩
  have HB := Lib.hid hb
  clear hb
  go_wp2_with fail
  refine (HM.out _ (HR.out.below HB.out)).mono ?_
  rintro e w2 ⟨rfl, hb2⟩
  have HB2 := Lib.hid hb2
  clear hb2
  go_wp2_with fail
  go_ret2
  exact ⟨rfl, below_trans HB.out HB2.out⟩
/-- Bits with their sum behind. -/
def addN (size poly start : Nat) (l : List Nat) : List Nat := l ++ bitsN (crcN size poly start l) size
set_option maxRecDepth 100000 in
set_option maxHeartbeats 2000000 in
theorem Add_any {k : Int} {size poly start : Nat} (h : OfK k size poly start) (b off n c N : Nat) (A : Option Addr) (hA : A = some ⟨b, off, none⟩ ∨ n = 0) (l : List Nat) (w : World) (hr : Rd w A (bys l)) (hnil : A = none → c = 0) (hn : l.length = n) (hn2 : n ≤ 65536) (hc1 : n ≤ c) (hc2 : c ≤ 9223372036854775807) (h01 : ∀ x ∈ l, x ≤ 1) (hN : n + size = N) :
    Calls Try.prog 91 #[.int .i64 k, .slice A n c] w fun e w' => (∃ A' c', e = .returned (.tuple #[.slice A' N c', .int .i64 0]) ∧ Row w' w.heap.size 5 A' c' (bys (addN size poly start l))) ∧ Below w.heap.size w w' := by
  have hS := Sum_any h b off n c A hA l w hr hn hn2 hc1 hc2 h01
  have hlt : crcN size poly start l < 2 ^ size := crcN_lt size poly l h.poly start h.start
  have hpw := pow32 h.h32
  have hadd : addN size poly start l = l ++ bitsN (crcN size poly start l) size := rfl
  obtain ⟨r, hre⟩ : ∃ r, crcN size poly start l = r := ⟨_, rfl⟩
  rw [hre] at hS hlt hadd
  have hput := fun W => bitsPut_any W r size (by omega) (by have := h.h32; omega) hlt
  have HS := Lib.hid hS
  have HPUT := Lib.hid hput
  have HSZ := Lib.hid (Size_any h)
  have HR := Lib.hid hr
  have HNIL := Lib.hid hnil
  have HN := Lib.hid hn
  have HADD := Lib.hid hadd
  have HN2 := Lib.hid hN
  have hsz := h.h32
  obtain ⟨al, hal⟩ : ∃ al, addN size poly start l = al := ⟨_, rfl⟩
  rw [hal] at HADD ⊢
  clear hS hput hr hnil hn hadd h hA h01 hlt hpw hre hal hN
  go_enter Try.func91, Try.ntmps91
  go_wp2_with fail
  refine HS.out.mono ?_
  rintro e w1 ⟨rfl, hb1⟩
  have HB1 := Lib.hid hb1
  clear hb1
  go_wp2_with fail
  refine (HSZ.out _).mono ?_
  rintro e w2 ⟨rfl, hb2⟩
  have HB2 := Lib.hid hb2
  clear hb2
  go_wp2_with fail
  refine (HPUT.out _).mono ?_
  rintro e w3 ⟨⟨A3, c3, rfl, hrow⟩, hb3⟩
  have HB3 := Lib.hid hb3
  have HROW := Lib.hid hrow
  clear hb3 hrow
  go_wp2_with fail
  have hcat := concat_any (some ⟨w3.heap.size, 0, none⟩) 2 2 N [(A, c, l), (A3, c3, bitsN r size)] (w3.alloc (.cells #[.slice A n c, .slice A3 size c3] 23))
    (by have := Rd.blk (w := w3.alloc (.cells #[.slice A n c, .slice A3 size c3] 23)) (heap_new_at rfl); simpa [partV, HN.out, bitsN_length] using this) rfl
    (by
      intro p hp
      simp only [List.mem_cons, List.not_mem_nil, or_false] at hp
      rcases hp with rfl | rfl
      · exact ⟨(HR.out.below (below_trans (below_trans HB1.out HB2.out) HB3.out)).alloc _, fun _ e => HNIL.out e⟩
      · exact ⟨HROW.out.rd.alloc _, fun _ e => HROW.out.none_ e⟩) (by simp [partsL, bitsN_length, HN.out, HN2.out]) (by rw [← HN2.out]; omega) (by omega)
  refine hcat.mono ?_
  rintro e w4 ⟨⟨A4, c4, rfl, hrow4⟩, hb4⟩
  have HROW4 := Lib.hid hrow4
  have HB4 := Lib.hid hb4
  clear hrow4 hb4 hcat
  go_wp2_with fail
  go_ret2
  have hb : Below w.heap.size w w3 := below_trans (below_trans HB1.out HB2.out) HB3.out
  refine ⟨⟨A4, c4, rfl, ?_⟩, below_trans (below_alloc hb _) HB4.out⟩
  have h4 := HROW4.out
  have e4 : partsL [(A, c, l), (A3, c3, bitsN r size)] = al := by rw [HADD.out]; simp [partsL]
  rw [e4] at h4
  exact h4.mono (Nat.le_trans hb.size (by simp))
theorem Row.form {w : World} {base t c : Nat} {A : Option Addr} {xs : List Value} (h : Row w base t A c xs) : ∃ b, A = some ⟨b, 0, none⟩ ∨ xs.length = 0 := by
  rcases h.2 with ⟨hv, hx⟩ | ⟨g, cap, cur, hv, _⟩
  · injection hv with e1 e2 _
    exact ⟨0, .inr e2⟩
  · injection hv with e
    exact ⟨g, .inl e⟩
theorem Row.capm {w : World} {base t c : Nat} {A : Option Addr} {xs : List Value} (h : Row w base t A c xs) : c ≤ 9223372036854775807 := by
  rcases h.2 with ⟨hv, hx⟩ | ⟨g, cap, cur, hv, _, _, _, hm, _⟩
  · injection hv with _ _ e3; omega
  · injection hv with _ _ e3
    unfold maxLen at hm
    omega
theorem Add_row {k : Int} {size poly start : Nat} (h : OfK k size poly start) (n c N base : Nat) (A : Option Addr) (l : List Nat) (w : World) (hrow : Row w base 5 A c (bys l)) (hn : l.length = n) (hn2 : n ≤ 65536) (h01 : ∀ x ∈ l, x ≤ 1) (hN : n + size = N) :
    Calls Try.prog 91 #[.int .i64 k, .slice A n c] w fun e w' => (∃ A' c', e = .returned (.tuple #[.slice A' N c', .int .i64 0]) ∧ Row w' w.heap.size 5 A' c' (bys (addN size poly start l))) ∧ Below w.heap.size w w' := by
  obtain ⟨b, hA⟩ := hrow.form
  rw [bys_length, hn] at hA
  have hcap := hrow.cap
  rw [bys_length, hn] at hcap
  exact Add_any h b 0 n c N A hA l w hrow.rd (fun e => hrow.none_ e) hn hn2 hcap hrow.capm h01 hN
theorem Sum_row {k : Int} {size poly start : Nat} (h : OfK k size poly start) (n c base : Nat) (A : Option Addr) (l : List Nat) (w : World) (hrow : Row w base 5 A c (bys l)) (hn : l.length = n) (hn2 : n ≤ 65536) (h01 : ∀ x ∈ l, x ≤ 1) :
    Calls Try.prog 96 #[.int .i64 k, .slice A n c] w fun e w' => e = .returned (.tuple #[.int .u64 (crcN size poly start l : Nat), .int .i64 0]) ∧ Below w.heap.size w w' := by
  obtain ⟨b, hA⟩ := hrow.form
  rw [bys_length, hn] at hA
  have hcap := hrow.cap
  rw [bys_length, hn] at hcap
  exact Sum_any h b 0 n c A hA l w hrow.rd hn hn2 hcap hrow.capm h01
/-- Two rows joined, whose slices lie in one block. -/
theorem concat2 (W : World) (A1 A2 : Option Addr) (c1 c2 n1 n2 N : Nat) (l1 l2 : List Nat) (h1 : PartOk W (A1, c1, l1)) (h2 : PartOk W (A2, c2, l2)) (e1 : l1.length = n1) (e2 : l2.length = n2) (hN : n1 + n2 = N) (hN2 : N ≤ 1000000) :
    Calls Try.prog 41 #[.slice (some ⟨W.heap.size, 0, none⟩) 2 2] (W.alloc (.cells #[.slice A1 n1 c1, .slice A2 n2 c2] 23)) fun e w' => (∃ A' c', e = .returned (.slice A' N c') ∧ Row w' (W.alloc (.cells #[.slice A1 n1 c1, .slice A2 n2 c2] 23)).heap.size 5 A' c' (bys (l1 ++ l2))) ∧ Below (W.alloc (.cells #[.slice A1 n1 c1, .slice A2 n2 c2] 23)).heap.size (W.alloc (.cells #[.slice A1 n1 c1, .slice A2 n2 c2] 23)) w' := by
  have hL : partsL [(A1, c1, l1), (A2, c2, l2)] = l1 ++ l2 := by simp [partsL]
  rw [← hL]
  refine concat_any _ 2 2 N [(A1, c1, l1), (A2, c2, l2)] _ ?_ rfl ?_ ?_ hN2 (by omega)
  · have := Rd.blk (w := W.alloc (.cells #[.slice A1 n1 c1, .slice A2 n2 c2] 23)) (heap_new_at rfl)
    simpa [partV, e1, e2] using this
  · intro p hp
    simp only [List.mem_cons, List.not_mem_nil, or_false] at hp
    rcases hp with rfl | rfl
    · exact h1.below (below_alloc (Below.refl _ _) _)
    · exact h2.below (below_alloc (Below.refl _ _) _)
  · rw [hL, List.length_append, e1, e2, hN]
theorem Row.part {w : World} {base t c : Nat} {A : Option Addr} {l : List Nat} (h : Row w base t A c (bys l)) : PartOk w (A, c, l) := ⟨h.rd, fun _ e => h.none_ e⟩
end Go.Proofs.Ytaknddanggdplaa
-- PFd: An FD frame's bits, by definition. No condition.
namespace Go.Proofs.Ytaknddanggdplaa
open Go.RowKit
def codeD (f : Fr) : Nat := ((codeF f.kind f.data.length).getD 0).toNat
/-- Ahead of all stuffing. -/
def bodyD (f : Fr) : List Nat := headD f ++ bitsN (bitB f.brs) 1 ++ bitsN (bitB f.esi) 1 ++ bitsN (codeD f) 4 ++ bytesN f.data
theorem bodyD_length (f : Fr) : (bodyD f).length = 22 + 8 * f.data.length := by simp [bodyD, headD_length, bitsN_length, bytesN_length]; omega
theorem headD_bits (f : Fr) : ∀ x ∈ headD f, x ≤ 1 := by
  intro x hx
  unfold headD at hx
  simp only [List.mem_append] at hx
  rcases hx with (h | h) | h <;> exact bitsN_bit _ _ x h
theorem bodyD_bits (f : Fr) : ∀ x ∈ bodyD f, x ≤ 1 := by
  intro x hx
  unfold bodyD at hx
  simp only [List.mem_append] at hx
  rcases hx with (((h | h) | h) | h) | h
  · exact headD_bits f x h
  · exact bitsN_bit _ _ x h
  · exact bitsN_bit _ _ x h
  · exact bitsN_bit _ _ x h
  · exact bytesN_bits _ x h
/-- The sum of so many bytes. -/
def sizeS (n : Nat) : Nat := if 16 < n then 21 else 17
def polyS (n : Nat) : Nat := if 16 < n then 1058969 else 92251
def startS (n : Nat) : Nat := if 16 < n then 1048576 else 65536
def kindS (n : Nat) : Int := if 16 < n then 3 else 2
def lastN (l : List Nat) : Nat := (l[l.length - 1]?).getD 0
/-- Ahead of its stuffing: the tally, and the sum. -/
def sealD (raw : List Nat) (st n : Nat) : List Nat := tallyN st ++ bitsN (crcN (sizeS n) (polyS n) (startS n) (raw ++ tallyN st)) (sizeS n)
def closeD (raw : List Nat) (st n : Nat) : List Nat := fixN 4 true (lastN raw) (sealD raw st n)
def raw0D (f : Fr) : List Nat := stuffN (bodyD f)
def rawD (f : Fr) : List Nat := raw0D f ++ closeD (raw0D f) ((raw0D f).length - (bodyD f).length) f.data.length
def wireD (f : Fr) : List Nat := rawD f ++ List.replicate 10 1
theorem tallyN_bits (st : Nat) : ∀ x ∈ tallyN st, x ≤ 1 := fun x hx => bitsN_bit _ _ x hx
theorem sealD_length (raw : List Nat) (st n : Nat) : (sealD raw st n).length = 4 + sizeS n := by simp [sealD, tallyN_length, bitsN_length]
theorem sealD_bits (raw : List Nat) (st n : Nat) : ∀ x ∈ sealD raw st n, x ≤ 1 := by
  intro x hx
  unfold sealD at hx
  rcases List.mem_append.1 hx with h | h
  · exact tallyN_bits _ x h
  · exact bitsN_bit _ _ x h
theorem closeD_length (raw : List Nat) (st n : Nat) : (closeD raw st n).length = 4 + sizeS n + (3 + sizeS n) / 4 + 1 := by
  unfold closeD
  rw [fixN_length 4 true _ _ (by decide), sealD_length, if_neg (by omega)]
  simp
theorem lastN_le (l : List Nat) (h : ∀ x ∈ l, x ≤ 1) : lastN l ≤ 1 := by
  unfold lastN
  cases hx : l[l.length - 1]? with
  | none => simp
  | some x => exact h x (List.mem_of_getElem? hx)
theorem sizeS_or (n : Nat) : sizeS n = 17 ∨ sizeS n = 21 := by unfold sizeS; split <;> simp
theorem raw0D_len (f : Fr) : 22 + 8 * f.data.length ≤ (raw0D f).length ∧ (raw0D f).length ≤ 22 + 8 * f.data.length + (21 + 8 * f.data.length) / 4 := by
  have h1 := stuffN_len (bodyD f) (by intro e; have := bodyD_length f; rw [e] at this; simp at this; omega)
  have h2 := stuffN_ge (bodyD f)
  rw [bodyD_length] at h1 h2
  unfold raw0D
  omega
theorem rawD_len (f : Fr) : (rawD f).length = (raw0D f).length + (4 + sizeS f.data.length + (3 + sizeS f.data.length) / 4 + 1) := by unfold rawD; rw [List.length_append, closeD_length]
/-- What an FD frame that may be is like. -/
theorem okD (f : Fr) (hk : f.kind = 2) (h : okF f = true) : f.id < 2048 ∧ f.data.length ≤ 64 ∧ ∃ c : Nat, c < 16 ∧ codeF f.kind f.data.length = some (c : Int) ∧ fdSizes[c]? = some (f.data.length : Int) := by
  have ho := (okF_iff f).1 h
  have he := ho.ext (by rw [hk]; decide)
  have hid := ho.id
  rw [he] at hid
  have hs := ho.size
  have hk2 := codeF_kind _ _ hs
  rw [hk] at hs hk2 ⊢
  have e : codeF 2 (f.data.length : Int) = if fdSizes[lb fdSizes f.data.length]? = some (f.data.length : Int) then some (lb fdSizes f.data.length : Int) else none := by simp [codeF]
  rw [e] at hs ⊢
  by_cases hc : fdSizes[lb fdSizes f.data.length]? = some (f.data.length : Int)
  · rw [if_pos hc]
    refine ⟨by simpa using hid, by omega, lb fdSizes f.data.length, ?_, rfl, hc⟩
    have := (List.getElem?_eq_some_iff.1 hc).1
    exact this
  · rw [if_neg hc] at hs; cases hs
theorem okD_bare (f : Fr) (hk : f.kind = 2) (h : okF f = true) : f.ext = false ∧ f.rtr = false ∧ f.sec = false ∧ f.sdt = 0 ∧ f.vcid = 0 ∧ f.af = 0 := by
  have ho := (okF_iff f).1 h
  exact ⟨ho.ext (by rw [hk]; decide), ho.rtr (by rw [hk]; decide), ho.sec (by rw [hk]; decide), ho.sdt (by rw [hk]; decide), ho.vcid (by rw [hk]; decide), ho.af (by rw [hk]; decide)⟩
theorem headD_first (f g : Fr) (f0 : 0 ≤ f.id) (f1 : f.id < 2048) (g0 : 0 ≤ g.id) (g1 : g.id < 2048) (hne : f.id ≠ g.id) : First (f.id < g.id) (headD f) (headD g) := by
  obtain ⟨n, hn⟩ := Int.eq_ofNat_of_zero_le f0
  obtain ⟨m, hm⟩ := Int.eq_ofNat_of_zero_le g0
  unfold headD
  rw [hn, hm]
  simp only [Int.toNat_natCast]
  have h : First (n < m) (bitsN n 11) (bitsN m 11) := bitsN_first 11 n m (by omega) (by omega) (by omega)
  exact ((h.ahead (bitsN 0 1)).behind (bitsN 2 4) (bitsN 2 4)).iff (by omega)
theorem wireD_head (f : Fr) : ∃ l, wireD f = stuffN (headD f) ++ l := by
  have e : bodyD f = headD f ++ (bitsN (bitB f.brs) 1 ++ bitsN (bitB f.esi) 1 ++ bitsN (codeD f) 4 ++ bytesN f.data) := by unfold bodyD; simp only [List.append_assoc]
  refine ⟨stf (stE 0 0 (headD f)).1 (stE 0 0 (headD f)).2 (bitsN (bitB f.brs) 1 ++ bitsN (bitB f.esi) 1 ++ bitsN (codeD f) 4 ++ bytesN f.data) ++ closeD (raw0D f) ((raw0D f).length - (bodyD f).length) f.data.length ++ List.replicate 10 1, ?_⟩
  have e2 : raw0D f = stuffN (headD f) ++ stf (stE 0 0 (headD f)).1 (stE 0 0 (headD f)).2 (bitsN (bitB f.brs) 1 ++ bitsN (bitB f.esi) 1 ++ bitsN (codeD f) 4 ++ bytesN f.data) := by
    unfold raw0D
    rw [e]
    unfold stuffN
    rw [stf_append]
  unfold wireD rawD
  generalize closeD (raw0D f) ((raw0D f).length - (bodyD f).length) f.data.length = cl
  rw [e2]
  simp only [List.append_assoc]
theorem rawD_head (f : Fr) : (stuffN (headD f)).length + 6 ≤ (raw0D f).length := by
  have e : bodyD f = headD f ++ (bitsN (bitB f.brs) 1 ++ bitsN (bitB f.esi) 1 ++ bitsN (codeD f) 4 ++ bytesN f.data) := by unfold bodyD; simp only [List.append_assoc]
  unfold raw0D
  rw [e]
  unfold stuffN
  rw [stf_append, List.length_append]
  have := stf_ge (bitsN (bitB f.brs) 1 ++ bitsN (bitB f.esi) 1 ++ bitsN (codeD f) 4 ++ bytesN f.data) (stE 0 0 (headD f)).1 (stE 0 0 (headD f)).2
  simp only [List.length_append, bitsN_length] at this
  omega
theorem fd_bound (f : Fr) (hk : f.kind = 2) (hok : okF f = true) : (stuffN (headD f)).length + 19 ≤ (rawD f).length ∧ (rawD f).length ≤ 40000 ∧ 12 ≤ (stuffN (headD f)).length := by
  have h1 := rawD_head f
  have h2 := rawD_len f
  have h3 := raw0D_len f
  have h4 := sizeS_or f.data.length
  have h5 := (okD f hk hok).2.1
  have h6 := stuffN_ge (headD f)
  rw [headD_length] at h6
  omega
theorem raw0D_bits (f : Fr) : ∀ x ∈ raw0D f, x ≤ 1 := stuffN_bits _ (bodyD_bits f)
theorem rawD_bits (f : Fr) : ∀ x ∈ rawD f, x ≤ 1 := by
  intro x hx
  unfold rawD at hx
  rcases List.mem_append.1 hx with h | h
  · exact raw0D_bits f x h
  · unfold closeD fixN at h; exact fixE_bits 4 _ (sealD_bits _ _ _) _ _ x h
theorem rawD_zero (f : Fr) : ∃ l, rawD f = 0 :: l := by
  have e : ∃ l, bodyD f = 0 :: l := ⟨_, rfl⟩
  obtain ⟨l, hl⟩ := e
  have h : ∃ m, raw0D f = 0 :: m := by unfold raw0D; rw [hl]; exact ⟨_, rfl⟩
  obtain ⟨m, hm⟩ := h
  unfold rawD
  generalize closeD (raw0D f) ((raw0D f).length - (bodyD f).length) f.data.length = cl
  rw [hm]
  exact ⟨_, rfl⟩
theorem rawE_last (l : List Nat) : ∀ last run, l ≠ [] → (rawE last run l).1 = lastN l := by
  induction l with
  | nil => intro _ _ h; exact absurd rfl h
  | cons x l ih =>
    intro last run _
    by_cases hl : l = []
    · subst hl; rfl
    · simp only [rawE]
      rw [ih _ _ hl]
      unfold lastN
      have : 0 < l.length := List.length_pos_iff.2 hl
      rw [List.length_cons, show l.length + 1 - 1 = (l.length - 1) + 1 by omega, List.getElem?_cons_succ]
theorem rawD_runs (f : Fr) : runsM 5 0 0 (rawD f) = true ∧ (rawE 0 0 (rawD f)).2 ≤ 5 := by
  have hA := runsM_of 5 (by omega) _ 0 0 (stuffN_runs (bodyD f))
  have hA5 : (rawE 0 0 (stuffN (bodyD f))).2 ≤ 5 := by unfold stuffN; rw [rawE_stf _ 0 0 (by omega)]; exact stE_le _ 0 0 (by omega)
  have hne : stuffN (bodyD f) ≠ [] := by intro e; have := (raw0D_len f).1; unfold raw0D at this; rw [e] at this; simp at this
  have hl := rawE_last (stuffN (bodyD f)) 0 0 hne
  have hb := lastN_le _ (raw0D_bits f)
  obtain ⟨f1, f2, -⟩ := fix_runs 4 (by omega) (sealD (raw0D f) ((raw0D f).length - (bodyD f).length) f.data.length) (sealD_bits _ _ _) (lastN (raw0D f)) (rawE 0 0 (stuffN (bodyD f))).2 0 hb (by omega) (by omega)
  have hF : closeD (raw0D f) ((raw0D f).length - (bodyD f).length) f.data.length = fixE 4 (lastN (raw0D f)) 0 (sealD (raw0D f) ((raw0D f).length - (bodyD f).length) f.data.length) := rfl
  have e0 : raw0D f = stuffN (bodyD f) := rfl
  unfold rawD
  rw [hF, runsM_append, rawE_append]
  generalize sealD (raw0D f) ((raw0D f).length - (bodyD f).length) f.data.length = se at *
  rw [← e0] at hA hA5 hl f1 f2
  rw [hA, hl, f1]
  exact ⟨rfl, by omega⟩
theorem rawD_see (f : Fr) : SeeOk 5 (stuffN (headD f)).length (rawD f) := by
  intro k hk
  have h := runsM_at 5 _ (rawD_runs f).1 k hk
  exact ⟨h, fun _ => h⟩
theorem fdOrders_plain (f g : Fr) (hk : f.kind = 2) (hkg : g.kind = 2) (fo : okF f = true) (go : okF g = true) (f0 : 0 ≤ f.id) (g0 : 0 ≤ g.id) (hne : f.id ≠ g.id) :
    ∃ j, j < (stuffN (headD f)).length ∧ j < (stuffN (headD g)).length ∧ (∀ i, i < j → (wireD f)[i]? = (wireD g)[i]?) ∧ ∃ x y, (wireD f)[j]? = some x ∧ (wireD g)[j]? = some y ∧ x ≠ y ∧ (x = 0 ↔ f.id < g.id) := by
  have h := (headD_first f g f0 (okD f hk fo).1 g0 (okD g hkg go).1 hne).stuffed
  obtain ⟨j, h1, h2, h3, x, y, h4, h5, h6⟩ := h.at
  obtain ⟨l, el⟩ := wireD_head f
  obtain ⟨m, em⟩ := wireD_head g
  rw [el, em]
  refine ⟨j, h1, h2, fun i hi => ?_, x, y, ?_, ?_, h6⟩
  · rw [List.getElem?_append_left (by omega), List.getElem?_append_left (by omega)]; exact h3 i hi
  · rw [List.getElem?_append_left h1]; exact h4
  · rw [List.getElem?_append_left h2]; exact h5
theorem sameD (f g : Fr) (fk : f.kind = 2) (gk : g.kind = 2) (fo : okF f = true) (go : okF g = true) : sameF f g = decide (f.id = g.id ∧ f.brs = g.brs ∧ f.esi = g.esi ∧ f.data = g.data) := by
  obtain ⟨a1, a2, a3, a4, a5, a6⟩ := okD_bare f fk fo
  obtain ⟨b1, b2, b3, b4, b5, b6⟩ := okD_bare g gk go
  unfold sameF
  rw [fk, gk, a1, a2, a3, a4, a5, a6, b1, b2, b3, b4, b5, b6]
  rw [Bool.eq_iff_iff]
  simp only [decide_eq_true_eq]
  constructor
  · intro h; simp_all
  · intro h; simp_all
theorem codeD_lt (f : Fr) (hk : f.kind = 2) (hok : okF f = true) : codeD f < 16 ∧ fdSizes[codeD f]? = some (f.data.length : Int) := by
  obtain ⟨-, -, c, hc, h1, h2⟩ := okD f hk hok
  unfold codeD
  rw [h1]
  simpa using ⟨hc, h2⟩
theorem bodyD_diff (f g : Fr) (fk : f.kind = 2) (gk : g.kind = 2) (fo : okF f = true) (go : okF g = true) (fn : FrN f) (gn : FrN g) (h : ¬ (f.id = g.id ∧ f.brs = g.brs ∧ f.esi = g.esi ∧ f.data = g.data)) : Diff (bodyD f) (bodyD g) := by
  obtain ⟨fi, -⟩ := okD f fk fo
  obtain ⟨gi, -⟩ := okD g gk go
  obtain ⟨fc, fs⟩ := codeD_lt f fk fo
  obtain ⟨gc, gs⟩ := codeD_lt g gk go
  unfold bodyD
  by_cases hid : f.id = g.id
  · have hh : headD f = headD g := by unfold headD; rw [hid]
    rw [hh]
    by_cases hb : f.brs = g.brs
    · rw [hb]
      by_cases he : f.esi = g.esi
      · rw [he]
        by_cases hc : codeD f = codeD g
        · have hl : f.data.length = g.data.length := by rw [hc, gs] at fs; injection fs with fs; omega
          rw [hc]
          exact (bytesN_diff f.data g.data hl fn.data gn.data (fun hd => h ⟨hid, hb, he, hd⟩)).ahead _
        · exact Diff.behind (Diff.ahead (bitsN_diff 4 _ _ (by omega) (by omega) hc) _) _ _
      · exact Diff.behind (Diff.behind (Diff.ahead (bitsN_diff 1 _ _ (by cases f.esi <;> decide) (by cases g.esi <;> decide) (bitB_inj he)) _) _ _) _ _
    · exact Diff.behind (Diff.behind (Diff.behind (Diff.ahead (bitsN_diff 1 _ _ (by cases f.brs <;> decide) (by cases g.brs <;> decide) (bitB_inj hb)) _) _ _) _ _) _ _
  · exact (((((headD_first f g fn.id0 fi gn.id0 gi hid).diff).behind _ _).behind _ _).behind _ _).behind _ _
theorem wireD_same (f g : Fr) (fk : f.kind = 2) (gk : g.kind = 2) (h : f.id = g.id ∧ f.brs = g.brs ∧ f.esi = g.esi ∧ f.data = g.data) : wireD f = wireD g := by
  obtain ⟨h1, h2, h3, h4⟩ := h
  have hh : headD f = headD g := by unfold headD; rw [h1]
  have hc : codeD f = codeD g := by unfold codeD; rw [fk, gk, h4]
  have hb : bodyD f = bodyD g := by unfold bodyD; rw [hh, h2, h3, hc, h4]
  unfold wireD rawD raw0D
  rw [hb, h4]
theorem fdApart_plain (f g : Fr) (fk : f.kind = 2) (gk : g.kind = 2) (fo : okF f = true) (go : okF g = true) (fn : FrN f) (gn : FrN g) :
    diffB (wireD f) (wireD g) (min (wireD f).length (wireD g).length) = !sameF f g := by
  rw [sameD f g fk gk fo go]
  by_cases h : f.id = g.id ∧ f.brs = g.brs ∧ f.esi = g.esi ∧ f.data = g.data
  · rw [decide_eq_true h, wireD_same f g fk gk h, same_apart]; rfl
  · have hd : Diff (wireD f) (wireD g) := by
      unfold wireD rawD
      exact (((bodyD_diff f g fk gk fo go fn gn h).stuffed).behind _ _).behind _ _
    rw [decide_eq_false h, diff_apart hd]; rfl
end Go.Proofs.Ytaknddanggdplaa
-- ConcatF: slices.Grow of nil, and slices.Concat over fd's fields. No condition.
namespace Go.Proofs.Ytaknddanggdplaa
open Go.RowKit
set_option maxRecDepth 100000 in
set_option maxHeartbeats 400000 in
theorem growNilF_any (n : Nat) (w : World) (hn : n ≤ 1000000) :
    Calls Try.prog 102 #[.slice none 0 0, .int .i64 n] w fun e w' => (∃ A c, e = .returned (.slice A 0 c) ∧ Row w' w.heap.size 5 A c []) ∧ Below w.heap.size w w' := by
  by_cases h0 : n = 0
  · subst h0
    go_enter Try.func102, Try.ntmps102
    go_wp2_with fail
    go_ret
    exact ⟨⟨none, 0, rfl, Row.nil _ _ _⟩, Below.refl _ _⟩
  · obtain ⟨i0, hi, hz0, hz1, hz2⟩ := info_parts info_u8
    have hp : 0 < (n : Int) := by omega
    have hfit : Builtin.nextslicecap (0 + n) 0 * i0.bytes ≤ 281474976710656 := by
      rw [hz2]
      have : Builtin.nextslicecap (0 + n) 0 = n := by unfold Builtin.nextslicecap; simp; omega
      omega
    have hrun := Lib.run_append_grow_zeros (P := Try.prog) w 54 3 54 5 i0 (.int .u8 0) .i64 .i64 Try.underlying54 Try.underlying3 hi hz0 none 0 0 [] (by simp [Builtin.firstCells]) n (by omega) (by omega) (by omega) (by omega) (by rw [hz2]; omega) hfit
    have hcap : 0 + n ≤ grownCap w (0 + n) 0 5 := grownCap_ge _ _ _ _
    have hcm : grownCap w (0 + n) 0 5 ≤ maxLen := grownCap_le_maxLen _ _ _ _ (by unfold maxLen; omega)
    generalize grownCap w (0 + n) 0 5 = cap at *
    rw [Nat.zero_add] at *
    have hown := World.ownsRow_made (e := 5) (size := 1) (base := w.heap.size) w.drew (([] : List Value).toArray ++ Builtin.zeroCells (Value.int .u8 0).cells n ++ Builtin.zeroCells (Value.int .u8 0).cells (cap - n)) cap (Nat.le_refl _) hcm (by simp [size_zeroCells, Value.cells]; omega)
    rw [show (([] : List Value).toArray ++ Builtin.zeroCells (Value.int .u8 0).cells n) = Builtin.zeroCells #[Value.int .u8 0] n from by simp [Value.cells]] at hown
    have HRUN := Lib.hid hrun
    have HOWN := Lib.hid hown
    have hcm2 : (cap : Int) ≤ 9223372036854775807 := by unfold maxLen at hcm; omega
    clear hrun hown hfit hi hz0 hz1 hz2 h0 hcm
    go_enter Try.func102, Try.ntmps102
    go_wp2_with (at_builtin; refine wpList_append_run rfl (.tmp 20) (.tmp 21) 54 3 rfl _ _ _ _ rfl rfl HRUN.out ?_)
    go_ret
    exact ⟨⟨_, _, rfl, HOWN.out⟩, (below_alloc (Below.refl _ _) _).drew⟩
set_option maxRecDepth 100000 in
set_option maxHeartbeats 1000000 in
theorem concatF_any (A : Option Addr) (c n N : Nat) (ps : List Part) (w : World) (hr : Rd w A (ps.map partV)) (hn : ps.length = n) (hps : ∀ p ∈ ps, PartOk w p) (hN : (partsL ps).length = N) (hN2 : N ≤ 1000000) (hn2 : n ≤ 1000) :
    Calls Try.prog 72 #[.slice A n c] w fun e w' => (∃ A' c', e = .returned (.slice A' N c') ∧ Row w' w.heap.size 5 A' c' (bys (partsL ps))) ∧ Below w.heap.size w w' := by
  obtain ⟨i0, hi, hz0, hz1, hz2⟩ := info_parts info_u8
  have HR := Lib.hid hr
  have HN := Lib.hid hn
  have HPS := Lib.hid hps
  have HL := Lib.hid hN
  clear hr hn hps hN
  go_enter Try.func72, Try.ntmps72
  go_wp2_with fail
  go_loop [3, 11] (fun sv iv => ∃ k s : Nat, k ≤ n ∧ s ≤ N ∧ Hid (s = (partsL (ps.take k)).length) ∧ sv = .int .i64 s ∧ iv = .int .i64 k) (fun _ iv => n - (intOf iv).toNat)
  case atStart => exact ⟨0, 0, by omega, by omega, (by simp [partsL] : (0 : Nat) = (partsL (ps.take 0)).length), rfl, rfl⟩
  case round =>
    obtain ⟨k, s, hk, hs, HS, rfl, rfl⟩ := hrel
    by_cases hkn : k < n
    · have hkl : k < ps.length := by rw [HN.out]; exact hkn
      obtain ⟨p, hp⟩ : ∃ p, ps[k] = p := ⟨_, rfl⟩
      obtain ⟨ad, rfl, ca⟩ := HR.out k (partV p) (by simp [hkl, hp])
      obtain ⟨m, hm⟩ : ∃ m, p.2.2.length = m := ⟨_, rfl⟩
      have ca' : w.cell? (ad.add k) = some (.slice p.1 m p.2.1) := by rw [ca, partV, hm]
      have hsum : s + m = (partsL (ps.take (k + 1))).length := by rw [partsL_take ps k hkl, List.length_append, hp, hm, ← HS.out]
      have hle : s + m ≤ N := by rw [hsum, ← HL.out]; exact partsL_le ps (k + 1)
      have HSUM := Lib.hid hsum
      clear ca hsum hm hp
      obtain ⟨p1, p2, p3⟩ := p
      dsimp only at ca'
      go_wp2_with fail
      go_round
      case rel => exact ⟨k + 1, s + m, by omega, by omega, HSUM.out, by go_num, by go_num⟩
      case measure => simp [intOf]; omega
    · obtain rfl : n = k := by omega
      have hsN : s = N := by rw [HS.out, ← HL.out, ← HN.out, List.take_length]
      subst hsN
      clear HS
      go_wp2_with fail
      refine (growNilF_any s w hN2).mono ?_
      rintro x w1 ⟨⟨A0, c0, rfl, hrow⟩, hb⟩
      have HB := Lib.hid hb
      have HROW := Lib.hid hrow
      clear hb hrow
      go_wp2_with fail
      go_loopw [6, 27] (fun v iv wr => ∃ (k s' : Nat) (A' : Option Addr) (c' : Nat), k ≤ n ∧ s' ≤ s ∧ Hid (s' = (partsL (ps.take k)).length) ∧ v = .slice A' s' c' ∧ iv = .int .i64 k ∧ Hid (Row wr w.heap.size 5 A' c' (bys (partsL (ps.take k)))) ∧ Hid (Below w.heap.size w wr)) (fun _ iv _ => n - (intOf iv).toNat)
      case atStart => exact ⟨0, 0, A0, c0, by omega, by omega, (by simp [partsL] : (0 : Nat) = (partsL (ps.take 0)).length), rfl, rfl, by simpa [partsL, bys] using HROW, HB⟩
      case round =>
        obtain ⟨k, s', A', c', hk, hs', HS, rfl, rfl, HROW', HB'⟩ := hrel
        by_cases hkn : k < n
        · have hkl : k < ps.length := by rw [HN.out]; exact hkn
          obtain ⟨p, hp⟩ : ∃ p, ps[k] = p := ⟨_, rfl⟩
          obtain ⟨ad, rfl, ca⟩ := HR.out k (partV p) (by simp [hkl, hp])
          obtain ⟨m, hm⟩ : ∃ m, p.2.2.length = m := ⟨_, rfl⟩
          have ca' : wr.cell? (ad.add k) = some (.slice p.1 m p.2.1) := by rw [Below.cell_of HB'.out ca, partV, hm]
          have hsum : s' + m = (partsL (ps.take (k + 1))).length := by rw [partsL_take ps k hkl, List.length_append, hp, hm, ← HS.out]
          have hle : s' + m ≤ s := by rw [hsum, ← HL.out]; exact partsL_le ps (k + 1)
          have hpo : PartOk wr p := (HPS.out p (by rw [← hp]; exact List.getElem_mem hkl)).below HB'.out
          have hpl : bys (partsL (ps.take (k + 1))) = bys (partsL (ps.take k)) ++ bys p.2.2 := by rw [partsL_take ps k hkl, bys_append, hp]
          have HSUM := Lib.hid hsum
          have HPO := Lib.hid hpo
          have HPL := Lib.hid hpl
          have HM := Lib.hid hm
          clear ca hsum hm hp hpo hpl
          obtain ⟨p1, p2, p3⟩ := p
          dsimp only at ca' HPL HM
          go_wp2_with (at_builtin; refine wpList_appE (w0 := w) HB'.out rfl (.tmp 31) (.tmp 32) 54 rfl w.heap.size 5 i0 _ 1 Try.underlying54 hi hz0 hz1 hz2 rfl A' s' c' (bys (partsL (ps.take k))) rfl (by rw [bys_length]; exact HS.out.symm) HROW'.out p1 m p2 (bys p3) rfl (by rw [bys_length]; exact HM.out) HPO.out.rd (bys_one _) (fun e => HPO.out.nil (by cases p3 with | nil => rfl | cons x l => simp [bys] at e)) (s' + m) rfl (by unfold maxLen; omega) (by omega) (Nat.le_refl _) HB'.out.size ?_; intro e3 A3 c3 HO3)
          go_roundw
          case rel => exact ⟨k + 1, s' + m, A3, c3, by omega, by omega, HSUM.out, by go_num, by go_num, by rw [HPL.out]; exact HO3, e3.below⟩
          case measure => simp [intOf]; omega
        · obtain rfl : n = k := by omega
          go_wp2_with fail
          go_ret
          have e : ps.take n = ps := by rw [← HN.out, List.take_length]
          have h1 := HROW'.out
          have h2 := HS.out
          rw [e] at h1 h2
          rw [HL.out] at h2
          subst h2
          exact ⟨⟨A', c', rfl, h1⟩, HB'.out⟩
end Go.Proofs.Ytaknddanggdplaa
-- ConcatP: slices.Concat over a row of rows that has just been laid. No condition.
namespace Go.Proofs.Ytaknddanggdplaa
open Go.RowKit
theorem concatP {W : World} {vs : Array Value} {t n N : Nat} (ps : List Part) (g : Nat) (hg : W.heap[g]? = some (.cells vs t)) (hv : vs.toList = ps.map partV) (hn : ps.length = n) (hps : ∀ p ∈ ps, PartOk W p) (hN : (partsL ps).length = N) (hN2 : N ≤ 1000000) (hn2 : n ≤ 1000) :
    Calls Try.prog 41 #[.slice (some ⟨g, 0, none⟩) n n] W fun e w' => (∃ A' c', e = .returned (.slice A' N c') ∧ Row w' W.heap.size 5 A' c' (bys (partsL ps))) ∧ Below W.heap.size W w' :=
  concat_any _ n n N ps W (by rw [← hv]; exact Rd.blk hg) hn hps hN hN2 hn2
theorem lit_row {w : World} {l : List Nat} {n : Nat} (hn : l.length = n) (h : n ≤ 1000) : Row (w.alloc (.cells (bys l).toArray 5)) w.heap.size 5 (some ⟨w.heap.size, 0, none⟩) n (bys l) := by
  have := own_lit (w := w) (cs := bys l) (n := n) (e := 5) (Nat.le_refl _) (by rw [bys_length]; exact hn) (by unfold maxLen; omega)
  unfold Row
  rw [bys_length, hn]
  exact this
end Go.Proofs.Ytaknddanggdplaa
-- Mix: A region that draws its order: what only reads goes first, whatever calls or writes goes one behind the other, what waits for all goes last: one walk. No condition.
namespace Go.Proofs.Ytaknddanggdplaa
open Go Go.RowKit
/-- An operation that yields a value, if it comes to an end, and calls nothing. -/
def valB : Op → Bool
  | .move _ | .assign _ | .load _ _ | .binOp _ _ _ _ _ | .unOp _ _ _ | .convert _ _ _ | .fieldAddr _ _ _ | .field _ _ _ | .indexAddr _ _ _ | .index _ _ _ | .slice _ _ _ _ _ | .extract _ _ | .makeInterface _ _ | .build _ _ | .pick _ _ _ | .typeAssert _ _ _ _ | .makeFunc _ _ _ => true
  | .call { callee := .builtin .len, .. } | .call { callee := .builtin .cap, .. } => true
  | _ => false
section
variable {P : Program} {ops : Array Oper} {Q : Exit → Act → World → Prop} {md : Region.Mode} {S : World → Prop}
theorem value_only {s : Sem Value} {w w' : World} {n : Next} (h : ((do let x ← s; pure (Next.value x)) : Sem Next).run P w = .ok n w') : ∃ v, n = .value v := by
  rw [Sem.run_bind] at h
  cases hs : s.run P w with
  | ok v w1 => rw [hs] at h; simp [Result.andThen] at h; exact ⟨v, h.1.symm⟩
  | halt x w1 => rw [hs] at h; simp [Result.andThen] at h
theorem val_only {o : Oper} (hp : valB o.op = true) {ρ : Operand → Value} {w w' : World} {n : Next} (h : (execOp ρ o).run P w = .ok n w') : ∃ v, n = .value v := by
  unfold execOp at h
  cases ho : o.op <;> rw [ho] at hp h <;> simp only [valB] at hp <;> first | exact absurd hp (by decide) | skip
  all_goals first
    | exact value_only h
    | (simp at h; exact ⟨_, h.1.symm⟩)
    | skip
  case pick c x y =>
    simp only [Sem.run_bind] at h
    cases hs : (asBool (ρ c)).run P w with
    | ok v w1 => rw [hs] at h; simp [Result.andThen] at h; exact ⟨_, h.1.symm⟩
    | halt x w1 => rw [hs] at h; simp [Result.andThen] at h
  case call c =>
    obtain ⟨callee, args, argTypes⟩ := c
    cases callee with
    | builtin b =>
      cases b <;> simp only at hp <;> first | exact absurd hp (by decide) | skip
      all_goals
        simp only [resolve, invoke, builtin, Sem.run_bind, Sem.run_pure, Result.andThen_ok] at h
        exact value_only (P := P) (w := w) (w' := w') (by rw [Sem.run_bind]; simpa only [Sem.run_pure] using h)
    | value f => simp only at hp; exact absurd hp (by decide)
    | invoke r s => simp only at hp; exact absurd hp (by decide)
theorem yieldsIf_quiet {o : Oper} {a : Act} {K : Act → Prop} (hp : valB o.op = true) (hw : Region.wanted o (yielded ops a.tmps) = true) (h : o.quiet P a S K) : ∃ v, YieldsIf P ops S o v a ∧ K (a.put o.dst v) := by
  obtain ⟨v, h1, h2⟩ := h
  refine ⟨v, .inl ⟨hw, fun w hS => ?_⟩, h2⟩
  have h3 := h1 w hS
  unfold Oper.quietAt at h3
  generalize hr : (execOp a.eval o).run P w = r at *
  cases r with
  | ok n w' =>
    obtain ⟨u, rfl⟩ := val_only hp hr
    simp only [Oper.quietUpon] at h3
    rw [h3.1, h3.2]
  | halt x w' => simp only [Oper.quietUpon] at h3
/-! ### the structure -/
def waits1 (md : Region.Mode) (ops : Array Oper) (j i : Nat) : Bool := Region.waitsFor md ops j i
/-- Each of these is waited for by one behind it, or by t. -/
def sinkL (md : Region.Mode) (ops : Array Oper) (t : Nat) : List Nat → Bool
  | [] => true
  | i :: r => (waits1 md ops t i || r.any fun j => waits1 md ops j i) && sinkL md ops t r
/-- Each waits for one ahead of it. -/
def chainL (md : Region.Mode) (ops : Array Oper) : List Nat → List Nat → Bool
  | _, [] => true
  | p, t :: r => (p.any fun i => waits1 md ops t i) && chainL md ops (t :: p) r
def tailB (md : Region.Mode) (ops : Array Oper) (π : List Nat) : List Nat → Bool
  | [] => true
  | t :: r => sinkL md ops t π && chainL md ops [t] r
def seqI (md : Region.Mode) (ops : Array Oper) : List Nat → Array Bool → Bool
  | [], listed => (Region.ready md ops listed).isEmpty
  | t :: r, listed => decide (Region.ready md ops listed = [t]) && seqI md ops r (listed.setIfInBounds t true)
def mixB (md : Region.Mode) (ops : Array Oper) (τ : List Nat) : List (Bool × Nat) → Array Bool → Bool
  | [], listed => seqI md ops τ listed
  | (true, i) :: r, listed => (Region.ready md ops listed).contains i && Region.free md ops listed i && mixB md ops τ r (listed.setIfInBounds i true)
  | (false, i) :: r, listed => decide (Region.ready md ops listed = [i]) && mixB md ops τ r (listed.setIfInBounds i true)
def disj (π τ : List Nat) : Bool := τ.all fun t => !π.contains t
structure MInv (md : Region.Mode) (ops : Array Oper) (τ : List Nat) (listed : Array Bool) : Prop where
  closed : ∀ j oj, ops[j]? = some oj → listed.getD j false = true → ∀ e ∈ oj.after, Region.binds md e = true → listed.getD e.on false = true
  tail : ∀ t ∈ τ, listed.getD t false = false
theorem MInv.set {τ : List Nat} {i : Nat} {listed : Array Bool} (inv : MInv md ops τ listed) (hi : i ∈ Region.ready md ops listed) (hin : ∀ t ∈ τ, i ≠ t) : MInv md ops τ (listed.setIfInBounds i true) := by
  obtain ⟨_, oi, hoi, hall⟩ := mem_ready.1 hi
  refine ⟨fun j oj hj hl e he hb => ?_, fun t ht => by rw [getD_set_ne false (hin t ht)]; exact inv.tail t ht⟩
  by_cases hij : i = j
  · subst hij
    have : oj = oi := Option.some.inj (hj.symm.trans hoi)
    subst this
    exact getD_set_true (hall e he hb)
  · rw [getD_set_ne false hij] at hl
    exact getD_set_true (inv.closed j oj hj hl e he hb)
theorem closed_waits {τ : List Nat} {listed : Array Bool} {j i : Nat} (inv : MInv md ops τ listed) (h : waits1 md ops j i = true) (hj : listed.getD j false = true) : listed.getD i false = true := by
  obtain ⟨oj, hoj, e, he, hb, hon⟩ := Region.waitsFor_spec h
  rw [← hon]
  exact inv.closed j oj hoj hj e he hb
theorem ready_waits {listed : Array Bool} {j i : Nat} (hr : j ∈ Region.ready md ops listed) (h : waits1 md ops j i = true) : listed.getD i false = true := by
  obtain ⟨oj, hoj, e, he, hb, hon⟩ := Region.waitsFor_spec h
  obtain ⟨_, o, ho, hall⟩ := mem_ready.1 hr
  have : oj = o := Option.some.inj (hoj.symm.trans ho)
  subst this
  rw [← hon]
  exact hall e he hb
theorem sink_all {τ : List Nat} {listed : Array Bool} {t : Nat} (inv : MInv md ops τ listed) (hr : t ∈ Region.ready md ops listed) : ∀ π : List Nat, sinkL md ops t π = true → ∀ i ∈ π, listed.getD i false = true
  | [], _, i, hi => by cases hi
  | k :: r, h, i, hi => by
    simp only [sinkL, Bool.and_eq_true, Bool.or_eq_true] at h
    have ih := sink_all inv hr r h.2
    rcases List.mem_cons.1 hi with rfl | hi
    · rcases h.1 with h1 | h1
      · exact ready_waits hr h1
      · obtain ⟨j, hj, hw⟩ := List.any_eq_true.1 h1
        exact closed_waits inv hw (ih j hj)
    · exact ih i hi
theorem chain_none {τ : List Nat} {listed : Array Bool} (inv : MInv md ops τ listed) : ∀ (r p : List Nat), (∀ i ∈ p, i ∈ τ) → (∀ i ∈ r, i ∈ τ) → chainL md ops p r = true → ∀ t ∈ r, t ∉ Region.ready md ops listed
  | [], _, _, _, _, t, ht => by cases ht
  | k :: r, p, hp, hr, h, t, ht => by
    simp only [chainL, Bool.and_eq_true] at h
    rcases List.mem_cons.1 ht with rfl | ht
    · intro hready
      obtain ⟨i, hi, hw⟩ := List.any_eq_true.1 h.1
      have h1 := ready_waits hready hw
      rw [inv.tail i (hp i hi)] at h1
      cases h1
    · exact chain_none inv r (k :: p) (fun i hi => by rcases List.mem_cons.1 hi with rfl | hi; exact hr _ (by simp); exact hp i hi) (fun i hi => hr i (by simp [hi])) h.2 t ht
theorem tail_wait {π τ : List Nat} {listed : Array Bool} (inv : MInv md ops τ listed) (h : tailB md ops π τ = true) {i : Nat} (hi : i ∈ π) (hun : listed.getD i false = false) : ∀ t ∈ τ, t ∉ Region.ready md ops listed := by
  cases τ with
  | nil => intro t ht; cases ht
  | cons t0 r =>
    simp only [tailB, Bool.and_eq_true] at h
    intro t ht
    rcases List.mem_cons.1 ht with rfl | ht
    · intro hr
      have := sink_all inv hr π h.1 i hi
      rw [hun] at this
      cases this
    · exact chain_none inv r [t0] (by simp) (fun i hi => by simp [hi]) h.2 t ht
/-! ### the walk -/
def wpHL (P : Program) (md : Region.Mode) (ops : Array Oper) (Q : Exit → Act → World → Prop) (S : World → Prop) (τ : List Nat) (L : Array Bool → Act → World → Prop) : Nat → Array Bool → Act → World → Prop
  | 0, listed, a, w => L listed a w
  | f + 1, listed, a, w => Region.ready md ops listed ≠ [] ∧ ∀ i ∈ Region.ready md ops listed, i ∉ τ ∧ wpOp P ops Q i (fun a' w' => S w' ∧ wpHL P md ops Q S τ L f (listed.setIfInBounds i true) a' w') a w
theorem wpAny_of_hl {τ : List Nat} {g : Nat} {L : Array Bool → Act → World → Prop} (hL : ∀ listed a w, L listed a w → wpAny P md ops Q g listed a w) :
    ∀ (f : Nat) (listed : Array Bool) (a : Act) (w : World), wpHL P md ops Q S τ L f listed a w → wpAny P md ops Q (f + g) listed a w
  | 0, listed, a, w, h => by rw [Nat.zero_add]; exact hL _ _ _ h
  | f + 1, listed, a, w, h => by
    rw [show f + 1 + g = (f + g) + 1 by omega]
    exact ⟨fun h0 => absurd h0 h.1, fun i hi => wpOp_mono (fun a' w' h' => wpAny_of_hl hL f _ a' w' h'.2) (h.2 i hi).2⟩
theorem wpHL_first {π τ : List Nat} {i : Nat} {oi : Oper} {v : Value} {L : Array Bool → Act → World → Prop} (hi : ops[i]? = some oi) (hsel : ∀ (j : Nat) (o : Oper) cs b, ops[j]? = some o → o.op ≠ .select cs b)
    (hQ : ∀ c a w, Q (.panic c) (a.put oi.dst v) w → Q (.panic c) a w) (hT : tailB md ops π τ = true) (hiπ : i ∈ π) (hdone : ∀ listed a w, L listed a w → ∀ j ∈ Region.ready md ops listed, j ∈ τ) :
    ∀ (f : Nat) (listed : Array Bool) (a : Act) (w : World), MInv md ops τ listed →
      (∀ j oj, ops[j]? = some oj → j ≠ i → listed.getD j true = false → (∀ e ∈ oj.after, Region.binds md e = true → e.on ≠ i) → oi.apart ops oj = true) →
      i ∈ Region.ready md ops listed → YieldsIf P ops S oi v a → S w →
      wpHL P md ops Q S τ L f (listed.setIfInBounds i true) (a.put oi.dst v) w → wpHL P md ops Q S τ L (f + 1) listed a w := by
  intro f
  induction f with
  | zero =>
    intro listed a w inv _ hr hy hS H
    have hun := getD_both (mem_ready.1 hr).1
    refine ⟨fun h => (by rw [h] at hr; cases hr), fun j hj => ?_⟩
    have hjn : j ∉ τ := fun h => tail_wait inv hT hiπ hun j h hj
    refine ⟨hjn, ?_⟩
    by_cases hji : j = i
    · subst hji; exact hy.wpOp hi hS ⟨hS, H⟩
    · exact absurd (hdone _ _ _ H j (ready_mono hj hji)) hjn
  | succ f ih =>
    intro listed a w inv hfree hr hy hS H
    have hun := getD_both (mem_ready.1 hr).1
    refine ⟨fun h => (by rw [h] at hr; cases hr), fun j hj => ?_⟩
    have hjn : j ∉ τ := fun h => tail_wait inv hT hiπ hun j h hj
    refine ⟨hjn, ?_⟩
    by_cases hji : j = i
    · subst hji; exact hy.wpOp hi hS ⟨hS, H⟩
    · have h1 := (H.2 j (ready_mono hj hji)).2
      obtain ⟨hjun, oj, hoj, hall⟩ := mem_ready.1 hj
      have hnot : ∀ e ∈ oj.after, Region.binds md e = true → e.on ≠ i := fun e he hb heq => by
        have h1 := hall e he hb
        rw [heq, hun] at h1
        cases h1
      have h2 := wpOp_putIf hoj (hfree j oj hoj hji hjun hnot) (fun cs b => hsel i oi cs b hi) (fun cs b => hsel j oj cs b hoj) hQ hy h1
      have hfree' : ∀ k ok, ops[k]? = some ok → k ≠ i → (listed.setIfInBounds j true).getD k true = false →
          (∀ e ∈ ok.after, Region.binds md e = true → e.on ≠ i) → oi.apart ops ok = true := fun k ok hk hki hun hno => by
        refine hfree k ok hk hki ?_ hno
        by_cases hjk : j = k
        · subst hjk; exact hjun
        · rw [getD_set_ne true hjk] at hun; exact hun
      refine wpOp_mono (fun a' w' h3 => ⟨h3.2.1, ih (listed.setIfInBounds j true) a' w' (inv.set hj (fun t ht e => hjn (e ▸ ht))) hfree' (ready_mono hr (Ne.symm hji)) h3.1 h3.2.1 ?_⟩) h2
      rw [Array.setIfInBounds_comm _ _ hji]
      exact h3.2.2
/-- The walk: (true, i): operation i only reads; (false, i): it is carried out. -/
def wpMix (P : Program) (ops : Array Oper) (Q : Exit → Act → World → Prop) (S : World → Prop) (T : Act → World → Prop) : List (Bool × Nat) → Act → World → Prop
  | [], a, w => T a w
  | (true, i) :: r, a, w => ∃ o v, ops[i]? = some o ∧ YieldsIf P ops S o v a ∧ wpMix P ops Q S T r (a.put o.dst v) w
  | (false, i) :: r, a, w => wpOp P ops Q i (fun a' w' => S w' ∧ wpMix P ops Q S T r a' w') a w
theorem wpHL_of_mix {τ πs : List Nat} {T : Act → World → Prop} (hsel : Region.noSelect ops = true) (hQ : ∀ c a d v w, Q (.panic c) (a.put d v) w → Q (.panic c) a w) (hT : tailB md ops πs τ = true) (hD : disj πs τ = true) :
    ∀ (π : List (Bool × Nat)) (listed : Array Bool) (a : Act) (w : World), (∀ x ∈ π, x.2 ∈ πs) → MInv md ops τ listed → mixB md ops τ π listed = true → S w → wpMix P ops Q S T π a w →
      wpHL P md ops Q S τ (fun listed a w => seqI md ops τ listed = true ∧ T a w) π.length listed a w
  | [], listed, a, w, _, _, hB, _, h => ⟨hB, h⟩
  | (true, i) :: r, listed, a, w, hπ, inv, hB, hS, h => by
    obtain ⟨o, v, ho, hy, hn⟩ := h
    simp only [mixB, Bool.and_eq_true] at hB
    obtain ⟨⟨hr, hf⟩, hB'⟩ := hB
    have hr' : i ∈ Region.ready md ops listed := by simpa using hr
    have hiπs : i ∈ πs := hπ (true, i) (by simp)
    have hne : ∀ t ∈ τ, i ≠ t := fun t ht e => by
      have := List.all_eq_true.1 hD t ht
      subst e
      simp [hiπs] at this
    refine wpHL_first ho (Region.noSelect_spec hsel) (fun c a w => hQ c a _ _ w) hT hiπs ?_ r.length listed a w inv (Region.free_spec ho hf) hr' hy hS
      (wpHL_of_mix hsel hQ hT hD r _ _ w (fun x hx => hπ x (by simp [hx])) (inv.set hr' hne) hB' hS hn)
    intro listed a w hL j hj
    cases τ with
    | nil => have := hL.1; simp only [seqI, List.isEmpty_iff] at this; rw [this] at hj; cases hj
    | cons t r => have := hL.1; simp only [seqI, Bool.and_eq_true, decide_eq_true_eq] at this; rw [this.1] at hj; simp at hj; simp [hj]
  | (false, i) :: r, listed, a, w, hπ, inv, hB, hS, h => by
    simp only [mixB, Bool.and_eq_true, decide_eq_true_eq] at hB
    obtain ⟨hr, hB'⟩ := hB
    have hiπs : i ∈ πs := hπ (false, i) (by simp)
    have hne : ∀ t ∈ τ, i ≠ t := fun t ht e => by
      have := List.all_eq_true.1 hD t ht
      subst e
      simp [hiπs] at this
    refine ⟨by rw [hr]; simp, fun j hj => ?_⟩
    have hji : j = i := by rw [hr] at hj; simpa using hj
    subst hji
    exact ⟨fun h => hne j h rfl, wpOp_mono (fun a' w' h' => ⟨h'.1, wpHL_of_mix hsel hQ hT hD r _ a' w' (fun x hx => hπ x (by simp [hx])) (inv.set hj hne) hB' h'.1 h'.2⟩) h⟩
theorem wpAny_of_seqI : ∀ (τ : List Nat) (listed : Array Bool) (a : Act) (w : World), seqI md ops τ listed = true → wpOps P ops Q τ a w → wpAny P md ops Q τ.length listed a w
  | [], _, _, _, hB, h => ⟨by simpa [seqI] using hB, h⟩
  | t :: r, listed, a, w, hB, h => by
    simp only [seqI, Bool.and_eq_true, decide_eq_true_eq] at hB
    refine ⟨fun h1 => (by rw [hB.1] at h1; cases h1), fun i hi => ?_⟩
    rw [hB.1] at hi
    have hit : i = t := by simpa using hi
    subst hit
    rw [wpOps_cons] at h
    exact wpOp_mono (fun a' w' h' => wpAny_of_seqI r _ a' w' hB.2 h') h
/-- The operations of these numbers. -/
def pickL (l : List Oper) : List Nat → List Oper
  | [] => []
  | i :: r => match l.drop i with | o :: _ => o :: pickL l r | [] => pickL l r
theorem wpOps_pick {l : List Oper} : ∀ (τ : List Nat) (a : Act) (w : World), (τ.all fun t => decide (t < l.length)) = true → wpList P l.toArray Q (pickL l τ) a w → wpOps P l.toArray Q τ a w
  | [], a, w, _, h => h
  | t :: r, a, w, ht, h => by
    simp only [List.all_cons, Bool.and_eq_true, decide_eq_true_eq] at ht
    obtain ⟨ht1, ht2⟩ := ht
    rw [wpOps_cons]
    have hd : l.drop t = l[t] :: l.drop (t + 1) := List.drop_eq_getElem_cons ht1
    simp only [pickL, hd] at h
    unfold wpList at h
    unfold wpOp
    have ho : l.toArray[t]? = some l[t] := by simp [ht1]
    rw [ho]
    simp only []
    split
    · rename_i hw
      simp only [hw, if_true] at h
      exact h.imp (Oper.wp_mono fun a w h => wpOps_pick r a w ht2 h) id
    · rename_i hw
      simp only [hw] at h
      exact wpOps_pick r _ w ht2 h
/-- The walk, its operations written out. -/
def wpMixL (P : Program) (ops : Array Oper) (Q : Exit → Act → World → Prop) (S : World → Prop) (T : Act → World → Prop) : List (Bool × Oper) → Act → World → Prop
  | [], a, w => T a w
  | (true, o) :: r, a, w => ∃ v, YieldsIf P ops S o v a ∧ wpMixL P ops Q S T r (a.put o.dst v) w
  | (false, o) :: r, a, w => if Region.wanted o (yielded ops a.tmps) then o.wp P a w (fun a' w' => S w' ∧ wpMixL P ops Q S T r a' w') Q else S w ∧ wpMixL P ops Q S T r (a.put o.dst undef) w
def pickM (l : List Oper) : List (Bool × Nat) → List (Bool × Oper)
  | [] => []
  | (b, i) :: r => match l.drop i with | o :: _ => (b, o) :: pickM l r | [] => pickM l r
theorem mix_pick {T : Act → World → Prop} {l : List Oper} : ∀ (π : List (Bool × Nat)) (a : Act) (w : World), (π.all fun t => decide (t.2 < l.length)) = true → wpMixL P l.toArray Q S T (pickM l π) a w → wpMix P l.toArray Q S T π a w
  | [], a, w, _, h => h
  | (b, t) :: r, a, w, ht, h => by
    simp only [List.all_cons, Bool.and_eq_true, decide_eq_true_eq] at ht
    obtain ⟨ht1, ht2⟩ := ht
    have hd : l.drop t = l[t] :: l.drop (t + 1) := List.drop_eq_getElem_cons ht1
    have ho : l.toArray[t]? = some l[t] := by simp [ht1]
    simp only [pickM, hd] at h
    cases b
    · show wpOp P l.toArray Q t _ a w
      unfold wpMixL at h
      unfold wpOp
      rw [ho]
      simp only []
      split
      · rename_i hw
        simp only [hw, if_true] at h
        exact .inl (Oper.wp_mono (fun a w h => ⟨h.1, mix_pick r a w ht2 h.2⟩) h)
      · rename_i hw
        simp only [hw] at h
        exact ⟨h.1, mix_pick r _ w ht2 h.2⟩
    · obtain ⟨v, hy, hn⟩ := h
      exact ⟨l[t], v, ho, hy, mix_pick r _ w ht2 hn⟩
/-- **One walk serves every order.** -/
theorem wp_region_mix {id : Nat} {a : Act} {w : World} {l : List Oper} (S : World → Prop) (π : List (Bool × Nat)) (τ : List Nat) (hm : P.follows .mixedOrders = true)
    (hB : (Region.noSelect l.toArray && tailB .any l.toArray (π.map (·.2)) τ && disj (π.map (·.2)) τ && mixB .any l.toArray τ π (Array.replicate l.toArray.size false) && decide (π.length + τ.length = l.length) && (τ.all fun t => decide (t < l.length)) && (π.all fun t => decide (t.2 < l.length))) = true)
    (hQ : ∀ c a d v w, Q (.panic c) (a.put d v) w → Q (.panic c) a w) (hS : S w.drew)
    (h : wpMixL P l.toArray Q S (wpList P l.toArray Q (pickL l τ)) (pickM l π) a w.drew) : (Code.region id l.toArray true).wp P Q a w := by
  simp only [Bool.and_eq_true, decide_eq_true_eq] at hB
  obtain ⟨⟨⟨⟨⟨⟨hsel, hT⟩, hD⟩, hM⟩, hlen⟩, hlt⟩, hlt2⟩ := hB
  refine wp_region_any hm ?_
  have inv0 : MInv .any l.toArray τ (Array.replicate l.toArray.size false) := ⟨fun j oj _ hl => (by rw [getD_replicate_false] at hl; cases hl), fun t _ => getD_replicate_false _ _⟩
  have H := wpHL_of_mix (Q := Q) (P := P) (S := S) hsel hQ hT hD π _ a w.drew (fun x hx => List.mem_map_of_mem hx) inv0 hM hS (mix_pick π a _ hlt2 h)
  have := wpAny_of_hl (g := τ.length) (fun listed a w hL => wpAny_of_seqI τ listed a w hL.1 (wpOps_pick τ a w hlt hL.2)) _ _ _ _ H
  rw [hlen] at this
  simpa using this
/-! ### the steps -/
theorem mix_pure {T : Act → World → Prop} {r : List (Bool × Oper)} {a : Act} {w : World} {o : Oper} (hw : Region.wanted o (yielded ops a.tmps) = true) (hp : valB o.op = true)
    (h : ∀ K : Act → Prop, (∀ a, wpMixL P ops Q S T r a w → K a) → o.quiet P a S K) : wpMixL P ops Q S T ((true, o) :: r) a w :=
  yieldsIf_quiet hp hw (h (fun a => wpMixL P ops Q S T r a w) (fun _ h => h))
theorem mix_skip {T : Act → World → Prop} {r : List (Bool × Oper)} {a : Act} {w : World} {o : Oper} (hw : Region.wanted o (yielded ops a.tmps) = false)
    (h : wpMixL P ops Q S T r (a.put o.dst undef) w) : wpMixL P ops Q S T ((true, o) :: r) a w := ⟨undef, .inr ⟨hw, rfl⟩, h⟩
theorem mix_eff {T : Act → World → Prop} {r : List (Bool × Oper)} {a : Act} {w : World} {o : Oper} (hw : Region.wanted o (yielded ops a.tmps) = true)
    (h : ∀ K : Act → World → Prop, (∀ a w, S w → wpMixL P ops Q S T r a w → K a w) → o.wp P a w K Q) : wpMixL P ops Q S T ((false, o) :: r) a w := by
  unfold wpMixL
  rw [if_pos hw]
  exact h _ fun a w h1 h2 => ⟨h1, h2⟩
theorem mix_nil {T : Act → World → Prop} {a : Act} {w : World} (h : T a w) : wpMixL P ops Q S T [] a w := h
/-- The post of a panic does not hang on the slots. -/
theorem panic_then {K : Act → World → Prop} {fn : Func} {R : Ending → World → Prop} (c : List PanicEntry) (a : Act) (d : Option Tmp) (v : Value) (w : World) (h : Exit.then K (bodyPost P fn R) (.panic c) (a.put d v) w) : Exit.then K (bodyPost P fn R) (.panic c) a w := by cases d <;> exact h
end
end Go.Proofs.Ytaknddanggdplaa
-- RowAt: Cells of a row of the call's own. No condition.
namespace Go.Proofs.Ytaknddanggdplaa
open Go.RowKit
theorem row_at {w W : World} {base c ga : Nat} {l : List Nat} (hrow : Row w base 5 (some ⟨ga, 0, none⟩) c (bys l)) (hW : Below w.heap.size w W) (k v : Nat) (h : l[k]? = some v) : W.cell? ⟨ga, k, none⟩ = some (.int .u8 (v : Int)) := by
  have hk : k < l.length := (List.getElem?_eq_some_iff.1 h).1
  obtain ⟨ad, e, hc⟩ := hrow.rd k (.int .u8 (v : Int)) (by rw [bys_get l k hk, (List.getElem?_eq_some_iff.1 h).2])
  injection e with e
  subst e
  refine Below.cell_of hW ?_
  rw [← hc]
  unfold Addr.add
  by_cases hk0 : k = 0 <;> simp [hk0]
theorem row_some {w : World} {base c n : Nat} {A : Option Addr} {l : List Nat} (hrow : Row w base 5 A c (bys l)) (hl : l.length = n) (hn : 0 < n) : ∃ ga, A = some ⟨ga, 0, none⟩ ∧ ga < w.heap.size ∧ n ≤ c ∧ c ≤ 9223372036854775807 := by
  obtain ⟨ga, hA⟩ := hrow.form
  rcases hA with rfl | h
  · have h0 := row_at (W := w) hrow (Below.refl _ _) 0 (l[0]'(by omega)) (by simp)
    have hcap := hrow.cap
    rw [bys_length, hl] at hcap
    exact ⟨ga, rfl, cell_lt h0, hcap, hrow.capm⟩
  · rw [bys_length] at h; omega
theorem calls_name {P : Program} {f : FuncId} {args : Array Value} {W : World} {R : Ending → World → Prop} {T : World → Prop} (hT : T W) (h : ∀ W0, T W0 → Calls P f args W0 R) : Calls P f args W R := h W hT
end Go.Proofs.Ytaknddanggdplaa
-- FdBody: fd.Body: an FD frame's bits ahead of all stuffing. No condition.
namespace Go.Proofs.Ytaknddanggdplaa
open Go.RowKit
theorem concatPF {W : World} {vs : Array Value} {t n N : Nat} (ps : List Part) (g : Nat) (hg : W.heap[g]? = some (.cells vs t)) (hv : vs.toList = ps.map partV) (hn : ps.length = n) (hps : ∀ p ∈ ps, PartOk W p) (hN : (partsL ps).length = N) (hN2 : N ≤ 1000000) (hn2 : n ≤ 1000) :
    Calls Try.prog 72 #[.slice (some ⟨g, 0, none⟩) n n] W fun e w' => (∃ A' c', e = .returned (.slice A' N c') ∧ Row w' W.heap.size 5 A' c' (bys (partsL ps))) ∧ Below W.heap.size W w' :=
  concatF_any _ n n N ps W (by rw [← hv]; exact Rd.blk hg) hn hps hN hN2 hn2
theorem FdBody_no (f : Fr) (A : Option Addr) (c : Nat) (w : World) (hl : f.data.length ≤ 9223372036854775807) (hno : ¬ (f.kind = 2 ∧ okF f = true)) :
    Calls Try.prog 29 #[frv f (.slice A f.data.length c)] w fun e w' => e = .returned (.tuple #[.slice none 0 0, .int .i64 2]) ∧ Below w.heap.size w w' := by
  have HC := Lib.hid (fun W => Check_any f A c W hl)
  by_cases hk : f.kind = 2
  · have hok : okF f = false := by cases h : okF f with | false => rfl | true => exact absurd ⟨hk, h⟩ hno
    rw [hok] at HC
    have he : errV false = .int .i64 2 := rfl
    rw [he] at HC
    obtain ⟨kind, id, ext, rtr, brs, esi, sec, sdt, vcid, af, data⟩ := f
    dsimp only [frv] at *
    generalize data.length = n at *
    subst hk
    clear hno hok he
    go_enter Try.func29, Try.ntmps29
    go_wp2_with fail
    refine (HC.out _).mono ?_
    rintro e w1 ⟨rfl, hb⟩
    have HB := Lib.hid hb
    clear hb
    go_wp2_with fail
    go_ret2
    exact ⟨rfl, (below_alloc (Below.refl _ _) _).trans (HB.out.mono (by simp))⟩
  · obtain ⟨kind, id, ext, rtr, brs, esi, sec, sdt, vcid, af, data⟩ := f
    dsimp only [frv] at *
    generalize data.length = n at *
    have hkb : (kind != 2) = true := by rw [bne_iff_ne]; exact hk
    clear hno hk HC
    go_enter Try.func29, Try.ntmps29
    go_wp2_with fail
    go_ret2
    exact ⟨rfl, below_alloc (Below.refl _ _) _⟩
set_option maxRecDepth 100000 in
set_option maxHeartbeats 4000000 in
theorem FdBody_ok (f : Fr) (A : Option Addr) (c N : Nat) (w : World) (hk : f.kind = 2) (hok : okF f = true) (h0 : 0 ≤ f.id) (hr : Rd w A (bys f.data)) (hby : isBytes f.data) (hN : (bodyD f).length = N) :
    Calls Try.prog 29 #[frv f (.slice A f.data.length c)] w fun e w' => (∃ A' c', e = .returned (.tuple #[.slice A' N c', .int .i64 0]) ∧ Row w' w.heap.size 5 A' c' (bys (bodyD f))) ∧ Below w.heap.size w w' := by
  obtain ⟨hid, hn64, co, hco16, hcode, -⟩ := okD f hk hok
  have HC := Lib.hid (fun W => Check_any f A c W (by omega))
  rw [hok] at HC
  have he : errV true = .int .i64 0 := rfl
  rw [he] at HC
  have HH := Lib.hid (fun W => headD_any f A f.data.length c W h0 hid)
  have HCO := Lib.hid (fun W => Code_any f.kind f.data.length W (by omega) (by omega))
  rw [hcode] at HCO
  have hcv : codeV (some (co : Int)) = .tuple #[.int .i64 (co : Int), .int .i64 0] := rfl
  rw [hcv] at HCO
  have hcd : codeD f = co := by unfold codeD; rw [hcode]; simp
  have hb : bodyD f = headD f ++ bitsN (bitB f.brs) 1 ++ bitsN (bitB f.esi) 1 ++ bitsN co 4 ++ bytesN f.data := by unfold bodyD; rw [hcd]
  rw [bodyD_length] at hN
  have hlh := headD_length f
  obtain ⟨hX, hhX⟩ : ∃ hX, headD f = hX := ⟨_, rfl⟩
  obtain ⟨BX, hBX⟩ : ∃ BX, bodyD f = BX := ⟨_, rfl⟩
  rw [hhX] at HH hb hlh
  rw [hBX] at hb ⊢
  have HBX := Lib.hid hb
  have HR := Lib.hid hr
  have HBY := Lib.hid hby
  have HLH := Lib.hid hlh
  obtain ⟨kind, id, ext, rtr, brs, esi, sec, sdt, vcid, af, data⟩ := f
  dsimp only [frv] at *
  subst hk
  obtain ⟨n, hn⟩ : ∃ n, data.length = n := ⟨_, rfl⟩
  rw [hn] at HC HH HCO hN ⊢
  rw [hn] at hn64
  have HN := Lib.hid hn
  clear hr hby hok he h0 hid hcode hcv hcd hb hlh hhX hBX hn
  subst hN
  have i0 : ∀ w : World, (Instr.index 75 (.agg #[.bool brs, .bool esi]) (.int .i64 0)).run Try.prog w = .ok (.bool brs) w := fun _ => by kernel_rfl
  have i1 : ∀ w : World, (Instr.index 75 (.agg #[.bool brs, .bool esi]) (.int .i64 1)).run Try.prog w = .ok (.bool esi) w := fun _ => by kernel_rfl
  go_enter Try.func29, Try.ntmps29
  go_wp2_with fail
  refine calls_blk1 (fun W0 q1 hb => ?_)
  have HB := Lib.hid hb
  obtain ⟨a0, a1, a2, a3, a4, a5, a6, a7, a8, a9, a10⟩ := ext11 q1
  have hsz := ext_lt q1
  clear hb q1
  refine (extc_same (HC.out _)).mono ?_
  rintro x _ ⟨e1, rfl, rfl⟩
  go_wp2_with fail
  refine (extcB (HH.out e1.W)).mono ?_
  rintro x _ ⟨e2, rfl, HB2, A2, c2, rfl, hrow2⟩
  obtain ⟨g2, rfl, hg2, hca, hcb⟩ := row_some (n := 16) hrow2 HLH.out (by decide)
  have HROW2 := Lib.hid hrow2
  clear hrow2
  go_wp2_with fail
  refine wp_loop_rounds 3 ?_
  rw [rounds_succ]
  go_wp2_with fail
  obtain ⟨p, hp⟩ : ∃ p, e2.W.heap.size = p := ⟨_, rfl⟩
  rw [hp] at hg2
  have hs1 := hsz e1
  have hs2 : e1.W.heap.size ≤ p := by rw [← hp]; exact HB2.out.size
  rw [hp]
  refine calls_name (T := fun W1 => W1.heap[p]? = some (.cells #[.slice (some ⟨g2, 0, none⟩) 16 c2] 54) ∧ Below e2.W.heap.size e2.W W1) ⟨heap_new_at hp.symm, below_alloc (Below.refl _ _) _⟩ ?_
  rintro W1 ⟨q2, hb1⟩
  obtain ⟨B, hB⟩ : ∃ B, e1.W.heap.size = B := ⟨_, rfl⟩
  rw [hB] at hs1 hs2
  have hpot : Pot W1 B p 54 (some ⟨g2, 0, none⟩) c2 hX := ⟨by rw [HLH.out]; exact q2, fun ad e => by injection e with e; subst e; show g2 ≠ p; omega, by have := heap_lt q2; omega, by rw [← hB]; exact HROW2.out.below hb1⟩
  have hb01 : Below W0.heap.size W0 W1 := below_trans e2.below hb1
  have g0 : W1.cell? ⟨w.heap.size, 0, none⟩ = some (.int .i64 2) := a0 ⟨W1, hb01⟩
  have g10 : W1.cell? ⟨w.heap.size, 10, none⟩ = some (.slice A n c) := a10 ⟨W1, hb01⟩
  have b0 := fun e : KE B p W1 => ke_cell g0 (by show w.heap.size < _; omega) (by show w.heap.size ≠ _; omega) e
  have b10 := fun e : KE B p W1 => ke_cell g10 (by show w.heap.size < _; omega) (by show w.heap.size ≠ _; omega) e
  have HPOT := Lib.hid hpot
  have HB01 := Lib.hid hb01
  have hw0 : W0.heap.size ≤ B := by rw [← hB]; exact e1.below.size
  have HSB := Lib.hid hB
  have hszW := heap_lt q2
  clear hp q2 hb1 hpot hb01 g0 g10 hB a0 a1 a2 a3 a4 a5 a6 a7 a8 a9 a10 HC HH hsz
  refine (kec_same (fdFlag_any _ _ _ _ _ _ brs _ HPOT.out (by rw [HLH.out]; decide))).mono ?_
  rintro x _ ⟨k1, rfl, rfl, B1, d1, hp1⟩
  have HP1 := Lib.hid hp1
  clear hp1
  go_wp2_with fail
  rw [rounds_succ]
  go_wp2_with fail
  refine (kec (fdFlag_any _ _ _ _ _ _ esi _ HP1.out (by rw [List.length_append, HLH.out, bitsN_length]; decide))).mono ?_
  rintro x _ ⟨k2, rfl, rfl, B2, d2, hp2⟩
  have HP2 := Lib.hid hp2
  clear hp2
  go_wp2_with fail
  rw [rounds_succ]
  go_wp2_with fail
  refine (HCO.out _).mono ?_
  rintro x w3 ⟨rfl, hb3⟩
  obtain ⟨k3, hk3⟩ : ∃ k3 : KE B p W1, k3.W = w3 := ⟨⟨w3, k2.keep.trans (Keep.of hb3 HP2.out.size)⟩, rfl⟩
  have HP3 := Lib.hid (HP2.out.below hb3)
  subst hk3
  clear hb3
  go_wp2_with fail
  refine (kec (fdPut_row _ _ _ _ _ _ _ _ co 4 _ ?c4 rfl HP3.out (by omega) (by omega) (by omega) (by rw [List.length_append, List.length_append, HLH.out, bitsN_length, bitsN_length]; decide))).mono ?_
  case c4 => first | rfl | omega
  rintro x _ ⟨k4, rfl, rfl, B4, d4, hp4⟩
  obtain ⟨L4, hL4⟩ : ∃ L, hX ++ bitsN (bitB brs) 1 ++ bitsN (bitB esi) 1 ++ bitsN co 4 = L := ⟨_, rfl⟩
  rw [hL4] at hp4
  have hl4 : L4.length = 22 := by rw [← hL4]; simp [bitsN_length, HLH.out]
  have c04 : k4.W.cell? ⟨p, 0, none⟩ = some (.slice B4 22 d4) := by rw [← hl4]; exact hp4.cell
  have g10 := b10 k4
  have HP4 := Lib.hid hp4
  have HL4 := Lib.hid hl4
  have HE4 := Lib.hid hL4
  have hrdA : Rd k4.W A (bys data) := ((HR.out.below HB.out).below HB01.out).keep k4.keep (fun ad h1 h2 => by have := HR.out.lt ad h1 h2; omega)
  have HRA := Lib.hid hrdA
  have x04 := fun e : Ext k4.W => ext_cell c04 e
  have x10 := fun e : Ext k4.W => ext_cell g10 e
  clear hp4 hl4 hL4 hrdA c04 g10
  go_wp2_with fail
  refine wp_region_mix (fun w' => ∃ e : Ext k4.W, w' = e.W) [(true, 0), (true, 1), (true, 2), (false, 3), (false, 4), (false, 5), (true, 6), (true, 7)] [] (by kernel_rfl) (by kernel_rfl) (by intro _ _ d _ _ h; cases d <;> exact h) ⟨⟨k4.W.drew, (Below.refl _ _).drew⟩, rfl⟩ ?_
  simp only [pickM, pickL, List.drop_succ_cons, List.drop_zero]
  repeat (refine mix_pure (by rfl) (by rfl) ?_; intro K hK; go_big_quiet_op; go_big_quiet_on)
  refine mix_eff (by rfl) ?_
  intro K hK
  go_simp
  refine (Bytes_any _ A c n data HRA.out.drew HN.out (by omega) HBY.out).mono ?_
  rintro x w5 ⟨⟨A5, c5, rfl, hrow5⟩, hb5⟩
  have hb45 : Below k4.W.heap.size k4.W w5 := below_trans (Below.refl _ _).drew hb5
  refine hK _ _ ⟨⟨w5, hb45⟩, rfl⟩ ?_
  clear hK K
  have HROW5 := Lib.hid hrow5
  have HB45 := Lib.hid hb45
  clear hrow5 hb5 hb45
  refine mix_eff (by rfl) ?_
  intro K hK
  go_simp
  refine hK _ _ ⟨⟨_, below_alloc HB45.out _⟩, rfl⟩ ?_
  clear hK K
  refine mix_eff (by rfl) ?_
  intro K hK
  go_simp
  refine calls_name (T := fun W6 => W6.heap[w5.heap.size]? = some (.cells #[.slice B4 22 d4, .slice A5 (8 * n : Nat) c5] 54) ∧ Below w5.heap.size w5 W6) ⟨heap_new_at rfl, below_alloc (Below.refl _ _) _⟩ ?_
  rintro W6 ⟨q6, hb6⟩
  have hcat := concatPF (N := 22 + 8 * n) (n := 2) [(B4, d4, L4), (A5, c5, bytesN data)] _ q6 (by simp [partV, HL4.out, bytesN_length, HN.out]) rfl (by
    intro p hp
    simp only [List.mem_cons, List.not_mem_nil, or_false] at hp
    rcases hp with rfl | rfl
    · exact ((HP4.out.row.below HB45.out).below hb6).part
    · exact (HROW5.out.below hb6).part) (by simp [partsL, HL4.out, bytesN_length, HN.out]) (by omega) (by decide)
  have hpl : partsL [(B4, d4, L4), (A5, c5, bytesN data)] = BX := by rw [HBX.out, HE4.out]; simp [partsL]
  rw [hpl] at hcat
  refine hcat.mono ?_
  rintro x w7 ⟨⟨A7, c7, rfl, hrow7⟩, hb7⟩
  have hb47 : Below k4.W.heap.size k4.W w7 := below_trans (below_trans HB45.out hb6) hb7
  refine hK _ _ ⟨⟨w7, hb47⟩, rfl⟩ ?_
  clear hK K
  repeat (refine mix_pure (by rfl) (by rfl) ?_; intro K hK; go_big_quiet_op; go_big_quiet_on)
  refine mix_nil (wpList_nil ?_)
  have hge : w.heap.size ≤ W6.heap.size := by have h1 := (below_trans HB45.out hb6).size; have h2 := k4.keep.size; omega
  have HROW7 := Lib.hid (hrow7.mono hge)
  have HB7 := Lib.hid (((below_trans HB.out HB01.out).trans (k4.keep.below (by omega) (by omega))).trans (hb47.mono (by have h2 := k4.keep.size; omega)))
  clear hcat hpl q6 hb6 hrow7 hb7 hb47 x04 x10
  go_wp2_with fail
  go_ret2
  exact ⟨⟨A7, c7, rfl, HROW7.out⟩, HB7.out⟩
end Go.Proofs.Ytaknddanggdplaa
-- Of23: The sums of FD frames: their kinds. No condition.
namespace Go.Proofs.Ytaknddanggdplaa
open Go.RowKit
set_option maxRecDepth 100000 in
theorem of_2 : OfK 2 17 92251 65536 := by
  refine ⟨fun W => ?_, by decide, by decide, by decide, by decide⟩
  go_enter Try.func104, Try.ntmps104
  go_wp2
  exact bodyPost_ret (v := .agg #[.int .i64 17, .int .u64 92251, .int .u64 65536]) (by simp [results, Try.results104, go_sem]) rfl ⟨rfl, below_alloc (below_alloc (Below.refl _ _) _) _⟩
set_option maxRecDepth 100000 in
theorem of_3 : OfK 3 21 1058969 1048576 := by
  refine ⟨fun W => ?_, by decide, by decide, by decide, by decide⟩
  go_enter Try.func104, Try.ntmps104
  go_wp2
  exact bodyPost_ret (v := .agg #[.int .i64 21, .int .u64 1058969, .int .u64 1048576]) (by simp [results, Try.results104, go_sem]) rfl ⟨rfl, below_alloc (below_alloc (Below.refl _ _) _) _⟩
end Go.Proofs.Ytaknddanggdplaa
-- Fixed0: fixed's line: how a row of raw bits is gone through. No condition.
namespace Go.Proofs.Ytaknddanggdplaa
open Go.RowKit
abbrev lineC (ev : Nat) (ah : Bool) (last left : Nat) : Obj := .cells #[.int .i64 ev, .bool ah, .int .u8 last, .int .i64 left] 124
theorem due_any (b ev last left : Nat) (ah : Bool) (w : World) (h : w.heap[b]? = some (lineC ev ah last left)) :
    Calls Try.prog 86 #[.pointer (some ⟨b, 0, none⟩)] w fun e w' => e = .returned (.bool (decide (left = 0))) ∧ w = w' := by
  have c3 : w.cell? ⟨b, 3, none⟩ = some (.int .i64 left) := cell_of_heap h 3 _ rfl
  go_enter Try.func86, Try.ntmps86
  go_wp2
  go_ret
  exact ⟨ret_bool (by rw [Bool.eq_iff_iff]; simp), rfl⟩
set_option maxHeartbeats 1000000 in
theorem lineSee_any (b ev last left x : Nat) (ah : Bool) (w : World) (h : w.heap[b]? = some (lineC ev ah last left)) (hl : 1 ≤ left) (hl2 : left ≤ 1000) :
    Calls Try.prog 88 #[.pointer (some ⟨b, 0, none⟩), .int .u8 x] w fun e w' => e = .returned (.tuple #[]) ∧ w'.heap[b]? = some (lineC ev ah x (left - 1)) ∧ Touch b b w w' := by
  have c2 : w.cell? ⟨b, 2, none⟩ = some (.int .u8 last) := cell_of_heap h 2 _ rfl
  have c3 : w.cell? ⟨b, 3, none⟩ = some (.int .i64 left) := cell_of_heap h 3 _ rfl
  have z2 : w.frozen? ⟨b, 2, none⟩ = false := by simp [World.frozen?, h]
  have z3 : w.frozen? ⟨b, 3, none⟩ = false := by simp [World.frozen?, h]
  have HH := Lib.hid h
  clear h
  go_enter Try.func88, Try.ntmps88
  go_wp2
  go_end0
  refine ⟨rfl, ?_, ((Touch.refl b b w).setCell (p := ⟨b, 2, none⟩) (.inl rfl) _).setCell (p := ⟨b, 3, none⟩) (.inl rfl) _⟩
  rw [heap_setCell (heap_setCell HH.out 2 _) 3 _]
  simp
  omega
set_option maxHeartbeats 1000000 in
theorem lineStuff_any (b ev last left : Nat) (ah : Bool) (w : World) (h : w.heap[b]? = some (lineC ev ah last left)) (hl : last ≤ 1) :
    Calls Try.prog 87 #[.pointer (some ⟨b, 0, none⟩)] w fun e w' => e = .returned (.int .u8 (1 - last : Nat)) ∧ w'.heap[b]? = some (lineC ev ah (1 - last) ev) ∧ Touch b b w w' := by
  have c0 : w.cell? ⟨b, 0, none⟩ = some (.int .i64 ev) := cell_of_heap h 0 _ rfl
  have c2 : w.cell? ⟨b, 2, none⟩ = some (.int .u8 last) := cell_of_heap h 2 _ rfl
  have c3 : w.cell? ⟨b, 3, none⟩ = some (.int .i64 left) := cell_of_heap h 3 _ rfl
  have z2 : w.frozen? ⟨b, 2, none⟩ = false := by simp [World.frozen?, h]
  have z3 : w.frozen? ⟨b, 3, none⟩ = false := by simp [World.frozen?, h]
  have HH := Lib.hid h
  clear h
  go_enter Try.func87, Try.ntmps87
  go_wp2
  go_region
  go_wp2
  have e1 : (1 : Int) - (last : Int) = ((1 - last : Nat) : Int) := by omega
  go_ret
  refine ⟨ret_int (by omega), ?_, (((Touch.refl b b w).setCell (p := ⟨b, 2, none⟩) (.inl rfl) _).setCell (p := ⟨b, 3, none⟩) (.inl rfl) _).drew⟩
  show ((w.setCell _ _).setCell _ _).heap[b]? = _
  rw [heap_setCell (heap_setCell HH.out 2 _) 3 _, e1]
  simp
abbrev wayV (ev : Nat) (ah : Bool) : Value := .agg #[.int .i64 ev, .bool ah]
theorem may_any (ev : Nat) (ah : Bool) (w : World) (h1 : 1 ≤ ev) (h2 : ev ≤ 64) :
    Calls Try.prog 101 #[wayV ev ah] w fun e w' => e = .returned (.bool true) ∧ Below w.heap.size w w' := by
  have a1 : (1 : Int) ≤ (ev : Int) := by omega
  have a2 : (ev : Int) ≤ 64 := by omega
  go_enter Try.func101, Try.ntmps101
  go_wp2
  go_ret
  exact ⟨by first | rfl | simp, below_alloc (Below.refl _ _) _⟩
theorem begin_any (ev prev : Nat) (ah : Bool) (w : World) :
    Calls Try.prog 85 #[wayV ev ah, .int .u8 prev] w fun e w' => e = .returned (.pointer (some ⟨w.heap.size + 1, 0, none⟩)) ∧ w'.heap[w.heap.size + 1]? = some (lineC ev ah prev (if ah then 0 else ev)) ∧ w'.heap.size = w.heap.size + 1 + 1 ∧ Below w.heap.size w w' := by
  have hb := below_alloc (below_alloc (Below.refl w.heap.size w) (.cells #[.int .i64 ev, .bool ah] 49)) (.cells #[.int .i64 ev, .bool ah, .int .u8 prev, .int .i64 ev] 124)
  cases ah
  · go_enter Try.func85, Try.ntmps85
    go_wp2
    go_ret
    exact ⟨rfl, heap_new_at (by simp), by simp, hb⟩
  · go_enter Try.func85, Try.ntmps85
    go_wp2
    go_ret
    exact ⟨rfl, heap_new_at (by simp), by simp, below_alloc (below_alloc (Below.refl _ _) _) _⟩
def fsize (n ev : Nat) (ah : Bool) : Nat := if n = 0 then 0 else n + (n - 1) / ev + (if ah then 1 else 0)
theorem FSize_any (n ev : Nat) (ah : Bool) (w : World) (h1 : 1 ≤ ev) (h2 : ev ≤ 64) (hn : n ≤ 65536) :
    Calls Try.prog 65 #[.int .i64 n, wayV ev ah] w fun e w' => e = .returned (.tuple #[.int .i64 (fsize n ev ah : Nat), .int .i64 0]) ∧ Below w.heap.size w w' := by
  have HM := Lib.hid (fun W => may_any ev ah W h1 h2)
  have a0 : ¬ (n : Int) < 0 := by omega
  have a1 : ¬ (65536 : Int) < (n : Int) := by omega
  have hev : ¬ (ev : Int) = 0 := by omega
  obtain ⟨q, hq⟩ : ∃ q, (n - 1) / ev = q := ⟨_, rfl⟩
  have hqle : q ≤ n := by rw [← hq]; exact Nat.le_trans (Nat.div_le_self _ _) (by omega)
  by_cases hn0 : n = 0
  · subst hn0
    clear hq hqle
    go_enter Try.func65, Try.ntmps65
    go_wp2_with fail
    refine (HM.out _).mono ?_
    rintro e w1 ⟨rfl, hb⟩
    have HB := Lib.hid (below_trans (below_alloc (Below.refl _ w) _) hb)
    clear hb
    go_wp2_with fail
    go_ret2
    exact ⟨rfl, HB.out⟩
  · have hnz : ((n : Int) == 0) = false := by rw [beq_eq_false_iff_ne]; omega
    have hdiv : ((n : Int) - 1).tdiv (ev : Int) = (q : Int) := by
      rw [Int.tdiv_eq_ediv_of_nonneg (by omega), ← hq]
      have : (n : Int) - 1 = ((n - 1 : Nat) : Int) := by omega
      rw [this]; simp
    have hfs : (fsize n ev ah : Int) = (n : Int) + (q : Int) + (if ah then 1 else 0) := by
      unfold fsize; rw [if_neg hn0, hq]; cases ah <;> simp
    have HFS := Lib.hid hfs
    clear hq hfs
    go_enter Try.func65, Try.ntmps65
    go_wp2_with fail
    refine calls_name (T := fun W1 => W1.heap[w.heap.size]? = some (.cells #[.int .i64 ev, .bool ah] 49) ∧ Below w.heap.size w W1) ⟨heap_new_at rfl, below_alloc (Below.refl _ _) _⟩ ?_
    rintro W1 ⟨q1, hb1⟩
    refine (HM.out _).mono ?_
    rintro e w1 ⟨rfl, hb⟩
    have c0 := cell_of_heap (heap_below hb q1) 0 _ rfl
    have c1 : w1.cell? ⟨w.heap.size, 1, none⟩ = some (.bool ah) := cell_of_heap (heap_below hb q1) 1 _ rfl
    have HB := Lib.hid (below_trans hb1 hb)
    clear hb q1 hb1
    cases ah
    · go_wp2_with fail
      go_ret2
      exact ⟨ret_fst (by have := HFS.out; simp at this; omega), HB.out⟩
    · go_wp2_with fail
      go_ret2
      exact ⟨ret_fst (by have := HFS.out; simp at this; omega), HB.out⟩
theorem fcheck_any (prev ev n c : Nat) (ah : Bool) (A : Option Addr) (l : List Nat) (w : World) (h1 : 1 ≤ ev) (h2 : ev ≤ 64) (hp : prev ≤ 1) (hr : Rd w A (bys l)) (hn : l.length = n) (hn2 : n ≤ 65536) (h01 : ∀ x ∈ l, x ≤ 1) :
    Calls Try.prog 84 #[.int .u8 prev, .slice A n c, wayV ev ah] w fun e w' => e = .returned (.bool true) ∧ Below w.heap.size w w' := by
  have hok : bitsOk l = true := by unfold bitsOk; rw [decide_eq_true (by omega : l.length ≤ 65536), decide_eq_true h01]; rfl
  have hC := fun W (hW : Rd W A (bys l)) => BitsCheck_any A n c l W hW hn (by omega)
  rw [hok, if_pos rfl] at hC
  have HC := Lib.hid hC
  have HM := Lib.hid (fun W => may_any ev ah W h1 h2)
  have HR := Lib.hid hr
  have hp1 : (prev : Int) ≤ 1 := by omega
  clear hok hC hr h01
  go_enter Try.func84, Try.ntmps84
  go_wp2_with fail
  refine (HC.out _ (HR.out.alloc _)).mono ?_
  rintro e _ ⟨rfl, rfl⟩
  go_wp2_with fail
  refine (HM.out _).mono ?_
  rintro e w1 ⟨rfl, hb⟩
  have HB := Lib.hid (below_trans (below_alloc (Below.refl _ w) _) hb)
  clear hb
  go_wp2_with fail
  go_ret
  exact ⟨by first | rfl | simp, HB.out⟩
end Go.Proofs.Ytaknddanggdplaa
-- AppB: append to a row of the call's own that lies beside other blocks of the call's own. No condition.
namespace Go.Proofs.Ytaknddanggdplaa
open Go.RowKit
/-- append to a row of the call's own: below the row's base nothing is turned. -/
theorem wpList_appB {P : Program} {W : World} {ops : Array Oper} {rest : List Oper} {o : Oper} {a : Act} {Q : Exit → Act → World → Prop} (hgd : o.guard = none) (s x : Operand) (t : TypeId)
    (ho : o.op = .call { callee := .builtin .append, args := #[s, x], argTypes := #[t, t] })
    (base : Nat) (e : TypeId) (i : TypeInfo) (z : Value) (bytes : Nat) (ht : P.underlying t = some (.slice e)) (hi : P.info? e = some i) (hz : i.zero = some z)
    (hsize : i.size = 1) (hby : i.bytes = bytes) (hzs : z.cells.size = 1)
    (A : Option Addr) (n c : Nat) (xs : List Value) (hs : a.eval s = .slice A n c) (hn : xs.length = n) (hown : Row W base e A c xs)
    (B : Option Addr) (m d : Nat) (news : List Value) (hx : a.eval x = .slice B m d) (hm : news.length = m) (hr : Rd W B news) (h1 : ∀ u ∈ news, u.oneCell' = true) (hd : news = [] → B = none → d = 0)
    (N : Nat) (hN : n + m = N) (h63 : N ≤ maxLen) (hbytes : N * bytes ≤ 140737488355328) (hbase : base ≤ W.heap.size)
    (h : ∀ (w3 : World) (A3 : Option Addr) (c3 : Nat), Hid (Row w3 base e A3 c3 (xs ++ news)) → Hid (Below base W w3) → wpList P ops Q rest (a.put o.dst (.slice A3 N c3)) w3) : wpList P ops Q (o :: rest) a W := by
  subst hN hm hn
  refine wpList_app W hgd s x t ho base e i z bytes ht hi hz hsize hby hzs (.slice A xs.length c) xs.length xs hs hown B news.length d news hx rfl hr h1 hd h63 hbytes hbase fun v' w' h2 h3 _ => ?_
  obtain ⟨A3, c3, rfl, hrow⟩ := Row.of h2 (by simp)
  have := h w' A3 c3 hrow (own_grown hown (Below.refl base W) (Nat.le_refl _) hbase h3)
  simpa using this
end Go.Proofs.Ytaknddanggdplaa
-- Stuff0: stuff's state: how a row of raw bits ends. No condition.
namespace Go.Proofs.Ytaknddanggdplaa
open Go.RowKit
def seeL (last run x : Nat) : Nat := if 0 < run ∧ last = x then last else x
theorem full_any (b : Nat) (last run : Nat) (t : TypeId) (w : World) (h : w.heap[b]? = some (.cells #[.int .u8 last, .int .i64 run] t)) :
    Calls Try.prog 82 #[.pointer (some ⟨b, 0, none⟩)] w fun e w' => e = .returned (.bool (decide (run = 5))) ∧ w = w' := by
  have c0 := cell_of_heap h 0 _ rfl
  have c1 : w.cell? ⟨b, 1, none⟩ = some (.int .i64 run) := cell_of_heap h 1 _ rfl
  go_enter Try.func82, Try.ntmps82
  go_wp2
  go_ret
  exact ⟨ret_bool (by rw [Bool.eq_iff_iff]; simp; omega), rfl⟩
set_option maxHeartbeats 1000000 in
theorem see_any (b : Nat) (last run x : Nat) (t : TypeId) (w : World) (h : w.heap[b]? = some (.cells #[.int .u8 last, .int .i64 run] t)) (hr : run ≤ 1000000) :
    Calls Try.prog 83 #[.pointer (some ⟨b, 0, none⟩), .int .u8 x] w fun e w' => e = .returned (.tuple #[]) ∧ w'.heap[b]? = some (.cells #[.int .u8 (seeL last run x : Nat), .int .i64 (seeN last run x : Nat)] t) ∧ Touch b b w w' := by
  have c0 := cell_of_heap h 0 _ rfl
  have c1 : w.cell? ⟨b, 1, none⟩ = some (.int .i64 run) := cell_of_heap h 1 _ rfl
  have z0 : w.frozen? ⟨b, 0, none⟩ = false := by simp [World.frozen?, h]
  have z1 : w.frozen? ⟨b, 1, none⟩ = false := by simp [World.frozen?, h]
  have HH := Lib.hid h
  clear h
  by_cases hr0 : run = 0
  · subst hr0
    go_enter Try.func83, Try.ntmps83
    go_wp2
    go_end0
    refine ⟨rfl, ?_, ((Touch.refl b b w).setCell (p := ⟨b, 0, none⟩) (.inl rfl) _).setCell (p := ⟨b, 1, none⟩) (.inl rfl) _⟩
    rw [heap_setCell (heap_setCell HH.out 0 _) 1 _]
    simp [seeN, seeL]
  · by_cases he : last = x
    · have hei : ((run : Int) > 0) := by omega
      subst he
      go_enter Try.func83, Try.ntmps83
      go_wp2
      (first | go_returns | go_ret)
      refine ⟨rfl, ?_, (Touch.refl b b w).setCell (p := ⟨b, 1, none⟩) (.inl rfl) _⟩
      rw [heap_setCell HH.out 1 _]
      simp [seeN, seeL, show 0 < run by omega]
    · have hne : ¬ (last : Int) = (x : Int) := by omega
      go_enter Try.func83, Try.ntmps83
      go_wp2
      go_end0
      refine ⟨rfl, ?_, ((Touch.refl b b w).setCell (p := ⟨b, 0, none⟩) (.inl rfl) _).setCell (p := ⟨b, 1, none⟩) (.inl rfl) _⟩
      rw [heap_setCell (heap_setCell HH.out 0 _) 1 _]
      simp [seeN, seeL, he]
end Go.Proofs.Ytaknddanggdplaa
-- StuffPut: stuff.Put: bits with stuff bits. No condition.
namespace Go.Proofs.Ytaknddanggdplaa
open Go.RowKit
theorem seeL_eq (last run x : Nat) : seeL last run x = x := by unfold seeL; split <;> simp_all
/-- Of what lay below B only blocks b and d are turned. -/
structure Keep2 (B b d : Nat) (w w' : World) : Prop where
  os : w'.os = w.os
  tape : w'.tape = w.tape
  output : w'.output = w.output
  size : w.heap.size ≤ w'.heap.size
  block : ∀ k, k < B → k ≠ b → k ≠ d → w'.heap[k]? = w.heap[k]?
theorem Keep2.refl (B b d : Nat) (w : World) : Keep2 B b d w w := ⟨rfl, rfl, rfl, Nat.le_refl _, fun _ _ _ _ => rfl⟩
theorem Keep2.trans {B b d : Nat} {w w1 w2 : World} (h : Keep2 B b d w w1) (k : Keep2 B b d w1 w2) : Keep2 B b d w w2 :=
  ⟨k.os.trans h.os, k.tape.trans h.tape, k.output.trans h.output, Nat.le_trans h.size k.size, fun i hi h1 h2 => (k.block i hi h1 h2).trans (h.block i hi h1 h2)⟩
theorem Keep2.ofTouch {B b d : Nat} {w w' : World} (h : Touch b b w w') (hB : B ≤ w.heap.size) : Keep2 B b d w w' := ⟨h.os, h.tape, h.output, h.size, fun k hk h1 _ => h.block k (by omega) h1 h1⟩
theorem Keep2.ofKeep {B b d : Nat} {w w' : World} (h : Keep B d w w') : Keep2 B b d w w' := ⟨h.os, h.tape, h.output, h.size, fun k hk _ h2 => h.block k hk h2⟩
theorem Keep2.below {B b d C : Nat} {w w' : World} (h : Keep2 B b d w w') (hb : C ≤ b) (hd : C ≤ d) (hB : C ≤ B) : Below C w w' := ⟨h.os, h.tape, h.output, h.size, fun k hk => h.block k (by omega) (by omega) (by omega)⟩
theorem Keep2.cell_of {B b d : Nat} {w w' : World} (h : Keep2 B b d w w') {a : Addr} {v : Value} (hc : w.cell? a = some v) (h1 : a.block < B) (h2 : a.block ≠ b) (h3 : a.block ≠ d) : w'.cell? a = some v := cell_same (h.block _ h1 h2 h3) hc
/-- A row of stuffed bits under way: block bs holds how it ends, block bo the row. -/
structure Stf (w : World) (B bs bo : Nat) (A : Option Addr) (c last run : Nat) (out : List Nat) : Prop where
  pot : Pot w B bo 23 A c out
  st : w.heap[bs]? = some (.cells #[.int .u8 last, .int .i64 run] 85)
  ne : bs ≠ bo
  ns : ∀ ad, A = some ad → ad.block ≠ bs
  lt : bs < B
theorem Row.touch {w w' : World} {base t c b : Nat} {A : Option Addr} {xs : List Value} (h : Row w base t A c xs) (ht : Touch b b w w') (hb : ∀ ad, A = some ad → ad.block ≠ b) : Row w' base t A c xs := by
  refine ⟨h.1, h.2.imp id fun ⟨g, cap, cur, hv, hg, hh, r⟩ => ⟨g, cap, cur, hv, hg, ?_, r⟩⟩
  have hne : g ≠ b := by injection hv with e _ _; exact hb _ e
  rw [ht.block g (heap_lt hh) hne hne]; exact hh
theorem Row.ge {w : World} {base t c : Nat} {A : Option Addr} {xs : List Value} (h : Row w base t A c xs) : ∀ ad, A = some ad → base ≤ ad.block := by
  intro ad e
  subst e
  rcases h.2 with ⟨hv, _⟩ | ⟨g, cap, cur, hv, hg, _⟩
  · cases hv
  · injection hv with e; injection e with e; rw [e]; exact hg
set_option maxRecDepth 100000 in
set_option maxHeartbeats 1000000 in
theorem put1_any (w : World) (B bs bo : Nat) (A : Option Addr) (c last run x : Nat) (out : List Nat) (h : Stf w B bs bo A c last run out) (hrun : run ≤ 1000) (hl : out.length + 1 ≤ 1000000) :
    Calls Try.prog 81 #[.func (.func 83) #[.pointer (some ⟨bs, 0, none⟩)] #[], .int .u8 x, .pointer (some ⟨bo, 0, none⟩)] w fun e w' => e = .returned (.tuple #[]) ∧ (∃ A' c', Stf w' B bs bo A' c' x (seeN last run x) (out ++ [x])) ∧ Keep2 B bs bo w w' := by
  obtain ⟨i0, hi, hz0, hz1, hz2⟩ := info_parts info_u8
  have HH := Lib.hid h
  have HSEE := Lib.hid (see_any bs last run x 85 w h.st (by omega))
  clear h
  go_enter Try.func81, Try.ntmps81
  go_wp2_with fail
  refine HSEE.out.mono ?_
  rintro e w1 ⟨rfl, hst, ht⟩
  rw [seeL_eq] at hst
  have hbo : w1.heap[bo]? = some (.cells #[.slice A out.length c] 23) := by
    rw [ht.block bo (heap_lt HH.out.pot.box) (Ne.symm HH.out.ne) (Ne.symm HH.out.ne)]; exact HH.out.pot.box
  have hpot : Pot w1 B bo 23 A c out := ⟨hbo, HH.out.pot.ne, Nat.le_trans HH.out.pot.size ht.size, HH.out.pot.row.touch ht HH.out.ns⟩
  obtain ⟨q, hq⟩ : ∃ q, out.length = q := ⟨_, rfl⟩
  have hq2 : q + 1 ≤ 1000000 := by omega
  have c0 : w1.cell? ⟨bo, 0, none⟩ = some (.slice A q c) := by rw [← hq]; exact hpot.cell
  have z0 : w1.frozen? ⟨bo, 0, none⟩ = false := hpot.frozen
  have sb : bo < w1.heap.size := heap_lt hpot.box
  have HPOT := Lib.hid hpot
  have HST := Lib.hid hst
  have HT := Lib.hid ht
  have HL := Lib.hid hq
  clear hpot hst ht hq hl hbo
  go_wp2_with (at_builtin; refine wpList_pot (W0 := w1) (HPOT.out.alloc _) (.of (below_alloc (Below.refl _ _) _) HPOT.out.size) rfl (.tmp 8) (.tmp 10) 23 rfl i0 _ 1 Try.underlying23 hi hz0 hz1 hz2 rfl q HL.out rfl _ 1 1 [x] rfl rfl (Rd.blk (heap_new_at rfl)) (by intro h; cases h) (q + 1) rfl (by unfold maxLen; omega) (by omega) ?_; intro w3 A3 c3 HP3 c03 z03)
  go_end0
  obtain ⟨p1, p2⟩ := HP3.out.store (n := q + 1) (by rw [List.length_append, HL.out]; rfl)
  refine ⟨rfl, ⟨A3, c3, p1, ?_, HH.out.ne, fun ad e => by have := p1.row.ge ad e; have := HH.out.lt; omega, HH.out.lt⟩, (Keep2.ofTouch HT.out HH.out.pot.size).trans (.ofKeep p2)⟩
  rw [p2.block bs HH.out.lt HH.out.ne]
  exact HST.out
theorem put1_row (w : World) (B bs bo : Nat) (A : Option Addr) (c last run X : Nat) (x : Int) (out : List Nat) (eX : x = (X : Int)) (h : Stf w B bs bo A c last run out) (hrun : run ≤ 1000) (hl : out.length + 1 ≤ 1000000) :
    Calls Try.prog 81 #[.func (.func 83) #[.pointer (some ⟨bs, 0, none⟩)] #[], .int .u8 x, .pointer (some ⟨bo, 0, none⟩)] w fun e w' => e = .returned (.tuple #[]) ∧ (∃ A' c', Stf w' B bs bo A' c' X (seeN last run X) (out ++ [X])) ∧ Keep2 B bs bo w w' := by
  subst eX
  exact put1_any w B bs bo A c last run X out h hrun hl
theorem drop_cons (l : List Nat) (k : Nat) (h : k < l.length) : l.drop k = l[k] :: l.drop (k + 1) := List.drop_eq_getElem_cons h
theorem below_of_grown {w w' : World} (h : w.grownBy w' none) : Below w.heap.size w w' := (Below.refl _ w).grown h (Nat.le_refl _) (by simp)
set_option maxRecDepth 100000 in
set_option maxHeartbeats 2000000 in
theorem StuffPut_any (w : World) (A : Option Addr) (c n N : Nat) (l : List Nat) (hr : Rd w A (bys l)) (hn : l.length = n) (hn2 : n ≤ 50000) (h01 : ∀ x ∈ l, x ≤ 1) (hN : (stuffN l).length = N) :
    Calls Try.prog 36 #[.slice A n c] w fun e w' => (∃ A' c', e = .returned (.tuple #[.slice A' N c', .int .i64 0]) ∧ Row w' w.heap.size 5 A' c' (bys (stuffN l))) ∧ Below w.heap.size w w' := by
  obtain ⟨i0, hi, hz0, hz1, hz2⟩ := info_parts info_u8
  have hok : bitsOk l = true := by unfold bitsOk; rw [decide_eq_true (by omega : l.length ≤ 65536), decide_eq_true h01]; rfl
  have hC := BitsCheck_any A n c l w hr hn (by omega)
  rw [hok, if_pos rfl] at hC
  have hN2 : N ≤ 65536 := by have := stuffN_le l; omega
  have HC := Lib.hid hC
  have HR := Lib.hid hr
  have HN := Lib.hid hn
  have H01 := Lib.hid h01
  have HNN := Lib.hid hN
  clear hok hC hr hn h01 hN
  go_enter Try.func36, Try.ntmps36
  go_wp2_with fail
  refine HC.out.mono ?_
  rintro e _ ⟨rfl, rfl⟩
  go_wp2_with (refine wpList_make_own _ rfl _ (.tmp 20) 23 rfl (w.heap.size + 1) 5 i0 (.int .u8 0) 1 Try.underlying23 hi hz0 hz1 .i64 .i64 _ (n + n / 4) rfl rfl (by omega) (by rw [hz2]; omega) (by unfold maxLen; omega) (by simp) ?_; intro w1 hown hgr)
  obtain ⟨g, hg⟩ : ∃ g, w.heap.size = g := ⟨_, rfl⟩
  have hst : w1.heap[g]? = some (.cells #[.int .u8 ((0 : Nat) : Int), .int .i64 ((0 : Nat) : Int)] 85) := heap_below (below_of_grown hgr) (heap_new_at hg.symm)
  have hsz : g + 1 ≤ w1.heap.size := by have := heap_lt hst; omega
  rw [World.size_alloc, hg] at hown
  have hbw : Below g w w1 := by rw [← hg]; exact below_trans (below_alloc (Below.refl _ _) _) (below_of_grown hgr)
  have hstf : Stf (w1.alloc (.cells #[.slice (some ⟨g + 1, 0, none⟩) 0 (n + n / 4)] 23)) (g + 1) g w1.heap.size (some ⟨g + 1, 0, none⟩) (n + n / 4) 0 0 [] :=
    ⟨⟨heap_new_at rfl, fun ad e => by
        injection e with e
        subst e
        rcases hown.2 with ⟨hv, _⟩ | ⟨g', cap, cur, hv, _, hh, _⟩
        · cases hv
        · injection hv with e; injection e with e; injection e with e
          have := heap_lt hh
          show g + 1 ≠ _
          omega, by simp; omega, World.ownsRow.alloc hown _⟩, heap_push hst, by have := heap_lt hst; omega, fun ad e => by injection e with e; subst e; show g + 1 ≠ g; omega, by omega⟩
  obtain ⟨bo, hbo⟩ : ∃ bo, w1.heap.size = bo := ⟨_, rfl⟩
  rw [hbo] at hstf
  have hk0 : Keep2 (g + 1) g bo w (w1.alloc (.cells #[.slice (some ⟨g + 1, 0, none⟩) 0 (n + n / 4)] 23)) := by
    have hb := hbw.alloc (by omega) (.cells #[.slice (some ⟨g + 1, 0, none⟩) 0 (n + n / 4)] 23)
    exact ⟨hb.os, hb.tape, hb.output, hb.size, fun k hk h1 _ => hb.block k (by omega)⟩
  have HSTF := Lib.hid hstf
  have HK0 := Lib.hid hk0
  have HG := Lib.hid hg
  have HBO := Lib.hid hbo
  have hgb : g ≤ bo := by omega
  rw [hg, hbo]
  clear hst hsz hown hbw hstf hk0 hg hbo hgr hi hz0 hz1 hz2
  go_loopw [25] (fun iv wr => ∃ (k last run : Nat) (A' : Option Addr) (c' : Nat) (out : List Nat), k ≤ n ∧ iv = .int .i64 k ∧ run ≤ 5 ∧ last ≤ 1 ∧ Hid (out ++ stf last run (l.drop k) = stuffN l) ∧ Hid (Stf wr (g + 1) g bo A' c' last run out) ∧ Hid (Keep2 (g + 1) g bo w wr)) (fun iv _ => n - (intOf iv).toNat)
  case atStart => exact ⟨0, 0, 0, _, _, [], by omega, rfl, by omega, by omega, rfl, HSTF, HK0⟩
  case round =>
    obtain ⟨k, last, run, A', c', out, hk, rfl, hr5, hl1, HM, HQ, HK⟩ := hrel
    have hol : out.length ≤ 65536 := by have := congrArg List.length HM.out; rw [List.length_append, HNN.out] at this; omega
    by_cases hkn : k < n
    · have hkl : k < l.length := by rw [HN.out]; exact hkn
      have hrd : Rd wr A (bys l) := by
        intro j u hj
        obtain ⟨ad, e, hc⟩ := HR.out j u hj
        have hlt := cell_lt hc
        exact ⟨ad, e, HK.out.cell_of hc (by rw [HG.out] at hlt; omega) (by rw [HG.out] at hlt; omega) (by rw [HG.out] at hlt; omega)⟩
      obtain ⟨ad, rfl, ca⟩ := hrd.at_ k hkl
      have hx := H01.out l[k] (List.getElem_mem hkl)
      have hd := drop_cons l k hkl
      obtain ⟨x, hxe⟩ : ∃ x, l[k] = x := ⟨_, rfl⟩
      rw [hxe] at ca hx hd
      have HD := Lib.hid hd
      have hfull := full_any g last run 85 wr HQ.out.st
      clear hd hxe hrd
      by_cases h5 : run = 5
      · rw [decide_eq_true h5] at hfull
        subst h5
        have HF := Lib.hid hfull
        have b0 : wr.cell? ⟨g, 0, none⟩ = some (.int .u8 last) := cell_of_heap HQ.out.st 0 _ rfl
        clear hfull
        go_wp2_with fail
        refine HF.out.mono ?_
        rintro e _ ⟨rfl, rfl⟩
        go_wp2_with fail
        refine (put1_row wr (g + 1) g bo A' c' last 5 (1 - last) _ out ?e1 HQ.out (by omega) (by omega)).mono ?_
        case e1 => first | rfl | omega
        rintro e w2 ⟨rfl, ⟨A2, c2, hs2⟩, hk2⟩
        have HS2 := Lib.hid hs2
        have HK2 := Lib.hid hk2
        clear hs2 hk2
        go_wp2_with fail
        refine (put1_any w2 (g + 1) g bo A2 c2 (1 - last) (seeN last 5 (1 - last)) x (out ++ [1 - last]) HS2.out (by have := seeN_le last 5 (1 - last); omega) (by simp; omega)).mono ?_
        rintro e w3 ⟨rfl, ⟨A3, c3, hs3⟩, hk3⟩
        have HS3 := Lib.hid hs3
        have HK3 := Lib.hid hk3
        clear hs3 hk3
        go_wp2_with fail
        go_roundw
        case rel =>
          have e1 : seeN last 5 (1 - last) = 1 := by unfold seeN; rw [if_neg (by omega)]
          have h3 := HS3.out
          rw [e1] at h3
          refine ⟨k + 1, x, seeN (1 - last) 1 x, A3, c3, (out ++ [1 - last]) ++ [x], by omega, by go_num, by have := seeN_le (1 - last) 1 x; omega, hx, ?_, h3, HK.out.trans (HK2.out.trans HK3.out)⟩
          show _ = _
          rw [← HM.out, HD.out, stf, if_pos rfl, List.append_assoc, List.append_assoc]
          rfl
        case measure => simp [intOf]; omega
      · rw [decide_eq_false h5] at hfull
        have HF := Lib.hid hfull
        have H5 := Lib.hid h5
        clear hfull h5
        go_wp2_with fail
        refine HF.out.mono ?_
        rintro e _ ⟨rfl, rfl⟩
        go_wp2_with fail
        refine (put1_any wr (g + 1) g bo A' c' last run x out HQ.out (by omega) (by omega)).mono ?_
        rintro e w3 ⟨rfl, ⟨A3, c3, hs3⟩, hk3⟩
        have HS3 := Lib.hid hs3
        have HK3 := Lib.hid hk3
        clear hs3 hk3
        go_wp2_with fail
        go_roundw
        case rel =>
          refine ⟨k + 1, x, seeN last run x, A3, c3, out ++ [x], by omega, by go_num, by have := seeN_le last run x; have := H5.out; omega, hx, ?_, HS3.out, HK.out.trans HK3.out⟩
          show _ = _
          rw [← HM.out, HD.out, stf, if_neg H5.out, List.append_assoc]
          rfl
        case measure => simp [intOf]; omega
    · obtain rfl : n = k := by omega
      have hm := HM.out
      rw [← HN.out, List.drop_length, stf, List.append_nil] at hm
      subst hm
      have c0 : wr.cell? ⟨bo, 0, none⟩ = some (.slice A' N c') := by rw [← HNN.out]; exact HQ.out.pot.cell
      have hnl : ¬ (65536 : Int) < (N : Int) := by omega
      clear hol
      go_wp2_with fail
      go_ret2
      refine ⟨⟨A', c', rfl, ?_⟩, ?_⟩
      · rw [HG.out]; exact HQ.out.pot.row.mono (by omega)
      · rw [HG.out]; exact HK.out.below (Nat.le_refl _) hgb (by omega)
end Go.Proofs.Ytaknddanggdplaa
