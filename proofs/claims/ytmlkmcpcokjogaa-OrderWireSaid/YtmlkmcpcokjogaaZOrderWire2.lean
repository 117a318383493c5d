/- What the law OrderWire needs, part 2: words, walks and plain facts, each with its own head. No condition. -/
import Derived.Test.YtmlkmcpcokjogaaZOrderWire1
import Derived.Shelf.Abstract
import Derived.Test.YtmlkmcpcokjogaaProg
import Derived.Handy
import Derived.Laws.CopyOwn
import Derived.StillTailTactics
import Derived.Deep.DeepFit
-- Run: crc's kind.run: check sums by the table. No condition.
namespace Go.Proofs.Ytmlkmcpcokjogaa
open Go.RowKit
attribute [local go_sem] Oper.semAt_some
theorem wpListIn_store_row {F : Fence} {n : Nat} {P : Program} {ops : Array Oper} {rest : List Oper} {o : Oper} {a : Act} {w : World} {Q : Exit → Act → World → Prop} (hgd : o.guard = none) (ty : TypeId) (x y : Operand) (ho : o.op = .store ty x y)
    (g : Nat) (cells : Array Value) (hx : a.eval x = .pointer (some ⟨g, 0, none⟩)) (hy : a.eval y = .agg cells)
    (t : TypeId) (old : Array Value) (hg : w.heap[g]? = some (.cells old t (0, 0))) (hi : (P.info? ty).map (·.size) = some cells.size)
    (hold : old.size = cells.size) (h1 : cells.all (·.oneCell') = true)
    (h : wpListIn F n P ops Q rest (a.put o.dst undef) (w.setRow g cells)) : wpListIn F n P ops Q (o :: rest) a w := by
  refine wpListIn_plain hgd fun K hK => ?_
  unfold Oper.wpIn
  refine ⟨?_, ?_⟩
  · simp [Oper.about, ho]
  · rw [Oper.semAt_plain F _ _ (by rw [ho]; intro c hc'; cases hc')]
    unfold execOp
    simp only [ho, hx, hy, Instr.storeAt, Instr.sureAddr, Sem.run_bind, Sem.run_pure, Result.andThen_ok, run_storeVar_row w g t ty old cells hg hi hold h1]
    exact hK _ _ h
/-- The x-th piece's bits. -/
def chunkL (l : List Nat) (sz x : Nat) : List Nat := (l.drop (sz * x)).take sz
theorem chunkL_length (l : List Nat) (sz x : Nat) : (chunkL l sz x).length = min sz (l.length - sz * x) := by simp [chunkL]
theorem chunkL_all (l : List Nat) (sz : Nat) : ∀ k, (List.range k).flatMap (chunkL l sz) = l.take (sz * k) := by
  intro k
  induction k with
  | zero => simp
  | succ k ih =>
    rw [List.range_succ, List.flatMap_append, ih, List.flatMap_singleton, Nat.mul_succ, List.take_add]
    rfl
theorem chunkL_mem (l : List Nat) (sz x : Nat) : ∀ y ∈ chunkL l sz x, y ∈ l := fun _ h => List.mem_of_mem_drop (List.mem_of_mem_take h)
theorem chunkL_rd {w : World} {b off : Nat} {l : List Nat} (h : Rd w (some ⟨b, off, none⟩) (bys l)) (sz x : Nat) : Rd w (some ⟨b, off + sz * x, none⟩) (bys (chunkL l sz x)) := by
  intro j u hj
  refine ⟨_, rfl, ?_⟩
  have hl : j < (chunkL l sz x).length := by have := (List.getElem?_eq_some_iff.1 hj).1; rwa [bys_length] at this
  have h2 : (bys l)[sz * x + j]? = some u := by
    rw [← hj]
    unfold bys chunkL
    rw [chunkL_length] at hl
    simp [List.getElem?_map, List.getElem?_drop, show j < sz by omega]
  obtain ⟨ad, e, hc⟩ := h _ _ h2
  injection e with e
  subst e
  rw [← hc]
  congr 1
  unfold Addr.add
  by_cases h0 : j = 0
  · subst h0
    by_cases h1 : sz * x = 0 <;> simp [h1]
  · simp [h0, Nat.add_assoc]
theorem name_world {F : Fence} {n : Nat} {P : Program} {cd : Code} {Q : Exit → Act → World → Prop} {a : Act} {W : World} {T : World → Prop} (hT : T W) (h : ∀ W0, T W0 → cd.wpIn F n P Q a W0) : cd.wpIn F n P Q a W := h W hT
theorem grown_keep {B b : Nat} {W W' : World} {row : Option Nat} (hg : W.grownBy W' row) (hB : B ≤ W.heap.size) (hr : ∀ r, row = some r → B ≤ r) : Keep B b W W' :=
  ⟨hg.os, hg.tape, hg.output, hg.size, fun k hk _ => hg.block k (by omega) (fun e => by have := hr k e.symm; omega)⟩
theorem ownFrom_keep {β : Type} {B b : Nat} {w0 : World} (h : B ≤ w0.heap.size) : OwnFrom B (fun (_ : β) W => Keep B b w0 W) :=
  fun _ _ _ _ hs hg hr => hs.trans (grown_keep hg (Nat.le_trans h hs.size) (fun r e => (hr r e).1))
theorem ownFrom_heap {β : Type} {B g : Nat} (f : β → Obj) (hg : g < B) : OwnFrom B (fun s W => W.heap[g]? = some (f s)) :=
  fun _ _ _ _ hs hgr hr => (hgr.block g (heap_lt hs) (fun e => by have := (hr g e.symm).1; omega)).trans hs
theorem ownFrom_fact {β : Type} {B : Nat} (p : β → Prop) : OwnFrom B (fun s _ => p s) := fun _ _ _ _ hs _ _ => hs
theorem keepsFrom_below {B : Nat} {W W' : World} (h : Below W.heap.size W W') : KeepsFrom B W W' :=
  ⟨h.size, fun k _ _ hk _ => (h.block k (heap_lt hk)).trans hk⟩
theorem Keep.setRow {B b : Nat} {w w' : World} (h : Keep B b w w') (g : Nat) (hB : B ≤ g) (cs : Array Value) : Keep B b w (w'.setRow g cs) :=
  ⟨h.os, h.tape, h.output, by rw [setRow_size]; exact h.size, fun k hk h1 => by rw [setRow_other _ _ _ _ (by omega)]; exact h.block k hk h1⟩
theorem below_setRow {B : Nat} {w w' : World} (h : Below B w w') (g : Nat) (hB : B ≤ g) (cs : Array Value) : Below B w (w'.setRow g cs) :=
  ⟨h.os, h.tape, h.output, by rw [setRow_size]; exact h.size, fun k hk => by rw [setRow_other _ _ _ _ (by omega)]; exact h.block k hk⟩
set_option maxRecDepth 100000 in
set_option maxHeartbeats 4000000 in
theorem run_any (size poly start sum : Nat) (b off n c : Nat) (A : Option Addr) (hA : A = some ⟨b, off, none⟩ ∨ n = 0) (l : List Nat) (w : World) (h4 : 4 ≤ size) (h32 : size ≤ 32) (hp : poly < 2 ^ size) (hs : sum < 2 ^ size) (hr : Rd w A (bys l)) (hn : l.length = n) (hn2 : n ≤ 1000000) (hc1 : n ≤ c) (hc2 : c ≤ 9223372036854775807) (h01 : ∀ x ∈ l, x ≤ 1) :
    Calls Try.prog 157 #[kindV size poly start, .int .u64 sum, .slice A n c] w fun e w' => e = .returned (.int .u64 (crcN size poly sum l : Nat)) ∧ Below w.heap.size w w' := by
  have HT := Lib.hid (fun W => table_any size poly start W h4 h32 hp)
  obtain ⟨cs, hcs⟩ : ∃ cs, (tabV size poly 16).toArray = cs := ⟨_, rfl⟩
  rw [hcs] at HT
  have hi : (Try.prog.info? 239).map (·.size) = some cs.size := by
    have : (Try.prog.info? 239).map (·.size) = some 16 := by kernel_rfl
    rw [this, ← hcs]; simp [tabV_length]
  have hcz : (#[Value.int IntKind.u64 0, Value.int IntKind.u64 0, Value.int IntKind.u64 0, Value.int IntKind.u64 0, Value.int IntKind.u64 0, Value.int IntKind.u64 0, Value.int IntKind.u64 0, Value.int IntKind.u64 0, Value.int IntKind.u64 0, Value.int IntKind.u64 0, Value.int IntKind.u64 0, Value.int IntKind.u64 0, Value.int IntKind.u64 0, Value.int IntKind.u64 0, Value.int IntKind.u64 0, Value.int IntKind.u64 0] : Array Value).size = cs.size := by rw [← hcs]; simp [tabV_length]
  have h1 : cs.all (·.oneCell') = true := by rw [← hcs]; simp [tabV]; intros; rfl
  have HCS := Lib.hid hcs
  have HI := Lib.hid hi
  have HCZ := Lib.hid hcz
  have H1 := Lib.hid h1
  have HP := Lib.hid hp
  have HS := Lib.hid hs
  have HR := Lib.hid hr
  have HN := Lib.hid hn
  have H01 := Lib.hid h01
  have HA := Lib.hid hA
  clear hcs hi hcz h1 hp hs hr hn h01 hA
  refine (callsIn_wide (n := 5)).1 ?_
  refine callsIn_of_wp_marks Try.func157 rfl trivial ?_ rfl
  simp only [Try.ntmps157, List.size_toArray, List.length_cons, List.length_nil, Nat.reduceAdd, Nat.reduceSub, Array.replicate_succ, Array.replicate_zero, List.push_toArray, List.append_toArray, List.nil_append, List.cons_append]
  gi_wp2_with (first
    | (refine ⟨trivial, ?_⟩; gi_at_call 158; refine (callsIn_wide.2 (HT.out _)).mono ?_; rintro e w1 ⟨rfl, hb1⟩; have HB1 := Lib.hid hb1; clear hb1)
    | (with_reducible refine wpListIn_store_row rfl 239 (.tmp 7) (.tmp 13) rfl w1.heap.size cs rfl rfl 239 #[Value.int IntKind.u64 0, Value.int IntKind.u64 0, Value.int IntKind.u64 0, Value.int IntKind.u64 0, Value.int IntKind.u64 0, Value.int IntKind.u64 0, Value.int IntKind.u64 0, Value.int IntKind.u64 0, Value.int IntKind.u64 0, Value.int IntKind.u64 0, Value.int IntKind.u64 0, Value.int IntKind.u64 0, Value.int IntKind.u64 0, Value.int IntKind.u64 0, Value.int IntKind.u64 0, Value.int IntKind.u64 0] (heap_new_at rfl) HI.out HCZ.out H1.out ?_)
    | (refine ⟨trivial, ?_⟩; gi_at_call 159; refine (callsIn_wide.2 (Chunk_any A n c 4 _ (by omega) (by omega))).mono ?_; rintro e _ ⟨rfl, rfl⟩))
  obtain ⟨g, hg⟩ : ∃ g, w.heap.size = g := ⟨_, rfl⟩
  obtain ⟨q, hq⟩ : ∃ q, w1.heap.size = q := ⟨_, rfl⟩
  have HG := Lib.hid hg
  have HQ := Lib.hid hq
  have hgq : g + 1 + 1 < q := by
    have h1 := HB1.out.size
    simp at h1
    omega
  refine name_world (T := fun W0 => W0.heap[g]? = some (.cells #[.int .i64 size, .int .u64 poly, .int .u64 start] 235) ∧ W0.heap[g + 1]? = some (.cells #[.int .u64 sum] 115) ∧ W0.heap[g + 1 + 1]? = some (.cells #[.int .u64 0] 115) ∧ W0.heap[q]? = some (.cells cs 239) ∧
    W0.heap[q + 1]? = some (.cells #[.slice A n c] 40) ∧ W0.heap[q + 1 + 1]? = some (.cells #[.int .i64 4] 3) ∧ W0.heap.size = q + 1 + 1 + 1 ∧ Below g w W0) ?_ ?_
  · have e1 : ((w.alloc (.cells #[.int .i64 size, .int .u64 poly, .int .u64 start] 235)).alloc (.cells #[.int .u64 sum] 115)).heap.size = g + 1 + 1 := by simp [hg]
    have k0 := heap_below HB1.out (heap_push (heap_push (heap_new_at (w := w) (o := .cells #[.int .i64 size, .int .u64 poly, .int .u64 start] 235) hg.symm)))
    have k1 := heap_below HB1.out (heap_push (heap_new_at (g := g + 1) (w := w.alloc (.cells #[.int .i64 size, .int .u64 poly, .int .u64 start] 235)) (o := .cells #[.int .u64 sum] 115) (by simp [hg])))
    have k2 := heap_below HB1.out (heap_new_at (g := g + 1 + 1) (w := (w.alloc (.cells #[.int .i64 size, .int .u64 poly, .int .u64 start] 235)).alloc (.cells #[.int .u64 sum] 115)) (o := .cells #[.int .u64 0] 115) (by rw [e1]))
    refine ⟨?_, ?_, ?_, ?_, ?_, ?_, ?_, ?_⟩
    · refine heap_push (heap_push ?_)
      rw [setRow_other _ _ _ _ (by omega)]
      exact heap_push k0
    · refine heap_push (heap_push ?_)
      rw [setRow_other _ _ _ _ (by omega)]
      exact heap_push k1
    · refine heap_push (heap_push ?_)
      rw [setRow_other _ _ _ _ (by omega)]
      exact heap_push k2
    · refine heap_push (heap_push ?_)
      rw [hq]
      exact setRow_heap _ _ _ _ _ _ (heap_new_at hq.symm)
    · exact heap_push (heap_new_at (by simp [hq]))
    · exact heap_new_at (by simp [hq])
    · simp [hq]
    · have b1 : Below g w w1 := ((((Below.refl g w).alloc (by omega) _).alloc (by simp; omega) _).alloc (by simp; omega) _).trans (HB1.out.mono (by simp; omega))
      exact ((below_setRow (b1.alloc (by omega) _) _ (by omega) _).alloc (by simp; omega) _).alloc (by simp; omega) _
  rw [hg, hq]
  clear hg hq HB1
  rintro W0 ⟨f0, f1, f2, f3, f4, f5, fs, fb⟩
  have F0 := Lib.hid f0
  have F1 := Lib.hid f1
  have F2 := Lib.hid f2
  have F3 := Lib.hid f3
  have FS := Lib.hid fs
  have FB := Lib.hid fb
  refine wpIn_rangeFunc_ownG rfl (by omega) (gf := 163) (lb := #[.pointer (some ⟨q + 1, 0, none⟩), .pointer (some ⟨q + 1 + 1, 0, none⟩)]) rfl trivial (enters_of Try.func163 (by kernel_rfl) rfl)
    (chunk_stops (5 - 1) (by omega) (q + 1) (q + 1 + 1) W0.heap.size (g + 1) b off n c 4 A HA.out (by omega) (by omega) hn2 hc1 hc2 (by omega) (by omega) W0 (cell_of_heap f4 0 _ rfl) (cell_of_heap f5 0 _ rfl))
    (fun h k => h.trans k) (fun W j o o' hj ho _ _ => grown_keep (grownBy_putObj' W j o') (by have := heap_lt ho; omega) (fun r e => by cases e; exact hj)) (Below.refl _ _) (fun _ => rfl)
    (fun pre W => Keep W0.heap.size (g + 1) W0 W ∧ W.heap[g + 1]? = some (.cells #[.int .u64 (crcN size poly sum (pre.flatMap (chunkL l 4)) : Nat)] 115))
    (fun cd pre W => (cd = .ret ∧ ∃ ini x, pre = ini ++ [x] ∧ n - 4 * x < 4) ∧ W.heap[g + 1 + 1]? = some (.cells #[.int .u64 (crcN size poly sum (pre.flatMap (chunkL l 4)) : Nat)] 115) ∧ Below g w W)
    (OwnFrom.and (ownFrom_keep (Nat.le_refl _)) (ownFrom_heap _ (by omega)))
    (fun cd => OwnFrom.and (ownFrom_fact _) (OwnFrom.and (ownFrom_heap _ (by omega)) (ownFrom_below (by rw [HG.out]; exact Nat.le_refl _) (by omega))))
    ⟨Keep.refl _ _ _, f1⟩
    (fun x => { tmps := #[kindV size poly start, .int .u64 sum, .slice A n c, .pointer (some ⟨g, 0, none⟩), .pointer (some ⟨g + 1, 0, none⟩), undef, .pointer (some ⟨g + 1 + 1, 0, none⟩), .pointer (some ⟨q, 0, none⟩), chunkV b off n 4 x, undef, undef, undef, .agg #[.int .i64 size, .int .u64 poly, .int .u64 start], .agg cs, .slice A n c,
      .func (.func 163) #[] #[.pointer (some ⟨q + 1, 0, none⟩), .pointer (some ⟨q + 1 + 1, 0, none⟩)], chunkV b off n 4 x, undef, undef, undef, undef, undef, undef, undef, undef, undef, undef, undef, undef, undef, undef, undef, undef, undef, undef, undef, undef, undef, undef, undef, undef, undef, undef, undef, undef, undef, undef, undef, undef], defers := [] }) ?assign ?body ?done ?stop
  case assign =>
    intro j x W K hK
    gi_wp2
    exact hK
  case body =>
    rintro lp pre x W ⟨hKp, hsum⟩ _
    have a0 : W.cell? ⟨g, 0, none⟩ = some (.int .i64 size) := cell_of_heap (hKp.heap F0.out (by omega) (by omega)) 0 _ rfl
    have a1 : W.cell? ⟨g, 1, none⟩ = some (.int .u64 poly) := cell_of_heap (hKp.heap F0.out (by omega) (by omega)) 1 _ rfl
    have a2 : W.cell? ⟨g, 2, none⟩ = some (.int .u64 start) := cell_of_heap (hKp.heap F0.out (by omega) (by omega)) 2 _ rfl
    have hres := hKp.heap F2.out (by omega) (by omega)
    have htab := hKp.heap F3.out (by omega) (by omega)
    have hbel : Below g w W := FB.out.trans (hKp.below (by omega) (by omega))
    have hsz : q + 1 + 1 + 1 ≤ W.heap.size := by rw [← FS.out]; exact hKp.size
    obtain ⟨s, hsv⟩ : ∃ s, crcN size poly sum (pre.flatMap (chunkL l 4)) = s := ⟨_, rfl⟩
    have hslt : s < 2 ^ size := by rw [← hsv]; exact crcN_lt size poly _ HP.out sum HS.out
    have hnext : crcN size poly sum ((pre ++ [x]).flatMap (chunkL l 4)) = crcN size poly s (chunkL l 4 x) := by
      rw [List.flatMap_append, crcN_append, hsv, List.flatMap_singleton]
    rw [hsv] at hsum
    have b0 : W.cell? ⟨g + 1, 0, none⟩ = some (.int .u64 s) := cell_of_heap hsum 0 _ rfl
    have hlenc : (chunkL l 4 x).length = min 4 (n - 4 * x) := by rw [chunkL_length, HN.out]
    have hrd : ∀ W2, Below W.heap.size W W2 → 0 < min 4 (n - 4 * x) → Rd W2 (some ⟨b, off + 4 * x, none⟩) (bys (chunkL l 4 x)) := by
      intro W2 hW2 hpos
      have hA2 : A = some ⟨b, off, none⟩ := by
        rcases HA.out with e | e
        · exact e
        · omega
      have h1 := HR.out.below (w' := W) (by rw [HG.out]; exact hbel)
      rw [hA2] at h1
      exact (chunkL_rd h1 4 x).below hW2
    have h01c : ∀ y ∈ chunkL l 4 x, y ≤ 1 := fun y hy => H01.out y (chunkL_mem l 4 x y hy)
    have HSV := Lib.hid hsv
    have HNX := Lib.hid hnext
    have HKP := Lib.hid hKp
    have HSUM := Lib.hid hsum
    have HRES := Lib.hid hres
    have HTAB := Lib.hid htab
    have HBEL := Lib.hid hbel
    have HLC := Lib.hid hlenc
    have HRD := Lib.hid hrd
    have H01C := Lib.hid h01c
    have HSLT := Lib.hid hslt
    clear hsv hnext hKp hsum hres htab hbel hlenc hrd h01c f1 f2 f3 f4 f5 fs fb f0 hslt
    by_cases hm : n - 4 * x < 4
    · have hmin : min 4 (n - 4 * x) = n - 4 * x := Nat.min_eq_right (by omega)
      have hall : ∀ W2, W2 = W → Calls Try.prog 160 #[.int .u64 s, .slice (some ⟨b, off + 4 * x, none⟩) (n - 4 * x) (n - 4 * x), .func (.func 161) #[kindV size poly start] #[]] W2 fun e w' => e = .returned (.int .u64 (crcN size poly s (chunkL l 4 x) : Nat)) ∧ Below W2.heap.size W2 w' := by
        rintro W2 rfl
        by_cases h0 : 0 < n - 4 * x
        · exact all_any size poly start s _ _ _ (chunkL l 4 x) W2 h4 h32 HP.out HSLT.out (HRD.out W2 (Below.refl _ _) (by omega)) (by rw [HLC.out]; omega) (by omega) H01C.out
        · have e0 : chunkL l 4 x = [] := List.eq_nil_of_length_eq_zero (by rw [HLC.out]; omega)
          exact all_any size poly start s _ _ _ (chunkL l 4 x) W2 h4 h32 HP.out HSLT.out (by rw [e0]; exact Rd.nil _ _) (by rw [e0]; simp; omega) (by omega) H01C.out
      have HALL := Lib.hid (hall W rfl)
      have HM := Lib.hid hmin
      have hlt4 : ((n - 4 * x : Nat) : Int) < 4 := by omega
      clear hall hmin
      dsimp only [chunkV]
      rw [HM.out]
      gi_wp2_with (refine ⟨trivial, ?_⟩; gi_at_call 160; refine (CallsIn.inRound lp (callsIn_wide.2 HALL.out)).mono ?_; rintro e w2 ⟨rfl, hb2⟩; have r0 : w2.cell? ⟨g + 1 + 1, 0, none⟩ = some (.int .u64 0) := Below.cell_of hb2 (cell_of_heap HRES.out 0 _ rfl); have z0 : w2.frozen? ⟨g + 1 + 1, 0, none⟩ = false := (by simp [World.frozen?, heap_below hb2 HRES.out]); have HB2 := Lib.hid hb2; clear hb2)
      refine ⟨(keepsFrom_below HB2.out).trans ((KeepsOthers.setCell _ _ _).from _), ⟨rfl, pre, x, rfl, hm⟩, ?_, (HBEL.out.trans (HB2.out.mono (by omega))).setCell (p := ⟨g + 1 + 1, 0, none⟩) (by show g ≤ g + 1 + 1; omega) _⟩
      rw [heap_setCell (heap_below HB2.out HRES.out) 0 _, HNX.out]
      rfl
    · have hmin : min 4 (n - 4 * x) = 4 := Nat.min_eq_left (by omega)
      have hl4 : (chunkL l 4 x).length = 4 := by rw [HLC.out]; exact hmin
      have hget := Get_any W (some ⟨b, off + 4 * x, none⟩) 4 4 (chunkL l 4 x) (HRD.out W (Below.refl _ _) (by omega)) hl4 (by omega) H01C.out
      have hN := numN_lt (chunkL l 4 x) H01C.out
      rw [hl4] at hN
      have hcr := crcN_four size poly s h4 HSLT.out (chunkL l 4 x) hl4 H01C.out
      have hpw := pow32 h32
      have hslt' := HSLT.out
      obtain ⟨p4, hp4⟩ : ∃ p4, size - 4 = p4 := ⟨_, rfl⟩
      have hhi : s / 2 ^ p4 < 16 := by
        refine Nat.div_lt_of_lt_mul ?_
        obtain rfl : size = p4 + 4 := by omega
        rw [Nat.pow_add] at hslt'
        exact hslt'
      have hxlt : (s / 2 ^ p4) ^^^ numN (chunkL l 4 x) < 16 := Nat.xor_lt_two_pow (n := 4) hhi hN
      have hxor1 : bits .xor .u64 ((s : Int) / 2 ^ p4) ((numN (chunkL l 4 x) : Nat) : Int) = (((s / 2 ^ p4) ^^^ numN (chunkL l 4 x) : Nat) : Int) := by
        have e : ((s : Int) / 2 ^ p4) = ((s / 2 ^ p4 : Nat) : Int) := by simp
        rw [e]; exact u64_xor_nat _ _ (by omega) (by omega)
      have hmin64 : min p4 64 = p4 := Nat.min_eq_left (by omega)
      have hs4 : IntKind.i64.wrap ((size : Int) - 4) = (p4 : Int) := by rw [IntWalk.i64_in _ (by omega)]; omega
      have hmask : bits .and .u64 (IntKind.u64.wrap ((s : Int) * 16)) (IntKind.u64.wrap (IntKind.u64.wrap (2 ^ size) - 1)) = ((s * 16 % 2 ^ size : Nat) : Int) := by
        have e : IntKind.u64.wrap ((s : Int) * 16) = ((s * 16 : Nat) : Int) := by rw [IntWalk.u64_in _ ⟨by omega, by omega⟩]; omega
        rw [e, mask_u64 size _ h32 (by omega)]
      have htlt : tabN size poly ((s / 2 ^ p4) ^^^ numN (chunkL l 4 x)) < 2 ^ size := by
        refine crcN_lt size poly _ HP.out _ ?_
        rw [hp4]
        obtain rfl : size = p4 + 4 := by omega
        rw [Nat.pow_add]
        have h0 : 0 < 2 ^ p4 := Nat.two_pow_pos _
        have := Nat.mul_lt_mul_of_pos_right hxlt h0
        omega
      have hmlt : s * 16 % 2 ^ size < 2 ^ size := Nat.mod_lt _ (Nat.two_pow_pos _)
      have hxor2 : bits .xor .u64 ((s * 16 % 2 ^ size : Nat) : Int) ((tabN size poly ((s / 2 ^ p4) ^^^ numN (chunkL l 4 x)) : Nat) : Int) = ((s * 16 % 2 ^ size ^^^ tabN size poly ((s / 2 ^ p4) ^^^ numN (chunkL l 4 x)) : Nat) : Int) := u64_xor_nat _ _ (by omega) (by omega)
      rw [hp4] at hcr
      have hcell : cs[(s / 2 ^ p4) ^^^ numN (chunkL l 4 x)]? = some (.int .u64 (tabN size poly ((s / 2 ^ p4) ^^^ numN (chunkL l 4 x)) : Nat)) := by
        rw [← HCS.out]; simp [tabV, hxlt]
      obtain ⟨N, hNe⟩ : ∃ N, numN (chunkL l 4 x) = N := ⟨_, rfl⟩
      rw [hNe] at hget hN hcr hxlt hxor1 htlt hxor2 hcell
      obtain ⟨hi, hhie⟩ : ∃ hi, (s / 2 ^ p4) ^^^ N = hi := ⟨_, rfl⟩
      rw [hhie] at hcr hxlt hxor1 htlt hxor2 hcell
      obtain ⟨T, hTe⟩ : ∃ T, tabN size poly hi = T := ⟨_, rfl⟩
      rw [hTe] at hcr htlt hxor2 hcell
      obtain ⟨M, hMe⟩ : ∃ M, s * 16 % 2 ^ size = M := ⟨_, rfl⟩
      rw [hMe] at hmask hmlt hcr hxor2
      have HGET := Lib.hid hget
      have HM := Lib.hid hmin
      have HCR := Lib.hid hcr
      have HCELL := Lib.hid hcell
      have HFACT : Hid (hs4 = hs4) := rfl
      clear hget hmin hcr hNe hhie hTe hMe hslt' htlt hmlt hpw hhi hN hl4 hcell hp4 HFACT
      have hi16 : (hi : Int) < 16 := by omega
      have hi0 : (0 : Int) ≤ (hi : Int) := by omega
      have hm4 : ¬ (4 : Int) < 4 := by omega
      dsimp only [chunkV]
      rw [HM.out]
      gi_wp2_with (refine ⟨trivial, ?_⟩; gi_at_call 162; refine (CallsIn.inRound lp (callsIn_wide.2 HGET.out)).mono ?_; rintro e w2 ⟨rfl, hb2⟩; have a0' := Below.cell_of hb2 a0; have b0' := Below.cell_of hb2 b0; have z0 : w2.frozen? ⟨g + 1, 0, none⟩ = false := (by simp [World.frozen?, heap_below hb2 HSUM.out]); have t0 : w2.cell? ⟨q, hi, none⟩ = some (.int .u64 T) := Below.cell_of hb2 (cell_of_heap HTAB.out hi _ HCELL.out); have HB2 := Lib.hid hb2; clear hb2)
      refine wpIn_region_still_tail 11 (by kernel_rfl) (by kernel_rfl) (by kernel_rfl) ?_
      simp only [List.take_succ_cons, List.take_zero, List.drop_succ_cons, List.drop_zero]
      repeat still_step
      refine wpStill_nil ?_
      gi_wp2
      have hk1 : Keep W0.heap.size (g + 1) W ((w2.setCell ⟨g + 1, 0, none⟩ (.int .u64 ((M ^^^ T : Nat) : Int))).drew) := ((Keep.of HB2.out HKP.out.size).setCell (p := ⟨g + 1, 0, none⟩) (.inl rfl) _).drew
      refine ⟨((keepsFrom_below HB2.out).trans ((KeepsOthers.setCell _ _ _).from _)).trans ((KeepsOthers.drew _).from _), hk1, HKP.out.trans hk1, ?_⟩
      rw [HNX.out, HCR.out]
      show (w2.setCell _ _).heap[g + 1]? = _
      rw [heap_setCell (heap_below HB2.out HSUM.out) 0 _]
      rfl
  case done =>
    rintro D ys W hD rfl ⟨hKp, hsum⟩ hKd
    have hall : crcN size poly sum ((List.range (nchN n 4)).flatMap (chunkL l 4)) = crcN size poly sum l := by
      rw [chunkL_all, List.take_of_length_le]
      rw [HN.out]; exact (nchN_spec n 4 (by omega)).2
    rw [hall] at hsum
    have HALL := Lib.hid hall
    obtain ⟨r, hr⟩ : ∃ r, crcN size poly sum l = r := ⟨_, rfl⟩
    rw [hr] at hsum
    have HRV := Lib.hid hr
    have b0 : W.cell? ⟨g + 1, 0, none⟩ = some (.int .u64 r) := cell_of_heap hsum 0 _ rfl
    have hres := hKp.heap F2.out (by omega) (by omega)
    have r0 : W.cell? ⟨g + 1 + 1, 0, none⟩ = some (.int .u64 0) := cell_of_heap hres 0 _ rfl
    have z0 : W.frozen? ⟨g + 1 + 1, 0, none⟩ = false := by simp [World.frozen?, hres]
    have hbel : Below g w W := FB.out.trans (hKp.below (by omega) (by omega))
    have HRES := Lib.hid hres
    have HBEL := Lib.hid hbel
    have HKD := Lib.hid hKd
    clear hall hr hsum hres hbel hKd f0 f1 f2 f3 f4 f5 fs fb
    gi_wp2
    have hK' := (KeepsOthers.setCell W ⟨g + 1 + 1, 0, none⟩ (.int .u64 r)).same D _ HKD.out rfl
    refine ⟨by simp, .inl ⟨_, _, rfl, run_takeDeferred hK', ?_⟩⟩
    have hc5 := cell_kept (World.cell?_setCell_same' W ⟨g + 1 + 1, 0, none⟩ (.int .u64 r) (by rw [r0]; rfl)) (grownBy_putObj' _ D (.deferred none)) (fun r e => by cases e; exact ⟨_, hK', rfl⟩)
    refine ⟨.int .u64 r, by simp [results, Try.f157, go_sem, hc5], ⟨by rw [HRV.out], ?_⟩⟩
    rw [HG.out]
    exact (HBEL.out.setCell (p := ⟨g + 1 + 1, 0, none⟩) (by show g ≤ g + 1 + 1; omega) _).trans (belowK_b (w := W0) (by rw [FS.out]; omega) _ D _ _ hD hK' rfl rfl)
  case stop =>
    rintro D cd pre W hD ⟨k, hk, rfl⟩ ⟨⟨rfl, ini, x, e1, e2⟩, hres, hB⟩ hKd
    have hall : crcN size poly sum ((List.range k).flatMap (chunkL l 4)) = crcN size poly sum l := by
      rw [chunkL_all, List.take_of_length_le]
      rw [HN.out]
      cases k with
      | zero => simp at e1
      | succ k =>
        rw [List.range_succ] at e1
        have e3 := List.append_inj_right' e1 rfl
        simp at e3
        omega
    rw [hall] at hres
    obtain ⟨r, hr⟩ : ∃ r, crcN size poly sum l = r := ⟨_, rfl⟩
    rw [hr] at hres
    have HRV := Lib.hid hr
    have r0 : W.cell? ⟨g + 1 + 1, 0, none⟩ = some (.int .u64 r) := cell_of_heap hres 0 _ rfl
    have HBEL := Lib.hid hB
    have HKD := Lib.hid hKd
    clear hall hr hres hB hKd f0 f1 f2 f3 f4 f5 fs fb e1
    gi_wp2
    have hK' := HKD.out
    refine ⟨by simp, .inl ⟨_, _, rfl, run_takeDeferred hK', ?_⟩⟩
    have hc5 := cell_kept r0 (grownBy_putObj' _ D (.deferred none)) (fun r e => by cases e; exact ⟨_, hK', rfl⟩)
    refine ⟨.int .u64 r, by simp [results, Try.f157, go_sem, hc5], ⟨by rw [HRV.out], ?_⟩⟩
    rw [HG.out]
    exact HBEL.out.trans (belowK_b (w := W0) (by rw [FS.out]; omega) _ D _ _ hD hK' rfl rfl)
end Go.Proofs.Ytmlkmcpcokjogaa
-- Add: crc.More, crc.Sum, crc.Size, crc.Add. No condition.
namespace Go.Proofs.Ytmlkmcpcokjogaa
open Go.RowKit
/-- A kind of sums: its size, its polynomial, its start. -/
structure OfK (k : Int) (size poly start : Nat) : Prop where
  call : ∀ W : World, Calls Try.prog 156 #[.int .i64 k] W fun e w' => e = .returned (kindV size poly start) ∧ Below W.heap.size W w'
  h4 : 4 ≤ size
  h32 : size ≤ 32
  poly : poly < 2 ^ size
  start : start < 2 ^ size
set_option maxRecDepth 100000 in
theorem of_1 : OfK 1 15 17817 0 := by
  refine ⟨fun W => ?_, by decide, by decide, by decide, by decide⟩
  go_enter Try.func156, Try.ntmps156
  go_wp2
  exact bodyPost_ret (v := .agg #[.int .i64 15, .int .u64 17817, .int .u64 0]) (by simp [results, Try.results156, go_sem]) rfl ⟨rfl, below_alloc (below_alloc (Below.refl _ _) _) _⟩
theorem field_kind (size poly start : Nat) (w : World) : Sem.run Try.prog (Instr.field 235 (kindV size poly start) 0) w = .ok (.int .i64 size) w := by kernel_rfl
theorem field_kind2 (size poly start : Nat) (w : World) : Sem.run Try.prog (Instr.field 235 (kindV size poly start) 2) w = .ok (.int .u64 start) w := by kernel_rfl
theorem Size_any {k : Int} {size poly start : Nat} (h : OfK k size poly start) (w : World) : Calls Try.prog 148 #[.int .i64 k] w fun e w' => e = .returned (.int .i64 size) ∧ Below w.heap.size w w' := by
  have HO := Lib.hid h.call
  have hf := field_kind size poly start
  clear h
  go_enter Try.func148, Try.ntmps148
  go_wp2_with fail
  refine (HO.out _).mono ?_
  rintro e w1 ⟨rfl, hb⟩
  have HB := Lib.hid hb
  clear hb
  go_wp2_with fail
  go_ret
  exact ⟨rfl, HB.out⟩
set_option maxRecDepth 100000 in
set_option maxHeartbeats 1000000 in
theorem More_any {k : Int} {size poly start : Nat} (h : OfK k size poly start) (sum b off n c : Nat) (A : Option Addr) (hA : A = some ⟨b, off, none⟩ ∨ n = 0) (l : List Nat) (w : World) (hs : sum < 2 ^ size) (hr : Rd w A (bys l)) (hn : l.length = n) (hn2 : n ≤ 65536) (hc1 : n ≤ c) (hc2 : c ≤ 9223372036854775807) (h01 : ∀ x ∈ l, x ≤ 1) :
    Calls Try.prog 155 #[.int .i64 k, .int .u64 sum, .slice A n c] w fun e w' => e = .returned (.tuple #[.int .u64 (crcN size poly sum l : Nat), .int .i64 0]) ∧ Below w.heap.size w w' := by
  have hok : bitsOk l = true := by unfold bitsOk; rw [decide_eq_true (by omega : l.length ≤ 65536), decide_eq_true h01]; rfl
  have hC := fun (W : World) (hW : Rd W A (bys l)) => BitsCheck_any A n c l W hW hn (by omega)
  simp only [hok, if_true] at hC
  have hrun := fun (W : World) (hW : Rd W A (bys l)) => run_any size poly start sum b off n c A hA l W h.h4 h.h32 h.poly hs hW hn (by omega) hc1 hc2 h01
  have HC := Lib.hid hC
  have HRUN := Lib.hid hrun
  have HO := Lib.hid h.call
  have HR := Lib.hid hr
  obtain ⟨r, hre⟩ : ∃ r, crcN size poly sum l = r := ⟨_, rfl⟩
  rw [hre] at HRUN ⊢
  have hz : ((size : Int) == 0) = false := by have := h.h4; rw [beq_eq_false_iff_ne]; omega
  have hdiv : (sum : Int) / 2 ^ min size 64 = 0 := by
    rw [Nat.min_eq_left (by have := h.h32; omega)]
    have e : (sum : Int) / 2 ^ size = ((sum / 2 ^ size : Nat) : Int) := by simp
    rw [e, Nat.div_eq_of_lt hs]; rfl
  have hdiv2 : (sum : Int) / 2 ^ size = 0 := by
    have e : (sum : Int) / 2 ^ size = ((sum / 2 ^ size : Nat) : Int) := by simp
    rw [e, Nat.div_eq_of_lt hs]; rfl
  have hs32 : size ≤ 32 := h.h32
  clear hok hC hrun hr hre h01 hA hs h
  go_enter Try.func155, Try.ntmps155
  go_wp2_with fail
  refine (HO.out _).mono ?_
  rintro e w1 ⟨rfl, hb⟩
  have HB := Lib.hid hb
  clear hb
  go_wp2_with fail
  refine (HC.out _ ((HR.out.below HB.out).alloc _)).mono ?_
  rintro e _ ⟨rfl, rfl⟩
  go_wp2_with fail
  refine (HRUN.out _ ((HR.out.below HB.out).alloc _)).mono ?_
  rintro e w2 ⟨rfl, hb2⟩
  have HB2 := Lib.hid hb2
  clear hb2
  go_wp2_with fail
  go_ret2
  exact ⟨rfl, below_trans (below_alloc HB.out _) HB2.out⟩
set_option maxHeartbeats 1000000 in
theorem Sum_any {k : Int} {size poly start : Nat} (h : OfK k size poly start) (b off n c : Nat) (A : Option Addr) (hA : A = some ⟨b, off, none⟩ ∨ n = 0) (l : List Nat) (w : World) (hr : Rd w A (bys l)) (hn : l.length = n) (hn2 : n ≤ 65536) (hc1 : n ≤ c) (hc2 : c ≤ 9223372036854775807) (h01 : ∀ x ∈ l, x ≤ 1) :
    Calls Try.prog 147 #[.int .i64 k, .slice A n c] w fun e w' => e = .returned (.tuple #[.int .u64 (crcN size poly start l : Nat), .int .i64 0]) ∧ Below w.heap.size w w' := by
  have hM := fun (W : World) (hW : Rd W A (bys l)) => More_any h start b off n c A hA l W h.start hW hn hn2 hc1 hc2 h01
  obtain ⟨r, hre⟩ : ∃ r, crcN size poly start l = r := ⟨_, rfl⟩
  rw [hre]
  simp only [hre] at hM
  have HM := Lib.hid hM
  have HO := Lib.hid h.call
  have HR := Lib.hid hr
  have hf := field_kind2 size poly start
  clear hr hM hA h01 h hre
  go_enter Try.func147, Try.ntmps147
  go_wp2_with fail
  refine (HO.out _).mono ?_
  rintro e w1 ⟨rfl, hb⟩
  have HB := Lib.hid hb
  clear hb
  go_wp2_with fail
  refine (HM.out _ (HR.out.below HB.out)).mono ?_
  rintro e w2 ⟨rfl, hb2⟩
  have HB2 := Lib.hid hb2
  clear hb2
  go_wp2_with fail
  go_ret2
  exact ⟨rfl, below_trans HB.out HB2.out⟩
/-- Bits with their sum behind. -/
def addN (size poly start : Nat) (l : List Nat) : List Nat := l ++ bitsN (crcN size poly start l) size
set_option maxRecDepth 100000 in
set_option maxHeartbeats 2000000 in
theorem Add_any {k : Int} {size poly start : Nat} (h : OfK k size poly start) (b off n c N : Nat) (A : Option Addr) (hA : A = some ⟨b, off, none⟩ ∨ n = 0) (l : List Nat) (w : World) (hr : Rd w A (bys l)) (hnil : A = none → c = 0) (hn : l.length = n) (hn2 : n ≤ 65536) (hc1 : n ≤ c) (hc2 : c ≤ 9223372036854775807) (h01 : ∀ x ∈ l, x ≤ 1) (hN : n + size = N) :
    Calls Try.prog 123 #[.int .i64 k, .slice A n c] w fun e w' => (∃ A' c', e = .returned (.tuple #[.slice A' N c', .int .i64 0]) ∧ Row w' w.heap.size 5 A' c' (bys (addN size poly start l))) ∧ Below w.heap.size w w' := by
  have hS := Sum_any h b off n c A hA l w hr hn hn2 hc1 hc2 h01
  have hlt : crcN size poly start l < 2 ^ size := crcN_lt size poly l h.poly start h.start
  have hpw := pow32 h.h32
  have hadd : addN size poly start l = l ++ bitsN (crcN size poly start l) size := rfl
  obtain ⟨r, hre⟩ : ∃ r, crcN size poly start l = r := ⟨_, rfl⟩
  rw [hre] at hS hlt hadd
  have hput := fun W => bitsPut_any W r size (by omega) (by have := h.h32; omega) hlt
  have HS := Lib.hid hS
  have HPUT := Lib.hid hput
  have HSZ := Lib.hid (Size_any h)
  have HR := Lib.hid hr
  have HNIL := Lib.hid hnil
  have HN := Lib.hid hn
  have HADD := Lib.hid hadd
  have HN2 := Lib.hid hN
  have hsz := h.h32
  obtain ⟨al, hal⟩ : ∃ al, addN size poly start l = al := ⟨_, rfl⟩
  rw [hal] at HADD ⊢
  clear hS hput hr hnil hn hadd h hA h01 hlt hpw hre hal hN
  go_enter Try.func123, Try.ntmps123
  go_wp2_with fail
  refine HS.out.mono ?_
  rintro e w1 ⟨rfl, hb1⟩
  have HB1 := Lib.hid hb1
  clear hb1
  go_wp2_with fail
  refine (HSZ.out _).mono ?_
  rintro e w2 ⟨rfl, hb2⟩
  have HB2 := Lib.hid hb2
  clear hb2
  go_wp2_with fail
  refine (HPUT.out _).mono ?_
  rintro e w3 ⟨⟨A3, c3, rfl, hrow⟩, hb3⟩
  have HB3 := Lib.hid hb3
  have HROW := Lib.hid hrow
  clear hb3 hrow
  go_wp2_with fail
  have hcat := concat_any (some ⟨w3.heap.size, 0, none⟩) 2 2 N [(A, c, l), (A3, c3, bitsN r size)] (w3.alloc (.cells #[.slice A n c, .slice A3 size c3] 40))
    (by have := Rd.blk (w := w3.alloc (.cells #[.slice A n c, .slice A3 size c3] 40)) (heap_new_at rfl); simpa [partV, HN.out, bitsN_length] using this) rfl
    (by
      intro p hp
      simp only [List.mem_cons, List.not_mem_nil, or_false] at hp
      rcases hp with rfl | rfl
      · exact ⟨(HR.out.below (below_trans (below_trans HB1.out HB2.out) HB3.out)).alloc _, fun _ e => HNIL.out e⟩
      · exact ⟨HROW.out.rd.alloc _, fun _ e => HROW.out.none_ e⟩) (by simp [partsL, bitsN_length, HN.out, HN2.out]) (by rw [← HN2.out]; omega) (by omega)
  refine hcat.mono ?_
  rintro e w4 ⟨⟨A4, c4, rfl, hrow4⟩, hb4⟩
  have HROW4 := Lib.hid hrow4
  have HB4 := Lib.hid hb4
  clear hrow4 hb4 hcat
  go_wp2_with fail
  go_ret2
  have hb : Below w.heap.size w w3 := below_trans (below_trans HB1.out HB2.out) HB3.out
  refine ⟨⟨A4, c4, rfl, ?_⟩, below_trans (below_alloc hb _) HB4.out⟩
  have h4 := HROW4.out
  have e4 : partsL [(A, c, l), (A3, c3, bitsN r size)] = al := by rw [HADD.out]; simp [partsL]
  rw [e4] at h4
  exact h4.mono (Nat.le_trans hb.size (by simp))
theorem Row.form {w : World} {base t c : Nat} {A : Option Addr} {xs : List Value} (h : Row w base t A c xs) : ∃ b, A = some ⟨b, 0, none⟩ ∨ xs.length = 0 := by
  rcases h.2 with ⟨hv, hx⟩ | ⟨g, cap, cur, hv, _⟩
  · injection hv with e1 e2 _
    exact ⟨0, .inr e2⟩
  · injection hv with e
    exact ⟨g, .inl e⟩
theorem Row.capm {w : World} {base t c : Nat} {A : Option Addr} {xs : List Value} (h : Row w base t A c xs) : c ≤ 9223372036854775807 := by
  rcases h.2 with ⟨hv, hx⟩ | ⟨g, cap, cur, hv, _, _, _, hm, _⟩
  · injection hv with _ _ e3; omega
  · injection hv with _ _ e3
    unfold maxLen at hm
    omega
theorem Add_row {k : Int} {size poly start : Nat} (h : OfK k size poly start) (n c N base : Nat) (A : Option Addr) (l : List Nat) (w : World) (hrow : Row w base 5 A c (bys l)) (hn : l.length = n) (hn2 : n ≤ 65536) (h01 : ∀ x ∈ l, x ≤ 1) (hN : n + size = N) :
    Calls Try.prog 123 #[.int .i64 k, .slice A n c] w fun e w' => (∃ A' c', e = .returned (.tuple #[.slice A' N c', .int .i64 0]) ∧ Row w' w.heap.size 5 A' c' (bys (addN size poly start l))) ∧ Below w.heap.size w w' := by
  obtain ⟨b, hA⟩ := hrow.form
  rw [bys_length, hn] at hA
  have hcap := hrow.cap
  rw [bys_length, hn] at hcap
  exact Add_any h b 0 n c N A hA l w hrow.rd (fun e => hrow.none_ e) hn hn2 hcap hrow.capm h01 hN
theorem Sum_row {k : Int} {size poly start : Nat} (h : OfK k size poly start) (n c base : Nat) (A : Option Addr) (l : List Nat) (w : World) (hrow : Row w base 5 A c (bys l)) (hn : l.length = n) (hn2 : n ≤ 65536) (h01 : ∀ x ∈ l, x ≤ 1) :
    Calls Try.prog 147 #[.int .i64 k, .slice A n c] w fun e w' => e = .returned (.tuple #[.int .u64 (crcN size poly start l : Nat), .int .i64 0]) ∧ Below w.heap.size w w' := by
  obtain ⟨b, hA⟩ := hrow.form
  rw [bys_length, hn] at hA
  have hcap := hrow.cap
  rw [bys_length, hn] at hcap
  exact Sum_any h b 0 n c A hA l w hrow.rd hn hn2 hcap hrow.capm h01
/-- Two rows joined, whose slices lie in one block. -/
theorem concat2 (W : World) (A1 A2 : Option Addr) (c1 c2 n1 n2 N : Nat) (l1 l2 : List Nat) (h1 : PartOk W (A1, c1, l1)) (h2 : PartOk W (A2, c2, l2)) (e1 : l1.length = n1) (e2 : l2.length = n2) (hN : n1 + n2 = N) (hN2 : N ≤ 1000000) :
    Calls Try.prog 89 #[.slice (some ⟨W.heap.size, 0, none⟩) 2 2] (W.alloc (.cells #[.slice A1 n1 c1, .slice A2 n2 c2] 40)) fun e w' => (∃ A' c', e = .returned (.slice A' N c') ∧ Row w' (W.alloc (.cells #[.slice A1 n1 c1, .slice A2 n2 c2] 40)).heap.size 5 A' c' (bys (l1 ++ l2))) ∧ Below (W.alloc (.cells #[.slice A1 n1 c1, .slice A2 n2 c2] 40)).heap.size (W.alloc (.cells #[.slice A1 n1 c1, .slice A2 n2 c2] 40)) w' := by
  have hL : partsL [(A1, c1, l1), (A2, c2, l2)] = l1 ++ l2 := by simp [partsL]
  rw [← hL]
  refine concat_any _ 2 2 N [(A1, c1, l1), (A2, c2, l2)] _ ?_ rfl ?_ ?_ hN2 (by omega)
  · have := Rd.blk (w := W.alloc (.cells #[.slice A1 n1 c1, .slice A2 n2 c2] 40)) (heap_new_at rfl)
    simpa [partV, e1, e2] using this
  · intro p hp
    simp only [List.mem_cons, List.not_mem_nil, or_false] at hp
    rcases hp with rfl | rfl
    · exact h1.below (below_alloc (Below.refl _ _) _)
    · exact h2.below (below_alloc (Below.refl _ _) _)
  · rw [hL, List.length_append, e1, e2, hN]
theorem Row.part {w : World} {base t c : Nat} {A : Option Addr} {l : List Nat} (h : Row w base t A c (bys l)) : PartOk w (A, c, l) := ⟨h.rd, fun _ e => h.none_ e⟩
end Go.Proofs.Ytmlkmcpcokjogaa
-- Check: Which frames may be: what frame.Check answers. No condition.
namespace Go.Proofs.Ytmlkmcpcokjogaa
open Go.RowKit

/-- A frame without what its kind may have. -/
def bareF (f : Fr) : Fr :=
  { kind := f.kind, id := 0, ext := if f.kind = 1 then false else f.ext, rtr := if f.kind = 1 then false else f.rtr, brs := if f.kind = 2 then false else f.brs, esi := if f.kind = 2 then false else f.esi,
    sec := if f.kind = 3 then false else f.sec, sdt := if f.kind = 3 then 0 else f.sdt, vcid := if f.kind = 3 then 0 else f.vcid, af := if f.kind = 3 then 0 else f.af, data := [] }
set_option maxRecDepth 100000 in
set_option maxHeartbeats 1000000 in
theorem bare_any (f : Fr) (s : Option Addr) (n c : Nat) (w : World) :
    Calls Try.prog 44 #[frv f (.slice s n c)] w fun e w' => e = .returned (frv (bareF f) (.slice none 0 0)) ∧ Below w.heap.size w w' := by
  by_cases h1 : f.kind = 1
  · have hb : bareF f = { kind := 1, id := 0, ext := false, rtr := false, brs := f.brs, esi := f.esi, sec := f.sec, sdt := f.sdt, vcid := f.vcid, af := f.af, data := [] } := by simp [bareF, h1]
    rw [hb]
    dsimp only [frv]
    rw [h1]
    clear hb h1
    go_enter Try.func44, Try.ntmps44
    go_wp2
    exact bodyPost_ret (v := .agg #[.int .i64 1, .int .u32 0, .bool false, .bool false, .bool f.brs, .bool f.esi, .bool f.sec, .int .u8 f.sdt, .int .u8 f.vcid, .int .u32 f.af, .slice none 0 0]) (by simp [results, Try.results44, go_sem]) rfl ⟨rfl, below_alloc (below_alloc (Below.refl _ _) _) _⟩
  · by_cases h2 : f.kind = 2
    · have hb : bareF f = { kind := 2, id := 0, ext := f.ext, rtr := f.rtr, brs := false, esi := false, sec := f.sec, sdt := f.sdt, vcid := f.vcid, af := f.af, data := [] } := by simp [bareF, h2]
      rw [hb]
      dsimp only [frv]
      rw [h2]
      clear hb h1 h2
      go_enter Try.func44, Try.ntmps44
      go_wp2
      exact bodyPost_ret (v := .agg #[.int .i64 2, .int .u32 0, .bool f.ext, .bool f.rtr, .bool false, .bool false, .bool f.sec, .int .u8 f.sdt, .int .u8 f.vcid, .int .u32 f.af, .slice none 0 0]) (by simp [results, Try.results44, go_sem]) rfl ⟨rfl, below_alloc (below_alloc (Below.refl _ _) _) _⟩
    · by_cases h3 : f.kind = 3
      · have hb : bareF f = { kind := 3, id := 0, ext := f.ext, rtr := f.rtr, brs := f.brs, esi := f.esi, sec := false, sdt := 0, vcid := 0, af := 0, data := [] } := by simp [bareF, h3]
        rw [hb]
        dsimp only [frv]
        rw [h3]
        clear hb h1 h2 h3
        go_enter Try.func44, Try.ntmps44
        go_wp2
        exact bodyPost_ret (v := .agg #[.int .i64 3, .int .u32 0, .bool f.ext, .bool f.rtr, .bool f.brs, .bool f.esi, .bool false, .int .u8 0, .int .u8 0, .int .u32 0, .slice none 0 0]) (by simp [results, Try.results44, go_sem]) rfl ⟨rfl, below_alloc (below_alloc (Below.refl _ _) _) _⟩
      · have hb : bareF f = { kind := f.kind, id := 0, ext := f.ext, rtr := f.rtr, brs := f.brs, esi := f.esi, sec := f.sec, sdt := f.sdt, vcid := f.vcid, af := f.af, data := [] } := by simp [bareF, h1, h2, h3]
        rw [hb]
        dsimp only [frv]
        have k1 : (f.kind == 1) = false := by simp [h1]
        have k2 : (f.kind == 2) = false := by simp [h2]
        have k3 : (f.kind == 3) = false := by simp [h3]
        clear hb h1 h2 h3
        go_enter Try.func44, Try.ntmps44
        go_wp2
        exact bodyPost_ret (v := .agg #[.int .i64 f.kind, .int .u32 0, .bool f.ext, .bool f.rtr, .bool f.brs, .bool f.esi, .bool f.sec, .int .u8 f.sdt, .int .u8 f.vcid, .int .u32 f.af, .slice none 0 0]) (by simp [results, Try.results44, go_sem]) rfl ⟨rfl, below_alloc (below_alloc (Below.refl _ _) _) _⟩
end Go.Proofs.Ytmlkmcpcokjogaa
-- Check2: Which frames may be: what frame.Check answers. No condition.
namespace Go.Proofs.Ytmlkmcpcokjogaa
open Go.RowKit

/-- An error's number: 0 is none. -/
def zeroF (k : Int) : Fr := { kind := k, id := 0, ext := false, rtr := false, brs := false, esi := false, sec := false, sdt := 0, vcid := 0, af := 0, data := [] }
def limF (f : Fr) : Int := if f.ext then 536870912 else 2048
/-- May a frame be? -/
def okF (f : Fr) : Bool := (codeF f.kind f.data.length).isSome && decide (f.id < limF f) && !(f.rtr && decide (0 < f.data.length)) && sameF (bareF f) (zeroF f.kind)
def errV (b : Bool) : Value := .int .i64 (if b then 0 else 2)
set_option maxRecDepth 100000 in
set_option maxHeartbeats 400000 in
theorem Check_none (kind id : Int) (ext rtr brs esi sec : Bool) (sdt vcid af : Int) (A : Option Addr) (n c : Nat) (w : World)
    (HC : Hid (∀ W : World, Calls Try.prog 43 #[.int .i64 kind, .int .i64 (n : Nat)] W fun e w' => e = .returned (codeV none) ∧ Below W.heap.size W w')) :
    Calls Try.prog 18 #[.agg #[.int .i64 kind, .int .u32 id, .bool ext, .bool rtr, .bool brs, .bool esi, .bool sec, .int .u8 sdt, .int .u8 vcid, .int .u32 af, .slice A n c]] w fun e w' => e = .returned (.int .i64 2) ∧ Below w.heap.size w w' := by
  cases ext
  all_goals
    go_enter Try.func18, Try.ntmps18
    go_wp2_with fail
    refine (HC.out _).mono ?_
    rintro e w1 ⟨rfl, hb⟩
    obtain ⟨hce, hfe⟩ := bcell hb
    have HB := Lib.hid hb
    clear hb
    simp only [codeV_none]
    go_wp2_with fail
    go_quiet (fail)
    go_wp2_with fail
    go_ret
    exact ⟨rfl, below_drewN (below_trans (below_alloc (Below.refl _ _) _) HB.out) _⟩
set_option maxRecDepth 100000 in
set_option maxHeartbeats 400000 in
theorem Check_id (kind id : Int) (ext rtr brs esi sec : Bool) (sdt vcid af : Int) (A : Option Addr) (n c : Nat) (w : World) (co : Int) (hid : (if ext then 536870912 else 2048) ≤ id)
    (HC : Hid (∀ W : World, Calls Try.prog 43 #[.int .i64 kind, .int .i64 (n : Nat)] W fun e w' => e = .returned (codeV (some co)) ∧ Below W.heap.size W w')) :
    Calls Try.prog 18 #[.agg #[.int .i64 kind, .int .u32 id, .bool ext, .bool rtr, .bool brs, .bool esi, .bool sec, .int .u8 sdt, .int .u8 vcid, .int .u32 af, .slice A n c]] w fun e w' => e = .returned (.int .i64 2) ∧ Below w.heap.size w w' := by
  cases ext
  all_goals
    simp only [Bool.false_eq_true, if_false, if_true] at hid
    go_enter Try.func18, Try.ntmps18
    go_wp2_with fail
    refine (HC.out _).mono ?_
    rintro e w1 ⟨rfl, hb⟩
    obtain ⟨hce, hfe⟩ := bcell hb
    have HB := Lib.hid hb
    clear hb
    simp only [codeV_some]
    go_wp2_with fail
    go_quiet (fail)
    go_wp2_with fail
    go_ret
    exact ⟨rfl, below_drewN (below_trans (below_alloc (Below.refl _ _) _) HB.out) _⟩
set_option maxRecDepth 100000 in
set_option maxHeartbeats 400000 in
theorem Check_rtr (kind id : Int) (ext brs esi sec : Bool) (sdt vcid af : Int) (A : Option Addr) (n c : Nat) (w : World) (co : Int) (hid : id < (if ext then 536870912 else 2048)) (hn : 0 < n)
    (HC : Hid (∀ W : World, Calls Try.prog 43 #[.int .i64 kind, .int .i64 (n : Nat)] W fun e w' => e = .returned (codeV (some co)) ∧ Below W.heap.size W w')) :
    Calls Try.prog 18 #[.agg #[.int .i64 kind, .int .u32 id, .bool ext, .bool true, .bool brs, .bool esi, .bool sec, .int .u8 sdt, .int .u8 vcid, .int .u32 af, .slice A n c]] w fun e w' => e = .returned (.int .i64 2) ∧ Below w.heap.size w w' := by
  cases ext
  · simp only [Bool.false_eq_true, if_false] at hid
    have hn' : decide (0 < n) = true := by simp [hn]
    have hd : decide (2048 ≤ id) = false := by simp; omega
    clear hn hid
    go_enter Try.func18, Try.ntmps18
    go_wp2_with fail
    refine (HC.out _).mono ?_
    rintro e w1 ⟨rfl, hb⟩
    obtain ⟨hce, hfe⟩ := bcell hb
    have HB := Lib.hid hb
    clear hb
    simp only [codeV_some]
    go_wp2_with fail
    go_quiet (fail)
    go_wp2_with fail
    go_ret
    exact ⟨rfl, below_drewN (below_trans (below_alloc (Below.refl _ _) _) HB.out) _⟩
  · simp only [if_true] at hid
    have hn' : decide (0 < n) = true := by simp [hn]
    have hd : decide (536870912 ≤ id) = false := by simp; omega
    clear hn hid
    go_enter Try.func18, Try.ntmps18
    go_wp2_with fail
    refine (HC.out _).mono ?_
    rintro e w1 ⟨rfl, hb⟩
    obtain ⟨hce, hfe⟩ := bcell hb
    have HB := Lib.hid hb
    clear hb
    simp only [codeV_some]
    go_wp2_with fail
    go_quiet (fail)
    go_wp2_with fail
    go_ret
    exact ⟨rfl, below_drewN (below_trans (below_alloc (Below.refl _ _) _) HB.out) _⟩

set_option maxRecDepth 100000 in
set_option maxHeartbeats 400000 in
theorem Check_callsF (kind id : Int) (brs esi sec : Bool) (sdt vcid af : Int) (A : Option Addr) (n c : Nat) (w : World) (co : Int) (sm : Bool) (vb : Value) (hid : id < 2048)
    (HC : Hid (∀ W : World, Calls Try.prog 43 #[.int .i64 kind, .int .i64 (n : Nat)] W fun e w' => e = .returned (codeV (some co)) ∧ Below W.heap.size W w'))
    (HBA : Hid (∀ W : World, Calls Try.prog 44 #[.agg #[.int .i64 kind, .int .u32 id, .bool false, .bool false, .bool brs, .bool esi, .bool sec, .int .u8 sdt, .int .u8 vcid, .int .u32 af, .slice A n c]] W fun e w' => e = .returned vb ∧ Below W.heap.size W w'))
    (HSA : Hid (∀ W : World, Calls Try.prog 16 #[vb, .agg #[.int .i64 kind, .int .u32 0, .bool false, .bool false, .bool false, .bool false, .bool false, .int .u8 0, .int .u8 0, .int .u32 0, .slice none 0 0]] W fun e w' => e = .returned (.bool sm) ∧ Below W.heap.size W w')) :
    Calls Try.prog 18 #[.agg #[.int .i64 kind, .int .u32 id, .bool false, .bool false, .bool brs, .bool esi, .bool sec, .int .u8 sdt, .int .u8 vcid, .int .u32 af, .slice A n c]] w fun e w' => e = .returned (errV sm) ∧ Below w.heap.size w w' := by
  have hd : decide (2048 ≤ id) = false := by simp; omega
  clear hid
  go_enter Try.func18, Try.ntmps18
  go_wp2_with fail
  refine (HC.out _).mono ?_
  rintro e w1 ⟨rfl, hb⟩
  obtain ⟨hce, hfe⟩ := bcell hb
  have HB := Lib.hid hb
  clear hb
  simp only [codeV_some]
  go_wp2_with fail
  have hB0 : w1.heap[w.heap.size]? = some (.cells #[.int .i64 kind, .int .u32 id, .bool false, .bool false, .bool brs, .bool esi, .bool sec, .int .u8 sdt, .int .u8 vcid, .int .u32 af, .slice A n c] 42 (0, 0)) := heap_below HB.out (heap_new_at rfl)
  have hE := fun e : Ext w1 => cells11 (ext_heap hB0 e)
  have e0 : ∀ e : Ext w1, e.W.cell? ⟨w.heap.size, 0, none⟩ = some (.int .i64 kind) := fun e => (hE e).1
  have e1 : ∀ e : Ext w1, e.W.cell? ⟨w.heap.size, 1, none⟩ = some (.int .u32 id) := fun e => (hE e).2.1
  have e2 : ∀ e : Ext w1, e.W.cell? ⟨w.heap.size, 2, none⟩ = some (.bool false) := fun e => (hE e).2.2.1
  have e3 : ∀ e : Ext w1, e.W.cell? ⟨w.heap.size, 3, none⟩ = some (.bool false) := fun e => (hE e).2.2.2.1
  have e4 : ∀ e : Ext w1, e.W.cell? ⟨w.heap.size, 4, none⟩ = some (.bool brs) := fun e => (hE e).2.2.2.2.1
  have e5 : ∀ e : Ext w1, e.W.cell? ⟨w.heap.size, 5, none⟩ = some (.bool esi) := fun e => (hE e).2.2.2.2.2.1
  have e6 : ∀ e : Ext w1, e.W.cell? ⟨w.heap.size, 6, none⟩ = some (.bool sec) := fun e => (hE e).2.2.2.2.2.2.1
  have e7 : ∀ e : Ext w1, e.W.cell? ⟨w.heap.size, 7, none⟩ = some (.int .u8 sdt) := fun e => (hE e).2.2.2.2.2.2.2.1
  have e8 : ∀ e : Ext w1, e.W.cell? ⟨w.heap.size, 8, none⟩ = some (.int .u8 vcid) := fun e => (hE e).2.2.2.2.2.2.2.2.1
  have e9 : ∀ e : Ext w1, e.W.cell? ⟨w.heap.size, 9, none⟩ = some (.int .u32 af) := fun e => (hE e).2.2.2.2.2.2.2.2.2.1
  have e10 : ∀ e : Ext w1, e.W.cell? ⟨w.heap.size, 10, none⟩ = some (.slice A n c) := fun e => (hE e).2.2.2.2.2.2.2.2.2.2
  clear hE hB0 hce hfe
  refine wp_region_ext (by kernel_rfl) (by kernel_rfl) ?_
  repeat (go_big_quiet_step (first | (go_at_call 44; exact ecall (HBA.out _)) | (go_at_call 16; exact ecall (HSA.out _))))
  refine wpQuiet_nil ?_
  rintro _ ⟨⟨w2, hb2⟩, rfl⟩
  have HB2 := Lib.hid hb2
  clear hb2
  cases sm
  all_goals
    go_wp2_with fail
    go_ret
    exact ⟨rfl, below_trans (below_trans (below_alloc (Below.refl _ _) _) HB.out) HB2.out⟩
set_option maxRecDepth 100000 in
set_option maxHeartbeats 400000 in
theorem Check_callsT (kind id : Int) (brs esi sec : Bool) (sdt vcid af : Int) (A : Option Addr) (n c : Nat) (w : World) (co : Int) (sm : Bool) (vb : Value) (hid : id < 536870912)
    (HC : Hid (∀ W : World, Calls Try.prog 43 #[.int .i64 kind, .int .i64 (n : Nat)] W fun e w' => e = .returned (codeV (some co)) ∧ Below W.heap.size W w'))
    (HBA : Hid (∀ W : World, Calls Try.prog 44 #[.agg #[.int .i64 kind, .int .u32 id, .bool true, .bool false, .bool brs, .bool esi, .bool sec, .int .u8 sdt, .int .u8 vcid, .int .u32 af, .slice A n c]] W fun e w' => e = .returned vb ∧ Below W.heap.size W w'))
    (HSA : Hid (∀ W : World, Calls Try.prog 16 #[vb, .agg #[.int .i64 kind, .int .u32 0, .bool false, .bool false, .bool false, .bool false, .bool false, .int .u8 0, .int .u8 0, .int .u32 0, .slice none 0 0]] W fun e w' => e = .returned (.bool sm) ∧ Below W.heap.size W w')) :
    Calls Try.prog 18 #[.agg #[.int .i64 kind, .int .u32 id, .bool true, .bool false, .bool brs, .bool esi, .bool sec, .int .u8 sdt, .int .u8 vcid, .int .u32 af, .slice A n c]] w fun e w' => e = .returned (errV sm) ∧ Below w.heap.size w w' := by
  have hd : decide (536870912 ≤ id) = false := by simp; omega
  clear hid
  go_enter Try.func18, Try.ntmps18
  go_wp2_with fail
  refine (HC.out _).mono ?_
  rintro e w1 ⟨rfl, hb⟩
  obtain ⟨hce, hfe⟩ := bcell hb
  have HB := Lib.hid hb
  clear hb
  simp only [codeV_some]
  go_wp2_with fail
  have hB0 : w1.heap[w.heap.size]? = some (.cells #[.int .i64 kind, .int .u32 id, .bool true, .bool false, .bool brs, .bool esi, .bool sec, .int .u8 sdt, .int .u8 vcid, .int .u32 af, .slice A n c] 42 (0, 0)) := heap_below HB.out (heap_new_at rfl)
  have hE := fun e : Ext w1 => cells11 (ext_heap hB0 e)
  have e0 : ∀ e : Ext w1, e.W.cell? ⟨w.heap.size, 0, none⟩ = some (.int .i64 kind) := fun e => (hE e).1
  have e1 : ∀ e : Ext w1, e.W.cell? ⟨w.heap.size, 1, none⟩ = some (.int .u32 id) := fun e => (hE e).2.1
  have e2 : ∀ e : Ext w1, e.W.cell? ⟨w.heap.size, 2, none⟩ = some (.bool true) := fun e => (hE e).2.2.1
  have e3 : ∀ e : Ext w1, e.W.cell? ⟨w.heap.size, 3, none⟩ = some (.bool false) := fun e => (hE e).2.2.2.1
  have e4 : ∀ e : Ext w1, e.W.cell? ⟨w.heap.size, 4, none⟩ = some (.bool brs) := fun e => (hE e).2.2.2.2.1
  have e5 : ∀ e : Ext w1, e.W.cell? ⟨w.heap.size, 5, none⟩ = some (.bool esi) := fun e => (hE e).2.2.2.2.2.1
  have e6 : ∀ e : Ext w1, e.W.cell? ⟨w.heap.size, 6, none⟩ = some (.bool sec) := fun e => (hE e).2.2.2.2.2.2.1
  have e7 : ∀ e : Ext w1, e.W.cell? ⟨w.heap.size, 7, none⟩ = some (.int .u8 sdt) := fun e => (hE e).2.2.2.2.2.2.2.1
  have e8 : ∀ e : Ext w1, e.W.cell? ⟨w.heap.size, 8, none⟩ = some (.int .u8 vcid) := fun e => (hE e).2.2.2.2.2.2.2.2.1
  have e9 : ∀ e : Ext w1, e.W.cell? ⟨w.heap.size, 9, none⟩ = some (.int .u32 af) := fun e => (hE e).2.2.2.2.2.2.2.2.2.1
  have e10 : ∀ e : Ext w1, e.W.cell? ⟨w.heap.size, 10, none⟩ = some (.slice A n c) := fun e => (hE e).2.2.2.2.2.2.2.2.2.2
  clear hE hB0 hce hfe
  refine wp_region_ext (by kernel_rfl) (by kernel_rfl) ?_
  repeat (go_big_quiet_step (first | (go_at_call 44; exact ecall (HBA.out _)) | (go_at_call 16; exact ecall (HSA.out _))))
  refine wpQuiet_nil ?_
  rintro _ ⟨⟨w2, hb2⟩, rfl⟩
  have HB2 := Lib.hid hb2
  clear hb2
  cases sm
  all_goals
    go_wp2_with fail
    go_ret
    exact ⟨rfl, below_trans (below_trans (below_alloc (Below.refl _ _) _) HB.out) HB2.out⟩
set_option maxRecDepth 100000 in
set_option maxHeartbeats 400000 in
theorem Check_callsRF (kind id : Int) (brs esi sec : Bool) (sdt vcid af : Int) (A : Option Addr) (c : Nat) (w : World) (co : Int) (sm : Bool) (vb : Value) (hid : id < 2048)
    (HC : Hid (∀ W : World, Calls Try.prog 43 #[.int .i64 kind, .int .i64 (0 : Nat)] W fun e w' => e = .returned (codeV (some co)) ∧ Below W.heap.size W w'))
    (HBA : Hid (∀ W : World, Calls Try.prog 44 #[.agg #[.int .i64 kind, .int .u32 id, .bool false, .bool true, .bool brs, .bool esi, .bool sec, .int .u8 sdt, .int .u8 vcid, .int .u32 af, .slice A 0 c]] W fun e w' => e = .returned vb ∧ Below W.heap.size W w'))
    (HSA : Hid (∀ W : World, Calls Try.prog 16 #[vb, .agg #[.int .i64 kind, .int .u32 0, .bool false, .bool false, .bool false, .bool false, .bool false, .int .u8 0, .int .u8 0, .int .u32 0, .slice none 0 0]] W fun e w' => e = .returned (.bool sm) ∧ Below W.heap.size W w')) :
    Calls Try.prog 18 #[.agg #[.int .i64 kind, .int .u32 id, .bool false, .bool true, .bool brs, .bool esi, .bool sec, .int .u8 sdt, .int .u8 vcid, .int .u32 af, .slice A 0 c]] w fun e w' => e = .returned (errV sm) ∧ Below w.heap.size w w' := by
  have hd : decide (2048 ≤ id) = false := by simp; omega
  clear hid
  go_enter Try.func18, Try.ntmps18
  go_wp2_with fail
  refine (HC.out _).mono ?_
  rintro e w1 ⟨rfl, hb⟩
  obtain ⟨hce, hfe⟩ := bcell hb
  have HB := Lib.hid hb
  clear hb
  simp only [codeV_some]
  go_wp2_with fail
  have hB0 : w1.heap[w.heap.size]? = some (.cells #[.int .i64 kind, .int .u32 id, .bool false, .bool true, .bool brs, .bool esi, .bool sec, .int .u8 sdt, .int .u8 vcid, .int .u32 af, .slice A 0 c] 42 (0, 0)) := heap_below HB.out (heap_new_at rfl)
  have hE := fun e : Ext w1 => cells11 (ext_heap hB0 e)
  have e0 : ∀ e : Ext w1, e.W.cell? ⟨w.heap.size, 0, none⟩ = some (.int .i64 kind) := fun e => (hE e).1
  have e1 : ∀ e : Ext w1, e.W.cell? ⟨w.heap.size, 1, none⟩ = some (.int .u32 id) := fun e => (hE e).2.1
  have e2 : ∀ e : Ext w1, e.W.cell? ⟨w.heap.size, 2, none⟩ = some (.bool false) := fun e => (hE e).2.2.1
  have e3 : ∀ e : Ext w1, e.W.cell? ⟨w.heap.size, 3, none⟩ = some (.bool true) := fun e => (hE e).2.2.2.1
  have e4 : ∀ e : Ext w1, e.W.cell? ⟨w.heap.size, 4, none⟩ = some (.bool brs) := fun e => (hE e).2.2.2.2.1
  have e5 : ∀ e : Ext w1, e.W.cell? ⟨w.heap.size, 5, none⟩ = some (.bool esi) := fun e => (hE e).2.2.2.2.2.1
  have e6 : ∀ e : Ext w1, e.W.cell? ⟨w.heap.size, 6, none⟩ = some (.bool sec) := fun e => (hE e).2.2.2.2.2.2.1
  have e7 : ∀ e : Ext w1, e.W.cell? ⟨w.heap.size, 7, none⟩ = some (.int .u8 sdt) := fun e => (hE e).2.2.2.2.2.2.2.1
  have e8 : ∀ e : Ext w1, e.W.cell? ⟨w.heap.size, 8, none⟩ = some (.int .u8 vcid) := fun e => (hE e).2.2.2.2.2.2.2.2.1
  have e9 : ∀ e : Ext w1, e.W.cell? ⟨w.heap.size, 9, none⟩ = some (.int .u32 af) := fun e => (hE e).2.2.2.2.2.2.2.2.2.1
  have e10 : ∀ e : Ext w1, e.W.cell? ⟨w.heap.size, 10, none⟩ = some (.slice A 0 c) := fun e => (hE e).2.2.2.2.2.2.2.2.2.2
  clear hE hB0 hce hfe
  refine wp_region_ext (by kernel_rfl) (by kernel_rfl) ?_
  repeat (go_big_quiet_step (first | (go_at_call 44; exact ecall (HBA.out _)) | (go_at_call 16; exact ecall (HSA.out _))))
  refine wpQuiet_nil ?_
  rintro _ ⟨⟨w2, hb2⟩, rfl⟩
  have HB2 := Lib.hid hb2
  clear hb2
  cases sm
  all_goals
    go_wp2_with fail
    go_ret
    exact ⟨rfl, below_trans (below_trans (below_alloc (Below.refl _ _) _) HB.out) HB2.out⟩
set_option maxRecDepth 100000 in
set_option maxHeartbeats 400000 in
theorem Check_callsRT (kind id : Int) (brs esi sec : Bool) (sdt vcid af : Int) (A : Option Addr) (c : Nat) (w : World) (co : Int) (sm : Bool) (vb : Value) (hid : id < 536870912)
    (HC : Hid (∀ W : World, Calls Try.prog 43 #[.int .i64 kind, .int .i64 (0 : Nat)] W fun e w' => e = .returned (codeV (some co)) ∧ Below W.heap.size W w'))
    (HBA : Hid (∀ W : World, Calls Try.prog 44 #[.agg #[.int .i64 kind, .int .u32 id, .bool true, .bool true, .bool brs, .bool esi, .bool sec, .int .u8 sdt, .int .u8 vcid, .int .u32 af, .slice A 0 c]] W fun e w' => e = .returned vb ∧ Below W.heap.size W w'))
    (HSA : Hid (∀ W : World, Calls Try.prog 16 #[vb, .agg #[.int .i64 kind, .int .u32 0, .bool false, .bool false, .bool false, .bool false, .bool false, .int .u8 0, .int .u8 0, .int .u32 0, .slice none 0 0]] W fun e w' => e = .returned (.bool sm) ∧ Below W.heap.size W w')) :
    Calls Try.prog 18 #[.agg #[.int .i64 kind, .int .u32 id, .bool true, .bool true, .bool brs, .bool esi, .bool sec, .int .u8 sdt, .int .u8 vcid, .int .u32 af, .slice A 0 c]] w fun e w' => e = .returned (errV sm) ∧ Below w.heap.size w w' := by
  have hd : decide (536870912 ≤ id) = false := by simp; omega
  clear hid
  go_enter Try.func18, Try.ntmps18
  go_wp2_with fail
  refine (HC.out _).mono ?_
  rintro e w1 ⟨rfl, hb⟩
  obtain ⟨hce, hfe⟩ := bcell hb
  have HB := Lib.hid hb
  clear hb
  simp only [codeV_some]
  go_wp2_with fail
  have hB0 : w1.heap[w.heap.size]? = some (.cells #[.int .i64 kind, .int .u32 id, .bool true, .bool true, .bool brs, .bool esi, .bool sec, .int .u8 sdt, .int .u8 vcid, .int .u32 af, .slice A 0 c] 42 (0, 0)) := heap_below HB.out (heap_new_at rfl)
  have hE := fun e : Ext w1 => cells11 (ext_heap hB0 e)
  have e0 : ∀ e : Ext w1, e.W.cell? ⟨w.heap.size, 0, none⟩ = some (.int .i64 kind) := fun e => (hE e).1
  have e1 : ∀ e : Ext w1, e.W.cell? ⟨w.heap.size, 1, none⟩ = some (.int .u32 id) := fun e => (hE e).2.1
  have e2 : ∀ e : Ext w1, e.W.cell? ⟨w.heap.size, 2, none⟩ = some (.bool true) := fun e => (hE e).2.2.1
  have e3 : ∀ e : Ext w1, e.W.cell? ⟨w.heap.size, 3, none⟩ = some (.bool true) := fun e => (hE e).2.2.2.1
  have e4 : ∀ e : Ext w1, e.W.cell? ⟨w.heap.size, 4, none⟩ = some (.bool brs) := fun e => (hE e).2.2.2.2.1
  have e5 : ∀ e : Ext w1, e.W.cell? ⟨w.heap.size, 5, none⟩ = some (.bool esi) := fun e => (hE e).2.2.2.2.2.1
  have e6 : ∀ e : Ext w1, e.W.cell? ⟨w.heap.size, 6, none⟩ = some (.bool sec) := fun e => (hE e).2.2.2.2.2.2.1
  have e7 : ∀ e : Ext w1, e.W.cell? ⟨w.heap.size, 7, none⟩ = some (.int .u8 sdt) := fun e => (hE e).2.2.2.2.2.2.2.1
  have e8 : ∀ e : Ext w1, e.W.cell? ⟨w.heap.size, 8, none⟩ = some (.int .u8 vcid) := fun e => (hE e).2.2.2.2.2.2.2.2.1
  have e9 : ∀ e : Ext w1, e.W.cell? ⟨w.heap.size, 9, none⟩ = some (.int .u32 af) := fun e => (hE e).2.2.2.2.2.2.2.2.2.1
  have e10 : ∀ e : Ext w1, e.W.cell? ⟨w.heap.size, 10, none⟩ = some (.slice A 0 c) := fun e => (hE e).2.2.2.2.2.2.2.2.2.2
  clear hE hB0 hce hfe
  refine wp_region_ext (by kernel_rfl) (by kernel_rfl) ?_
  repeat (go_big_quiet_step (first | (go_at_call 44; exact ecall (HBA.out _)) | (go_at_call 16; exact ecall (HSA.out _))))
  refine wpQuiet_nil ?_
  rintro _ ⟨⟨w2, hb2⟩, rfl⟩
  have HB2 := Lib.hid hb2
  clear hb2
  cases sm
  all_goals
    go_wp2_with fail
    go_ret
    exact ⟨rfl, below_trans (below_trans (below_alloc (Below.refl _ _) _) HB.out) HB2.out⟩

set_option maxHeartbeats 400000 in
theorem Check_any (f : Fr) (A : Option Addr) (c : Nat) (w : World) (hl : f.data.length ≤ 9223372036854775807) :
    Calls Try.prog 18 #[frv f (.slice A f.data.length c)] w fun e w' => e = .returned (errV (okF f)) ∧ Below w.heap.size w w' := by
  have hok : okF f = ((codeF f.kind f.data.length).isSome && decide (f.id < limF f) && !(f.rtr && decide (0 < f.data.length)) && sameF (bareF f) (zeroF f.kind)) := rfl
  have hc := fun W => Code_any f.kind f.data.length W (by omega) (by omega)
  have hbare := fun W => bare_any f A f.data.length c W
  have hsame := fun W => Same_any (bareF f) (zeroF f.kind) none none 0 0 W (Rd.nil _ _) (Rd.nil _ _) (by intro x hx; simp [bareF] at hx) (by intro x hx; simp [zeroF] at hx)
  have hlim : limF f = if f.ext then 536870912 else 2048 := rfl
  generalize okF f = r at *
  generalize sameF (bareF f) (zeroF f.kind) = sm at *
  generalize codeF f.kind f.data.length = co at *
  generalize limF f = lim at *
  obtain ⟨kind, id, ext, rtr, brs, esi, sec, sdt, vcid, af, data⟩ := f
  dsimp only [frv] at *
  generalize data.length = n at *
  cases co with
  | none =>
    have hr : r = false := by rw [hok]; rfl
    subst hr
    exact Check_none kind id ext rtr brs esi sec sdt vcid af A n c w (Lib.hid hc)
  | some co =>
    by_cases hid : id < lim
    · cases rtr with
      | true =>
        by_cases hn : 0 < n
        · have hr : r = false := by rw [hok]; simp [hn]
          subst hr hlim
          exact Check_rtr kind id ext brs esi sec sdt vcid af A n c w co hid hn (Lib.hid hc)
        · obtain rfl : n = 0 := by omega
          have hr : r = sm := by rw [hok]; simp [hid]
          subst hr hlim
          cases ext
          · exact Check_callsRF kind id brs esi sec sdt vcid af A c w co r _ hid (Lib.hid hc) (Lib.hid hbare) (Lib.hid hsame)
          · exact Check_callsRT kind id brs esi sec sdt vcid af A c w co r _ hid (Lib.hid hc) (Lib.hid hbare) (Lib.hid hsame)
      | false =>
        have hr : r = sm := by rw [hok]; simp [hid]
        subst hr hlim
        cases ext
        · exact Check_callsF kind id brs esi sec sdt vcid af A n c w co r _ hid (Lib.hid hc) (Lib.hid hbare) (Lib.hid hsame)
        · exact Check_callsT kind id brs esi sec sdt vcid af A n c w co r _ hid (Lib.hid hc) (Lib.hid hbare) (Lib.hid hsame)
    · have hr : r = false := by rw [hok]; simp [hid]
      subst hr hlim
      exact Check_id kind id ext rtr brs esi sec sdt vcid af A n c w co (by simpa using hid) (Lib.hid hc)
end Go.Proofs.Ytmlkmcpcokjogaa
-- Fields: Bits of bytes, of numbers, and fields that grow. No condition.
namespace Go.Proofs.Ytmlkmcpcokjogaa
open Go.RowKit
set_option maxRecDepth 100000 in
set_option maxHeartbeats 1000000 in
theorem fieldsPut_any (w : World) (B b t : Nat) (A : Option Addr) (c n size : Nat) (l : List Nat) (h : Pot w B b t A c l) (hn : n < 18446744073709551616) (hs : size ≤ 64) (hlt : n < 2 ^ size) (hl : l.length + size ≤ 1000000) :
    Calls Try.prog 135 #[.pointer (some ⟨b, 0, none⟩), .int .u64 n, .int .i64 size] w fun e w' => e = .returned (.tuple #[]) ∧ (∃ A' c', Pot w' B b t A' c' (l ++ bitsN n size)) ∧ Keep B b w w' := by
  obtain ⟨i0, hi, hz0, hz1, hz2⟩ := info_parts info_u8
  have HB := Lib.hid (bitsPut_any w n size hn hs hlt)
  have HP := Lib.hid h
  clear h hlt
  go_enter Try.func135, Try.ntmps135
  go_wp2_with fail
  refine HB.out.mono ?_
  rintro e w1 ⟨⟨A2, c2, rfl, hrow⟩, hb⟩
  have HQ := Lib.hid (HP.out.below hb)
  have HRow := Lib.hid hrow
  have HB1 := Lib.hid hb
  clear hrow hb
  obtain ⟨q, hq⟩ : ∃ q, l.length = q := ⟨_, rfl⟩
  have hq2 : q + size ≤ 1000000 := by omega
  have c0 : w1.cell? ⟨b, 0, none⟩ = some (.slice A q c) := by rw [← hq]; exact HQ.out.cell
  have z0 : w1.frozen? ⟨b, 0, none⟩ = false := HQ.out.frozen
  have sb : b < w1.heap.size := heap_lt HQ.out.box
  have HL := Lib.hid hq
  clear hq hl
  go_wp2_with (at_builtin; refine wpList_pot (W0 := w) HQ.out (.of HB1.out HP.out.size) rfl (.tmp 18) (.tmp 19) 40 rfl i0 _ 1 Try.underlying40 hi hz0 hz1 hz2 rfl q HL.out rfl A2 size c2 (bitsN n size) rfl (bitsN_length _ _) HRow.out.rd (fun _ e => HRow.out.none_ e) (q + size) rfl (by unfold maxLen; omega) (by omega) ?_; intro w3 A3 c3 HP3 c03 z03)
  go_end0
  obtain ⟨p1, p2⟩ := HP3.out.store (n := q + size) (by rw [List.length_append, HL.out, bitsN_length])
  exact ⟨rfl, ⟨_, _, p1⟩, p2⟩
theorem fieldsFlag_any (w : World) (B b t : Nat) (A : Option Addr) (c : Nat) (x : Bool) (l : List Nat) (h : Pot w B b t A c l) (hl : l.length + 1 ≤ 1000000) :
    Calls Try.prog 136 #[.pointer (some ⟨b, 0, none⟩), .bool x] w fun e w' => e = .returned (.tuple #[]) ∧ (∃ A' c', Pot w' B b t A' c' (l ++ [bitB x])) ∧ Keep B b w w' := by
  cases x
  · have HP := Lib.hid (fieldsPut_any w B b t A c 0 1 l h (by omega) (by omega) (by omega) (by omega))
    clear h
    go_enter Try.func136, Try.ntmps136
    go_wp2_with fail
    refine HP.out.mono ?_
    rintro e w' ⟨rfl, h1, h2⟩
    have H1 := Lib.hid h1
    have H2 := Lib.hid h2
    clear h1 h2
    go_wp2_with fail
    go_end0
    exact ⟨rfl, H1.out, H2.out⟩
  · have HP := Lib.hid (fieldsPut_any w B b t A c 1 1 l h (by omega) (by omega) (by omega) (by omega))
    clear h
    go_enter Try.func136, Try.ntmps136
    go_wp2_with fail
    refine HP.out.mono ?_
    rintro e w' ⟨rfl, h1, h2⟩
    have H1 := Lib.hid h1
    have H2 := Lib.hid h2
    clear h1 h2
    go_wp2_with fail
    go_end0
    exact ⟨rfl, H1.out, H2.out⟩
/-- A frame's bits, up to the last one that arbitrates. -/
def headL (f : Fr) : List Nat :=
  if f.ext then [0] ++ bitsN (f.id.toNat / 262144) 11 ++ [1, 1] ++ bitsN (f.id.toNat % 262144) 18 ++ [bitB f.rtr] ++ [0, 0]
  else [0] ++ bitsN f.id.toNat 11 ++ [bitB f.rtr] ++ [0, 0]
end Go.Proofs.Ytmlkmcpcokjogaa
-- Key: A frame's key among all that arbitrate, and which of two wins: order.Key, order.Compare. No condition.
namespace Go.Proofs.Ytmlkmcpcokjogaa
open Go.RowKit

theorem isNaN_u64 (n : Int) (w : World) : Calls Try.prog 85 #[.int .u64 n] w fun e w' => e = .returned (.bool false) ∧ w = w' := by
  go_enter Try.func85, Try.ntmps85
  go_wp2
  go_ret
  exact ⟨by simp, rfl⟩
set_option maxHeartbeats 400000 in
theorem cmp_u64 (a b : Int) (w : World) : Calls Try.prog 62 #[.int .u64 a, .int .u64 b] w fun e w' => e = .returned (.int .i64 (cmpI a b)) ∧ w = w' := by
  have hf : cmpI a b = if a < b then -1 else if b < a then 1 else 0 := rfl
  generalize cmpI a b = r at *
  have HF := Lib.hid hf
  clear hf
  go_enter Try.func62, Try.ntmps62
  go_wp2_with (go_at_call 85; refine (isNaN_u64 _ _).mono ?_; rintro e w' ⟨rfl, rfl⟩)
  all_goals
    go_ret
    exact ⟨ret_int (by rw [HF.out]; (repeat (first | rw [if_pos (by omega)] | rw [if_neg (by omega)]))), rfl⟩
theorem bit_true (k : Nat) (w : World) (h : k ≤ 40) : Calls Try.prog 84 #[.bool true, .int .i64 k] w fun e w' => e = .returned (.int .u64 (2 ^ k : Nat)) ∧ w = w' := by
  have hw : IntKind.u64.wrap (2 ^ k) = ((2 ^ k : Nat) : Int) := by
    have h1 : 2 ^ k ≤ 2 ^ 40 := Nat.pow_le_pow_right (by omega) h
    have h2 : ((2 : Int) ^ k) = ((2 ^ k : Nat) : Int) := by simp
    rw [h2]
    have h3 : (2 : Nat) ^ 40 = 1099511627776 := by decide
    exact IntWalk.u64_in _ ⟨Int.natCast_nonneg _, by omega⟩
  have HW := Lib.hid hw
  clear hw
  go_enter Try.func84, Try.ntmps84
  go_wp2
  go_ret
  exact ⟨ret_int HW.out, rfl⟩
theorem bit_false (k : Int) (w : World) : Calls Try.prog 84 #[.bool false, .int .i64 k] w fun e w' => e = .returned (.int .u64 0) ∧ w = w' := by
  go_enter Try.func84, Try.ntmps84
  go_wp2
  go_ret
  exact ⟨rfl, rfl⟩

theorem u64_join (i : Nat) (x y : Int) (h0 : 0 ≤ x) (h1 : x < 18446744073709551616) (hx : x % (2 ^ i : Nat) = 0) (hy0 : 0 ≤ y) (hy : y < (2 ^ i : Nat)) (hi : i ≤ 60) : bits .or .u64 x y = x + y := by
  have h2 : 2 ^ i ≤ 2 ^ 60 := Nat.pow_le_pow_right (by omega) hi
  have h3 : (2 : Nat) ^ 60 = 1152921504606846976 := by decide
  generalize hp : 2 ^ i = p at *
  have hm : x.toNat % p = 0 := by
    have : ((x.toNat % p : Nat) : Int) = x % (p : Int) := by rw [Int.natCast_emod, Int.toNat_of_nonneg h0]
    omega
  rw [u64_or x y h0 h1 hy0 (by omega), nat_join i x.toNat y.toNat (by rw [hp]; exact hm) (by omega)]
  omega
/-- A bool's bit at a place. -/
def bitV (b : Bool) (k : Int) : Int := if b then ((2 ^ k.toNat : Nat) : Int) else 0
theorem bit_any (b : Bool) (k : Int) (w : World) (h0 : 0 ≤ k) (h : k ≤ 40) : Calls Try.prog 84 #[.bool b, .int .i64 k] w fun e w' => e = .returned (.int .u64 (bitV b k)) ∧ w = w' := by
  cases b
  · exact bit_false k w
  · obtain ⟨n, rfl⟩ := Int.eq_ofNat_of_zero_le h0
    exact bit_true n w (by omega)
theorem key_long (id : Int) (rtr : Bool) (h0 : 0 ≤ id) (h1 : id < 536870912) :
    bits .or .u64 (bits .or .u64 (bits .or .u64 (id / 262144 * 8388608) 6291456) (id % 262144 * 8)) (bitV rtr 2) = id / 262144 * 8388608 + 6291456 + id % 262144 * 8 + (if rtr then 4 else 0) := by
  have e1 : bitV rtr 2 = if rtr then 4 else 0 := by cases rtr <;> rfl
  rw [e1]
  generalize hr : (if rtr = true then (4 : Int) else 0) = r
  have hr' : r = 0 ∨ r = 4 := by rw [← hr]; split <;> simp
  rw [u64_join 23 _ 6291456 (by omega) (by omega) (by simp) (by omega) (by simp) (by omega),
    u64_join 21 _ (id % 262144 * 8) (by omega) (by omega) (by simp; omega) (by omega) (by simp; omega) (by omega),
    u64_join 3 _ r (by omega) (by omega) (by simp; omega) (by omega) (by simp; omega) (by omega)]
theorem and18 (id : Int) (h0 : 0 ≤ id) (h1 : id < 536870912) : bits .and .u32 id 262143 = id % 262144 := by
  rw [u32_and id 262143 h0 (by omega) (by omega) (by omega)]
  have : id.toNat &&& (262143 : Int).toNat = id.toNat % 2 ^ 18 := Nat.and_two_pow_sub_one_eq_mod id.toNat 18
  rw [this]
  omega
/-- A frame's key among all that arbitrate. -/
def keyF (f : Fr) : Int :=
  if f.ext then f.id / 262144 * 8388608 + 6291456 + f.id % 262144 * 8 + (if f.rtr then 4 else 0)
  else f.id * 8388608 + (if f.rtr then 4194304 else 0) + (if f.kind = 1 then 0 else 1048576) + (if f.kind = 3 then 524288 else 0)
theorem bitV_range (b : Bool) (k : Int) (n : Nat) (hn : k.toNat = n) : bitV b k = 0 ∨ bitV b k = (2 ^ n : Nat) := by subst hn; unfold bitV; cases b <;> simp
theorem key_short (id : Int) (rtr : Bool) (kind : Int) (h0 : 0 ≤ id) (h1 : id < 2048) :
    bits .or .u64 (bits .or .u64 (bits .or .u64 (id * 8388608) (bitV rtr 22)) (bitV (kind != 1) 20)) (bitV (kind == 3) 19) =
      id * 8388608 + (if rtr then 4194304 else 0) + (if kind = 1 then 0 else 1048576) + (if kind = 3 then 524288 else 0) := by
  have e1 : bitV rtr 22 = if rtr then 4194304 else 0 := by cases rtr <;> rfl
  have e2 : bitV (kind != 1) 20 = if kind = 1 then 0 else 1048576 := by by_cases h : kind = 1 <;> simp [h, bitV]
  have e3 : bitV (kind == 3) 19 = if kind = 3 then 524288 else 0 := by by_cases h : kind = 3 <;> simp [h, bitV]
  rw [e1, e2, e3]
  generalize hr : (if rtr = true then (4194304 : Int) else 0) = r
  have hr' : r = 0 ∨ r = 4194304 := by rw [← hr]; split <;> simp
  generalize hf : (if kind = 1 then (0 : Int) else 1048576) = f
  have hf' : f = 0 ∨ f = 1048576 := by rw [← hf]; split <;> simp
  generalize hx : (if kind = 3 then (524288 : Int) else 0) = x
  have hx' : x = 0 ∨ x = 524288 := by rw [← hx]; split <;> simp
  rw [u64_join 23 (id * 8388608) r (by omega) (by omega) (by simp) (by omega) (by simp; omega) (by omega),
    u64_join 22 _ f (by omega) (by omega) (by simp; omega) (by omega) (by simp; omega) (by omega),
    u64_join 20 _ x (by omega) (by omega) (by simp; omega) (by omega) (by simp; omega) (by omega)]
set_option maxRecDepth 100000 in
set_option maxHeartbeats 1000000 in
theorem Key_any (f : Fr) (A : Option Addr) (c : Nat) (w : World) (hl : f.data.length ≤ 9223372036854775807) (h0 : 0 ≤ f.id) :
    Calls Try.prog 61 #[frv f (.slice A f.data.length c)] w fun e w' => e = .returned (.tuple #[.int .u64 (if okF f then keyF f else 0), errV (okF f)]) ∧ Below w.heap.size w w' := by
  have hc := fun W => Check_any f A c W hl
  have hid : okF f = true → f.id < limF f := by
    unfold okF; intro h; simp at h; exact h.1.1.2
  have hkey : keyF f = keyF f := rfl
  have hlim : limF f = limF f := rfl
  conv at hkey => rhs; unfold keyF
  conv at hlim => rhs; unfold limF
  generalize keyF f = k at *
  generalize limF f = lim at *
  generalize okF f = ok at *
  obtain ⟨kind, id, ext, rtr, brs, esi, sec, sdt, vcid, af, data⟩ := f
  dsimp only [frv] at *
  generalize data.length = n at *
  have HC := Lib.hid hc
  have HK := Lib.hid hkey
  clear hc hkey
  cases ok with
  | false =>
    clear hid hlim
    go_enter Try.func61, Try.ntmps61
    go_wp2_with fail
    refine (HC.out _).mono ?_
    rintro e w1 ⟨rfl, hb⟩
    have HB := Lib.hid hb
    clear hb
    simp only [errV]
    go_wp2_with fail
    go_ret2
    exact ⟨rfl, below_trans (below_alloc (Below.refl _ _) _) HB.out⟩
  | true =>
    have hi := hid rfl
    clear hid
    cases ext
    · simp only [Bool.false_eq_true, if_false] at hlim HK
      subst hlim
      go_enter Try.func61, Try.ntmps61
      go_wp2_with fail
      refine (HC.out _).mono ?_
      rintro e w1 ⟨rfl, hb⟩
      obtain ⟨hce, hfe⟩ := bcell hb
      have HB := Lib.hid hb
      clear hb
      simp only [errV]
      go_wp2_with fail
      go_quiet ((go_at_call 84; exact qcall (bit_any _ _ _ (by omega) (by omega))))
      go_wp2_with fail
      go_ret2
      exact ⟨ret_fst (by rw [key_short id rtr kind h0 hi, HK.out]), below_drewN (below_trans (below_alloc (Below.refl _ _) _) HB.out) _⟩
    · simp only [if_true] at hlim HK
      subst hlim
      have hm := and18 id h0 hi
      go_enter Try.func61, Try.ntmps61
      go_wp2_with fail
      refine (HC.out _).mono ?_
      rintro e w1 ⟨rfl, hb⟩
      obtain ⟨hce, hfe⟩ := bcell hb
      have HB := Lib.hid hb
      clear hb
      simp only [errV]
      go_wp2_with fail
      go_quiet (fail)
      go_wp2_with (go_at_call 84; refine (bit_any _ _ _ (by omega) (by omega)).mono ?_; rintro e w' ⟨rfl, rfl⟩)
      go_ret2
      exact ⟨ret_fst (by rw [key_long id rtr h0 hi, HK.out]), below_drewN (below_trans (below_alloc (Below.refl _ _) _) HB.out) _⟩
/-- Which of two frames wins. -/
def cmpF (a b : Fr) : Int := cmpI (keyF a) (keyF b)
set_option maxHeartbeats 1000000 in
theorem Compare_any (f g : Fr) (A B : Option Addr) (c d : Nat) (w : World) (hf : f.data.length ≤ 9223372036854775807) (hg : g.data.length ≤ 9223372036854775807) (h0 : 0 ≤ f.id) (h1 : 0 ≤ g.id) :
    Calls Try.prog 31 #[frv f (.slice A f.data.length c), frv g (.slice B g.data.length d)] w fun e w' => e = .returned (.tuple #[.int .i64 (if okF f && okF g then cmpF f g else 0), errV (okF f && okF g)]) ∧ Below w.heap.size w w' := by
  have hkf := fun W => Key_any f A c W hf h0
  have hkg := fun W => Key_any g B d W hg h1
  have hc : cmpF f g = cmpI (keyF f) (keyF g) := rfl
  generalize cmpF f g = r at *
  generalize keyF f = kf at *
  generalize keyF g = kg at *
  have HC := Lib.hid hc
  have HF := Lib.hid hkf
  have HG := Lib.hid hkg
  clear hc hkf hkg hf hg h0 h1
  generalize okF f = kof at *
  generalize okF g = kog at *
  cases kof <;> cases kog
  all_goals
    simp only [errV, Bool.false_eq_true, if_false, if_true, Bool.and_false, Bool.and_true] at *
    go_enter Try.func31, Try.ntmps31
    go_wp2_with fail
    refine (HF.out _).mono ?_
    rintro e w1 ⟨rfl, hb⟩
    obtain ⟨hce, hfe⟩ := bcell hb
    have HB := Lib.hid hb
    clear hb
    go_wp2_with fail
    refine (HG.out _).mono ?_
    rintro e w2 ⟨rfl, hb2⟩
    have HB2 := Lib.hid hb2
    clear hb2
    go_wp2_with (go_at_call 62; refine (cmp_u64 _ _ _).mono ?_; rintro e w' ⟨rfl, rfl⟩)
    go_ret2
    exact ⟨by first | rfl | exact ret_fst HC.out.symm, below_trans (below_trans (below_alloc (below_alloc (Below.refl _ _) _) _) HB.out) HB2.out⟩
end Go.Proofs.Ytmlkmcpcokjogaa
-- Head: classic.head: a Classic frame's bits up to the last one that arbitrates. No condition.
namespace Go.Proofs.Ytmlkmcpcokjogaa
open Go.RowKit
theorem fieldsPut_row (w : World) (B b t : Nat) (A : Option Addr) (c : Nat) (n size : Int) (N S : Nat) (l : List Nat) (eN : n = (N : Int)) (eS : size = (S : Int)) (h : Pot w B b t A c l) (hn : N < 18446744073709551616) (hs : S ≤ 64) (hlt : N < 2 ^ S) (hl : l.length + S ≤ 1000000) :
    Calls Try.prog 135 #[.pointer (some ⟨b, 0, none⟩), .int .u64 n, .int .i64 size] w fun e w' => e = .returned (.tuple #[]) ∧ (∃ A' c', Pot w' B b t A' c' (l ++ bitsN N S)) ∧ Keep B b w w' := by
  subst eN eS
  exact fieldsPut_any w B b t A c N S l h hn hs hlt hl
set_option maxRecDepth 100000 in
set_option maxHeartbeats 2000000 in
theorem head_any (f : Fr) (A : Option Addr) (n c : Nat) (w : World) (h0 : 0 ≤ f.id) (h1 : f.id < limF f) :
    Calls Try.prog 99 #[frv f (.slice A n c)] w fun e w' => e = .returned (.pointer (some ⟨w.heap.size + 1, 0, none⟩)) ∧ (∃ A' c', Pot w' (w.heap.size + 1 + 1) (w.heap.size + 1) 162 A' c' (headL f)) ∧ Below w.heap.size w w' := by
  have hl : headL f = if f.ext then [0] ++ bitsN (f.id.toNat / 262144) 11 ++ [1, 1] ++ bitsN (f.id.toNat % 262144) 18 ++ [bitB f.rtr] ++ [0, 0] else [0] ++ bitsN f.id.toNat 11 ++ [bitB f.rtr] ++ [0, 0] := rfl
  unfold limF at h1
  generalize headL f = l at *
  obtain ⟨kind, id, ext, rtr, brs, esi, sec, sdt, vcid, af, data⟩ := f
  dsimp only [frv] at *
  obtain ⟨m, rfl⟩ := Int.eq_ofNat_of_zero_le h0
  rw [Int.toNat_natCast] at hl
  cases ext
  · simp only [Bool.false_eq_true, if_false] at h1 hl
    have HL := Lib.hid hl
    clear hl h0
    go_enter Try.func99, Try.ntmps99
    go_wp2_with fail
    refine calls_blk2 (fun W0 q1 q2 hb => ?_)
    have hp : Pot W0 (w.heap.size + 1 + 1) (w.heap.size + 1) 162 none 0 [] := ⟨q2, fun _ e => (by cases e), heap_lt q2, Row.nil _ _ _⟩
    have HB := Lib.hid hb
    have HP := Lib.hid hp
    obtain ⟨a0, a1, a2, a3, a4, a5, a6, a7, a8, a9, a10⟩ := cells11 q1
    have b1 := fun e : KE (w.heap.size + 1 + 1) (w.heap.size + 1) W0 => ke_cell a1 (by show w.heap.size < _; omega) (by show w.heap.size ≠ _; omega) e
    have b2 := fun e : KE (w.heap.size + 1 + 1) (w.heap.size + 1) W0 => ke_cell a2 (by show w.heap.size < _; omega) (by show w.heap.size ≠ _; omega) e
    have b3 := fun e : KE (w.heap.size + 1 + 1) (w.heap.size + 1) W0 => ke_cell a3 (by show w.heap.size < _; omega) (by show w.heap.size ≠ _; omega) e
    clear hb hp q1 q2 a0 a1 a2 a3 a4 a5 a6 a7 a8 a9 a10
    refine (kec_same (fieldsPut_row _ _ _ _ _ _ _ _ 0 1 _ rfl rfl HP.out (by omega) (by omega) (by omega) (by simp))).mono ?_
    rintro x _ ⟨e1, rfl, rfl, A1, c1, hp1⟩
    have HP1 := Lib.hid hp1
    clear hp1
    go_wp2_with fail
    refine (kec (fieldsPut_row _ _ _ _ _ _ _ _ m 11 _ ?c1 rfl HP1.out (by omega) (by omega) (by omega) (by simp [bitsN_length]))).mono ?_
    case c1 => first | rfl | omega
    rintro x _ ⟨e2, rfl, rfl, A2, c2, hp2⟩
    have HP2 := Lib.hid hp2
    clear hp2
    go_wp2_with fail
    refine (kec (fieldsFlag_any _ _ _ _ _ _ rtr _ HP2.out (by simp [bitsN_length]))).mono ?_
    rintro x _ ⟨e3, rfl, rfl, A3, c3, hp3⟩
    have HP3 := Lib.hid hp3
    clear hp3
    go_wp2_with fail
    refine (kec (fieldsPut_row _ _ _ _ _ _ _ _ 0 2 _ rfl rfl HP3.out (by omega) (by omega) (by omega) (by simp [bitsN_length]))).mono ?_
    rintro x _ ⟨e4, rfl, rfl, A4, c4, hp4⟩
    have HP4 := Lib.hid hp4
    clear hp4
    go_wp2_with fail
    go_ret
    refine ⟨rfl, ⟨A4, c4, ?_⟩, HB.out.trans (e4.keep.below (by omega) (by omega))⟩
    have h := HP4.out
    rw [HL.out]
    exact h
  · simp only [if_true] at h1 hl
    have h18 := and18 (m : Int) (by omega) h1
    have HL := Lib.hid hl
    clear hl h0
    go_enter Try.func99, Try.ntmps99
    go_wp2_with fail
    refine calls_blk2 (fun W0 q1 q2 hb => ?_)
    have hp : Pot W0 (w.heap.size + 1 + 1) (w.heap.size + 1) 162 none 0 [] := ⟨q2, fun _ e => (by cases e), heap_lt q2, Row.nil _ _ _⟩
    have HB := Lib.hid hb
    have HP := Lib.hid hp
    obtain ⟨a0, a1, a2, a3, a4, a5, a6, a7, a8, a9, a10⟩ := cells11 q1
    have b1 := fun e : KE (w.heap.size + 1 + 1) (w.heap.size + 1) W0 => ke_cell a1 (by show w.heap.size < _; omega) (by show w.heap.size ≠ _; omega) e
    have b2 := fun e : KE (w.heap.size + 1 + 1) (w.heap.size + 1) W0 => ke_cell a2 (by show w.heap.size < _; omega) (by show w.heap.size ≠ _; omega) e
    have b3 := fun e : KE (w.heap.size + 1 + 1) (w.heap.size + 1) W0 => ke_cell a3 (by show w.heap.size < _; omega) (by show w.heap.size ≠ _; omega) e
    clear hb hp q1 q2 a0 a1 a2 a3 a4 a5 a6 a7 a8 a9 a10
    refine (kec_same (fieldsPut_row _ _ _ _ _ _ _ _ 0 1 _ rfl rfl HP.out (by omega) (by omega) (by omega) (by simp))).mono ?_
    rintro x _ ⟨e1, rfl, rfl, A1, c1, hp1⟩
    have HP1 := Lib.hid hp1
    clear hp1
    go_wp2_with fail
    refine (kec (fieldsPut_row _ _ _ _ _ _ _ _ (m / 262144) 11 _ ?c1 rfl HP1.out (by omega) (by omega) (by omega) (by simp [bitsN_length]))).mono ?_
    case c1 => first | rfl | omega
    rintro x _ ⟨e2, rfl, rfl, A2, c2, hp2⟩
    have HP2 := Lib.hid hp2
    clear hp2
    go_wp2_with fail
    refine (kec (fieldsPut_row _ _ _ _ _ _ _ _ 3 2 _ rfl rfl HP2.out (by omega) (by omega) (by omega) (by simp [bitsN_length]))).mono ?_
    rintro x _ ⟨e5, rfl, rfl, A5, c5, hp5⟩
    have HP5 := Lib.hid hp5
    clear hp5
    go_wp2_with fail
    refine (kec (fieldsPut_row _ _ _ _ _ _ _ _ (m % 262144) 18 _ ?c2 rfl HP5.out (by omega) (by omega) (by omega) (by simp [bitsN_length]))).mono ?_
    case c2 => first | rfl | omega
    rintro x _ ⟨e6, rfl, rfl, A6, c6, hp6⟩
    have HP6 := Lib.hid hp6
    clear hp6
    go_wp2_with fail
    refine (kec (fieldsFlag_any _ _ _ _ _ _ rtr _ HP6.out (by simp [bitsN_length]))).mono ?_
    rintro x _ ⟨e3, rfl, rfl, A3, c3, hp3⟩
    have HP3 := Lib.hid hp3
    clear hp3
    go_wp2_with fail
    refine (kec (fieldsPut_row _ _ _ _ _ _ _ _ 0 2 _ rfl rfl HP3.out (by omega) (by omega) (by omega) (by simp [bitsN_length]))).mono ?_
    rintro x _ ⟨e4, rfl, rfl, A4, c4, hp4⟩
    have HP4 := Lib.hid hp4
    clear hp4
    go_wp2_with fail
    go_ret
    refine ⟨rfl, ⟨A4, c4, ?_⟩, HB.out.trans (e4.keep.below (by omega) (by omega))⟩
    have h := HP4.out
    rw [HL.out]
    exact h
theorem headL_length (f : Fr) : (headL f).length = if f.ext then 35 else 15 := by unfold headL; split <;> simp [bitsN_length]
theorem headL_bits (f : Fr) : ∀ x ∈ headL f, x ≤ 1 := by
  have hb : ∀ b : Bool, bitB b ≤ 1 := by intro b; cases b <;> decide
  have h0 : ∀ x ∈ [0], x ≤ 1 := by simp
  have h00 : ∀ x ∈ [0, 0], x ≤ 1 := by simp
  have h11 : ∀ x ∈ [1, 1], x ≤ 1 := by simp
  unfold headL
  split <;> intro x hx <;> simp only [List.mem_append, List.mem_singleton] at hx
  · rcases hx with ((((rfl | hx) | hx) | hx) | rfl) | hx
    · omega
    · exact bitsN_bit _ _ x hx
    · exact h11 x hx
    · exact bitsN_bit _ _ x hx
    · exact hb _
    · exact h00 x hx
  · rcases hx with ((rfl | hx) | rfl) | hx
    · omega
    · exact bitsN_bit _ _ x hx
    · exact hb _
    · exact h00 x hx
end Go.Proofs.Ytmlkmcpcokjogaa
-- Body: classic.Body: a Classic frame's bits ahead of all stuffing. No condition.
namespace Go.Proofs.Ytmlkmcpcokjogaa
open Go.RowKit
/-- A Classic frame's bits ahead of its sum. -/
def coreC (f : Fr) : List Nat := headL f ++ bitsN f.data.length 4 ++ bytesN f.data
def bodyC (f : Fr) : List Nat := addN 15 17817 0 (coreC f)
theorem codeF_1 (n : Nat) : codeF 1 n = if n ≤ 8 then some (n : Int) else none := by
  by_cases h : n ≤ 8
  · simp [codeF, loOf, hiOf, h]; omega
  · simp [codeF, loOf, hiOf, h]; omega
theorem okF_len1 (f : Fr) (hk : f.kind = 1) (h : okF f = true) : f.data.length ≤ 8 := by
  unfold okF at h
  simp only [Bool.and_eq_true] at h
  have h1 := h.1.1.1
  rw [hk, codeF_1] at h1
  split at h1
  · assumption
  · cases h1
theorem okF_lim (f : Fr) (h : okF f = true) : f.id < limF f := by
  unfold okF at h
  simp only [Bool.and_eq_true, decide_eq_true_eq] at h
  exact h.1.1.2
theorem coreC_bits (f : Fr) : ∀ x ∈ coreC f, x ≤ 1 := by
  intro x hx
  simp only [coreC, List.mem_append] at hx
  rcases hx with (hx | hx) | hx
  · exact headL_bits f x hx
  · exact bitsN_bit _ _ x hx
  · exact bytesN_bits _ x hx
theorem coreC_length (f : Fr) : (coreC f).length = (if f.ext then 39 else 19) + 8 * f.data.length := by
  unfold coreC
  rw [List.length_append, List.length_append, headL_length, bitsN_length, bytesN_length]
  split <;> omega
theorem bodyC_length (f : Fr) : (bodyC f).length = (if f.ext then 54 else 34) + 8 * f.data.length := by
  unfold bodyC addN
  rw [List.length_append, coreC_length, bitsN_length]
  split <;> omega
set_option maxRecDepth 100000 in
set_option maxHeartbeats 2000000 in
theorem Body_no (f : Fr) (A : Option Addr) (c : Nat) (w : World) (hl : f.data.length ≤ 9223372036854775807) (hno : ¬ (f.kind = 1 ∧ okF f = true)) :
    Calls Try.prog 98 #[frv f (.slice A f.data.length c)] w fun e w' => e = .returned (.tuple #[.slice none 0 0, .int .i64 2]) ∧ Below w.heap.size w w' := by
  have HC := Lib.hid (fun W => Check_any f A c W hl)
  by_cases hk : f.kind = 1
  · have hok : okF f = false := by cases h : okF f with | false => rfl | true => exact absurd ⟨hk, h⟩ hno
    rw [hok] at HC
    have he : errV false = .int .i64 2 := rfl
    rw [he] at HC
    obtain ⟨kind, id, ext, rtr, brs, esi, sec, sdt, vcid, af, data⟩ := f
    dsimp only [frv] at *
    generalize data.length = n at *
    subst hk
    clear hno hok he
    go_enter Try.func98, Try.ntmps98
    go_wp2_with fail
    refine (HC.out _).mono ?_
    rintro e w1 ⟨rfl, hb⟩
    have HB := Lib.hid hb
    clear hb
    go_wp2_with fail
    go_ret2
    exact ⟨rfl, (below_alloc (Below.refl _ _) _).trans (HB.out.mono (by simp))⟩
  · obtain ⟨kind, id, ext, rtr, brs, esi, sec, sdt, vcid, af, data⟩ := f
    dsimp only [frv] at *
    generalize data.length = n at *
    have hkb : (kind != 1) = true := by rw [bne_iff_ne]; exact hk
    clear hno hk HC
    go_enter Try.func98, Try.ntmps98
    go_wp2_with fail
    go_ret2
    exact ⟨rfl, below_alloc (Below.refl _ _) _⟩
set_option maxRecDepth 100000 in
set_option maxHeartbeats 4000000 in
theorem Body_ok (f : Fr) (A : Option Addr) (c N : Nat) (w : World) (hk : f.kind = 1) (hok : okF f = true) (h0 : 0 ≤ f.id) (hr : Rd w A (bys f.data)) (hby : isBytes f.data) (hN : (bodyC f).length = N) :
    Calls Try.prog 98 #[frv f (.slice A f.data.length c)] w fun e w' => (∃ A' c', e = .returned (.tuple #[.slice A' N c', .int .i64 0]) ∧ Row w' w.heap.size 5 A' c' (bys (bodyC f))) ∧ Below w.heap.size w w' := by
  have hl8 := okF_len1 f hk hok
  have hC := fun W => Check_any f A c W (by omega)
  rw [hok] at hC
  have he : errV true = .int .i64 0 := rfl
  rw [he] at hC
  have hH := fun W => head_any f A f.data.length c W h0 (okF_lim f hok)
  have hcode := fun W => Code_any 1 (f.data.length : Int) W (by omega) (by omega)
  rw [codeF_1, if_pos hl8, codeV_some] at hcode
  have hcl := coreC_length f
  have hcb := coreC_bits f
  have hce : coreC f = headL f ++ bitsN f.data.length 4 ++ bytesN f.data := rfl
  have hbe : bodyC f = addN 15 17817 0 (coreC f) := rfl
  have hhl : (headL f).length ≤ 35 := by rw [headL_length]; split <;> omega
  have hclb : (coreC f).length ≤ 103 := by rw [hcl]; split <;> omega
  have hNc : (coreC f).length + 15 = N := by rw [← hN, hbe, addN, List.length_append, bitsN_length]
  obtain ⟨hL, hhL⟩ : ∃ hL, headL f = hL := ⟨_, rfl⟩
  obtain ⟨co, hco⟩ : ∃ co, coreC f = co := ⟨_, rfl⟩
  obtain ⟨bo, hbo⟩ : ∃ bo, bodyC f = bo := ⟨_, rfl⟩
  rw [hhL] at hhl hce hH
  rw [hco] at hcb hce hbe hNc hclb
  rw [hbo] at hbe ⊢
  obtain ⟨kind, id, ext, rtr, brs, esi, sec, sdt, vcid, af, data⟩ := f
  dsimp only [frv] at *
  obtain ⟨n, hn⟩ : ∃ n, data.length = n := ⟨_, rfl⟩
  rw [hn] at hC hH hcode hce hl8 ⊢
  subst hk
  have HC := Lib.hid hC
  have HH := Lib.hid hH
  have HCODE := Lib.hid hcode
  have HR := Lib.hid hr
  have HBY := Lib.hid hby
  have HN := Lib.hid hn
  have HCB := Lib.hid hcb
  have HCE := Lib.hid hce
  have HBE := Lib.hid hbe
  have HNC := Lib.hid hNc
  have HHL := Lib.hid hhl
  have HCLB := Lib.hid hclb
  clear hC hH hcode hr hby hn hcb hce hbe hNc hhl hclb hcl hco hbo hhL hN hok he h0
  go_enter Try.func98, Try.ntmps98
  go_wp2_with fail
  refine calls_blk1 (fun W0 q1 hb => ?_)
  have HB := Lib.hid hb
  have HQ := Lib.hid q1
  obtain ⟨a0, a1, a2, a3, a4, a5, a6, a7, a8, a9, a10⟩ := ext11 q1
  have hsz0 : w.heap.size < W0.heap.size := heap_lt q1
  clear hb q1
  refine (extc_same (HC.out _)).mono ?_
  rintro x _ ⟨e1, rfl, rfl⟩
  go_wp2_with fail
  refine (HH.out _).mono ?_
  rintro x w2 ⟨rfl, ⟨A2, c2, hp2⟩, hb2⟩
  have HP2 := Lib.hid hp2
  have HB2 := Lib.hid hb2
  have e2 : ∀ i v, e1.W.cell? ⟨w.heap.size, i, none⟩ = some v → w2.cell? ⟨w.heap.size, i, none⟩ = some v := fun i v h => Below.cell_of HB2.out h
  have b0 := e2 0 _ (a0 e1)
  have b10 := e2 10 _ (a10 e1)
  have hszw : W0.heap.size ≤ e1.W.heap.size := e1.below.size
  clear hp2 hb2 e2
  go_wp2_with fail
  refine (HCODE.out _).mono ?_
  rintro x w3 ⟨rfl, hb3⟩
  have HB3 := Lib.hid hb3
  have d10 := Below.cell_of HB3.out b10
  clear hb3
  go_wp2_with fail
  have hp3 := HP2.out.below HB3.out
  refine (fieldsPut_row w3 _ _ _ A2 c2 _ _ n 4 hL ?c1 rfl hp3 (by omega) (by omega) (by omega) (by have := HHL.out; omega)).mono ?_
  case c1 => first | rfl | omega
  rintro x w4 ⟨rfl, ⟨A4, c4, hp4⟩, hk4⟩
  have HP4 := Lib.hid hp4
  have HK4 := Lib.hid hk4
  have f10 : w4.cell? ⟨w.heap.size, 10, none⟩ = some (.slice A n c) := HK4.out.cell_of d10 (by show w.heap.size < _; omega) (by show w.heap.size ≠ _; omega)
  obtain ⟨q, hq⟩ : ∃ q, (hL ++ bitsN n 4).length = q := ⟨_, rfl⟩
  have f0 : w4.cell? ⟨e1.W.heap.size + 1, 0, none⟩ = some (.slice A4 q c4) := by rw [← hq]; exact HP4.out.cell
  have hbw4 : Below W0.heap.size W0 w4 := by
    have h1 := HK4.out.below (C := W0.heap.size) (by omega) (by omega)
    exact (below_trans (below_trans e1.below HB2.out) HB3.out).trans h1
  have hr4 : Rd w4 A (bys data) := (HR.out.below HB.out).below hbw4
  have HBW4 := Lib.hid hbw4
  have HR4 := Lib.hid hr4
  have HQL := Lib.hid hq
  have hcq : q + 8 * n + 15 = N := by
    have := HNC.out
    rw [HCE.out, List.length_append, bytesN_length, HN.out, HQL.out] at this
    exact this
  have hq100 : q + 8 * n ≤ 103 := by
    have := HCLB.out
    rw [HCE.out, List.length_append, bytesN_length, HN.out, HQL.out] at this
    exact this
  clear hp4 hk4 hp3 hbw4 hr4 hq a0 a1 a2 a3 a4 a5 a6 a7 a8 a9 a10 b0 b10 d10
  go_wp2_with fail
  obtain ⟨pf, hpf⟩ : ∃ pf, e1.W.heap.size + 1 = pf := ⟨_, rfl⟩
  rw [hpf] at f0
  rw [hpf]
  go_region_held3 (fun w' => w'.cell? ⟨pf, 0, none⟩ = some (.slice A4 q c4) ∧ w'.cell? ⟨w.heap.size, 10, none⟩ = some (.slice A n c))
    (first
      | go_keep
      | exact ⟨f0, f10⟩
      | (refine ⟨Below.cell_of hb7 (by assumption), Below.cell_of hb7 (by assumption)⟩)
      | (refine ⟨Below.cell_of hb6 (by assumption), Below.cell_of hb6 (by assumption)⟩)
      | (refine ⟨Below.cell_of hb5 (by assumption), Below.cell_of hb5 (by assumption)⟩)
      | (refine ⟨Below.cell_of hb5 ?_, Below.cell_of hb5 ?_⟩ <;> simp [*])
      | (refine ⟨Below.cell_of hb6 ?_, Below.cell_of hb6 ?_⟩ <;> simp [*])
      | (refine ⟨Below.cell_of hb7 ?_, Below.cell_of hb7 ?_⟩ <;> simp [*]))
    (first
      | (go_at_call 116; refine (Bytes_any _ A c n data HR4.out.drew HN.out (by omega) HBY.out).mono ?_; rintro x w5 ⟨⟨A5, c5, rfl, hrow5⟩, hb5⟩)
      | (go_at_call 89; refine (concat2 w5 A4 A5 c4 c5 q (8 * n) (q + 8 * n) (hL ++ bitsN n 4) (bytesN data) (HP4.out.drew.row.part.below hb5) hrow5.part HQL.out (by rw [bytesN_length, HN.out]) rfl (by omega)).mono ?_; rintro x w6 ⟨⟨A6, c6, rfl, hrow6⟩, hb6⟩; rw [← HCE.out] at hrow6)
      | (go_at_call 123; refine (Add_row of_1 (q + 8 * n) c6 N _ A6 co w6 hrow6 (by rw [HCE.out, List.length_append, bytesN_length, HN.out, HQL.out]) (by omega) HCB.out hcq).mono ?_; rintro x w7 ⟨⟨A7, c7, rfl, hrow7⟩, hb7⟩; rw [← HBE.out] at hrow7))
  all_goals
    go_wp2_with fail
    go_ret2
    have hbw : Below w.heap.size w w4 := below_trans HB.out HBW4.out
    have hb8 : Below w.heap.size w w7 := below_trans (below_alloc (below_trans hbw.drew hb5) _ |>.trans (hb6.mono (by have := (below_alloc (below_trans hbw.drew hb5) (.cells #[.slice A4 q c4, .slice A5 (8 * n) c5] 40)).size; exact this))) hb7
    exact ⟨⟨A7, c7, rfl, hrow7.mono (by have := (below_alloc (below_trans hbw.drew hb5) (.cells #[.slice A4 q c4, .slice A5 (8 * n) c5] 40)).size; have := hb6.size; omega)⟩, hb8⟩
end Go.Proofs.Ytmlkmcpcokjogaa
-- PStuff: Stuffing as a law of lists: runs, lengths, and where two rows first differ. No condition.
namespace Go.Proofs.Ytmlkmcpcokjogaa
open Go.RowKit
/-- The run behind one bit more. -/
def seeN (last run x : Nat) : Nat := if 0 < run ∧ last = x then run + 1 else 1
def stf : Nat → Nat → List Nat → List Nat
  | _, _, [] => []
  | last, run, b :: l => if run = 5 then (1 - last) :: b :: stf b (seeN (1 - last) 1 b) l else b :: stf b (seeN last run b) l
/-- The state of the raw row behind a list. -/
def stE : Nat → Nat → List Nat → Nat × Nat
  | last, run, [] => (last, run)
  | last, run, b :: l => if run = 5 then stE b (seeN (1 - last) 1 b) l else stE b (seeN last run b) l
/-- Bits with stuff bits. -/
def stuffN (l : List Nat) : List Nat := stf 0 0 l
theorem seeN_le (last run x : Nat) : seeN last run x ≤ run + 1 := by unfold seeN; split <;> omega
theorem seeN_pos (last run x : Nat) : 1 ≤ seeN last run x := by unfold seeN; split <;> omega
theorem stf_append (a b : List Nat) : ∀ last run, stf last run (a ++ b) = stf last run a ++ stf (stE last run a).1 (stE last run a).2 b := by
  induction a with
  | nil => intro last run; rfl
  | cons x a ih =>
    intro last run
    simp only [List.cons_append, stf, stE]
    split <;> rw [ih] <;> rfl
theorem stE_append (a b : List Nat) : ∀ last run, stE last run (a ++ b) = stE (stE last run a).1 (stE last run a).2 b := by
  induction a with
  | nil => intro last run; rfl
  | cons x a ih =>
    intro last run
    simp only [List.cons_append, stE]
    split <;> rw [ih]
theorem stE_le (l : List Nat) : ∀ last run, run ≤ 5 → (stE last run l).2 ≤ 5 := by
  induction l with
  | nil => intro last run h; exact h
  | cons x l ih =>
    intro last run h
    simp only [stE]
    split
    · exact ih _ _ (by have := seeN_le (1 - last) 1 x; omega)
    · exact ih _ _ (by have := seeN_le last run x; omega)
theorem stf_len (l : List Nat) : ∀ last run, run ≤ 5 → l ≠ [] → 4 * (stf last run l).length + 1 ≤ 5 * l.length + run := by
  induction l with
  | nil => intro _ _ _ h; exact absurd rfl h
  | cons x l ih =>
    intro last run h _
    simp only [stf]
    by_cases hl : l = []
    · subst hl
      split <;> simp [stf] <;> omega
    · split
      · have h1 := seeN_le (1 - last) 1 x
        have := ih x (seeN (1 - last) 1 x) (by omega) hl
        simp only [List.length_cons]; omega
      · have h1 := seeN_le last run x
        have := ih x (seeN last run x) (by omega) hl
        simp only [List.length_cons]; omega
theorem stf_ge (l : List Nat) : ∀ last run, l.length ≤ (stf last run l).length := by
  induction l with
  | nil => intro _ _; simp
  | cons x l ih =>
    intro last run
    simp only [stf]
    split
    · have := ih x (seeN (1 - last) 1 x); simp only [List.length_cons]; omega
    · have := ih x (seeN last run x); simp only [List.length_cons]; omega
theorem stuffN_len (l : List Nat) (h : l ≠ []) : (stuffN l).length ≤ l.length + (l.length - 1) / 4 := by
  have := stf_len l 0 0 (by omega) h
  unfold stuffN; omega
theorem stuffN_le (l : List Nat) : (stuffN l).length ≤ l.length + l.length / 4 := by
  by_cases h : l = []
  · subst h; simp [stuffN, stf]
  · have := stuffN_len l h; omega
theorem stuffN_ge (l : List Nat) : l.length ≤ (stuffN l).length := stf_ge l 0 0
theorem stf_bits (l : List Nat) (hl : ∀ x ∈ l, x ≤ 1) : ∀ last run, ∀ x ∈ stf last run l, x ≤ 1 := by
  induction l with
  | nil => intro _ _ x hx; simp [stf] at hx
  | cons b l ih =>
    intro last run x hx
    have hb := hl b (by simp)
    have hl' : ∀ x ∈ l, x ≤ 1 := fun x hx => hl x (by simp [hx])
    simp only [stf] at hx
    split at hx
    · simp only [List.mem_cons] at hx
      rcases hx with rfl | rfl | hx
      · omega
      · exact hb
      · exact ih hl' _ _ x hx
    · simp only [List.mem_cons] at hx
      rcases hx with rfl | hx
      · exact hb
      · exact ih hl' _ _ x hx
theorem stuffN_bits (l : List Nat) (hl : ∀ x ∈ l, x ≤ 1) : ∀ x ∈ stuffN l, x ≤ 1 := stf_bits l hl 0 0
theorem stf_diff (p a b : List Nat) (x y : Nat) : ∀ last run, ∃ q a' b', stf last run (p ++ x :: a) = q ++ x :: a' ∧ stf last run (p ++ y :: b) = q ++ y :: b' := by
  induction p with
  | nil =>
    intro last run
    simp only [List.nil_append, stf]
    split
    · exact ⟨[1 - last], _, _, rfl, rfl⟩
    · exact ⟨[], _, _, rfl, rfl⟩
  | cons z p ih =>
    intro last run
    simp only [List.cons_append, stf]
    split
    · obtain ⟨q, a', b', h1, h2⟩ := ih z (seeN (1 - last) 1 z)
      exact ⟨(1 - last) :: z :: q, a', b', by rw [h1]; rfl, by rw [h2]; rfl⟩
    · obtain ⟨q, a', b', h1, h2⟩ := ih z (seeN last run z)
      exact ⟨z :: q, a', b', by rw [h1]; rfl, by rw [h2]; rfl⟩
/-- Runs of a raw row: none is longer than five. -/
def runsB : Nat → Nat → List Nat → Bool
  | _, _, [] => true
  | last, run, b :: l => decide (seeN last run b ≤ 5) && runsB b (seeN last run b) l
theorem stf_runs (l : List Nat) : ∀ last run, run ≤ 5 → runsB last run (stf last run l) = true := by
  induction l with
  | nil => intro _ _ _; rfl
  | cons b l ih =>
    intro last run h
    simp only [stf]
    split
    · have e : seeN last run (1 - last) = 1 := by unfold seeN; rw [if_neg (by omega)]
      have h1 := seeN_le (1 - last) 1 b
      simp only [runsB, e]
      rw [ih _ _ (by omega)]
      simp; omega
    · have h1 := seeN_le last run b
      simp only [runsB]
      rw [ih _ _ (by omega)]
      simp; omega
theorem stuffN_runs (l : List Nat) : runsB 0 0 (stuffN l) = true := stf_runs l 0 0 (by omega)
/-- The state of a raw row. -/
def rawE : Nat → Nat → List Nat → Nat × Nat
  | last, run, [] => (last, run)
  | last, run, b :: l => rawE b (seeN last run b) l
theorem rawE_append (a b : List Nat) : ∀ last run, rawE last run (a ++ b) = rawE (rawE last run a).1 (rawE last run a).2 b := by
  induction a with
  | nil => intro last run; rfl
  | cons x a ih => intro last run; simp only [List.cons_append, rawE]; rw [ih]
theorem rawE_stf (l : List Nat) : ∀ last run, run ≤ 5 → rawE last run (stf last run l) = stE last run l := by
  induction l with
  | nil => intro _ _ _; rfl
  | cons b l ih =>
    intro last run h
    simp only [stf, stE]
    split
    · have e : seeN last run (1 - last) = 1 := by unfold seeN; rw [if_neg (by omega)]
      have h1 := seeN_le (1 - last) 1 b
      simp only [rawE, e]
      exact ih _ _ (by omega)
    · have h1 := seeN_le last run b
      simp only [rawE]
      exact ih _ _ (by omega)
theorem runsB_append (a b : List Nat) : ∀ last run, runsB last run (a ++ b) = (runsB last run a && runsB (rawE last run a).1 (rawE last run a).2 b) := by
  induction a with
  | nil => intro last run; simp [runsB, rawE]
  | cons x a ih => intro last run; simp only [List.cons_append, runsB, rawE]; rw [ih, Bool.and_assoc]
/-- How a raw row ends. -/
def Tails (last run : Nat) (out : List Nat) : Prop := (run = 0 ∧ out = []) ∨ (1 ≤ run ∧ ∃ pre, out = pre ++ List.replicate run last ∧ ∀ p y, pre = p ++ [y] → y ≠ last)
theorem Tails.see {last run : Nat} {out : List Nat} (h : Tails last run out) (b : Nat) : Tails b (seeN last run b) (out ++ [b]) := by
  right
  refine ⟨seeN_pos _ _ _, ?_⟩
  rcases h with ⟨rfl, rfl⟩ | ⟨h1, pre, rfl, hp⟩
  · exact ⟨[], by simp [seeN], fun p y h => by simp at h⟩
  · by_cases e : last = b
    · subst e
      refine ⟨pre, ?_, hp⟩
      have : seeN last run last = run + 1 := by unfold seeN; rw [if_pos ⟨by omega, rfl⟩]
      rw [this, List.replicate_succ', List.append_assoc]
    · have : seeN last run b = 1 := by unfold seeN; rw [if_neg (by simp [e])]
      rw [this]
      refine ⟨pre ++ List.replicate run last, by simp, fun p y h => ?_⟩
      obtain ⟨r, rfl⟩ : ∃ r, run = r + 1 := ⟨run - 1, by omega⟩
      rw [List.replicate_succ', ← List.append_assoc] at h
      have := List.append_inj_right' h rfl
      simp at this
      omega
theorem Tails.full {last run : Nat} {out : List Nat} (h : Tails last run out) (h5 : run ≤ 5) : run = 5 ↔ (5 ≤ out.length ∧ ∀ j, j < 5 → out[out.length - 1 - j]? = out[out.length - 1]?) := by
  rcases h with ⟨rfl, rfl⟩ | ⟨h1, pre, rfl, hp⟩
  · simp
  · have hlast : ∀ j, j < run → (pre ++ List.replicate run last)[(pre ++ List.replicate run last).length - 1 - j]? = some last := by
      intro j hj
      rw [List.getElem?_append_right (by simp; omega), List.getElem?_replicate, if_pos (by simp; omega)]
    constructor
    · rintro rfl
      refine ⟨by simp, fun j hj => ?_⟩
      have h0 := hlast 0 (by omega)
      rw [Nat.sub_zero] at h0
      rw [hlast j hj, h0]
    · rintro ⟨h6, h7⟩
      refine Classical.byContradiction fun hne => ?_
      have hr : run < 5 := by omega
      rcases List.eq_nil_or_concat pre with rfl | ⟨p, y, hpre⟩
      · simp at h6; omega
      · rw [List.concat_eq_append] at hpre
        subst hpre
        have h8 := h7 run hr
        have h9 := hlast 0 (by omega)
        rw [Nat.sub_zero] at h9
        rw [h9] at h8
        have hy := hp p y rfl
        rw [List.getElem?_append_left (by simp)] at h8
        have e : (p ++ [y] ++ List.replicate run last).length - 1 - run = p.length := by simp
        rw [e, List.getElem?_append_right (by omega)] at h8
        simp at h8
        exact hy h8
end Go.Proofs.Ytmlkmcpcokjogaa
-- Stuff0: stuff's state: how a row of raw bits ends. No condition.
namespace Go.Proofs.Ytmlkmcpcokjogaa
open Go.RowKit
def seeL (last run x : Nat) : Nat := if 0 < run ∧ last = x then last else x
theorem full_any (b : Nat) (last run : Nat) (t : TypeId) (w : World) (h : w.heap[b]? = some (.cells #[.int .u8 last, .int .i64 run] t)) :
    Calls Try.prog 119 #[.pointer (some ⟨b, 0, none⟩)] w fun e w' => e = .returned (.bool (decide (run = 5))) ∧ w = w' := by
  have c0 := cell_of_heap h 0 _ rfl
  have c1 : w.cell? ⟨b, 1, none⟩ = some (.int .i64 run) := cell_of_heap h 1 _ rfl
  go_enter Try.func119, Try.ntmps119
  go_wp2
  go_ret
  exact ⟨ret_bool (by rw [Bool.eq_iff_iff]; simp; omega), rfl⟩
set_option maxHeartbeats 1000000 in
theorem see_any (b : Nat) (last run x : Nat) (t : TypeId) (w : World) (h : w.heap[b]? = some (.cells #[.int .u8 last, .int .i64 run] t)) (hr : run ≤ 1000000) :
    Calls Try.prog 120 #[.pointer (some ⟨b, 0, none⟩), .int .u8 x] w fun e w' => e = .returned (.tuple #[]) ∧ w'.heap[b]? = some (.cells #[.int .u8 (seeL last run x : Nat), .int .i64 (seeN last run x : Nat)] t) ∧ Touch b b w w' := by
  have c0 := cell_of_heap h 0 _ rfl
  have c1 : w.cell? ⟨b, 1, none⟩ = some (.int .i64 run) := cell_of_heap h 1 _ rfl
  have z0 : w.frozen? ⟨b, 0, none⟩ = false := by simp [World.frozen?, h]
  have z1 : w.frozen? ⟨b, 1, none⟩ = false := by simp [World.frozen?, h]
  have HH := Lib.hid h
  clear h
  by_cases hr0 : run = 0
  · subst hr0
    go_enter Try.func120, Try.ntmps120
    go_wp2
    go_end0
    refine ⟨rfl, ?_, ((Touch.refl b b w).setCell (p := ⟨b, 0, none⟩) (.inl rfl) _).setCell (p := ⟨b, 1, none⟩) (.inl rfl) _⟩
    rw [heap_setCell (heap_setCell HH.out 0 _) 1 _]
    simp [seeN, seeL]
  · by_cases he : last = x
    · have hei : ((run : Int) > 0) := by omega
      subst he
      go_enter Try.func120, Try.ntmps120
      go_wp2
      (first | go_returns | go_ret)
      refine ⟨rfl, ?_, (Touch.refl b b w).setCell (p := ⟨b, 1, none⟩) (.inl rfl) _⟩
      rw [heap_setCell HH.out 1 _]
      simp [seeN, seeL, show 0 < run by omega]
    · have hne : ¬ (last : Int) = (x : Int) := by omega
      go_enter Try.func120, Try.ntmps120
      go_wp2
      go_end0
      refine ⟨rfl, ?_, ((Touch.refl b b w).setCell (p := ⟨b, 0, none⟩) (.inl rfl) _).setCell (p := ⟨b, 1, none⟩) (.inl rfl) _⟩
      rw [heap_setCell (heap_setCell HH.out 0 _) 1 _]
      simp [seeN, seeL, he]
end Go.Proofs.Ytmlkmcpcokjogaa
-- StuffPut: stuff.Put: bits with stuff bits. No condition.
namespace Go.Proofs.Ytmlkmcpcokjogaa
open Go.RowKit
theorem seeL_eq (last run x : Nat) : seeL last run x = x := by unfold seeL; split <;> simp_all
/-- Of what lay below B only blocks b and d are turned. -/
structure Keep2 (B b d : Nat) (w w' : World) : Prop where
  os : w'.os = w.os
  tape : w'.tape = w.tape
  output : w'.output = w.output
  size : w.heap.size ≤ w'.heap.size
  block : ∀ k, k < B → k ≠ b → k ≠ d → w'.heap[k]? = w.heap[k]?
theorem Keep2.refl (B b d : Nat) (w : World) : Keep2 B b d w w := ⟨rfl, rfl, rfl, Nat.le_refl _, fun _ _ _ _ => rfl⟩
theorem Keep2.trans {B b d : Nat} {w w1 w2 : World} (h : Keep2 B b d w w1) (k : Keep2 B b d w1 w2) : Keep2 B b d w w2 :=
  ⟨k.os.trans h.os, k.tape.trans h.tape, k.output.trans h.output, Nat.le_trans h.size k.size, fun i hi h1 h2 => (k.block i hi h1 h2).trans (h.block i hi h1 h2)⟩
theorem Keep2.ofTouch {B b d : Nat} {w w' : World} (h : Touch b b w w') (hB : B ≤ w.heap.size) : Keep2 B b d w w' := ⟨h.os, h.tape, h.output, h.size, fun k hk h1 _ => h.block k (by omega) h1 h1⟩
theorem Keep2.ofKeep {B b d : Nat} {w w' : World} (h : Keep B d w w') : Keep2 B b d w w' := ⟨h.os, h.tape, h.output, h.size, fun k hk _ h2 => h.block k hk h2⟩
theorem Keep2.below {B b d C : Nat} {w w' : World} (h : Keep2 B b d w w') (hb : C ≤ b) (hd : C ≤ d) (hB : C ≤ B) : Below C w w' := ⟨h.os, h.tape, h.output, h.size, fun k hk => h.block k (by omega) (by omega) (by omega)⟩
theorem Keep2.cell_of {B b d : Nat} {w w' : World} (h : Keep2 B b d w w') {a : Addr} {v : Value} (hc : w.cell? a = some v) (h1 : a.block < B) (h2 : a.block ≠ b) (h3 : a.block ≠ d) : w'.cell? a = some v := cell_same (h.block _ h1 h2 h3) hc
/-- A row of stuffed bits under way: block bs holds how it ends, block bo the row. -/
structure Stf (w : World) (B bs bo : Nat) (A : Option Addr) (c last run : Nat) (out : List Nat) : Prop where
  pot : Pot w B bo 40 A c out
  st : w.heap[bs]? = some (.cells #[.int .u8 last, .int .i64 run] 188)
  ne : bs ≠ bo
  ns : ∀ ad, A = some ad → ad.block ≠ bs
  lt : bs < B
theorem Row.touch {w w' : World} {base t c b : Nat} {A : Option Addr} {xs : List Value} (h : Row w base t A c xs) (ht : Touch b b w w') (hb : ∀ ad, A = some ad → ad.block ≠ b) : Row w' base t A c xs := by
  refine ⟨h.1, h.2.imp id fun ⟨g, cap, cur, hv, hg, hh, r⟩ => ⟨g, cap, cur, hv, hg, ?_, r⟩⟩
  have hne : g ≠ b := by injection hv with e _ _; exact hb _ e
  rw [ht.block g (heap_lt hh) hne hne]; exact hh
theorem Row.ge {w : World} {base t c : Nat} {A : Option Addr} {xs : List Value} (h : Row w base t A c xs) : ∀ ad, A = some ad → base ≤ ad.block := by
  intro ad e
  subst e
  rcases h.2 with ⟨hv, _⟩ | ⟨g, cap, cur, hv, hg, _⟩
  · cases hv
  · injection hv with e; injection e with e; rw [e]; exact hg
set_option maxRecDepth 100000 in
set_option maxHeartbeats 1000000 in
theorem put1_any (w : World) (B bs bo : Nat) (A : Option Addr) (c last run x : Nat) (out : List Nat) (h : Stf w B bs bo A c last run out) (hrun : run ≤ 1000) (hl : out.length + 1 ≤ 1000000) :
    Calls Try.prog 118 #[.func (.func 120) #[.pointer (some ⟨bs, 0, none⟩)] #[], .int .u8 x, .pointer (some ⟨bo, 0, none⟩)] w fun e w' => e = .returned (.tuple #[]) ∧ (∃ A' c', Stf w' B bs bo A' c' x (seeN last run x) (out ++ [x])) ∧ Keep2 B bs bo w w' := by
  obtain ⟨i0, hi, hz0, hz1, hz2⟩ := info_parts info_u8
  have HH := Lib.hid h
  have HSEE := Lib.hid (see_any bs last run x 188 w h.st (by omega))
  clear h
  go_enter Try.func118, Try.ntmps118
  go_wp2_with fail
  refine HSEE.out.mono ?_
  rintro e w1 ⟨rfl, hst, ht⟩
  rw [seeL_eq] at hst
  have hbo : w1.heap[bo]? = some (.cells #[.slice A out.length c] 40) := by
    rw [ht.block bo (heap_lt HH.out.pot.box) (Ne.symm HH.out.ne) (Ne.symm HH.out.ne)]; exact HH.out.pot.box
  have hpot : Pot w1 B bo 40 A c out := ⟨hbo, HH.out.pot.ne, Nat.le_trans HH.out.pot.size ht.size, HH.out.pot.row.touch ht HH.out.ns⟩
  obtain ⟨q, hq⟩ : ∃ q, out.length = q := ⟨_, rfl⟩
  have hq2 : q + 1 ≤ 1000000 := by omega
  have c0 : w1.cell? ⟨bo, 0, none⟩ = some (.slice A q c) := by rw [← hq]; exact hpot.cell
  have z0 : w1.frozen? ⟨bo, 0, none⟩ = false := hpot.frozen
  have sb : bo < w1.heap.size := heap_lt hpot.box
  have HPOT := Lib.hid hpot
  have HST := Lib.hid hst
  have HT := Lib.hid ht
  have HL := Lib.hid hq
  clear hpot hst ht hq hl hbo
  go_wp2_with (at_builtin; refine wpList_pot (W0 := w1) (HPOT.out.alloc _) (.of (below_alloc (Below.refl _ _) _) HPOT.out.size) rfl (.tmp 8) (.tmp 10) 40 rfl i0 _ 1 Try.underlying40 hi hz0 hz1 hz2 rfl q HL.out rfl _ 1 1 [x] rfl rfl (Rd.blk (heap_new_at rfl)) (by intro h; cases h) (q + 1) rfl (by unfold maxLen; omega) (by omega) ?_; intro w3 A3 c3 HP3 c03 z03)
  go_end0
  obtain ⟨p1, p2⟩ := HP3.out.store (n := q + 1) (by rw [List.length_append, HL.out]; rfl)
  refine ⟨rfl, ⟨A3, c3, p1, ?_, HH.out.ne, fun ad e => by have := p1.row.ge ad e; have := HH.out.lt; omega, HH.out.lt⟩, (Keep2.ofTouch HT.out HH.out.pot.size).trans (.ofKeep p2)⟩
  rw [p2.block bs HH.out.lt HH.out.ne]
  exact HST.out
theorem put1_row (w : World) (B bs bo : Nat) (A : Option Addr) (c last run X : Nat) (x : Int) (out : List Nat) (eX : x = (X : Int)) (h : Stf w B bs bo A c last run out) (hrun : run ≤ 1000) (hl : out.length + 1 ≤ 1000000) :
    Calls Try.prog 118 #[.func (.func 120) #[.pointer (some ⟨bs, 0, none⟩)] #[], .int .u8 x, .pointer (some ⟨bo, 0, none⟩)] w fun e w' => e = .returned (.tuple #[]) ∧ (∃ A' c', Stf w' B bs bo A' c' X (seeN last run X) (out ++ [X])) ∧ Keep2 B bs bo w w' := by
  subst eX
  exact put1_any w B bs bo A c last run X out h hrun hl
theorem drop_cons (l : List Nat) (k : Nat) (h : k < l.length) : l.drop k = l[k] :: l.drop (k + 1) := List.drop_eq_getElem_cons h
theorem below_of_grown {w w' : World} (h : w.grownBy w' none) : Below w.heap.size w w' := (Below.refl _ w).grown h (Nat.le_refl _) (by simp)
set_option maxRecDepth 100000 in
set_option maxHeartbeats 2000000 in
theorem StuffPut_any (w : World) (A : Option Addr) (c n N : Nat) (l : List Nat) (hr : Rd w A (bys l)) (hn : l.length = n) (hn2 : n ≤ 50000) (h01 : ∀ x ∈ l, x ≤ 1) (hN : (stuffN l).length = N) :
    Calls Try.prog 87 #[.slice A n c] w fun e w' => (∃ A' c', e = .returned (.tuple #[.slice A' N c', .int .i64 0]) ∧ Row w' w.heap.size 5 A' c' (bys (stuffN l))) ∧ Below w.heap.size w w' := by
  obtain ⟨i0, hi, hz0, hz1, hz2⟩ := info_parts info_u8
  have hok : bitsOk l = true := by unfold bitsOk; rw [decide_eq_true (by omega : l.length ≤ 65536), decide_eq_true h01]; rfl
  have hC := BitsCheck_any A n c l w hr hn (by omega)
  rw [hok, if_pos rfl] at hC
  have hN2 : N ≤ 65536 := by have := stuffN_le l; omega
  have HC := Lib.hid hC
  have HR := Lib.hid hr
  have HN := Lib.hid hn
  have H01 := Lib.hid h01
  have HNN := Lib.hid hN
  clear hok hC hr hn h01 hN
  go_enter Try.func87, Try.ntmps87
  go_wp2_with fail
  refine HC.out.mono ?_
  rintro e _ ⟨rfl, rfl⟩
  go_wp2_with (refine wpList_make_own _ rfl _ (.tmp 20) 40 rfl (w.heap.size + 1) 5 i0 (.int .u8 0) 1 Try.underlying40 hi hz0 hz1 .i64 .i64 _ (n + n / 4) rfl rfl (by omega) (by rw [hz2]; omega) (by unfold maxLen; omega) (by simp) ?_; intro w1 hown hgr)
  obtain ⟨g, hg⟩ : ∃ g, w.heap.size = g := ⟨_, rfl⟩
  have hst : w1.heap[g]? = some (.cells #[.int .u8 ((0 : Nat) : Int), .int .i64 ((0 : Nat) : Int)] 188) := heap_below (below_of_grown hgr) (heap_new_at hg.symm)
  have hsz : g + 1 ≤ w1.heap.size := by have := heap_lt hst; omega
  rw [World.size_alloc, hg] at hown
  have hbw : Below g w w1 := by rw [← hg]; exact below_trans (below_alloc (Below.refl _ _) _) (below_of_grown hgr)
  have hstf : Stf (w1.alloc (.cells #[.slice (some ⟨g + 1, 0, none⟩) 0 (n + n / 4)] 40)) (g + 1) g w1.heap.size (some ⟨g + 1, 0, none⟩) (n + n / 4) 0 0 [] :=
    ⟨⟨heap_new_at rfl, fun ad e => by
        injection e with e
        subst e
        rcases hown.2 with ⟨hv, _⟩ | ⟨g', cap, cur, hv, _, hh, _⟩
        · cases hv
        · injection hv with e; injection e with e; injection e with e
          have := heap_lt hh
          show g + 1 ≠ _
          omega, by simp; omega, World.ownsRow.alloc hown _⟩, heap_push hst, by have := heap_lt hst; omega, fun ad e => by injection e with e; subst e; show g + 1 ≠ g; omega, by omega⟩
  obtain ⟨bo, hbo⟩ : ∃ bo, w1.heap.size = bo := ⟨_, rfl⟩
  rw [hbo] at hstf
  have hk0 : Keep2 (g + 1) g bo w (w1.alloc (.cells #[.slice (some ⟨g + 1, 0, none⟩) 0 (n + n / 4)] 40)) := by
    have hb := hbw.alloc (by omega) (.cells #[.slice (some ⟨g + 1, 0, none⟩) 0 (n + n / 4)] 40)
    exact ⟨hb.os, hb.tape, hb.output, hb.size, fun k hk h1 _ => hb.block k (by omega)⟩
  have HSTF := Lib.hid hstf
  have HK0 := Lib.hid hk0
  have HG := Lib.hid hg
  have HBO := Lib.hid hbo
  have hgb : g ≤ bo := by omega
  rw [hg, hbo]
  clear hst hsz hown hbw hstf hk0 hg hbo hgr hi hz0 hz1 hz2
  go_loopw [25] (fun iv wr => ∃ (k last run : Nat) (A' : Option Addr) (c' : Nat) (out : List Nat), k ≤ n ∧ iv = .int .i64 k ∧ run ≤ 5 ∧ last ≤ 1 ∧ Hid (out ++ stf last run (l.drop k) = stuffN l) ∧ Hid (Stf wr (g + 1) g bo A' c' last run out) ∧ Hid (Keep2 (g + 1) g bo w wr)) (fun iv _ => n - (intOf iv).toNat)
  case atStart => exact ⟨0, 0, 0, _, _, [], by omega, rfl, by omega, by omega, rfl, HSTF, HK0⟩
  case round =>
    obtain ⟨k, last, run, A', c', out, hk, rfl, hr5, hl1, HM, HQ, HK⟩ := hrel
    have hol : out.length ≤ 65536 := by have := congrArg List.length HM.out; rw [List.length_append, HNN.out] at this; omega
    by_cases hkn : k < n
    · have hkl : k < l.length := by rw [HN.out]; exact hkn
      have hrd : Rd wr A (bys l) := by
        intro j u hj
        obtain ⟨ad, e, hc⟩ := HR.out j u hj
        have hlt := cell_lt hc
        exact ⟨ad, e, HK.out.cell_of hc (by rw [HG.out] at hlt; omega) (by rw [HG.out] at hlt; omega) (by rw [HG.out] at hlt; omega)⟩
      obtain ⟨ad, rfl, ca⟩ := hrd.at_ k hkl
      have hx := H01.out l[k] (List.getElem_mem hkl)
      have hd := drop_cons l k hkl
      obtain ⟨x, hxe⟩ : ∃ x, l[k] = x := ⟨_, rfl⟩
      rw [hxe] at ca hx hd
      have HD := Lib.hid hd
      have hfull := full_any g last run 188 wr HQ.out.st
      clear hd hxe hrd
      by_cases h5 : run = 5
      · rw [decide_eq_true h5] at hfull
        subst h5
        have HF := Lib.hid hfull
        have b0 : wr.cell? ⟨g, 0, none⟩ = some (.int .u8 last) := cell_of_heap HQ.out.st 0 _ rfl
        clear hfull
        go_wp2_with fail
        refine HF.out.mono ?_
        rintro e _ ⟨rfl, rfl⟩
        go_wp2_with fail
        refine (put1_row wr (g + 1) g bo A' c' last 5 (1 - last) _ out ?e1 HQ.out (by omega) (by omega)).mono ?_
        case e1 => first | rfl | omega
        rintro e w2 ⟨rfl, ⟨A2, c2, hs2⟩, hk2⟩
        have HS2 := Lib.hid hs2
        have HK2 := Lib.hid hk2
        clear hs2 hk2
        go_wp2_with fail
        refine (put1_any w2 (g + 1) g bo A2 c2 (1 - last) (seeN last 5 (1 - last)) x (out ++ [1 - last]) HS2.out (by have := seeN_le last 5 (1 - last); omega) (by simp; omega)).mono ?_
        rintro e w3 ⟨rfl, ⟨A3, c3, hs3⟩, hk3⟩
        have HS3 := Lib.hid hs3
        have HK3 := Lib.hid hk3
        clear hs3 hk3
        go_wp2_with fail
        go_roundw
        case rel =>
          have e1 : seeN last 5 (1 - last) = 1 := by unfold seeN; rw [if_neg (by omega)]
          have h3 := HS3.out
          rw [e1] at h3
          refine ⟨k + 1, x, seeN (1 - last) 1 x, A3, c3, (out ++ [1 - last]) ++ [x], by omega, by go_num, by have := seeN_le (1 - last) 1 x; omega, hx, ?_, h3, HK.out.trans (HK2.out.trans HK3.out)⟩
          show _ = _
          rw [← HM.out, HD.out, stf, if_pos rfl, List.append_assoc, List.append_assoc]
          rfl
        case measure => simp [intOf]; omega
      · rw [decide_eq_false h5] at hfull
        have HF := Lib.hid hfull
        have H5 := Lib.hid h5
        clear hfull h5
        go_wp2_with fail
        refine HF.out.mono ?_
        rintro e _ ⟨rfl, rfl⟩
        go_wp2_with fail
        refine (put1_any wr (g + 1) g bo A' c' last run x out HQ.out (by omega) (by omega)).mono ?_
        rintro e w3 ⟨rfl, ⟨A3, c3, hs3⟩, hk3⟩
        have HS3 := Lib.hid hs3
        have HK3 := Lib.hid hk3
        clear hs3 hk3
        go_wp2_with fail
        go_roundw
        case rel =>
          refine ⟨k + 1, x, seeN last run x, A3, c3, out ++ [x], by omega, by go_num, by have := seeN_le last run x; have := H5.out; omega, hx, ?_, HS3.out, HK.out.trans HK3.out⟩
          show _ = _
          rw [← HM.out, HD.out, stf, if_neg H5.out, List.append_assoc]
          rfl
        case measure => simp [intOf]; omega
    · obtain rfl : n = k := by omega
      have hm := HM.out
      rw [← HN.out, List.drop_length, stf, List.append_nil] at hm
      subst hm
      have c0 : wr.cell? ⟨bo, 0, none⟩ = some (.slice A' N c') := by rw [← HNN.out]; exact HQ.out.pot.cell
      have hnl : ¬ (65536 : Int) < (N : Int) := by omega
      clear hol
      go_wp2_with fail
      go_ret2
      refine ⟨⟨A', c', rfl, ?_⟩, ?_⟩
      · rw [HG.out]; exact HQ.out.pot.row.mono (by omega)
      · rw [HG.out]; exact HK.out.below (Nat.le_refl _) hgb (by omega)
end Go.Proofs.Ytmlkmcpcokjogaa
-- Repeat: slices.Repeat of one byte, ten times. No condition.
namespace Go.Proofs.Ytmlkmcpcokjogaa
open Go.RowKit
set_option maxRecDepth 100000 in
set_option maxHeartbeats 1000000 in
theorem mul64_lit (w : World) : Calls Try.prog 150 #[.int .u64 1, .int .u64 10] w fun e w' => e = .returned (.tuple #[.int .u64 0, .int .u64 10]) ∧ w = w' := by
  go_enter Try.func150, Try.ntmps150
  go_wp2
  go_ret2
  exact ⟨by kernel_rfl, rfl⟩
set_option maxHeartbeats 1000000 in
theorem mul_lit (w : World) : Calls Try.prog 126 #[.int .u64 1, .int .u64 10] w fun e w' => e = .returned (.tuple #[.int .u64 0, .int .u64 10]) ∧ w = w' := by
  have HM := Lib.hid mul64_lit
  go_enter Try.func126, Try.ntmps126
  go_wp2_with (go_at_call 150; refine (HM.out _).mono ?_; rintro e _ ⟨rfl, rfl⟩)
  go_ret2
  exact ⟨rfl, rfl⟩
def onesL (k n : Nat) : List Value := List.replicate k (.int .u8 1) ++ List.replicate (n - k) (.int .u8 0)
theorem onesL_length (k n : Nat) (h : k ≤ n) : (onesL k n).length = n := by simp [onesL]; omega
theorem onesL_splice (k m n : Nat) (h : k + m ≤ n) : splice (onesL k n) k (List.replicate m (.int .u8 1)) = onesL (k + m) n := by
  unfold splice onesL
  rw [List.take_left' (by simp), List.length_replicate, List.drop_append, List.drop_eq_nil_of_le (by simp), List.nil_append, List.length_replicate, List.drop_replicate, ← List.append_assoc, List.replicate_append_replicate]
  congr 2
  omega
set_option maxRecDepth 100000 in
set_option maxHeartbeats 2000000 in
theorem repeat_any (w : World) (h : Nat) (hh : w.heap[h]? = some (.cells #[.int .u8 1] 5)) :
    Calls Try.prog 91 #[.slice (some ⟨h, 0, none⟩) 1 1, .int .i64 10] w fun e w' => (∃ A c, e = .returned (.slice A 10 c) ∧ Row w' w.heap.size 5 A c (bys (List.replicate 10 1))) ∧ Below w.heap.size w w' := by
  obtain ⟨i0, hi, hz0, hz1, hz2⟩ := info_parts info_u8
  have hsz : (Try.prog.info? 5).map (·.size) = some 1 := by rw [hi]; simp [hz1]
  have HM := Lib.hid mul_lit
  have hone1 : ∀ v ∈ [Value.int .u8 1], v.oneCell' = true := by intro v hv; simp at hv; subst hv; rfl
  have HH := Lib.hid hh
  have hmk : ∀ W : World, Sem.run Try.prog (Instr.makeSlice 40 (.int .i64 10) (.int .i64 10)) W = .ok (.slice (some ⟨W.heap.size, 0, none⟩) 10 10) (W.alloc (.cells #[.int .u8 0, .int .u8 0, .int .u8 0, .int .u8 0, .int .u8 0, .int .u8 0, .int .u8 0, .int .u8 0, .int .u8 0, .int .u8 0] 5)) := fun _ => by kernel_rfl
  clear hh
  go_enter Try.func91, Try.ntmps91
  go_wp2_with (first
    | (go_at_call 126; refine (HM.out _).mono ?_; rintro e _ ⟨rfl, rfl⟩)
    | (with_reducible refine wpList_copy_splice rfl (.tmp 31) (.tmp 32) 40 40 rfl 5 Try.underlying40 hsz _ _ 10 10 1 1 rfl rfl w.heap.size 0 (List.replicate 10 (.int .u8 0)) 5 (heap_new_at rfl) [.int .u8 1] rfl (fun _ => ⟨rfl, _, rfl, World.news_of_block (heap_push HH.out)⟩) (by simp) hone1 w.heap.size w (below_alloc (Below.refl _ _) _) (Nat.le_refl _) ?_; intro w1 hs1 hb1))
  obtain ⟨g, hg⟩ : ∃ g, w.heap.size = g := ⟨_, rfl⟩
  have hs1' : Hid (w1.heap[g]? = some (.cells (onesL 1 10).toArray 5)) := by rw [← hg]; exact hs1
  have HB1 : Hid (Below g w w1) := by rw [← hg]; exact Lib.hid hb1
  have HG := Lib.hid hg
  rw [hg]
  clear hs1 hb1 hg hmk
  go_loopw [8] (fun v wr => ∃ k : Nat, 1 ≤ k ∧ k ≤ 10 ∧ v = .int .i64 k ∧ Hid (wr.heap[g]? = some (.cells (onesL k 10).toArray 5)) ∧ Hid (Below g w wr)) (fun v _ => 10 - (intOf v).toNat)
  case atStart => exact ⟨1, by omega, by omega, rfl, hs1', HB1⟩
  case round =>
    obtain ⟨k, hk1, hk2, rfl, HS, HB⟩ := hrel
    by_cases hlt : k < 10
    · obtain ⟨m, hm⟩ : ∃ m, Nat.min k (10 - k) = m := ⟨_, rfl⟩
      have hm1 : 1 ≤ m ∧ k + m ≤ 10 := by rw [← hm]; show 1 ≤ min k (10 - k) ∧ k + min k (10 - k) ≤ 10; omega
      have hi1 : (k : Int) ≤ 10 := by omega
      have hi0 : (0 : Int) ≤ k := by omega
      have HM1 := Lib.hid hm1
      have hsum : IntKind.i64.wrap ((k : Int) + (m : Int)) = (k : Int) + (m : Int) := IntWalk.i64_in _ (by omega)
      have hne10 : ¬ (10 : Nat) = k := by omega
      obtain ⟨d, hd⟩ : ∃ d, 10 - k = d := ⟨_, rfl⟩
      rw [hd] at hm
      obtain ⟨cs, hcs⟩ : ∃ cs, List.replicate m (Value.int .u8 1) = cs := ⟨_, rfl⟩
      obtain ⟨cur, hcur⟩ : ∃ cur, onesL k 10 = cur := ⟨_, rfl⟩
      have hcl : cs.length = m := by rw [← hcs]; simp
      have HC1 := Lib.hid (show cs.length = Nat.min k d by rw [hcl]; exact hm.symm)
      have hmk' : m ≤ k := by rw [← hm]; exact Nat.min_le_left _ _
      have HC2 := Lib.hid (show ∀ j v, cs[j]? = some v → wr.drew.cell? ((⟨g, 0, none⟩ : Addr).add j) = some v by
        intro j v hj
        have hjm : j < m := by have := (List.getElem?_eq_some_iff.1 hj).1; rw [hcl] at this; exact this
        refine World.news_of_block (w := wr.drew) HS.out j v ?_
        show (onesL k 10)[j]? = some v
        unfold onesL
        rw [List.getElem?_append_left (by simp; omega), ← hj, ← hcs]
        simp [hjm, show j < k by omega])
      have HC3 := Lib.hid (show k + cs.length ≤ cur.length by rw [hcl, ← hcur, onesL_length _ _ hk2]; exact hm1.2)
      have HC4 := Lib.hid (show ∀ v ∈ cs, v.oneCell' = true by intro v hv; rw [← hcs] at hv; rw [List.eq_of_mem_replicate hv]; rfl)
      have HS2 := Lib.hid (show wr.drew.heap[g]? = some (.cells cur.toArray 5) by rw [← hcur]; exact HS.out)
      have HSP := Lib.hid (show splice cur k cs = onesL (k + m) 10 by rw [← hcur, ← hcs]; exact onesL_splice k m 10 hm1.2)
      clear hcs hcur
      clear hm
      go_wp2_with fail
      go_region_law (first
        | (refine step_copy_splice rfl (.tmp 41) (.tmp 44) 40 40 rfl 5 Try.underlying40 hsz (some ⟨g, k, none⟩) (some ⟨g, 0, none⟩) d d k 10 (by kernel_rfl) (by kernel_rfl) g k cur 5 HS2.out cs HC1.out (fun _ => ⟨rfl, _, rfl, HC2.out⟩) HC3.out HC4.out g w HB.out.drew (Nat.le_refl _) ?_; intro w3 hs3 hb3))
      all_goals
        go_frame
        go_roundw
        case rel => ((repeat apply Exists.intro); exact ⟨⟨k + m, by omega, HM1.out.2, by go_num, by show _ = _; rw [← HSP.out]; exact hs3.out, hb3⟩, rfl⟩)
        case measure => simp [intOf]; have := HM1.out.1; omega
    · obtain rfl : k = 10 := by omega
      go_wp2_with fail
      go_ret
      have e : onesL 10 10 = bys (List.replicate 10 1) := rfl
      have hs := HS.out
      rw [e] at hs
      rw [HG.out]
      exact ⟨⟨_, _, rfl, ⟨by simp [bys_length], .inr ⟨g, 10, _, by rw [bys_length, List.length_replicate], Nat.le_refl _, hs, by simp [bys_length], by decide, by simp [bys_length], by simp [bys]⟩⟩⟩, HB.out⟩
end Go.Proofs.Ytmlkmcpcokjogaa
-- Wire: classic.Wire: a Classic frame on the wire. No condition.
namespace Go.Proofs.Ytmlkmcpcokjogaa
open Go.RowKit
/-- A Classic frame on the wire. -/
def wireC (f : Fr) : List Nat := stuffN (bodyC f) ++ List.replicate 10 1
theorem coreC_bitsB (f : Fr) : ∀ x ∈ bodyC f, x ≤ 1 := by
  intro x hx
  simp only [bodyC, addN, List.mem_append] at hx
  rcases hx with hx | hx
  · exact coreC_bits f x hx
  · exact bitsN_bit _ _ x hx
set_option maxRecDepth 100000 in
set_option maxHeartbeats 2000000 in
theorem Wire_no (f : Fr) (A : Option Addr) (c : Nat) (w : World) (hl : f.data.length ≤ 9223372036854775807) (hno : ¬ (f.kind = 1 ∧ okF f = true)) :
    Calls Try.prog 65 #[frv f (.slice A f.data.length c)] w fun e w' => e = .returned (.tuple #[.agg #[.slice none 0 0, .int .i64 0, .int .i64 0], .int .i64 2]) ∧ Below w.heap.size w w' := by
  have HC := Lib.hid (fun W => Body_no f A c W hl hno)
  obtain ⟨kind, id, ext, rtr, brs, esi, sec, sdt, vcid, af, data⟩ := f
  dsimp only [frv] at *
  generalize data.length = n at *
  clear hno
  go_enter Try.func65, Try.ntmps65
  go_wp2_with fail
  refine calls_blk2 (fun W0 q1 q2 hb => ?_)
  have HB := Lib.hid hb
  have HQ2 := Lib.hid q2
  have hsz := heap_lt q2
  clear hb q1 q2
  refine (HC.out _).mono ?_
  rintro e w1 ⟨rfl, hb1⟩
  have hq := heap_below hb1 HQ2.out
  have c0 := cell_of_heap hq 0 _ rfl
  have c1 := cell_of_heap hq 1 _ rfl
  have c2 := cell_of_heap hq 2 _ rfl
  have z0 : w1.frozen? ⟨w.heap.size + 1, 0, none⟩ = false := by simp [World.frozen?, hq]
  have z1 : w1.frozen? ⟨w.heap.size + 1, 1, none⟩ = false := by simp [World.frozen?, hq]
  have z2 : w1.frozen? ⟨w.heap.size + 1, 2, none⟩ = false := by simp [World.frozen?, hq]
  have HB1 := Lib.hid hb1
  have HQ3 := Lib.hid hq
  clear hb1 hq
  go_wp2_with fail
  refine bodyPost_ret (v := .tuple #[.agg #[.slice none 0 0, .int .i64 0, .int .i64 0], .int .i64 2]) (by simp [results, Try.results65, go_sem, c0, c1, c2]) rfl ⟨rfl, ?_⟩
  have h := below_trans HB.out HB1.out
  exact ((h.setCell (p := ⟨w.heap.size + 1, 0, none⟩) (by show w.heap.size ≤ w.heap.size + 1; omega) _).setCell (p := ⟨w.heap.size + 1, 1, none⟩) (by show w.heap.size ≤ w.heap.size + 1; omega) _).setCell (p := ⟨w.heap.size + 1, 2, none⟩) (by show w.heap.size ≤ w.heap.size + 1; omega) _
set_option maxRecDepth 100000 in
set_option maxHeartbeats 4000000 in
theorem Wire_ok (f : Fr) (A : Option Addr) (c NR NH : Nat) (w : World) (hk : f.kind = 1) (hok : okF f = true) (h0 : 0 ≤ f.id) (hr : Rd w A (bys f.data)) (hby : isBytes f.data) (hNR : (stuffN (bodyC f)).length = NR) (hNH : (stuffN (headL f)).length = NH) :
    Calls Try.prog 65 #[frv f (.slice A f.data.length c)] w fun e w' => (∃ A' c', e = .returned (.tuple #[.agg #[.slice A' (NR + 10 : Nat) c', .int .i64 (NH : Nat), .int .i64 (NR + 1 : Nat)], .int .i64 0]) ∧ Row w' w.heap.size 5 A' c' (bys (wireC f))) ∧ Below w.heap.size w w' := by
  obtain ⟨i0, hi, hz0, hz1, hz2⟩ := info_parts info_u8
  have hl8 := okF_len1 f hk hok
  obtain ⟨NB, hNB⟩ : ∃ NB, (bodyC f).length = NB := ⟨_, rfl⟩
  have hNB2 : NB ≤ 118 := by rw [← hNB, bodyC_length]; split <;> omega
  have hNR2 : NR ≤ 150 := by have := stuffN_le (bodyC f); rw [hNR, hNB] at this; omega
  have hhl : (headL f).length ≤ 35 := by rw [headL_length]; split <;> omega
  have HBody := Lib.hid (fun W (hW : Rd W A (bys f.data)) => Body_ok f A c NB W hk hok h0 hW hby hNB)
  have HHead := Lib.hid (fun W => head_any f A f.data.length c W h0 (okF_lim f hok))
  have HbB := Lib.hid (coreC_bitsB f)
  have HhB := Lib.hid (headL_bits f)
  have HW : Hid (wireC f = stuffN (bodyC f) ++ List.replicate 10 1) := rfl
  obtain ⟨bo, hbo⟩ : ∃ bo, bodyC f = bo := ⟨_, rfl⟩
  obtain ⟨hL, hhL⟩ : ∃ hL, headL f = hL := ⟨_, rfl⟩
  obtain ⟨wi, hwi⟩ : ∃ wi, wireC f = wi := ⟨_, rfl⟩
  rw [hbo] at HBody HbB HW hNR hNB
  rw [hhL] at HHead HhB hNH hhl
  rw [hwi] at HW ⊢
  obtain ⟨hn0, hhn⟩ : ∃ hn0, hL.length = hn0 := ⟨_, rfl⟩
  rw [hhn] at hhl
  obtain ⟨kind, id, ext, rtr, brs, esi, sec, sdt, vcid, af, data⟩ := f
  dsimp only [frv] at *
  obtain ⟨n, hn⟩ : ∃ n, data.length = n := ⟨_, rfl⟩
  rw [hn] at HBody HHead ⊢
  have HNR := Lib.hid hNR
  have HNH := Lib.hid hNH
  have HNB := Lib.hid hNB
  have HHN := Lib.hid hhn
  have HR := Lib.hid hr
  clear hNR hNH hNB hhn hr hbo hhL hwi hn hok h0 hby hl8 hk
  go_enter Try.func65, Try.ntmps65
  go_wp2_with fail
  refine calls_blk2 (fun W0 q1 q2 hb => ?_)
  have HB := Lib.hid hb
  have HQ2 := Lib.hid q2
  have hsz := heap_lt q2
  obtain ⟨a0, a1, a2, a3, a4, a5, a6, a7, a8, a9, a10⟩ := ext11 q1
  clear hb q1 q2
  refine (extc_same (HBody.out _ (HR.out.below HB.out))).mono ?_
  rintro x _ ⟨e1, rfl, A1, c1, rfl, hrow1⟩
  have HROW1 := Lib.hid hrow1
  clear hrow1
  go_wp2_with fail
  refine (extc (StuffPut_any _ A1 c1 NB NR bo HROW1.out.rd HNB.out (by omega) HbB.out HNR.out)).mono ?_
  rintro x _ ⟨e2, rfl, A2, c2, rfl, hrow2⟩
  have HROW2 := Lib.hid (hrow2.mono (ext_ge e1))
  clear hrow2
  go_wp2_with fail
  refine (HHead.out _).mono ?_
  rintro x w3 ⟨rfl, ⟨A3, c3, hp3⟩, hb3⟩
  have f0 : w3.cell? ⟨e2.W.heap.size + 1, 0, none⟩ = some (.slice A3 hn0 c3) := by rw [← HHN.out]; exact hp3.cell
  have HP3 := Lib.hid hp3
  have HB3 := Lib.hid hb3
  have HROW23 := Lib.hid (HROW2.out.below hb3)
  have hbw3 : Below W0.heap.size W0 w3 := below_trans e2.below hb3
  have HBW3 := Lib.hid hbw3
  clear hp3 hb3 hbw3
  go_wp2_with fail
  refine (StuffPut_any _ A3 c3 hn0 NH hL HP3.out.rd HHN.out (by omega) HhB.out HNH.out).mono ?_
  rintro x w4 ⟨⟨A4, c4, rfl, hrow4⟩, hb4⟩
  have HROW24 := Lib.hid (HROW23.out.below hb4)
  have HB4 := Lib.hid hb4
  have hbw4 : Below W0.heap.size W0 w4 := below_trans HBW3.out hb4
  have HBW4 := Lib.hid hbw4
  clear hrow4 hb4 hbw4 f0
  go_wp2_with fail
  refine (repeat_any _ _ (heap_new_at rfl)).mono ?_
  rintro x w5 ⟨⟨A5, c5, rfl, hrow5⟩, hb5⟩
  have hbw5 : Below W0.heap.size W0 w5 := below_trans (below_alloc HBW4.out _) hb5
  have hq := heap_below hbw5 HQ2.out
  have HROW5 := Lib.hid hrow5
  have HROW25 := Lib.hid ((HROW24.out.alloc _).below hb5)
  have HBW5 := Lib.hid hbw5
  have HQ5 := Lib.hid hq
  have hs0 : w.heap.size + 1 < W0.heap.size := hsz
  clear hrow5 hb5 hbw5 hq a0 a1 a2 a3 a4 a5 a6 a7 a8 a9 a10
  go_wp2_with (at_builtin; refine wpList_appE (w0 := W0) HBW5.out rfl (.tmp 39) (.tmp 41) 40 rfl W0.heap.size 5 i0 _ 1 Try.underlying40 hi hz0 hz1 hz2 rfl A2 NR c2 (bys (stuffN bo)) rfl (by rw [bys_length]; exact HNR.out) HROW25.out A5 10 c5 (bys (List.replicate 10 1)) rfl rfl HROW5.out.rd (bys_one _) (fun _ e => HROW5.out.none_ e) (NR + 10) rfl (by unfold maxLen; omega) (by omega) (Nat.le_refl _) HBW5.out.size ?_; intro e6 A6 c6 HROW6; have r0 := ext_cell (cell_of_heap HQ2.out 0 _ rfl) e6; have r1 := ext_cell (cell_of_heap HQ2.out 1 _ rfl) e6; have r2 := ext_cell (cell_of_heap HQ2.out 2 _ rfl) e6; have z0 : e6.W.frozen? ⟨w.heap.size + 1, 0, none⟩ = false := (by simp [World.frozen?, ext_heap HQ2.out e6]); have z1 : e6.W.frozen? ⟨w.heap.size + 1, 1, none⟩ = false := (by simp [World.frozen?, ext_heap HQ2.out e6]); have z2 : e6.W.frozen? ⟨w.heap.size + 1, 2, none⟩ = false := (by simp [World.frozen?, ext_heap HQ2.out e6]))
  refine bodyPost_ret (v := .tuple #[.agg #[.slice A6 (NR + 10 : Nat) c6, .int .i64 (NH : Nat), .int .i64 (NR + 1 : Nat)], .int .i64 0]) (by simp [results, Try.results65, go_sem, r0, r1, r2]) rfl ⟨⟨A6, c6, rfl, ?_⟩, ?_⟩
  · have h6 := HROW6.out
    rw [← bys_append, ← HW.out] at h6
    have h7 : ∀ ad, A6 = some ad → ad.block ≠ w.heap.size + 1 := fun ad e => by have := h6.ge ad e; omega
    exact (((h6.setCell h7 0 _).setCell h7 1 _).setCell h7 2 _).mono (by omega)
  · have h := below_trans HB.out e6.below
    exact ((h.setCell (p := ⟨w.heap.size + 1, 0, none⟩) (by show w.heap.size ≤ w.heap.size + 1; omega) _).setCell (p := ⟨w.heap.size + 1, 1, none⟩) (by show w.heap.size ≤ w.heap.size + 1; omega) _).setCell (p := ⟨w.heap.size + 1, 2, none⟩) (by show w.heap.size ≤ w.heap.size + 1; omega) _
end Go.Proofs.Ytmlkmcpcokjogaa
-- PFixed: Fixed stuffing, by definition: a stuff bit behind every so many bits (and ahead of all, where the way says so). No condition.
namespace Go.Proofs.Ytmlkmcpcokjogaa
open Go.RowKit
/-- Bits with stuff bits; every: how many bits lie between two; left: how many are left ahead of the next. -/
def fixE (every : Nat) : Nat → Nat → List Nat → List Nat
  | _, _, [] => []
  | last, left, x :: l => if left = 0 then (1 - last) :: x :: fixE every x (every - 1) l else x :: fixE every x (left - 1) l
def fixN (every : Nat) (ahead : Bool) (prev : Nat) (l : List Nat) : List Nat := fixE every prev (if ahead then 0 else every) l
theorem fixE_bits (every : Nat) (l : List Nat) (h : ∀ x ∈ l, x ≤ 1) : ∀ last left, ∀ x ∈ fixE every last left l, x ≤ 1 := by
  induction l with
  | nil => intro last left x hx; simp [fixE] at hx
  | cons y l ih =>
    intro last left x hx
    have hy := h y (by simp)
    have hl := fun z hz => h z (List.mem_cons_of_mem y hz)
    unfold fixE at hx
    split at hx
    · rcases List.mem_cons.1 hx with rfl | hx
      · omega
      · rcases List.mem_cons.1 hx with rfl | hx
        · exact hy
        · exact ih hl _ _ x hx
    · rcases List.mem_cons.1 hx with rfl | hx
      · exact hy
      · exact ih hl _ _ x hx
/-- Of (left) bits none, then one behind each (every): how long it gets. -/
theorem fixE_length (every : Nat) (he : 1 ≤ every) (l : List Nat) : ∀ last left, left ≤ every → (fixE every last left l).length = l.length + (l.length + (every - left) - 1) / every - (if left = every then 0 else 0) + (if l.length = 0 then 0 else 0) ∨ l = [] := by
  induction l with
  | nil => intro last left _; exact .inr rfl
  | cons x l ih =>
    intro last left hle
    refine .inl ?_
    simp only [ite_self, Nat.sub_zero, Nat.add_zero]
    unfold fixE
    split
    · rename_i h0
      subst h0
      rcases ih x (every - 1) (by omega) with h | rfl
      · simp only [ite_self, Nat.sub_zero, Nat.add_zero] at h
        simp only [List.length_cons, h]
        have e1 : l.length + 1 + (every - 0) - 1 = l.length + every := by omega
        have e2 : l.length + (every - (every - 1)) - 1 = l.length := by omega
        rw [e1, e2, Nat.add_div_right _ (by omega)]
        omega
      · have e : 1 + (every - 0) - 1 = every := by omega
        simp [fixE, Nat.div_self (show 0 < every by omega)]
    · rename_i h0
      rcases ih x (left - 1) (by omega) with h | rfl
      · simp only [ite_self, Nat.sub_zero, Nat.add_zero] at h
        simp only [List.length_cons, h]
        have e1 : l.length + (every - (left - 1)) - 1 = l.length + 1 + (every - left) - 1 := by omega
        rw [e1]
        omega
      · have e : 1 + (every - left) - 1 = every - left := by omega
        simp [fixE, e, Nat.div_eq_of_lt (show every - left < every by omega)]
theorem fixN_length (every : Nat) (ahead : Bool) (prev : Nat) (l : List Nat) (he : 1 ≤ every) : (fixN every ahead prev l).length = if l.length = 0 then 0 else l.length + (l.length - 1) / every + (if ahead then 1 else 0) := by
  by_cases h0 : l = []
  · subst h0; simp [fixN, fixE]
  · have hl : l.length ≠ 0 := fun h => h0 (List.eq_nil_of_length_eq_zero h)
    rw [if_neg hl]
    unfold fixN
    rcases fixE_length every he l prev (if ahead then 0 else every) (by split <;> omega) with h | h
    · rw [h]
      cases ahead
      · simp
      · have e : l.length + every - 1 = (l.length - 1) + every := by omega
        simp [e, Nat.add_div_right _ (show 0 < every by omega)]
        omega
    · exact absurd h h0
end Go.Proofs.Ytmlkmcpcokjogaa
-- PFirst: Where two rows of bits first differ; runs, bit by bit: plain laws of lists. No condition.
namespace Go.Proofs.Ytmlkmcpcokjogaa
open Go.RowKit
theorem bitsN_mod (n k : Nat) : bitsN n k = bitsN (n % 2 ^ k) k := by
  have h : ∀ j, j ≤ k → bitsN n j = bitsN (n % 2 ^ k) j := by
    intro j
    induction j with
    | zero => intro _; rfl
    | succ j ih =>
      intro hj
      simp only [bitsN]
      rw [ih (by omega)]
      congr 1
      obtain ⟨m, rfl⟩ : ∃ m, k = j + (m + 1) := ⟨k - (j + 1), by omega⟩
      rw [Nat.pow_add, Nat.mod_mul_right_div_self, Nat.pow_succ, Nat.mul_comm (2 ^ m) 2, Nat.mod_mul_right_mod]
  exact h k (Nat.le_refl k)
/-- Where two numbers' bits first differ. -/
theorem bitsN_first (k : Nat) : ∀ n m : Nat, n < 2 ^ k → m < 2 ^ k → n ≠ m → ∃ p a b x y, bitsN n k = p ++ x :: a ∧ bitsN m k = p ++ y :: b ∧ x ≠ y ∧ (x = 0 ↔ n < m) ∧ x ≤ 1 ∧ y ≤ 1 := by
  induction k with
  | zero => intro n m hn hm hne; simp at hn hm; omega
  | succ k ih =>
    intro n m hn hm hne
    have hp : 0 < 2 ^ k := Nat.two_pow_pos _
    rw [Nat.pow_succ] at hn hm
    have hn1 : n / 2 ^ k < 2 := Nat.div_lt_of_lt_mul (by omega)
    have hm1 : m / 2 ^ k < 2 := Nat.div_lt_of_lt_mul (by omega)
    have en := Nat.div_add_mod n (2 ^ k)
    have em := Nat.div_add_mod m (2 ^ k)
    have rn := Nat.mod_lt n hp
    have rm := Nat.mod_lt m hp
    by_cases he : n / 2 ^ k = m / 2 ^ k
    · have hne2 : n % 2 ^ k ≠ m % 2 ^ k := by intro h; rw [he] at en; omega
      obtain ⟨p, a, b, x, y, h1, h2, h3, h4, h5, h6⟩ := ih (n % 2 ^ k) (m % 2 ^ k) rn rm hne2
      refine ⟨(n / 2 ^ k % 2) :: p, a, b, x, y, ?_, ?_, h3, ?_, h5, h6⟩
      · simp only [bitsN]; rw [bitsN_mod n k, h1]; rfl
      · simp only [bitsN]; rw [bitsN_mod m k, h2, he]; rfl
      · rw [h4]; rw [he] at en; omega
    · refine ⟨[], bitsN n k, bitsN m k, n / 2 ^ k % 2, m / 2 ^ k % 2, rfl, rfl, ?_, ?_, by omega, by omega⟩
      · rw [Nat.mod_eq_of_lt hn1, Nat.mod_eq_of_lt hm1]; exact he
      · rw [Nat.mod_eq_of_lt hn1]
        generalize n / 2 ^ k = u at *
        generalize m / 2 ^ k = v at *
        obtain rfl | rfl : u = 0 ∨ u = 1 := by omega
        · obtain rfl : v = 1 := by omega
          simp at en em
          constructor <;> intro <;> omega
        · obtain rfl : v = 0 := by omega
          simp at en em
          constructor <;> intro h <;> omega
theorem bitsN_inj (k n m : Nat) (hn : n < 2 ^ k) (hm : m < 2 ^ k) (h : bitsN n k = bitsN m k) : n = m := by
  refine Classical.byContradiction fun hne => ?_
  obtain ⟨p, a, b, x, y, h1, h2, h3, -⟩ := bitsN_first k n m hn hm hne
  rw [h1, h2] at h
  have := List.append_cancel_left h
  simp at this
  exact h3 this.1
/-- Two rows that differ first at one place, of which the first one has the dominant bit just if P. -/
def First (P : Prop) (l m : List Nat) : Prop := ∃ p a b x y, l = p ++ x :: a ∧ m = p ++ y :: b ∧ x ≠ y ∧ (x = 0 ↔ P) ∧ x ≤ 1 ∧ y ≤ 1
theorem First.behind {P : Prop} {l m : List Nat} (h : First P l m) (c d : List Nat) : First P (l ++ c) (m ++ d) := by
  obtain ⟨p, a, b, x, y, rfl, rfl, r⟩ := h
  exact ⟨p, a ++ c, b ++ d, x, y, by simp, by simp, r⟩
theorem First.ahead {P : Prop} {l m : List Nat} (h : First P l m) (c : List Nat) : First P (c ++ l) (c ++ m) := by
  obtain ⟨p, a, b, x, y, rfl, rfl, r⟩ := h
  exact ⟨c ++ p, a, b, x, y, by simp, by simp, r⟩
theorem First.stuffed {P : Prop} {l m : List Nat} (h : First P l m) : First P (stuffN l) (stuffN m) := by
  obtain ⟨p, a, b, x, y, rfl, rfl, r⟩ := h
  obtain ⟨q, a', b', h1, h2⟩ := stf_diff p a b x y 0 0
  exact ⟨q, a', b', x, y, h1, h2, r⟩
theorem First.iff {P Q : Prop} {l m : List Nat} (h : First P l m) (e : P ↔ Q) : First Q l m := by
  obtain ⟨p, a, b, x, y, h1, h2, h3, h4, h5, h6⟩ := h
  exact ⟨p, a, b, x, y, h1, h2, h3, h4.trans e, h5, h6⟩
/-- The place. -/
theorem First.at {P : Prop} {l m : List Nat} (h : First P l m) : ∃ j, j < l.length ∧ j < m.length ∧ (∀ i, i < j → l[i]? = m[i]?) ∧ ∃ x y, l[j]? = some x ∧ m[j]? = some y ∧ x ≠ y ∧ (x = 0 ↔ P) := by
  obtain ⟨p, a, b, x, y, rfl, rfl, h3, h4, -⟩ := h
  refine ⟨p.length, by simp, by simp, fun i hi => ?_, x, y, by simp, by simp, h3, h4⟩
  rw [List.getElem?_append_left hi, List.getElem?_append_left hi]
/-- Two rows that differ at a place within both. -/
def Diff (l m : List Nat) : Prop := ∃ p a b x y, l = p ++ x :: a ∧ m = p ++ y :: b ∧ x ≠ y
theorem First.diff {P : Prop} {l m : List Nat} (h : First P l m) : Diff l m := by
  obtain ⟨p, a, b, x, y, h1, h2, h3, -⟩ := h
  exact ⟨p, a, b, x, y, h1, h2, h3⟩
theorem Diff.behind {l m : List Nat} (h : Diff l m) (c d : List Nat) : Diff (l ++ c) (m ++ d) := by
  obtain ⟨p, a, b, x, y, rfl, rfl, r⟩ := h
  exact ⟨p, a ++ c, b ++ d, x, y, by simp, by simp, r⟩
theorem Diff.ahead {l m : List Nat} (h : Diff l m) (c : List Nat) : Diff (c ++ l) (c ++ m) := by
  obtain ⟨p, a, b, x, y, rfl, rfl, r⟩ := h
  exact ⟨c ++ p, a, b, x, y, by simp, by simp, r⟩
theorem Diff.stuffed {l m : List Nat} (h : Diff l m) : Diff (stuffN l) (stuffN m) := by
  obtain ⟨p, a, b, x, y, rfl, rfl, r⟩ := h
  obtain ⟨q, a', b', h1, h2⟩ := stf_diff p a b x y 0 0
  exact ⟨q, a', b', x, y, h1, h2, r⟩
theorem Diff.at {l m : List Nat} (h : Diff l m) : ∃ j x y : Nat, l[j]? = some x ∧ m[j]? = some y ∧ x ≠ y := by
  obtain ⟨p, a, b, x, y, rfl, rfl, h3⟩ := h
  exact ⟨p.length, x, y, by simp, by simp, h3⟩
theorem diff_of_at (j : Nat) : ∀ (l m : List Nat) (x y : Nat), l[j]? = some x → m[j]? = some y → x ≠ y → Diff l m := by
  induction j with
  | zero =>
    intro l m x y h1 h2 h3
    cases l with
    | nil => simp at h1
    | cons u l =>
      cases m with
      | nil => simp at h2
      | cons v m =>
        simp at h1 h2
        subst h1 h2
        exact ⟨[], l, m, u, v, rfl, rfl, h3⟩
  | succ j ih =>
    intro l m x y h1 h2 h3
    cases l with
    | nil => simp at h1
    | cons u l =>
      cases m with
      | nil => simp at h2
      | cons v m =>
        simp only [List.getElem?_cons_succ] at h1 h2
        by_cases e : u = v
        · subst e; exact (ih l m x y h1 h2 h3).ahead [u]
        · exact ⟨[], l, m, u, v, rfl, rfl, e⟩
theorem bytesN_diff : ∀ (l m : List Nat), l.length = m.length → (∀ x ∈ l, x < 256) → (∀ x ∈ m, x < 256) → l ≠ m → Diff (bytesN l) (bytesN m) := by
  intro l
  induction l with
  | nil => intro m h _ _ hne; cases m with
           | nil => exact absurd rfl hne
           | cons => simp at h
  | cons x l ih =>
    intro m h hl hm hne
    cases m with
    | nil => simp at h
    | cons y m =>
      have e1 : bytesN (x :: l) = bitsN x 8 ++ bytesN l := by simp [bytesN]
      have e2 : bytesN (y :: m) = bitsN y 8 ++ bytesN m := by simp [bytesN]
      rw [e1, e2]
      by_cases e : x = y
      · subst e
        exact (ih m (by simpa using h) (fun z hz => hl z (by simp [hz])) (fun z hz => hm z (by simp [hz])) (fun h => hne (by rw [h]))).ahead _
      · obtain ⟨p, a, b, u, v, h1, h2, h3, -⟩ := bitsN_first 8 x y (hl x (by simp)) (hm y (by simp)) e
        exact Diff.behind ⟨p, a, b, u, v, h1, h2, h3⟩ _ _
theorem bitB_inj {a b : Bool} (h : a ≠ b) : bitB a ≠ bitB b := by cases a <;> cases b <;> simp_all [bitB]
theorem runs_at (l : List Nat) (h : runsB 0 0 l = true) (k : Nat) (hk : k < l.length) : seeN (rawE 0 0 (l.take k)).1 (rawE 0 0 (l.take k)).2 l[k] ≤ 5 := by
  have e : l = l.take k ++ (l[k] :: l.drop (k + 1)) := by rw [← List.drop_eq_getElem_cons hk, List.take_append_drop]
  rw [e, runsB_append] at h
  simp only [Bool.and_eq_true, runsB, decide_eq_true_eq] at h
  exact h.2.1
theorem rawE_step (l : List Nat) (k : Nat) (hk : k < l.length) : rawE 0 0 (l.take (k + 1)) = (l[k], seeN (rawE 0 0 (l.take k)).1 (rawE 0 0 (l.take k)).2 l[k]) := by
  rw [List.take_succ_eq_append_getElem hk, rawE_append]
  rfl
theorem tails_raw (l : List Nat) : ∀ (last run : Nat) (out : List Nat), Tails last run out → Tails (rawE last run l).1 (rawE last run l).2 (out ++ l) := by
  induction l with
  | nil => intro last run out h; simpa [rawE] using h
  | cons x l ih =>
    intro last run out h
    have := ih x (seeN last run x) (out ++ [x]) (h.see x)
    simpa [rawE] using this
theorem rd_left {w : World} {A : Option Addr} {a b : List Nat} (h : Rd w A (bys (a ++ b))) : Rd w A (bys a) := by
  intro j u hj
  refine h j u ?_
  rw [bys_append, List.getElem?_append_left (List.getElem?_eq_some_iff.1 hj).1]
  exact hj
/-- Do two rows differ within their first k? -/
def diffB (l m : List Nat) (k : Nat) : Bool := (List.range k).any fun i => l[i]? != m[i]?
theorem diffB_succ (l m : List Nat) (k : Nat) : diffB l m (k + 1) = (diffB l m k || (l[k]? != m[k]?)) := by unfold diffB; rw [List.range_succ, List.any_append]; simp
theorem rawE_pos (l : List Nat) (k : Nat) (hk : k < l.length) (h0 : 0 < k) : (rawE 0 0 (l.take k)).1 = l[k - 1] ∧ 1 ≤ (rawE 0 0 (l.take k)).2 := by
  obtain ⟨j, rfl⟩ : ∃ j, k = j + 1 := ⟨k - 1, by omega⟩
  rw [rawE_step l j (by omega)]
  exact ⟨rfl, seeN_pos _ _ _⟩
/-- A frame with another identifier. -/
def withId (f : Fr) (id : Int) : Fr := { f with id := id }
end Go.Proofs.Ytmlkmcpcokjogaa
-- PClassic0: What a Classic frame on the wire begins with. No condition.
namespace Go.Proofs.Ytmlkmcpcokjogaa
open Go.RowKit
/-- What the body begins with. -/
theorem bodyC_head (f : Fr) : ∃ l, bodyC f = headL f ++ l := ⟨bitsN f.data.length 4 ++ bytesN f.data ++ bitsN (crcN 15 17817 0 (coreC f)) 15, by unfold bodyC addN coreC; simp⟩
theorem wireC_head (f : Fr) : ∃ l, wireC f = stuffN (headL f) ++ l := by
  obtain ⟨l, e⟩ := bodyC_head f
  exact ⟨stf (stE 0 0 (headL f)).1 (stE 0 0 (headL f)).2 l ++ List.replicate 10 1, by unfold wireC stuffN; rw [e, stf_append, List.append_assoc]⟩
end Go.Proofs.Ytmlkmcpcokjogaa
