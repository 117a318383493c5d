/- bits.Pack: bits' bytes. No condition. -/
import Derived.Test.YtlmdkmflbhnlgaaGreatRun
import Derived.Test.YtlmdkmflbhnlgaaGreatBitsCheck
import Derived.Test.YtlmdkmflbhnlgaaGreatOwn
import Derived.OwnWalkIn
namespace Go.Proofs.YtlmdkmflbhnlgaaGreat
open Go.RowKit
attribute [local go_sem] Oper.semAt_some
/-- Bits' bytes. -/
def packL (l : List Nat) : List Nat := (List.range (nchN l.length 8)).map fun x => numN (chunkL l 8 x)
theorem ownFrom_row {β : Type} {B base t : Nat} (f : β → List Value) (g : Nat) (k : β → Nat) (tt : TypeId) : OwnFrom B (fun s W => ∃ A c, W.heap[g]? = some (.cells #[.slice A (k s) c] tt) ∧ Row W base t A c (f s)) := by
  rintro s W W' row ⟨A, c, hs, hr⟩ hg hrow
  have key : ∀ i cs u fr, W.heap[i]? = some (Obj.cells cs u fr) → W'.heap[i]? = some (Obj.cells cs u fr) := fun i cs u fr hi =>
    (hg.block i (heap_lt hi) (fun e => by
      obtain ⟨-, o, ho, hc⟩ := hrow i e.symm
      rw [hi] at ho
      injection ho with ho
      subst ho
      cases hc)).trans hi
  refine ⟨A, c, key _ _ _ _ hs, hr.1, hr.2.imp id ?_⟩
  rintro ⟨q, cap, cur, hv, hq, hh, r⟩
  exact ⟨q, cap, cur, hv, hq, key _ _ _ _ hh, r⟩
theorem wpListIn_appR {F : Fence} {n : Nat} {P : Program} (w : World) {ops : Array Oper} {rest : List Oper} {o : Oper} {a : Act} {Q : Exit → Act → World → Prop}
    (hg : o.guard = none) (s x : Operand) (t : TypeId) (hop : o.op = Op.call { callee := Callee.builtin Builtin.append, args := #[s, x], argTypes := #[t, t] })
    (base : Nat) (e : TypeId) (i : TypeInfo) (z : Value) (bytes : Nat) (h1 : P.underlying t = some (.slice e)) (h2 : P.info? e = some i) (h3 : i.zero = some z) (h4 : i.size = 1) (h5 : i.bytes = bytes) (h6 : z.cells.size = 1)
    (A : Option Addr) (k c : Nat) (xs : List Value) (hs : a.eval s = .slice A k c) (hk : xs.length = k) (hown : Row w base e A c xs) (ad : Addr) (d : Nat) (u : Value) (hx : a.eval x = .slice (some ad) 1 d)
    (hc : w.cell? ad = some u) (h1c : u.oneCell' = true) (b1 : k + 1 ≤ maxLen) (b2 : (k + 1) * bytes ≤ 140737488355328) (b3 : base ≤ w.heap.size)
    (hK : ∀ (w' : World) (A' : Option Addr) (c' : Nat), Hid (Row w' base e A' c' (xs ++ [u])) → Hid (w.grownBy w' (Value.slice A k c).ownBlock) → wpListIn F n P ops Q rest (a.put o.dst (.slice A' (k + 1 : Nat) c')) w') :
    wpListIn F n P ops Q (o :: rest) a w := by
  subst hk
  refine wpListIn_append_own w hg s x t hop base e i z 1 bytes h1 h2 h3 h4 h5 h6 (by decide) _ xs.length xs hs hown ad 1 d [u] hx rfl ?_ (by simp; exact h1c) b1 b2 b3 ?_
  · intro j v hj
    cases j with
    | zero => simp at hj; subst hj; simpa [Addr.add] using hc
    | succ j => simp at hj
  · intro v' w' r1 r2 r3
    obtain ⟨A3, c3, rfl, hrow⟩ := Row.of r1 (by simp)
    have := hK w' A3 c3 hrow r2
    simpa using this
theorem nch8 (n : Nat) (h : n % 8 = 0) : nchN n 8 = n / 8 := by unfold nchN; omega
theorem Keep.turn {B b : Nat} {w w' : World} (h : Keep B b w w') (hB : w.heap.size ≤ B) : Turn [b] w w' := ⟨h.os, h.tape, h.output, h.size, fun k hk h1 => h.block k (by omega) (by simpa using h1)⟩
set_option maxRecDepth 100000 in
set_option maxHeartbeats 4000000 in
theorem Pack_any (b off n c : Nat) (A : Option Addr) (hA : A = some ⟨b, off, none⟩ ∨ n = 0) (l : List Nat) (w : World) (hr : Rd w A (bys l)) (hn : l.length = n) (hn2 : n ≤ 65536) (h8 : n % 8 = 0) (hc1 : n ≤ c) (hc2 : c ≤ 9223372036854775807) (h01 : ∀ x ∈ l, x ≤ 1) :
    Calls Tryz.prog 106 #[.slice A n c] w fun e w' => (∃ A' c', e = .returned (.tuple #[.slice A' (n / 8 : Nat) c', .int .i64 0]) ∧ Row w' w.heap.size 5 A' c' (bys (packL l))) ∧ Below w.heap.size w w' := by
  obtain ⟨i0, hi, hz0, hz1, hz2⟩ := info_parts info_u8
  have hok : bitsOk l = true := by unfold bitsOk; rw [decide_eq_true (by omega : l.length ≤ 65536), decide_eq_true h01]; rfl
  have HC := Lib.hid (BitsCheck_any A n c l w hr hn (by omega))
  rw [hok] at HC
  have hrem : ((n : Int)).tmod 8 = 0 := by
    have e : ((n : Int)).tmod 8 = ((n % 8 : Nat) : Int) := by rw [Int.tmod_eq_emod_of_nonneg (by omega)]; omega
    rw [e, h8]; rfl
  have HR := Lib.hid hr
  have HN := Lib.hid hn
  have H01 := Lib.hid h01
  have HA := Lib.hid hA
  have H8 := Lib.hid h8
  clear hr hn h01 hA hok h8
  refine (callsIn_wide (n := 5)).1 ?_
  refine callsIn_of_wp_marks Tryz.func106 rfl trivial ?_ rfl
  simp only [Tryz.ntmps106, List.size_toArray, List.length_cons, List.length_nil, Nat.reduceAdd, Nat.reduceSub, Array.replicate_succ, Array.replicate_zero, List.push_toArray, List.append_toArray, List.nil_append, List.cons_append]
  gi_wp2_with (first
    | (refine ⟨trivial, ?_⟩; gi_at_call 9; refine (callsIn_wide.2 HC.out).mono ?_; rintro e _ ⟨rfl, rfl⟩; simp only [if_true])
    | (refine ⟨trivial, ?_⟩; gi_at_call 113; refine (callsIn_wide.2 (Chunk_any A n c 8 _ (by omega) (by omega))).mono ?_; rintro e _ ⟨rfl, rfl⟩))
  obtain ⟨g, hg⟩ : ∃ g, w.heap.size = g := ⟨_, rfl⟩
  have HG := Lib.hid hg
  refine name_world (T := fun W0 => W0.heap[g]? = some (.cells #[.slice none 0 0] 22) ∧ W0.heap[g + 1]? = some (.cells #[.slice A n c] 22) ∧ W0.heap[g + 1 + 1]? = some (.cells #[.int .i64 8] 3) ∧ W0.heap.size = g + 1 + 1 + 1 ∧ Below g w W0) ?_ ?_
  · exact ⟨heap_push (heap_push (heap_new_at hg.symm)), heap_push (heap_new_at (by simp [hg])), heap_new_at (by simp [hg]), by simp [hg], (((Below.refl g w).alloc (by omega) _).alloc (by simp; omega) _).alloc (by simp; omega) _⟩
  rw [hg]
  clear hg
  rintro W0 ⟨f0, f1, f2, fs, fb⟩
  have F0 := Lib.hid f0
  have F1 := Lib.hid f1
  have FS := Lib.hid fs
  have FB := Lib.hid fb
  refine wpIn_rangeFunc_ownG rfl (by omega) (gf := 125) (lb := #[.pointer (some ⟨g + 1, 0, none⟩), .pointer (some ⟨g + 1 + 1, 0, none⟩)]) rfl trivial (enters_of Tryz.func125 (by kernel_rfl) rfl)
    (chunk_stops (5 - 1) (by omega) (g + 1) (g + 1 + 1) W0.heap.size g b off n c 8 A HA.out (by omega) (by omega) (by omega) hc1 hc2 (by omega) (by omega) W0 (cell_of_heap f1 0 _ rfl) (cell_of_heap f2 0 _ rfl))
    (fun h k => h.trans k) (fun W j o o' hj ho _ _ => grown_keep (grownBy_putObj' W j o') (by have := heap_lt ho; omega) (fun r e => by cases e; exact hj)) (Below.refl _ _) (fun _ => rfl)
    (fun pre W => Keep W0.heap.size g W0 W ∧ ∃ A' c', W.heap[g]? = some (.cells #[.slice A' pre.length c'] 22) ∧ Row W W0.heap.size 5 A' c' (bys (pre.map fun x => numN (chunkL l 8 x))))
    (fun cd pre W => False)
    (OwnFrom.and (ownFrom_keep (Nat.le_refl _)) (ownFrom_row (fun pre : List Nat => bys (pre.map fun x => numN (chunkL l 8 x))) g (fun pre : List Nat => pre.length) 22))
    (fun cd => ownFrom_fact _)
    ⟨Keep.refl _ _ _, none, 0, f0, Row.nil _ _ _⟩
    (fun x => { tmps := #[.slice A n c, undef, .slice none 0 0, .int .i64 0, .int .i64 0, .pointer (some ⟨g, 0, none⟩), chunkV b off n 8 x, undef, .slice A n c, .int .i64 0, .int .i64 0, .bool false, undef, .slice A n c, .int .i64 n, .int .i64 0, .bool false, .slice A n c,
      .func (.func 125) #[] #[.pointer (some ⟨g + 1, 0, none⟩), .pointer (some ⟨g + 1 + 1, 0, none⟩)], chunkV b off n 8 x, undef, undef, undef, undef, undef, undef, undef, undef, undef], defers := [] }) ?assign ?body ?done ?stop
  case assign =>
    intro j x W K hK
    gi_wp2
    exact hK
  case body =>
    rintro lp pre x W ⟨hKp, A', c', hcell, hrow⟩ hN
    have hN2 : pre.length < 8192 := by rw [nch8 n H8.out] at hN; omega
    obtain ⟨p, hp⟩ : ∃ p, pre.length = p := ⟨_, rfl⟩
    rw [hp] at hcell hN2
    have hbel : Below g w W := FB.out.trans (hKp.below (by omega) (by omega))
    have hsz : g + 1 + 1 + 1 ≤ W.heap.size := by rw [← FS.out]; exact hKp.size
    have hlenc : (chunkL l 8 x).length = min 8 (n - 8 * x) := by rw [chunkL_length, HN.out]
    have hrd : Rd W (some ⟨b, off + 8 * x, none⟩) (bys (chunkL l 8 x)) := by
      by_cases h0 : 0 < min 8 (n - 8 * x)
      · have hA2 : A = some ⟨b, off, none⟩ := by
          rcases HA.out with e | e
          · exact e
          · omega
        have h1 := HR.out.below (w' := W) (by rw [HG.out]; exact hbel)
        rw [hA2] at h1
        exact chunkL_rd h1 8 x
      · rw [List.eq_nil_of_length_eq_zero (l := chunkL l 8 x) (by omega)]
        exact Rd.nil _ _
    have h01c : ∀ y ∈ chunkL l 8 x, y ≤ 1 := fun y hy => H01.out y (chunkL_mem l 8 x y hy)
    have hnum := numN_lt (chunkL l 8 x) h01c
    have hp2 : 2 ^ (chunkL l 8 x).length ≤ 2 ^ 8 := Nat.pow_le_pow_right (by omega) (by omega)
    have hnum2 : numN (chunkL l 8 x) < 256 := by omega
    have hE := eachAdd_any (W.alloc (.cells #[.int .u64 0] 149)) W.heap.size 149 (some ⟨b, off + 8 * x, none⟩) (min 8 (n - 8 * x)) (min 8 (n - 8 * x)) (chunkL l 8 x) (heap_new_at rfl) (hrd.alloc _)
      (fun ad e hne => by have := hrd.lt ad e hne; simp; omega) hlenc (by omega) h01c
    obtain ⟨N, hNe⟩ : ∃ N, numN (chunkL l 8 x) = N := ⟨_, rfl⟩
    rw [hNe] at hE hnum2
    obtain ⟨m, hm⟩ : ∃ m, min 8 (n - 8 * x) = m := ⟨_, rfl⟩
    rw [hm] at hE
    have HM := Lib.hid hm
    have HE := Lib.hid hE
    have HNE := Lib.hid hNe
    have HROW := Lib.hid hrow
    have HCELL := Lib.hid hcell
    have HKP := Lib.hid hKp
    have HP := Lib.hid hp
    have hgW := heap_lt hcell
    clear hE hNe hrow hcell hKp hnum hp2 hrd h01c hlenc hp hm f0 f1 f2 fs fb hN hbel
    dsimp only [chunkV]
    rw [HM.out]
    gi_wp2_with (first
      | (refine ⟨trivial, ?_⟩; gi_at_call 65; refine (CallsIn.inRound lp (callsIn_wide.2 HE.out)).mono ?_; rintro e w2 ⟨rfl, hq2, hk2⟩; have hg2 : w2.heap[g]? = some (.cells #[.slice A' p c'] 22 (0, 0)) := hk2.heap (heap_push HCELL.out) (by simp; omega) (by omega); have cg := cell_of_heap hg2 0 _ rfl; have cn := cell_of_heap hq2 0 _ rfl; have HG2 := Lib.hid hg2; have HK2 := Lib.hid hk2; have hrow2 : Hid (Row w2 W0.heap.size 5 A' c' (bys (pre.map fun x => numN (chunkL l 8 x)))) := (HROW.out.alloc _).turn (hk2.turn (Nat.le_refl _)) (fun ad e hm => by have := HROW.out.lt_ ad.block (by rw [e]; simp [blkA]); simp at hm; omega); have hs2 : W0.heap.size ≤ w2.heap.size := Nat.le_trans HKP.out.size (by have := hk2.size; simp at this; omega); clear hg2 hk2 hq2)
      | (refine wpListIn_appR _ rfl (.tmp 23) (.tmp 26) 22 rfl W0.heap.size 5 i0 _ 1 Tryz.underlying22 hi hz0 hz1 hz2 rfl A' p c' _ (by kernel_rfl) (by rw [bys_length, List.length_map]; exact HP.out) (hrow2.out.alloc _) ⟨w2.heap.size, 0, none⟩ 1 (.int .u8 N) (by kernel_rfl) (cell_of_heap (heap_new_at rfl) 0 _ rfl) rfl (by unfold maxLen; omega) (by omega) (by simp; omega) ?_; intro w3 A3 c3 HR3 HG3; have hg3 : w3.heap[g]? = some (.cells #[.slice A' p c'] 22 (0, 0)) := (HG3.out.block g (by have := heap_lt HG2.out; simp; omega) (fun e => by
          cases A' with
          | none => cases e
          | some ad =>
            injection e with e
            have := own_blk HROW.out ad.block (by simp [blkA])
            have := heap_lt F0.out
            omega)).trans (heap_push HG2.out); have cg3 := cell_of_heap hg3 0 _ rfl; have zg3 : w3.frozen? ⟨g, 0, none⟩ = false := (by simp [World.frozen?, hg3]); have HG4 := Lib.hid hg3; clear hg3 cg cn))
    have hall : ∀ (k : Nat) (o : Obj), W.heap[k]? = some o → o.isCells = false → (w3.setCell ⟨g, 0, none⟩ (.slice A3 (p + 1 : Nat) c3)).heap[k]? = some o := by
      intro k o hk ho
      have hkg : k ≠ g := by rintro rfl; rw [HCELL.out] at hk; injection hk with hk; subst hk; cases ho
      have hkl := heap_lt hk
      rw [Below.heap_setCell _ _ _ _ hkg]
      have h2 : w2.heap[k]? = some o := HK2.out.heap (heap_push hk) (by simp; omega) (by omega)
      refine (HG3.out.block k (by have := heap_lt h2; simp; omega) (fun e => ?_)).trans (heap_push h2)
      cases A' with
      | none => cases e
      | some ad =>
        injection e with e
        subst e
        rcases HROW.out.2 with ⟨hv, -⟩ | ⟨q, cap, cur, hv, -, hh, -⟩
        · injection hv with hv; cases hv
        · injection hv with hv
          injection hv with hv
          subst hv
          rw [hh] at hk
          injection hk with hk
          subst hk
          cases ho
    have hKeep : Keep W0.heap.size g W (w3.setCell ⟨g, 0, none⟩ (.slice A3 (p + 1 : Nat) c3)) := by
      have k1 : Keep W0.heap.size g W w2 := ⟨HK2.out.os, HK2.out.tape, HK2.out.output, by have := HK2.out.size; simp at this; omega, fun i hi h1 => (HK2.out.block i (by have := HKP.out.size; simp; omega) (by have := HKP.out.size; omega)).trans (Below.heap_alloc _ _ _ (by have := HKP.out.size; omega))⟩
      have k2 : Keep W0.heap.size g w2 w3 := by
        have k3 := grown_keep (b := g) HG3.out (B := W0.heap.size) (by simp; omega) (fun r e => by
          cases A' with
          | none => cases e
          | some ad =>
            injection e with e
            have := own_blk HROW.out ad.block (by simp [blkA])
            omega)
        exact ⟨k3.os, k3.tape, k3.output, by have := k3.size; simp at this; omega, fun i hi h1 => (k3.block i hi h1).trans (Below.heap_alloc _ _ _ (by omega))⟩
      exact (k1.trans k2).setCell (p := ⟨g, 0, none⟩) (.inl rfl) _
    have hlist : bys ((pre ++ [x]).map fun x => numN (chunkL l 8 x)) = bys (pre.map fun x => numN (chunkL l 8 x)) ++ [.int .u8 N] := by
      rw [List.map_append, bys_append, List.map_singleton, HNE.out]; rfl
    refine ⟨⟨hKeep.size, fun k o _ hk ho => hall k o hk ho⟩, hKeep, HKP.out.trans hKeep, A3, c3, ?_, ?_⟩
    · rw [heap_setCell HG4.out 0 _, List.length_append, HP.out]
      simp
    · rw [hlist]
      refine HR3.out.turn (s := [g]) ((Turn.refl _ _).setCell (p := ⟨g, 0, none⟩) (.inl (by simp)) _) (fun ad e hm => ?_)
      have := own_blk HR3.out ad.block (by rw [e]; simp [blkA])
      have := heap_lt F0.out
      simp at hm
      omega
  case done =>
    rintro D ys W hD rfl ⟨hKp, A', c', hcell, hrow⟩ hKd
    have hlen : (List.range (nchN n 8)).length = n / 8 := by rw [List.length_range, nch8 n H8.out]
    rw [hlen] at hcell
    have hl : (List.range (nchN n 8)).map (fun x => numN (chunkL l 8 x)) = packL l := by unfold packL; rw [HN.out]
    rw [hl] at hrow
    obtain ⟨m, hm⟩ : ∃ m, n / 8 = m := ⟨_, rfl⟩
    rw [hm] at hcell
    have HM := Lib.hid hm
    have b0 : W.cell? ⟨g, 0, none⟩ = some (.slice A' m c') := cell_of_heap hcell 0 _ rfl
    have hbel : Below g w W := FB.out.trans (hKp.below (by omega) (by omega))
    have HBEL := Lib.hid hbel
    have HKD := Lib.hid hKd
    have HROW := Lib.hid hrow
    have hg0 := heap_lt F0.out
    clear hm hcell hbel hKd hrow f0 f1 f2 fs fb hl hlen hKp
    gi_wp2
    have hK' := HKD.out
    refine ⟨by simp, .inl ⟨_, _, rfl, run_takeDeferred hK', ?_⟩⟩
    have hbD : Below g W (W.putObj D (.deferred none)) := belowK_b (w := W0) (by omega) _ D _ _ hD hK' rfl rfl
    refine ⟨.tuple #[.slice A' m c', .int .i64 0], by simp [results, Tryz.f106, go_sem], ⟨⟨A', c', by rw [HM.out], ?_⟩, ?_⟩⟩
    · rw [HG.out]
      obtain ⟨r1, r2⟩ := HROW.out
      refine ⟨r1, r2.imp id ?_⟩
      rintro ⟨q, cap, cur, hv, hq, hh, r⟩
      refine ⟨q, cap, cur, hv, by omega, ?_, r⟩
      rw [World.putObj_heap_other (fun e => ?_)]
      · exact hh
      · subst e
        rw [hh] at hK'
        cases hK'
    · rw [HG.out]
      exact HBEL.out.trans hbD
  case stop =>
    rintro D cd pre W hD _ h _
    exact h.elim
end Go.Proofs.YtlmdkmflbhnlgaaGreat
