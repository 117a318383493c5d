/- Words, walks and plain facts that several laws need, part 5: each with its own head. No condition. -/
import Derived.Test.YtlmdkmflbhnlgaaGreatZScan4
-- ScanG: The machine's parts: how one begins. No condition.
namespace Go.Proofs.YtlmdkmflbhnlgaaGreat
open Go.RowKit
variable {w : World} {s : List Nat} {mp : Nat} {S : MS} {a : MA}
/-- A cell's store into a block. -/
theorem wpList_sput {P : Program} {ops : Array Oper} {rest : List Oper} {op : Oper} {f : Act} {Q : Exit → Act → World → Prop} {g : Nat} {cs : Array Value} {t : TypeId} (hg : w.heap[g]? = some (.cells cs t (0, 0))) (hgd : op.guard = none) (ty : TypeId) (x y : Operand) (ho : op.op = .store ty x y)
    (i : Nat) (v : Value) (hx : f.eval x = .pointer (some ⟨g, i, none⟩)) (hy : f.eval y = v) (h1 : v.oneCell' = true) (hi : (P.info? ty).map (·.size) = some 1) (hin : i < cs.size)
    (ds : Array Value) (hv : cs.setIfInBounds i v = ds)
    (K : ∀ W', Hid (W'.heap[g]? = some (.cells ds t (0, 0))) → Hid (Turn [g] w W') → wpList P ops Q rest (f.put op.dst undef) W') : wpList P ops Q (op :: rest) f w := by
  refine wpList_plain hgd fun K0 hK => ?_
  have hc := cell_of_heap hg i _ (Array.getElem?_eq_getElem hin)
  have hz : w.frozen? ⟨g, i, none⟩ = false := by simp [World.frozen?, hg]
  unfold Oper.wp execOp
  have hs : (store ⟨g, i, none⟩ v).run P w = .ok () (w.setCell ⟨g, i, none⟩ v) := by rw [run_store P w _ v _ h1]; simp [hc, hz]
  have h3 := hK (f.put op.dst undef) _ (K _ (by rw [heap_setCell hg i v, hv]; rfl) ((Turn.refl _ _).setCell (p := ⟨g, i, none⟩) (.inl (by simp)) _))
  have hone : ∀ cs, v ≠ .agg cs := fun cs e => by subst e; simp [Value.oneCell'] at h1
  simp only [ho, hx, hy, Instr.storeAt, Instr.sureAddr, Sem.run_bind, Sem.run_pure, Result.andThen_ok]
  have hsv : (storeVar ty ⟨g, i, none⟩ v).run P w = .ok () (w.setCell ⟨g, i, none⟩ v) := by
    have hcs : v.cells = #[v] := by cases v <;> first | rfl | (simp [Value.oneCell'] at h1; done)
    cases hq : P.info? ty with
    | none => simp [hq] at hi
    | some ti =>
      have hs1 : ti.size = 1 := by simpa [hq] using hi
      simp [storeVar, sizeOf, typeInfo, hq, hcs, hs1, storeCells, hs, Addr.add]
  rw [hsv]
  exact h3
theorem info_u8S : (Tryz.prog.info? 5).map (·.size) = some 1 := by kernel_rfl
theorem Below.of_turn {base : Nat} {w w' : World} {g : Nat} (h : Turn [g] w w') (hg : base ≤ g) (hw : base ≤ w.heap.size) : Below base w w' := h.below (fun x hx => by simp at hx; omega) hw
set_option maxRecDepth 100000 in
set_option maxHeartbeats 4000000 in
theorem mPart (h : MR w s mp S a) (ev n : Nat) (ah : Bool) (d : Do) (f0 : Fn) (f1 f2 : Array Value) (hv : DoOk w s mp d (.func f0 f1 f2)) (hraw : 0 < S.raw.length) (h1 : 1 ≤ ev) (h2 : ev ≤ 64) (hn : n ≤ 65536) :
    Calls Tryz.prog 117 #[.pointer (some ⟨mp, 0, none⟩), wayV ev ah, .int .i64 n, .func f0 f1 f2] w (MDone w s mp (partM S ev ah n d)) := by
  obtain ⟨m, hm⟩ : ∃ m, S.raw.length = m + 1 := ⟨S.raw.length - 1, by omega⟩
  obtain ⟨g, hg, hc1, hc2, hcx⟩ := h.rest.raw.at_ m (by omega)
  have hpm : partM S ev ah n d = { S with step := .part (if ah then S.raw.getD m 0 else 1) ev ah (fsize n ev ah) d } := by unfold partM; rw [hm]; rfl
  rw [hpm]
  have HZ := Lib.hid (fun W => FSize_any n ev ah W h1 h2 hn)
  generalize fsize n ev ah = z at *
  have HH := Lib.hid h
  have HV := Lib.hid hv
  have HS : Hid (∀ k ∈ s, k < w.heap.size) := h.rest.mem.2
  have HCX := Lib.hid hcx
  have hcr : w.cell? ⟨mp, 17, none⟩ = some (.slice (some ⟨g, 0, none⟩) (m + 1 : Nat) a.rc) := h.cell 17 _ (by rw [← hg, ← hm]; rfl)
  have HCR := Lib.hid hcr
  have hmpl := h.lt
  have hrc : m + 1 ≤ a.rc := by omega
  obtain ⟨x, hx⟩ : ∃ x, S.raw.getD m 0 = x := ⟨_, rfl⟩
  rw [hx] at HCX ⊢
  obtain ⟨T, HT⟩ : ∃ T, Hid (({ S with step := .part (if ah then x else 1) ev ah z d } : MS) = T) := ⟨_, rfl⟩
  rw [HT.out]
  clear h hv hcx hcr hg hm hc1 hraw hx hpm
  go_enter Tryz.func117, Tryz.ntmps117
  go_upto_region 1 with (fail)
  obtain ⟨W1, hW1, q1, q2, q3, hb1⟩ : ∃ W1, ((w.alloc (.cells #[.pointer (some ⟨mp, 0, none⟩)] 36)).alloc (.cells #[.int .i64 ev, .bool ah] 99)).alloc (.cells #[.func f0 f1 f2] 159) = W1 ∧ W1.heap[w.heap.size]? = some (.cells #[.pointer (some ⟨mp, 0, none⟩)] 36 (0, 0)) ∧ W1.heap[w.heap.size + 1]? = some (.cells #[.int .i64 ev, .bool ah] 99 (0, 0)) ∧ W1.heap[w.heap.size + 1 + 1]? = some (.cells #[.func f0 f1 f2] 159 (0, 0)) ∧ Below w.heap.size w W1 :=
    ⟨_, rfl, heap_push (heap_push (heap_new_at rfl)), heap_push (heap_new_at (by simp)), heap_new_at (by simp), below_alloc (below_alloc (below_alloc (Below.refl _ _) _) _) _⟩
  rw [hW1]
  have d0 := cell_of_heap q2 0 _ rfl
  have d1 : W1.cell? ⟨w.heap.size + 1, 1, none⟩ = some (.bool ah) := cell_of_heap q2 1 _ rfl
  have HB1 := Lib.hid hb1
  have Q1 := Lib.hid q1
  have Q2 := Lib.hid q2
  have Q3 := Lib.hid q3
  clear hW1 q1 q2 q3 hb1
  go_wp2_with fail
  refine (HZ.out _).mono ?_
  rintro e w2 ⟨rfl, hb⟩
  have HB2 := Lib.hid (below_trans HB1.out hb)
  have R1 := Lib.hid (heap_below hb Q1.out)
  have R2 := Lib.hid (heap_below hb Q2.out)
  have R3 := Lib.hid (heap_below hb Q3.out)
  clear hb d0 d1 Q1 Q2 Q3 HB1
  go_wp2_with fail
  obtain ⟨W3, hW3, q8, hb3, hb23⟩ : ∃ W3, w2.alloc (.cells #[.int .i64 z] 3) = W3 ∧ W3.heap[w2.heap.size]? = some (.cells #[.int .i64 z] 3 (0, 0)) ∧ Below w.heap.size w W3 ∧ Below w2.heap.size w2 W3 :=
    ⟨_, rfl, heap_new_at rfl, below_alloc HB2.out _, below_alloc (Below.refl _ _) _⟩
  rw [hW3]
  have P1 := Lib.hid (heap_below hb23 R1.out)
  have P2 := Lib.hid (heap_below hb23 R2.out)
  have P3 := Lib.hid (heap_below hb23 R3.out)
  have hwp2 : w.heap.size + 1 + 1 < w2.heap.size := heap_lt R3.out
  have hwp : w.heap.size ≤ w2.heap.size := HB2.out.size
  generalize w2.heap.size = p at *
  have P4 := Lib.hid q8
  have HB3 := Lib.hid hb3
  have c0 : ∀ e : Ext W3, e.W.cell? ⟨w.heap.size, 0, none⟩ = some (.pointer (some ⟨mp, 0, none⟩)) := fun e => ext_cell (cell_of_heap P1.out 0 _ rfl) e
  have c17 : ∀ e : Ext W3, e.W.cell? ⟨mp, 17, none⟩ = some (.slice (some ⟨g, 0, none⟩) (m + 1 : Nat) a.rc) := fun e => ext_cell (Below.cell_of HB3.out HCR.out) e
  have cgm : ∀ e : Ext W3, e.W.cell? ⟨g, m, none⟩ = some (.int .u8 x) := fun e => ext_cell (Below.cell_of HB3.out HCX.out) e
  clear hW3 q8 hb3 hb23 R1 R2 R3 HB2
  refine wp_region_mix (fun w' => ∃ e : Ext W3, w' = e.W) [(true, 0), (true, 1), (true, 2), (true, 3), (true, 4), (true, 5), (true, 6), (true, 7), (true, 8), (true, 9), (true, 10), (true, 11), (false, 12)] [13] (by kernel_rfl) (by kernel_rfl) (by intro _ _ d _ _ h; cases d <;> exact h) ⟨⟨W3.drew, (Below.refl _ _).drew⟩, rfl⟩ ?_
  simp only [pickM, pickL, List.drop_succ_cons, List.drop_zero]
  repeat (first | (refine mix_pure (by rfl) (by rfl) ?_; intro K hK; go_big_quiet_op; go_big_quiet_on) | (refine mix_nilc ⟨mp, 0, none⟩ (by rfl) (by kernel_rfl) ?_; go_simp))
  refine mix_eff (by rfl) ?_
  intro K hK
  go_simp
  have hb34 : Below W3.heap.size W3 (W3.alloc (.cells #[.int .u8 0] 5)).drew := (below_alloc (Below.refl _ _) _).drew
  refine hK _ _ ⟨⟨_, hb34⟩, rfl⟩ ?_
  clear hK K
  refine mix_nil ?_
  obtain ⟨W4, hW4, q10, hwq⟩ : ∃ W4, (W3.alloc (.cells #[.int .u8 0] 5)).drew = W4 ∧ W4.heap[W3.heap.size]? = some (.cells #[.int .u8 0] 5 (0, 0)) ∧ w.heap.size ≤ W3.heap.size := ⟨_, rfl, heap_new_at rfl, HB3.out.size⟩
  rw [hW4] at hb34 ⊢
  have X1 := Lib.hid (heap_below hb34 P1.out)
  have X2 := Lib.hid (heap_below hb34 P2.out)
  have X3 := Lib.hid (heap_below hb34 P3.out)
  have X4 := Lib.hid (heap_below hb34 P4.out)
  have hpq : p < W3.heap.size := heap_lt P4.out
  have HB4 : Hid (Below w.heap.size w W4) := HB3.out.trans (hb34.mono hwq)
  clear hW4 hb34 c0 c17 cgm P1 P2 P3 P4
  refine wpList_sput q10 rfl 5 (.tmp 10) (.tmp 28) rfl 0 (.int .u8 x) (by kernel_rfl) (by kernel_rfl) rfl info_u8S (by simp) #[.int .u8 x] (by simp) ?_
  intro W5 Y5 T5
  refine wpList_nil ?_
  have hb45 : Below w2.heap.size w2 w2 := Below.refl _ _
  have Y1 := Lib.hid (T5.out.heap X1.out (by simp; omega))
  have Y2 := Lib.hid (T5.out.heap X2.out (by simp; omega))
  have Y3 := Lib.hid (T5.out.heap X3.out (by simp; omega))
  have Y4 := Lib.hid (T5.out.heap X4.out (by simp; omega))
  have HB5 := Lib.hid (HB4.out.trans (Below.of_turn T5.out (by omega) (by have := heap_lt X4.out; omega)))
  generalize W3.heap.size = q at *
  clear X1 X2 X3 X4 q10 hb45
  have hpart : Hid (∀ W v, MR W s mp S a → Below w.heap.size w W → W.heap[w.heap.size]? = some (.cells #[ptr mp] 36 (0, 0)) → W.heap[q]? = some (.cells #[.int .u8 (if ah then x else 1 : Nat)] 5 (0, 0)) → W.heap[w.heap.size + 1]? = some (.cells #[.int .i64 ev, .bool ah] 99 (0, 0)) → W.heap[p]? = some (.cells #[.int .i64 z] 3 (0, 0)) → W.heap[w.heap.size + 1 + 1]? = some (.cells #[.func f0 f1 f2] 159 (0, 0)) →
      v = .func (.func 127) #[] #[ptr w.heap.size, ptr q, ptr (w.heap.size + 1), ptr p, ptr (w.heap.size + 1 + 1)] →
      ∀ w', Turn s W w' → MRest w' s mp S.raw S.l S.own S.sf.data S.f.data S.step S.next S.gh a → MRest w' s mp T.raw T.l T.own T.sf.data T.f.data T.step T.next T.gh { a with sv := v }) := by
    intro W v hW hb e1 e2 e3 e4 e5 ev' w' ht hm
    have hs : ∀ k ∈ s, k ∈ s ∨ W.heap.size ≤ k := fun k hk => .inl hk
    have bx : ∀ {b : Nat} {cs : Array Value} {t : TypeId}, W.heap[b]? = some (.cells cs t (0, 0)) → w.heap.size ≤ b → BoxV w' s b cs t := fun h hge => (BoxV.new h HS.out hge).turn ht hs
    rw [← HT.out]
    exact ⟨hm.mem, hm.raw, hm.l, hm.own, hm.rl, hm.ro, hm.lo, hm.sf, hm.f, ⟨_, _, _, _, _, _, ev', bx e1 (Nat.le_refl _), bx e2 hwq, bx e3 (by omega), bx e4 hwp, bx e5 (by omega), (HV.out.turn (Turn.of hb) (fun k hk => .inl hk)).turn ht hs⟩, hm.next, hm.gho⟩
  obtain ⟨v, hv⟩ : ∃ v, Value.func (.func 127) #[] #[ptr w.heap.size, ptr q, ptr (w.heap.size + 1), ptr p, ptr (w.heap.size + 1 + 1)] = v := ⟨_, rfl⟩
  cases ah
  · have c1 : W5.cell? ⟨w.heap.size + 1, 1, none⟩ = some (.bool false) := cell_of_heap Y2.out 1 _ rfl
    go_wp2_with (first
      | (refine wpList_sput Y5.out rfl 5 (.tmp 10) (.const (.int .u8 1)) rfl 0 (.int .u8 1) (by kernel_rfl) (by kernel_rfl) rfl info_u8S (by simp) #[.int .u8 1] (by simp) ?_; intro W6 Z5 T6; have Z1 := Lib.hid (T6.out.heap Y1.out (by simp; omega)); have Z2 := Lib.hid (T6.out.heap Y2.out (by simp; omega)); have Z3 := Lib.hid (T6.out.heap Y3.out (by simp; omega)); have Z4 := Lib.hid (T6.out.heap Y4.out (by simp; omega)); have HB6 := Lib.hid (HB5.out.trans (Below.of_turn T6.out (by omega) (by have := heap_lt Y4.out; omega))); have H6 := Lib.hid (HH.out.below HB6.out); have c0 := cell_of_heap Z1.out 0 _ rfl; have HM := Lib.hid (hpart.out W6 v H6.out HB6.out Z1.out Z5.out Z2.out Z4.out Z3.out hv.symm))
      | (refine wpList_mput H6.out rfl 57 (.tmp 35) (.tmp 33) rfl 15 v (by kernel_rfl) (by rw [← hv]; kernel_rfl) (by rw [← hv]; rfl) info_funcB (by decide) T { a with sv := v } (by rw [← HT.out]; kernel_rfl) HM.out ?_; intro W7 H7 T7))
    go_end0
    exact ⟨rfl, (MAct.same H7.out T7.out).pre HB6.out⟩
  · have c1 : W5.cell? ⟨w.heap.size + 1, 1, none⟩ = some (.bool true) := cell_of_heap Y2.out 1 _ rfl
    have c0 : W5.cell? ⟨w.heap.size, 0, none⟩ = some (.pointer (some ⟨mp, 0, none⟩)) := cell_of_heap Y1.out 0 _ rfl
    have H5 := Lib.hid (HH.out.below HB5.out)
    have HM := Lib.hid (hpart.out W5 v H5.out HB5.out Y1.out Y5.out Y2.out Y4.out Y3.out hv.symm)
    go_wp2_with (first
      | (refine wpList_mput H5.out rfl 57 (.tmp 35) (.tmp 33) rfl 15 v (by kernel_rfl) (by rw [← hv]; kernel_rfl) (by rw [← hv]; rfl) info_funcB (by decide) T { a with sv := v } (by rw [← HT.out]; kernel_rfl) HM.out ?_; intro W6 H6 T6)
      | fail)
    go_end0
    exact ⟨rfl, (MAct.same H6.out T6.out).pre HB5.out⟩
end Go.Proofs.YtlmdkmflbhnlgaaGreat
namespace Go.Proofs.YtlmdkmflbhnlgaaGreat
open Go.RowKit
variable {w : World} {s : List Nat} {mp : Nat} {S : MS} {a : MA}
theorem below_alloc' {B : Nat} {w : World} (h : B ≤ w.heap.size) (o : Obj) : Below B w (w.alloc o) := (below_alloc (Below.refl w.heap.size w) o).mono h
theorem ask_at {P : Program} {f : FuncId} {p v : Value} {n : Nat} {m : Int} {W : World} {R : Ending → World → Prop} (h : Calls P f #[p, .int .i64 n, v] W R) (e : m = n) : Calls P f #[p, .int .i64 m, v] W R := by rw [e]; exact h
set_option maxRecDepth 100000 in
set_option maxHeartbeats 4000000 in
theorem mCode (h : MR w s mp S a) (hl4 : 4 ≤ S.l.length) (hl : S.l.length ≤ 1000000) (h01 : ∀ x ∈ S.l, x ≤ 1) :
    Calls Tryz.prog 96 #[.pointer (some ⟨mp, 0, none⟩)] w (MDone w s mp (codeM S)) := by
  have HN := Lib.hid (fun W (hW : MR W s mp S a) => mNumber hW (S.l.length - 4) S.l.length (by omega) (Nat.le_refl _) (by omega) h01 hl)
  have hs : codeM S = if numM S (S.l.length - 4) S.l.length ≤ 8 ∧ (numM S (S.l.length - 4) S.l.length = 0 ∨ S.f.rtr = false) then askM S (S.l.length + 8 * numM S (S.l.length - 4) S.l.length + 15) (.codeC S.l.length (numM S (S.l.length - 4) S.l.length)) else badM S 5 := rfl
  have hn16 := numM_lt S (S.l.length - 4) S.l.length 4 (by omega) h01
  generalize numM S (S.l.length - 4) S.l.length = n at *
  obtain ⟨T, hT⟩ : ∃ T, codeM S = T := ⟨_, rfl⟩
  rw [hT] at hs ⊢
  have HH := Lib.hid h
  have hmpl := h.lt
  obtain ⟨k, hk⟩ : ∃ k, S.l.length = k + 4 := ⟨S.l.length - 4, by omega⟩
  have c18 : w.cell? ⟨mp, 18, none⟩ = some (.slice a.lA (k + 4 : Nat) a.lc) := h.cell 18 _ (by rw [← hk]; rfl)
  have C18 := Lib.hid c18
  obtain ⟨r, hr⟩ : ∃ r, S.f.rtr = r := ⟨_, rfl⟩
  have c24 : w.cell? ⟨mp, 24, none⟩ = some (.bool r) := h.cell 24 _ (by rw [← hr]; rfl)
  have C24 := Lib.hid c24
  have HS : Hid (∀ k ∈ s, k < w.heap.size) := h.rest.mem.2
  have HK := Lib.hid hk
  rw [hk, Nat.add_sub_cancel, show ((k + 4 : Nat) : Int) = (k : Int) + 4 by omega] at HN
  rw [hk, hr] at hs
  have HSS := Lib.hid hs
  have hkl : k ≤ 1000000 := by omega
  clear h hl c18 c24 h01 hs hT hk hl4 hr
  go_enter Tryz.func96, Tryz.ntmps96
  go_upto_region 1 with (fail)
  obtain ⟨W1, hW1, q1, hb1⟩ : ∃ W1, w.alloc (.cells #[.pointer (some ⟨mp, 0, none⟩)] 36) = W1 ∧ W1.heap[w.heap.size]? = some (.cells #[.pointer (some ⟨mp, 0, none⟩)] 36 (0, 0)) ∧ Below w.heap.size w W1 := ⟨_, rfl, heap_new_at rfl, below_alloc (Below.refl _ _) _⟩
  rw [hW1]
  have c0 := cell_of_heap q1 0 _ rfl
  have c18 := Below.cell_of hb1 C18.out
  have HB1 := Lib.hid hb1
  have Q1 := Lib.hid q1
  clear hW1 q1 hb1
  go_upto_region 2 with (fail)
  obtain ⟨W2, hW2, q2, hb2⟩ : ∃ W2, W1.alloc (.cells #[.int .i64 (k + 4 : Int)] 3) = W2 ∧ W2.heap[W1.heap.size]? = some (.cells #[.int .i64 (k + 4 : Nat)] 3 (0, 0)) ∧ Below W1.heap.size W1 W2 := ⟨_, rfl, by rw [show ((k + 4 : Nat) : Int) = (k : Int) + 4 by omega]; exact heap_new_at rfl, below_alloc (Below.refl _ _) _⟩
  rw [hW2]
  have hp1 : w.heap.size < W1.heap.size := heap_lt Q1.out
  have R1 := Lib.hid (heap_below hb2 Q1.out)
  have HB2 := Lib.hid (HB1.out.trans (hb2.mono (by omega)))
  have R2 := Lib.hid q2
  have c0 := cell_of_heap R1.out 0 _ rfl
  have c2 := cell_of_heap q2 0 _ rfl
  clear hW2 q2 hb2
  generalize W1.heap.size = p at *
  go_wp2_with fail
  refine (HN.out _ (HH.out.below HB2.out)).mono ?_
  rintro e w2 ⟨rfl, hb3⟩
  have hp2 : p < W2.heap.size := heap_lt R2.out
  have X1 := Lib.hid (heap_below hb3 R1.out)
  have X2 := Lib.hid (heap_below hb3 R2.out)
  have HB3 := Lib.hid (HB2.out.trans (hb3.mono (by omega)))
  clear hb3 c0 c2 R1 R2 c18
  go_upto_region 3 with (fail)
  have hp3 : p < w2.heap.size := heap_lt X2.out
  obtain ⟨W3, hW3, q3, hb4⟩ : ∃ W3, w2.alloc (.cells #[.int .i64 n] 3) = W3 ∧ W3.heap[w2.heap.size]? = some (.cells #[.int .i64 n] 3 (0, 0)) ∧ Below w2.heap.size w2 W3 := ⟨_, rfl, heap_new_at rfl, below_alloc (Below.refl _ _) _⟩
  rw [hW3]
  have Y1 := Lib.hid (heap_below hb4 X1.out)
  have Y2 := Lib.hid (heap_below hb4 X2.out)
  have Y3 := Lib.hid q3
  have HB4 := Lib.hid (HB3.out.trans (hb4.mono (by omega)))
  clear hW3 q3 hb4 X1 X2
  generalize w2.heap.size = q at *
  have c0 : ∀ e : Ext W3, e.W.cell? ⟨w.heap.size, 0, none⟩ = some (.pointer (some ⟨mp, 0, none⟩)) := fun e => ext_cell (cell_of_heap Y1.out 0 _ rfl) e
  have c3 : ∀ e : Ext W3, e.W.cell? ⟨q, 0, none⟩ = some (.int .i64 n) := fun e => ext_cell (cell_of_heap Y3.out 0 _ rfl) e
  have c24 : ∀ e : Ext W3, e.W.cell? ⟨mp, 24, none⟩ = some (.bool r) := fun e => ext_cell (Below.cell_of HB4.out C24.out) e
  by_cases h8 : n ≤ 8
  · have g8 : decide ((n : Int) ≤ 8) = true := by simp; omega
    by_cases h0 : n = 0
    · subst h0
      rw [if_pos ⟨h8, .inl rfl⟩] at HSS
      refine wp_region_mix (fun w' => ∃ e : Ext W3, w' = e.W) [(true, 0), (true, 1), (true, 2), (true, 3), (true, 4), (true, 5), (true, 6), (true, 7), (true, 8), (true, 9), (true, 10), (true, 11), (true, 12), (true, 13), (true, 14)] [15, 16] (by kernel_rfl) (by kernel_rfl) (by intro _ _ d _ _ h; cases d <;> exact h) ⟨⟨W3.drew, (Below.refl _ _).drew⟩, rfl⟩ ?_
      simp only [pickM, pickL, List.drop_succ_cons, List.drop_zero]
      repeat (first | (refine mix_pure (by rfl) (by rfl) ?_; intro K hK; go_big_quiet_op; go_big_quiet_on) | (refine mix_nilc ⟨mp, 0, none⟩ (by rfl) (by kernel_rfl) ?_; go_simp) | (refine mix_skip (by rfl) ?_; go_simp))
      refine mix_nil ?_
      clear c0 c3 c24
      have hbd : Below W3.heap.size W3 W3.drew := (Below.refl _ _).drew
      have Z1 := Lib.hid (heap_below hbd Y1.out)
      have Z2 := Lib.hid (heap_below hbd Y2.out)
      have Z3 := Lib.hid (heap_below hbd Y3.out)
      have H3 := Lib.hid (HH.out.below HB4.out.drew)
      have HB5 := Lib.hid HB4.out.drew
      clear hbd Y1 Y2 Y3
      generalize W3.drew = W4 at *
      go_wp2_with fail
      refine (mMust H3.out _).mono ?_
      rintro e w4 ⟨rfl, hA⟩
      obtain ⟨s4, a4, h4, n4, t4⟩ := hA
      have nm : ∀ b, w.heap.size ≤ b → b ∉ s := fun b hb hm => by have := HS.out b hm; omega
      have z1 := t4.heap Z1.out (nm _ (Nat.le_refl _))
      have z2 := t4.heap Z2.out (nm _ (by omega))
      have z3 := t4.heap Z3.out (nm _ (by omega))
      have c0 := cell_of_heap z1 0 _ rfl
      have c2 : w4.cell? ⟨p, 0, none⟩ = some (.int .i64 (k + 4 : Int)) := (cell_of_heap z2 0 _ rfl).trans (by simp)
      have c3 := cell_of_heap z3 0 _ rfl
      have ls4 : ∀ b, w.heap.size ≤ b → b < W4.heap.size → b ∉ s4 := fun b h1 h2 hm => (n4 b hm).elim (nm b h1) (fun h => by omega)
      have b1 : BoxV w4 s4 w.heap.size #[ptr mp] 36 := ⟨z1, ls4 _ (Nat.le_refl _) (heap_lt Z1.out)⟩
      have b2 : BoxV w4 s4 p #[.int .i64 (k + 4 : Nat)] 3 := ⟨z2, ls4 _ (by omega) (heap_lt Z2.out)⟩
      have b3 : BoxV w4 s4 q #[.int .i64 (0 : Nat)] 3 := ⟨z3, ls4 _ (by omega) (heap_lt Z3.out)⟩
      have HA := Lib.hid (mAsk h4 (k + 4 + 8 * (0 : Nat) + 15) (.codeC (k + 4) (0 : Nat)) _ ⟨w.heap.size, p, q, rfl, b1, b2, b3⟩)
      have N4 := Lib.hid n4
      have T4 := Lib.hid t4
      clear z1 z2 z3 b1 b2 b3 ls4 nm n4 t4 h4
      go_wp2_with fail
      refine (ask_at HA.out (by omega)).mono ?_
      rintro e w5 ⟨rfl, hA5⟩
      go_wp2_with fail
      go_end0
      exact ⟨rfl, HSS.out ▸ ((hA5.after N4.out T4.out).pre HB5.out)⟩
    · have g0 : ((n : Int) == 0) = false := by simp; omega
      cases r
      · rw [if_pos ⟨h8, .inr rfl⟩] at HSS
        refine wp_region_mix (fun w' => ∃ e : Ext W3, w' = e.W) [(true, 0), (true, 1), (true, 2), (true, 3), (true, 4), (true, 5), (true, 6), (true, 7), (true, 8), (true, 9), (true, 10), (true, 11), (true, 12), (true, 13), (true, 14)] [15, 16] (by kernel_rfl) (by kernel_rfl) (by intro _ _ d _ _ h; cases d <;> exact h) ⟨⟨W3.drew, (Below.refl _ _).drew⟩, rfl⟩ ?_
        simp only [pickM, pickL, List.drop_succ_cons, List.drop_zero]
        repeat (first | (refine mix_pure (by rfl) (by rfl) ?_; intro K hK; go_big_quiet_op; go_big_quiet_on) | (refine mix_nilc ⟨mp, 0, none⟩ (by rfl) (by kernel_rfl) ?_; go_simp) | (refine mix_skip (by rfl) ?_; go_simp))
        refine mix_nil ?_
        clear c0 c3 c24
        have hbd : Below W3.heap.size W3 W3.drew := (Below.refl _ _).drew
        have Z1 := Lib.hid (heap_below hbd Y1.out)
        have Z2 := Lib.hid (heap_below hbd Y2.out)
        have Z3 := Lib.hid (heap_below hbd Y3.out)
        have H3 := Lib.hid (HH.out.below HB4.out.drew)
        have HB5 := Lib.hid HB4.out.drew
        clear hbd Y1 Y2 Y3
        generalize W3.drew = W4 at *
        go_wp2_with fail
        refine (mMust H3.out _).mono ?_
        rintro e w4 ⟨rfl, hA⟩
        obtain ⟨s4, a4, h4, n4, t4⟩ := hA
        have nm : ∀ b, w.heap.size ≤ b → b ∉ s := fun b hb hm => by have := HS.out b hm; omega
        have z1 := t4.heap Z1.out (nm _ (Nat.le_refl _))
        have z2 := t4.heap Z2.out (nm _ (by omega))
        have z3 := t4.heap Z3.out (nm _ (by omega))
        have c0 := cell_of_heap z1 0 _ rfl
        have c2 : w4.cell? ⟨p, 0, none⟩ = some (.int .i64 (k + 4 : Int)) := (cell_of_heap z2 0 _ rfl).trans (by simp)
        have c3 := cell_of_heap z3 0 _ rfl
        have ls4 : ∀ b, w.heap.size ≤ b → b < W4.heap.size → b ∉ s4 := fun b h1 h2 hm => (n4 b hm).elim (nm b h1) (fun h => by omega)
        have b1 : BoxV w4 s4 w.heap.size #[ptr mp] 36 := ⟨z1, ls4 _ (Nat.le_refl _) (heap_lt Z1.out)⟩
        have b2 : BoxV w4 s4 p #[.int .i64 (k + 4 : Nat)] 3 := ⟨z2, ls4 _ (by omega) (heap_lt Z2.out)⟩
        have b3 : BoxV w4 s4 q #[.int .i64 n] 3 := ⟨z3, ls4 _ (by omega) (heap_lt Z3.out)⟩
        have HA := Lib.hid (mAsk h4 (k + 4 + 8 * n + 15) (.codeC (k + 4) n) _ ⟨w.heap.size, p, q, rfl, b1, b2, b3⟩)
        have N4 := Lib.hid n4
        have T4 := Lib.hid t4
        clear z1 z2 z3 b1 b2 b3 ls4 nm n4 t4 h4
        go_wp2_with fail
        refine (ask_at HA.out (by omega)).mono ?_
        rintro e w5 ⟨rfl, hA5⟩
        go_wp2_with fail
        go_end0
        exact ⟨rfl, HSS.out ▸ ((hA5.after N4.out T4.out).pre HB5.out)⟩
      · rw [if_neg (by rintro ⟨-, h | h⟩; exact h0 h; cases h)] at HSS
        refine wp_region_mix (fun w' => ∃ e : Ext W3, w' = e.W) [(true, 0), (true, 1), (true, 2), (true, 3), (true, 4), (true, 5), (true, 6), (true, 7), (true, 8), (true, 9), (true, 10), (true, 11), (true, 12), (true, 13), (true, 14)] [15, 16] (by kernel_rfl) (by kernel_rfl) (by intro _ _ d _ _ h; cases d <;> exact h) ⟨⟨W3.drew, (Below.refl _ _).drew⟩, rfl⟩ ?_
        simp only [pickM, pickL, List.drop_succ_cons, List.drop_zero]
        repeat (first | (refine mix_pure (by rfl) (by rfl) ?_; intro K hK; go_big_quiet_op; go_big_quiet_on) | (refine mix_nilc ⟨mp, 0, none⟩ (by rfl) (by kernel_rfl) ?_; go_simp) | (refine mix_skip (by rfl) ?_; go_simp))
        refine mix_nil ?_
        clear c0 c3 c24
        have hbd : Below W3.heap.size W3 W3.drew := (Below.refl _ _).drew
        have Z1 := Lib.hid (heap_below hbd Y1.out)
        have Z2 := Lib.hid (heap_below hbd Y2.out)
        have Z3 := Lib.hid (heap_below hbd Y3.out)
        have H3 := Lib.hid (HH.out.below HB4.out.drew)
        have HB5 := Lib.hid HB4.out.drew
        clear hbd Y1 Y2 Y3
        generalize W3.drew = W4 at *
        go_wp2_with fail
        refine (mMust H3.out _).mono ?_
        rintro e w4 ⟨rfl, hA⟩
        obtain ⟨s4, a4, h4, n4, t4⟩ := hA
        have hA4 : MAct _ s mp _ w4 := ⟨s4, a4, h4, n4, t4⟩
        clear h4 n4 t4
        go_wp2_with fail
        go_end0
        exact ⟨rfl, HSS.out ▸ hA4.pre HB5.out⟩
  · have g8 : decide ((n : Int) ≤ 8) = false := by simp; omega
    rw [if_neg (fun h => h8 h.1)] at HSS
    refine wp_region_mix (fun w' => ∃ e : Ext W3, w' = e.W) [(true, 0), (true, 1), (true, 2), (true, 3), (true, 4), (true, 5), (true, 6), (true, 7), (true, 8), (true, 9), (true, 10), (true, 11), (true, 12), (true, 13), (true, 14)] [15, 16] (by kernel_rfl) (by kernel_rfl) (by intro _ _ d _ _ h; cases d <;> exact h) ⟨⟨W3.drew, (Below.refl _ _).drew⟩, rfl⟩ ?_
    simp only [pickM, pickL, List.drop_succ_cons, List.drop_zero]
    repeat (first | (refine mix_pure (by rfl) (by rfl) ?_; intro K hK; go_big_quiet_op; go_big_quiet_on) | (refine mix_nilc ⟨mp, 0, none⟩ (by rfl) (by kernel_rfl) ?_; go_simp) | (refine mix_skip (by rfl) ?_; go_simp))
    refine mix_nil ?_
    clear c0 c3 c24
    have hbd : Below W3.heap.size W3 W3.drew := (Below.refl _ _).drew
    have Z1 := Lib.hid (heap_below hbd Y1.out)
    have Z2 := Lib.hid (heap_below hbd Y2.out)
    have Z3 := Lib.hid (heap_below hbd Y3.out)
    have H3 := Lib.hid (HH.out.below HB4.out.drew)
    have HB5 := Lib.hid HB4.out.drew
    clear hbd Y1 Y2 Y3
    generalize W3.drew = W4 at *
    go_wp2_with fail
    refine (mMust H3.out _).mono ?_
    rintro e w4 ⟨rfl, hA⟩
    obtain ⟨s4, a4, h4, n4, t4⟩ := hA
    have hA4 : MAct _ s mp _ w4 := ⟨s4, a4, h4, n4, t4⟩
    clear h4 n4 t4
    go_wp2_with fail
    go_end0
    exact ⟨rfl, HSS.out ▸ hA4.pre HB5.out⟩
end Go.Proofs.YtlmdkmflbhnlgaaGreat
namespace Go.Proofs.YtlmdkmflbhnlgaaGreat
open Go.RowKit
variable {w : World} {s : List Nat} {mp : Nat} {S : MS} {a : MA}
/-- Cells that hold these values. -/
def Cels (l : List (Addr × Value)) (w : World) : Prop := ∀ x ∈ l, w.cell? x.1 = some x.2
theorem Cels.at {l : List (Addr × Value)} {w : World} (h : Cels l w) (i : Nat) {p : Addr} {v : Value} (hi : l[i]? = some (p, v)) : w.cell? p = some v := h _ (List.mem_of_getElem? hi)
/-- A world of which something holds. -/
structure Sat (C : World → Prop) where
  W : World
  h : C W
theorem Cels.below {l : List (Addr × Value)} {w w' : World} (h : Cels l w) (hb : Below w.heap.size w w') : Cels l w' := fun x hx => Below.cell_of hb (h x hx)
theorem Cels.drew {l : List (Addr × Value)} {w : World} (h : Cels l w) : Cels l w.drew := h.below (Below.refl _ _).drew
theorem oper_mput {P : Program} {o : Oper} {f : Act} {Q : Exit → Act → World → Prop} {K : Act → World → Prop} (h : MR w s mp S a) (ty : TypeId) (x y : Operand) (ho : o.op = .store ty x y)
    (i : Nat) (v : Value) (hx : f.eval x = .pointer (some ⟨mp, i, none⟩)) (hy : f.eval y = v) (h1 : v.oneCell' = true) (hi : (P.info? ty).map (·.size) = some 1) (hin : i < 34)
    (S' : MS) (a' : MA) (hv : (mca S a).setIfInBounds i v = mca S' a')
    (hk : ∀ w', Turn s w w' → MRest w' s mp S.raw S.l S.own S.sf.data S.f.data S.step S.next S.gh a → MRest w' s mp S'.raw S'.l S'.own S'.sf.data S'.f.data S'.step S'.next S'.gh a')
    (hK : ∀ W', Hid (MR W' s mp S' a') → Hid (Turn s w W') → K (f.put o.dst undef) W') : o.wp P f w K Q := by
  have t1 : Turn [mp] w (w.setCell ⟨mp, i, none⟩ v) := (Turn.refl _ _).setCell (p := ⟨mp, i, none⟩) (.inl (by simp)) _
  have h2 : MR (w.setCell ⟨mp, i, none⟩ v) s mp S' a' := ⟨by rw [heap_setCell h.cells i v, hv], hk _ (h.turn1 i v) (h.rest.turnM t1 h.cells)⟩
  have hc : ∃ u, w.cell? ⟨mp, i, none⟩ = some u := by
    have hlt : i < (mca S a).size := by simpa [mca, mcs] using hin
    exact ⟨_, h.cell i _ (Array.getElem?_eq_getElem hlt)⟩
  obtain ⟨u, hc⟩ := hc
  have hz := h.frz i
  unfold Oper.wp execOp
  have hs : (store ⟨mp, i, none⟩ v).run P w = .ok () (w.setCell ⟨mp, i, none⟩ v) := by rw [run_store P w _ v _ h1]; simp [hc, hz]
  have h3 := hK _ h2 (h.turn1 i v)
  have hone : ∀ cs, v ≠ .agg cs := fun cs e => by subst e; simp [Value.oneCell'] at h1
  simp only [ho, hx, hy, Instr.storeAt, Instr.sureAddr, Sem.run_bind, Sem.run_pure, Result.andThen_ok]
  have hsv : (storeVar ty ⟨mp, i, none⟩ v).run P w = .ok () (w.setCell ⟨mp, i, none⟩ v) := by
    have hcs : v.cells = #[v] := by cases v <;> first | rfl | (simp [Value.oneCell'] at h1; done)
    cases hq : P.info? ty with
    | none => simp [hq] at hi
    | some ti =>
      have hs1 : ti.size = 1 := by simpa [hq] using hi
      have hs2 : (store (⟨mp, i, none⟩ : Addr) v).run P w = .ok () (w.setCell ⟨mp, i, none⟩ v) := hs
      simp [storeVar, sizeOf, typeInfo, hq, hcs, hs1, storeCells, hs2, Addr.add]
  rw [hsv]
  exact h3
/-- A cell's store into the machine, in a region that draws its order. -/
theorem mix_mput {P : Program} {ops : Array Oper} {T : Act → World → Prop} {C : World → Prop} {r : List (Bool × Oper)} {o : Oper} {f : Act} {Q : Exit → Act → World → Prop} (h : MR w s mp S a) (hw : Region.wanted o (yielded ops f.tmps) = true) (ty : TypeId) (x y : Operand) (ho : o.op = .store ty x y)
    (i : Nat) (v : Value) (hx : f.eval x = .pointer (some ⟨mp, i, none⟩)) (hy : f.eval y = v) (h1 : v.oneCell' = true) (hi : (P.info? ty).map (·.size) = some 1) (hin : i < 34)
    (S' : MS) (a' : MA) (hv : (mca S a).setIfInBounds i v = mca S' a')
    (hk : ∀ w', Turn s w w' → MRest w' s mp S.raw S.l S.own S.sf.data S.f.data S.step S.next S.gh a → MRest w' s mp S'.raw S'.l S'.own S'.sf.data S'.f.data S'.step S'.next S'.gh a')
    (hC : ∀ W', MR W' s mp S' a' → Turn s w W' → C W')
    (hK : ∀ W', Hid (MR W' s mp S' a') → Hid (Turn s w W') → wpMixL P ops Q C T r (f.put o.dst undef) W') : wpMixL P ops Q C T ((false, o) :: r) f w :=
  mix_eff hw fun _ hK1 => oper_mput h ty x y ho i v hx hy h1 hi hin S' a' hv hk fun W' h2 t2 => hK1 _ _ (hC W' h2.out t2.out) (hK W' h2 t2)
theorem info_slcS : (Tryz.prog.info? 22).map (·.size) = some 1 := by kernel_rfl
theorem BoxV.cell {p : Nat} {cs : Array Value} {t : TypeId} (h : BoxV w s p cs t) (i : Nat) (v : Value) (hv : cs[i]? = some v) : w.cell? ⟨p, i, none⟩ = some v := cell_of_heap h.1 i v hv
set_option maxRecDepth 100000 in
set_option maxHeartbeats 4000000 in
theorem mCodeC (h : MR w s mp S a) (p q r at_ n : Nat) (b1 : BoxV w s p #[ptr mp] 36) (b2 : BoxV w s q #[.int .i64 at_] 3) (b3 : BoxV w s r #[.int .i64 n] 3) (hn : n ≤ 8) (hat : at_ ≤ 100) (hl : S.l.length = at_ + 8 * n + 15) (h01 : ∀ x ∈ S.l, x ≤ 1) :
    Calls Tryz.prog 105 #[.pointer (some ⟨p, 0, none⟩), .pointer (some ⟨q, 0, none⟩), .pointer (some ⟨r, 0, none⟩)] w (MDone w s mp (codeCM S at_ n)) := by
  obtain ⟨j, hj⟩ : ∃ j, at_ + 8 * n = j := ⟨_, rfl⟩
  obtain ⟨d, hd⟩ : ∃ d, 8 * n = d := ⟨_, rfl⟩
  obtain ⟨g, hg, hc1, hc2, -⟩ := h.rest.l.at_ 0 (by omega)
  have hr := h.rest.l.1.rd
  rw [hg] at hr
  have hlen : ((S.l.take j).drop at_).length = d := by rw [List.length_drop, List.length_take]; omega
  have h01' : ∀ x ∈ (S.l.take j).drop at_, x ≤ 1 := fun x hx => h01 x (List.mem_of_mem_take (List.mem_of_mem_drop hx))
  have HP := Lib.hid (fun W c (hW : Rd W (some ⟨g, 0, none⟩) (bys S.l)) k1 k2 => Pack_any g at_ d c _ (.inl rfl) _ W (rd_part hW at_ j) hlen (by omega) (by omega) k1 k2 h01')
  have HF := Lib.hid (fun W (hW : Rd W (some ⟨g, 0, none⟩) (bys S.l)) => CrcFits_any of_1 (by omega) (by omega) g a.lc S.l.length S.l W hW rfl (by omega) (by omega) hc1 hc2 h01)
  have hpl : (packL ((S.l.take j).drop at_)).length = d / 8 := by unfold packL; rw [List.length_map, List.length_range, hlen, nch8 d (by omega)]
  have hs : codeCM S at_ n = endM { S with f := { S.f with data := packL ((S.l.take j).drop at_) }, fits := fitsC 15 17817 0 S.l } := by rw [← hj]; rfl
  rw [hs]
  generalize packL ((S.l.take j).drop at_) = D at *
  generalize fitsC 15 17817 0 S.l = F at *
  have hln : (at_ : Int) + 8 * (n : Int) = (j : Int) := by omega
  have c18 : w.cell? ⟨mp, 18, none⟩ = some (.slice (some ⟨g, 0, none⟩) S.l.length a.lc) := h.cell 18 _ (by rw [← hg]; rfl)
  have hji : ¬ j < at_ := by omega
  have hcne : ¬ a.lc = at_ := by omega
  rw [← hpl] at HP
  have HSS : Hid (∀ k ∈ s, k < w.heap.size) := h.rest.mem.2
  have hnd : j - at_ = d := by omega
  have hcj : ¬ a.lc < j := by omega
  have hjl : ¬ S.l.length < j := by omega
  obtain ⟨L, hL⟩ : ∃ L, S.l.length = L := ⟨_, rfl⟩
  rw [hL] at hl hc1 HF c18 hjl
  have HH := Lib.hid h
  have B1 := Lib.hid b1
  have B2 := Lib.hid b2
  have B3 := Lib.hid b3
  have HR := Lib.hid hr
  let l0 : List (Addr × Value) := [(⟨p, 0, none⟩, ptr mp), (⟨q, 0, none⟩, .int .i64 at_), (⟨r, 0, none⟩, .int .i64 n), (⟨mp, 18, none⟩, .slice (some ⟨g, 0, none⟩) L a.lc)]
  have hce : Cels l0 w := by intro x hx; simp [l0] at hx; rcases hx with rfl | rfl | rfl | rfl; (exact b1.cell 0 _ rfl); (exact b2.cell 0 _ rfl); (exact b3.cell 0 _ rfl); (exact c18)
  have HCE := Lib.hid hce
  have e0 : ∀ e : Sat (Cels l0), e.W.cell? ⟨p, 0, none⟩ = some (.pointer (some ⟨mp, 0, none⟩)) := fun e => Cels.at e.h 0 rfl
  have e1 : ∀ e : Sat (Cels l0), e.W.cell? ⟨q, 0, none⟩ = some (.int .i64 at_) := fun e => Cels.at e.h 1 rfl
  have e2 : ∀ e : Sat (Cels l0), e.W.cell? ⟨r, 0, none⟩ = some (.int .i64 n) := fun e => Cels.at e.h 2 rfl
  have e3 : ∀ e : Sat (Cels l0), e.W.cell? ⟨mp, 18, none⟩ = some (.slice (some ⟨g, 0, none⟩) L a.lc) := fun e => Cels.at e.h 3 rfl
  haveI : Nonempty (Sat (Cels l0)) := ⟨⟨w, hce⟩⟩
  have HCN : Hid (∀ W' S' a', MR W' s mp S' a' → S'.l.length = L → a'.lA = some ⟨g, 0, none⟩ → a'.lc = a.lc → Turn s w W' → Cels l0 W') := by
    intro W' S' a' hm k1 k2 k3 ht x hx
    have hss : ∀ k ∈ s, k ∈ s ∨ w.heap.size ≤ k := fun _ hk => .inl hk
    simp [l0] at hx
    rcases hx with rfl | rfl | rfl | rfl
    · exact (b1.turn ht hss).cell 0 _ rfl
    · exact (b2.turn ht hss).cell 0 _ rfl
    · exact (b3.turn ht hss).cell 0 _ rfl
    · exact hm.cell 18 _ (by rw [← k1, ← k2, ← k3]; rfl)
  have HLL : Hid (S.l.length = L) := hL
  have HLA : Hid (a.lA = some ⟨g, 0, none⟩) := hg
  generalize l0 = l1 at *
  clear hpl hg hL h b1 b2 b3 hr hj hd hlen h01 h01' c18 hs hce hl
  go_enter Tryz.func105, Tryz.ntmps105
  go_wp2_with fail
  refine wp_region_mix (fun w' => ∃ e : Sat (Cels l1), w' = e.W) [(true, 0), (true, 1), (true, 2), (true, 3), (true, 4), (true, 5), (true, 6), (true, 7), (true, 8), (true, 9), (true, 10), (false, 11), (true, 12), (true, 13), (true, 14), (true, 15), (true, 16), (true, 17), (false, 18)] [] (by kernel_rfl) (by kernel_rfl) (by intro _ _ d _ _ h; cases d <;> exact h) ⟨⟨w.drew, HCE.out.drew⟩, rfl⟩ ?_
  simp only [pickM, pickL, List.drop_succ_cons, List.drop_zero]
  repeat (first | (refine mix_pure (by rfl) (by rfl) ?_; intro K hK; go_big_quiet_op; go_big_quiet_on) | (refine mix_nilc ⟨mp, 0, none⟩ (by rfl) (by kernel_rfl) ?_; go_simp))
  refine mix_eff (by rfl) ?_
  intro K hK
  go_simp
  refine (HP.out _ (a.lc - at_) (HR.out.below (Below.refl _ _).drew) (by omega) (by omega)).mono ?_
  rintro e w4 ⟨⟨A', c', rfl, hrow⟩, hb4⟩
  have hb04 : Below w.heap.size w w4 := below_trans (Below.refl _ _).drew hb4
  refine hK _ _ ⟨⟨w4, HCE.out.below hb04⟩, rfl⟩ ?_
  clear hK K
  have H4 := Lib.hid (HH.out.below hb04)
  have HROW := Lib.hid hrow
  have HB4 := Lib.hid hb04
  clear hrow hb4 hb04
  repeat (first | (refine mix_pure (by rfl) (by rfl) ?_; intro K hK; go_big_quiet_op; go_big_quiet_on) | (refine mix_nilc ⟨mp, 0, none⟩ (by rfl) (by kernel_rfl) ?_; go_simp))
  refine mix_mput H4.out (by rfl) 22 (.tmp 20) (.tmp 16) rfl 31 (.slice A' D.length c') (by kernel_rfl) (by kernel_rfl) rfl info_slcS (by decide) { S with f := { S.f with data := D } } { a with fA := A', fc := c' } (by kernel_rfl) (fun w' ht hm => ⟨hm.mem, hm.raw, hm.l, hm.own, hm.rl, hm.ro, hm.lo, hm.sf, (DatU.of HROW.out HSS.out).turn ht (fun _ hk => .inl hk), hm.step, hm.next, hm.gho⟩) (fun W' hm ht => ⟨⟨W', HCN.out _ _ _ hm HLL.out HLA.out rfl ((Turn.of HB4.out).tr ht)⟩, rfl⟩) ?_
  intro W5 H5 T5
  refine mix_nil (wpList_nil ?_)
  go_wp2_with fail
  have hce5 : Cels l1 W5 := HCN.out _ _ _ H5.out HLL.out HLA.out rfl ((Turn.of HB4.out).tr T5.out)
  have R5 : Rd W5 (some ⟨g, 0, none⟩) (bys S.l) := by have := H5.out.rest.l.1.rd; rw [show ({ a with fA := A', fc := c' } : MA).lA = _ from HLA.out] at this; exact this
  have HR5 := Lib.hid R5
  have HCE5 := Lib.hid hce5
  clear R5 hce5
  refine wp_region_mix (fun w' => ∃ e : Sat (Cels l1), w' = e.W) [(true, 0), (true, 1), (true, 2), (true, 3), (true, 4), (false, 5), (true, 6), (true, 7)] [8] (by kernel_rfl) (by kernel_rfl) (by intro _ _ d _ _ h; cases d <;> exact h) ⟨⟨W5.drew, HCE5.out.drew⟩, rfl⟩ ?_
  simp only [pickM, pickL, List.drop_succ_cons, List.drop_zero]
  repeat (first | (refine mix_pure (by rfl) (by rfl) ?_; intro K hK; go_big_quiet_op; go_big_quiet_on) | (refine mix_nilc ⟨mp, 0, none⟩ (by rfl) (by kernel_rfl) ?_; go_simp))
  refine mix_eff (by rfl) ?_
  intro K hK
  go_simp
  refine (HF.out _ (HR5.out.below (Below.refl _ _).drew)).mono ?_
  rintro e w6 ⟨rfl, hb6⟩
  have hb56 : Below W5.heap.size W5 w6 := below_trans (Below.refl _ _).drew hb6
  refine hK _ _ ⟨⟨w6, HCE5.out.below hb56⟩, rfl⟩ ?_
  clear hK K
  have H6 := Lib.hid (H5.out.below hb56)
  have T6 := Lib.hid ((Turn.of (s := s) HB4.out).tr (T5.out.tr (Turn.of hb56)))
  have HCE6 := Lib.hid (HCE5.out.below hb56)
  clear hb6 hb56
  repeat (first | (refine mix_pure (by rfl) (by rfl) ?_; intro K hK; go_big_quiet_op; go_big_quiet_on) | (refine mix_nilc ⟨mp, 0, none⟩ (by rfl) (by kernel_rfl) ?_; go_simp))
  refine mix_nil ?_
  refine wpList_mput H6.out rfl 4 (.tmp 28) (.tmp 26) rfl 32 (.bool F) (by kernel_rfl) (by kernel_rfl) rfl info_boolS (by decide) { S with f := { S.f with data := D }, fits := F } { a with fA := A', fc := c' } (by kernel_rfl) (fun _ _ hm => hm) ?_
  intro W7 H7 T7
  refine wpList_nil ?_
  have hce7 : Cels l1 W7 := HCN.out _ _ _ H7.out HLL.out HLA.out rfl (T6.out.tr T7.out)
  have c0 : W7.cell? ⟨p, 0, none⟩ = some (.pointer (some ⟨mp, 0, none⟩)) := e0 ⟨W7, hce7⟩
  clear hce7
  go_wp2_with fail
  refine (mEnd H7.out).mono ?_
  rintro e w8 ⟨rfl, hA⟩
  go_wp2_with fail
  go_end0
  exact ⟨rfl, hA.after (fun _ hk => .inl hk) (T6.out.tr T7.out)⟩
end Go.Proofs.YtlmdkmflbhnlgaaGreat
-- Of23: The sums of FD frames: their kinds. No condition.
namespace Go.Proofs.YtlmdkmflbhnlgaaGreat
open Go.RowKit
set_option maxRecDepth 100000 in
theorem of_2 : OfK 2 17 92251 65536 := by
  refine ⟨fun W => ?_, by decide, by decide, by decide, by decide⟩
  go_enter Tryz.func103, Tryz.ntmps103
  go_wp2
  exact bodyPost_ret (v := .agg #[.int .i64 17, .int .u64 92251, .int .u64 65536]) (by simp [results, Tryz.results103, go_sem]) rfl ⟨rfl, below_alloc (below_alloc (Below.refl _ _) _) _⟩
set_option maxRecDepth 100000 in
theorem of_3 : OfK 3 21 1058969 1048576 := by
  refine ⟨fun W => ?_, by decide, by decide, by decide, by decide⟩
  go_enter Tryz.func103, Tryz.ntmps103
  go_wp2
  exact bodyPost_ret (v := .agg #[.int .i64 21, .int .u64 1058969, .int .u64 1048576]) (by simp [results, Tryz.results103, go_sem]) rfl ⟨rfl, below_alloc (below_alloc (Below.refl _ _) _) _⟩
end Go.Proofs.YtlmdkmflbhnlgaaGreat
namespace Go.Proofs.YtlmdkmflbhnlgaaGreat
open Go.RowKit
set_option maxRecDepth 100000 in
theorem of_4 : OfK 4 13 6631 1 := by
  refine ⟨fun W => ?_, by decide, by decide, by decide, by decide⟩
  go_enter Tryz.func103, Tryz.ntmps103
  go_wp2
  exact bodyPost_ret (v := .agg #[.int .i64 13, .int .u64 6631, .int .u64 1]) (by simp [results, Tryz.results103, go_sem]) rfl ⟨rfl, below_alloc (below_alloc (Below.refl _ _) _) _⟩
set_option maxRecDepth 100000 in
theorem of_5 : OfK 5 32 4104977171 1 := by
  refine ⟨fun W => ?_, by decide, by decide, by decide, by decide⟩
  go_enter Tryz.func103, Tryz.ntmps103
  go_wp2
  exact bodyPost_ret (v := .agg #[.int .i64 32, .int .u64 4104977171, .int .u64 1]) (by simp [results, Tryz.results103, go_sem]) rfl ⟨rfl, below_alloc (below_alloc (Below.refl _ _) _) _⟩
end Go.Proofs.YtlmdkmflbhnlgaaGreat
-- ScanJ: The machine behind an FD frame: what a closure does with the part that has fixed stuffing. No condition.
namespace Go.Proofs.YtlmdkmflbhnlgaaGreat
open Go.RowKit
variable {w : World} {s : List Nat} {mp : Nat} {S : MS} {a : MA}
theorem kFits_any (k g c n : Nat) (l : List Nat) (w : World) (hk : k = 2 ∨ k = 3) (hr : Rd w (some ⟨g, 0, none⟩) (bys l)) (hn : l.length = n) (hn2 : n ≤ 65536) (hs : kSize k ≤ n) (hc1 : n ≤ c) (hc2 : c ≤ 9223372036854775807) (h01 : ∀ x ∈ l, x ≤ 1) :
    Calls Tryz.prog 107 #[.int .i64 k, .slice (some ⟨g, 0, none⟩) n c] w fun e w' => e = .returned (.bool (fitsK k l)) ∧ Below w.heap.size w w' := by
  rcases hk with rfl | rfl
  · exact CrcFits_any of_2 (by omega) (by omega) g c n l w hr hn hn2 hs hc1 hc2 h01
  · exact CrcFits_any of_3 (by omega) (by omega) g c n l w hr hn hn2 hs hc1 hc2 h01
theorem cat2_any (b n m : Nat) (A1 A2 : Option Addr) (c1 c2 d : Nat) (l1 l2 : List Nat) (w : World) (hb : w.heap[b]? = some (.cells #[.slice A1 n c1, .slice A2 m c2] 22 (0, 0))) (h1 : Rd w A1 (bys l1)) (h2 : Rd w A2 (bys l2)) (k1 : l1.length = n) (k2 : l2.length = m) (n1 : l1 ≠ []) (n2 : l2 ≠ []) (hN : n + m ≤ 1000000) :
    Calls Tryz.prog 55 #[.slice (some ⟨b, 0, none⟩) 2 d] w fun e w' => (∃ A' c', e = .returned (.slice A' (n + m : Nat) c') ∧ Row w' w.heap.size 5 A' c' (bys (l1 ++ l2))) ∧ Below w.heap.size w w' := by
  have h := concat_any (some ⟨b, 0, none⟩) d 2 (n + m) [(A1, c1, l1), (A2, c2, l2)] w ?_ rfl ?_ ?_ hN (by omega)
  · simpa [partsL] using h
  · subst k1; subst k2; exact Rd.blk hb
  · intro p hp
    simp at hp
    rcases hp with rfl | rfl
    · exact ⟨h1, fun e => absurd e n1⟩
    · exact ⟨h2, fun e => absurd e n2⟩
  · simp [partsL, k1, k2]
theorem mix_skipF {P : Program} {ops : Array Oper} {T : Act → World → Prop} {C : World → Prop} {Q : Exit → Act → World → Prop} {r : List (Bool × Oper)} {f : Act} {w : World} {o : Oper} (hw : Region.wanted o (yielded ops f.tmps) = false) (hC : C w)
    (h : wpMixL P ops Q C T r (f.put o.dst undef) w) : wpMixL P ops Q C T ((false, o) :: r) f w := by
  unfold wpMixL
  rw [if_neg (by rw [hw]; simp)]
  exact ⟨hC, h⟩
set_option maxRecDepth 100000 in
set_option maxHeartbeats 4000000 in
theorem mFdFits (h : MR w s mp S a) (p q k : Nat) (b1 : BoxV w s p #[ptr mp] 36) (b2 : BoxV w s q #[.int .i64 k] 3) (hk : k = 2 ∨ k = 3) (g c n : Nat) (l : List Nat) (hr : Rd w (some ⟨g, 0, none⟩) (bys l)) (hn : l.length = n) (hn4 : kSize k + 4 = n) (hc1 : n ≤ c) (hc2 : c ≤ 9223372036854775807) (h01 : ∀ x ∈ l, x ≤ 1) (hraw0 : 0 < S.raw.length) (hraw : S.raw.length ≤ 30000) (hraw1 : ∀ x ∈ S.raw, x ≤ 1) :
    Calls Tryz.prog 118 #[.slice (some ⟨g, 0, none⟩) n c, .pointer (some ⟨p, 0, none⟩), .pointer (some ⟨q, 0, none⟩)] w (MDone w s mp (fdFitsM S k l)) := by
  have hn30 : n ≤ 30000 := by have : kSize k ≤ 21 := by unfold kSize; split <;> omega
                              omega
  have hk0 : kSize k ≤ n := by omega
  have hn4' : 4 ≤ n := by omega
  obtain ⟨g2, hg2, hd1, hd2, -⟩ := h.rest.raw.at_ 0 hraw0
  obtain ⟨m, hm⟩ : ∃ m, S.raw.length = m := ⟨_, rfl⟩
  have HT := Lib.hid (fun W (hW : MR W s mp S a) (hR : Rd W (some ⟨g, 0, none⟩) (bys l)) => mTells hW (some ⟨g, 0, none⟩) c (l.take 4) (rd_take hR 4) (by rw [List.length_take]; omega) (fun x hx => h01 x (List.mem_of_mem_take hx)) (by omega) hraw1)
  have HK := Lib.hid (fun W g' c' (hR : Rd W (some ⟨g', 0, none⟩) (bys (S.raw ++ l))) k1 k2 => kFits_any k g' c' (m + n) (S.raw ++ l) W hk hR (by rw [List.length_append, hm, hn]) (by omega) (by omega) k1 k2 (fun x hx => (List.mem_append.1 hx).elim (hraw1 x) (h01 x)))
  have HC := Lib.hid (fun W b d (hb : W.heap[b]? = some (.cells #[.slice (some ⟨g2, 0, none⟩) m a.rc, .slice (some ⟨g, 0, none⟩) n c] 22 (0, 0))) (h1 : Rd W (some ⟨g2, 0, none⟩) (bys S.raw)) (h2 : Rd W (some ⟨g, 0, none⟩) (bys l)) => cat2_any b m n _ _ a.rc c d S.raw l W hb h1 h2 hm hn (by intro e; rw [e] at hraw0; cases hraw0) (by intro e; rw [e] at hn; simp at hn; omega) (by omega))
  have hs : fdFitsM S k l = endM { S with fits := tellsM S.raw (l.take 4) && fitsK k (S.raw ++ l) } := rfl
  rw [hs]
  generalize tellsM S.raw (l.take 4) = T at *
  generalize fitsK k (S.raw ++ l) = F at *
  have c17 : w.cell? ⟨mp, 17, none⟩ = some (.slice (some ⟨g2, 0, none⟩) m a.rc) := h.cell 17 _ (by rw [← hg2, ← hm]; rfl)
  have HH := Lib.hid h
  have HR := Lib.hid hr
  have HA := Lib.hid hg2
  have HL : Hid (S.raw.length + l.length = m + n) := by rw [hm, hn]; exact Lib.hid rfl
  have hml : 0 < S.raw.length := hraw0
  let l0 : List (Addr × Value) := [(⟨p, 0, none⟩, ptr mp), (⟨q, 0, none⟩, .int .i64 k), (⟨mp, 17, none⟩, .slice (some ⟨g2, 0, none⟩) m a.rc)]
  have hce : Cels l0 w := by intro x hx; simp [l0] at hx; rcases hx with rfl | rfl | rfl; (exact b1.cell 0 _ rfl); (exact b2.cell 0 _ rfl); (exact c17)
  have HCE := Lib.hid hce
  have e0 : ∀ e : Sat (Cels l0), e.W.cell? ⟨p, 0, none⟩ = some (.pointer (some ⟨mp, 0, none⟩)) := fun e => Cels.at e.h 0 rfl
  have e1 : ∀ e : Sat (Cels l0), e.W.cell? ⟨q, 0, none⟩ = some (.int .i64 k) := fun e => Cels.at e.h 1 rfl
  have e2 : ∀ e : Sat (Cels l0), e.W.cell? ⟨mp, 17, none⟩ = some (.slice (some ⟨g2, 0, none⟩) m a.rc) := fun e => Cels.at e.h 2 rfl
  have B1 := Lib.hid b1
  haveI : Nonempty (Sat (Cels l0)) := ⟨⟨w, hce⟩⟩
  generalize l0 = l1 at *
  have hc4 : ¬ c < 4 := by omega
  have hc0 : ¬ c = 0 := by omega
  clear h b1 b2 hr hm hn h01 c17 hs hce hg2 hraw1 hraw0 hraw
  cases T
  · go_enter Tryz.func118, Tryz.ntmps118
    go_wp2_with fail
    refine wp_region_mix (fun w' => ∃ e : Sat (Cels l1), w' = e.W) [(true, 0), (true, 1), (true, 2), (true, 3), (false, 4), (true, 5), (true, 6), (true, 7), (true, 8), (true, 9), (true, 10), (true, 11), (false, 12), (false, 13), (false, 14), (true, 15), (true, 16), (true, 17)] [18] (by kernel_rfl) (by kernel_rfl) (by intro _ _ d _ _ h; cases d <;> exact h) ⟨⟨w.drew, HCE.out.drew⟩, rfl⟩ ?_
    simp only [pickM, pickL, List.drop_succ_cons, List.drop_zero]
    repeat (first | (refine mix_pure (by rfl) (by rfl) ?_; intro K hK; go_big_quiet_op; go_big_quiet_on) | (refine mix_nilc ⟨mp, 0, none⟩ (by rfl) (by kernel_rfl) ?_; go_simp))
    refine mix_eff (by rfl) ?_
    intro K hK
    go_simp
    refine (HT.out _ HH.out.drew (HR.out.below (Below.refl _ _).drew)).mono ?_
    rintro e w2 ⟨rfl, hb2⟩
    have hb02 : Below w.heap.size w w2 := below_trans (Below.refl _ _).drew hb2
    refine hK _ _ ⟨⟨w2, HCE.out.below hb02⟩, rfl⟩ ?_
    clear hK K hb2
    have HB2 := Lib.hid hb02
    have HCX := Lib.hid (HCE.out.below hb02)
    have H2 := Lib.hid (HH.out.below hb02)
    clear hb02
    repeat (first | (refine mix_pure (by rfl) (by rfl) ?_; intro K hK; go_big_quiet_op; go_big_quiet_on) | (refine mix_nilc ⟨mp, 0, none⟩ (by rfl) (by kernel_rfl) ?_; go_simp) | (refine mix_skip (by rfl) ?_; go_simp) | (refine mix_skipF (by rfl) ⟨⟨_, HCX.out⟩, rfl⟩ ?_; go_simp))
    refine mix_nil ?_
    refine wpList_mput H2.out rfl 4 (.tmp 21) (.tmp 19) rfl 32 (.bool false) (by kernel_rfl) (by kernel_rfl) rfl info_boolS (by decide) { S with fits := false } a (by kernel_rfl) (fun _ _ hm => hm) ?_
    intro W7 H7 T7
    refine wpList_nil ?_
    have T8 := Lib.hid ((Turn.of (s := s) HB2.out).tr T7.out)
    have c0 : W7.cell? ⟨p, 0, none⟩ = some (.pointer (some ⟨mp, 0, none⟩)) := (B1.out.turn T8.out (fun _ hk => .inl hk)).cell 0 _ rfl
    go_wp2_with fail
    refine (mEnd H7.out).mono ?_
    rintro e w8 ⟨rfl, hA⟩
    go_wp2_with fail
    go_end0
    exact ⟨rfl, hA.after (fun _ hk => .inl hk) T8.out⟩
  · go_enter Tryz.func118, Tryz.ntmps118
    go_wp2_with fail
    refine wp_region_mix (fun w' => ∃ e : Sat (Cels l1), w' = e.W) [(true, 0), (true, 1), (true, 2), (true, 3), (false, 4), (true, 5), (true, 6), (true, 7), (true, 8), (true, 9), (true, 10), (true, 11), (false, 12), (false, 13), (false, 14), (true, 15), (true, 16), (true, 17)] [18] (by kernel_rfl) (by kernel_rfl) (by intro _ _ d _ _ h; cases d <;> exact h) ⟨⟨w.drew, HCE.out.drew⟩, rfl⟩ ?_
    simp only [pickM, pickL, List.drop_succ_cons, List.drop_zero]
    repeat (first | (refine mix_pure (by rfl) (by rfl) ?_; intro K hK; go_big_quiet_op; go_big_quiet_on) | (refine mix_nilc ⟨mp, 0, none⟩ (by rfl) (by kernel_rfl) ?_; go_simp))
    refine mix_eff (by rfl) ?_
    intro K hK
    go_simp
    refine (HT.out _ HH.out.drew (HR.out.below (Below.refl _ _).drew)).mono ?_
    rintro e w2 ⟨rfl, hb2⟩
    have hb02 : Below w.heap.size w w2 := below_trans (Below.refl _ _).drew hb2
    refine hK _ _ ⟨⟨w2, HCE.out.below hb02⟩, rfl⟩ ?_
    clear hK K hb2
    have HB2 := Lib.hid hb02
    have HCX := Lib.hid (HCE.out.below hb02)
    have H2 := Lib.hid (HH.out.below hb02)
    clear hb02
    repeat (first | (refine mix_pure (by rfl) (by rfl) ?_; intro K hK; go_big_quiet_op; go_big_quiet_on) | (refine mix_nilc ⟨mp, 0, none⟩ (by rfl) (by kernel_rfl) ?_; go_simp))
    refine mix_eff (by rfl) ?_
    intro K hK
    go_simp
    have hb3 : Below w2.heap.size w2 (w2.alloc (.cells #[.slice (some ⟨g2, 0, none⟩) m a.rc, .slice (some ⟨g, 0, none⟩) n c] 22)) := below_alloc (Below.refl _ _) _
    have hblk : (w2.alloc (.cells #[.slice (some ⟨g2, 0, none⟩) m a.rc, .slice (some ⟨g, 0, none⟩) n c] 22)).heap[w2.heap.size]? = _ := heap_new_at rfl
    refine hK _ _ ⟨⟨_, HCX.out.below hb3⟩, rfl⟩ ?_
    clear hK K
    have HCX3 := Lib.hid (HCX.out.below hb3)
    have H3 := Lib.hid (H2.out.below hb3)
    have HB3 := Lib.hid (below_trans HB2.out hb3)
    have HBLK := Lib.hid hblk
    clear hblk hb3
    generalize w2.alloc (.cells #[.slice (some ⟨g2, 0, none⟩) m a.rc, .slice (some ⟨g, 0, none⟩) n c] 22) = W3 at *
    generalize w2.heap.size = b at *
    refine mix_eff (by rfl) ?_
    intro K hK
    go_simp
    have hraw3 : Rd W3 (some ⟨g2, 0, none⟩) (bys S.raw) := by have := H3.out.rest.raw.1.rd; rwa [HA.out] at this
    refine (HC.out W3 b _ HBLK.out hraw3 (HR.out.below HB3.out)).mono ?_
    rintro e w4 ⟨⟨A4, c4, rfl, hrow⟩, hb4⟩
    refine hK _ _ ⟨⟨_, HCX3.out.below hb4⟩, rfl⟩ ?_
    clear hK K hraw3
    obtain ⟨g4, rfl | h0⟩ := hrow.form
    rotate_left
    · rw [bys_length, List.length_append] at h0; omega
    have k1 := hrow.cap
    have k2 := hrow.capm
    have HRD := Lib.hid hrow.rd
    have HCX4 := Lib.hid (HCX3.out.below hb4)
    have H4 := Lib.hid (H3.out.below hb4)
    have HB4 := Lib.hid (below_trans HB3.out hb4)
    clear hrow hb4
    rw [bys_length, List.length_append, HL.out] at k1
    refine mix_eff (by rfl) ?_
    intro K hK
    go_simp
    refine (HK.out w4 g4 c4 HRD.out k1 k2).mono ?_
    rintro e w5 ⟨rfl, hb5⟩
    refine hK _ _ ⟨⟨_, HCX4.out.below hb5⟩, rfl⟩ ?_
    clear hK K k1 k2
    have H5 := Lib.hid (H4.out.below hb5)
    have HB5 := Lib.hid (below_trans HB4.out hb5)
    clear hb5
    repeat (first | (refine mix_pure (by rfl) (by rfl) ?_; intro K hK; go_big_quiet_op; go_big_quiet_on) | (refine mix_nilc ⟨mp, 0, none⟩ (by rfl) (by kernel_rfl) ?_; go_simp))
    refine mix_nil ?_
    refine wpList_mput H5.out rfl 4 (.tmp 21) (.tmp 19) rfl 32 (.bool F) (by kernel_rfl) (by kernel_rfl) rfl info_boolS (by decide) { S with fits := F } a (by kernel_rfl) (fun _ _ hm => hm) ?_
    intro W7 H7 T7
    refine wpList_nil ?_
    have T8 := Lib.hid ((Turn.of (s := s) HB5.out).tr T7.out)
    have c0 : W7.cell? ⟨p, 0, none⟩ = some (.pointer (some ⟨mp, 0, none⟩)) := (B1.out.turn T8.out (fun _ hk => .inl hk)).cell 0 _ rfl
    go_wp2_with fail
    refine (mEnd H7.out).mono ?_
    rintro e w8 ⟨rfl, hA⟩
    go_wp2_with fail
    go_end0
    exact ⟨rfl, hA.after (fun _ hk => .inl hk) T8.out⟩
end Go.Proofs.YtlmdkmflbhnlgaaGreat
namespace Go.Proofs.YtlmdkmflbhnlgaaGreat
open Go.RowKit
variable {w : World} {s : List Nat} {mp : Nat} {S : MS} {a : MA}
theorem kLen_any (k : Nat) (w : World) (hk : k = 2 ∨ k = 3) : Calls Tryz.prog 91 #[.int .i64 k] w fun e w' => e = .returned (.int .i64 (kSize k)) ∧ Below w.heap.size w w' := by
  rcases hk with rfl | rfl
  · exact Size_any of_2 w
  · exact Size_any of_3 w
theorem part_at {P : Program} {f : FuncId} {p x v : Value} {n : Nat} {m : Int} {W : World} {R : Ending → World → Prop} (h : Calls P f #[p, x, .int .i64 n, v] W R) (e : m = n) : Calls P f #[p, x, .int .i64 m, v] W R := by rw [e]; exact h
theorem packTail_any (g k L d lc : Nat) (l : List Nat) (w : World) (hr : Rd w (some ⟨g, 0, none⟩) (bys l)) (hl : l.length = L) (hd : L - k = d) (hk : k ≤ L) (h8 : d % 8 = 0) (hL : L ≤ 65536) (hc1 : L ≤ lc) (hc2 : lc ≤ 9223372036854775807) (h01 : ∀ x ∈ l, x ≤ 1) :
    Calls Tryz.prog 106 #[.slice (if lc = k then some ⟨g, 0, none⟩ else some ⟨g, k, none⟩) d (lc - k)] w fun e w' => (∃ A' c', e = .returned (.tuple #[.slice A' (packL (l.drop k)).length c', .int .i64 0]) ∧ Row w' w.heap.size 5 A' c' (bys (packL (l.drop k)))) ∧ Below w.heap.size w w' := by
  have hlen : (l.drop k).length = d := by rw [List.length_drop]; omega
  have hpl : (packL (l.drop k)).length = d / 8 := by unfold packL; rw [List.length_map, List.length_range, hlen, nch8 d h8]
  have h01' : ∀ x ∈ l.drop k, x ≤ 1 := fun x hx => h01 x (List.mem_of_mem_drop hx)
  rw [hpl]
  by_cases h : lc = k
  · rw [if_pos h]
    have h0 : l.drop k = [] := List.eq_nil_of_length_eq_zero (by omega)
    exact Pack_any g 0 d (lc - k) _ (.inl rfl) (l.drop k) w (by rw [h0]; exact Rd.nil _ _) hlen (by omega) h8 (by omega) (by omega) h01'
  · rw [if_neg h]
    have hr' := rd_drop hr k
    rw [Nat.zero_add] at hr'
    exact Pack_any g k d (lc - k) _ (.inl rfl) (l.drop k) w hr' hlen (by omega) h8 (by omega) (by omega) h01'
set_option maxRecDepth 100000 in
set_option maxHeartbeats 4000000 in
theorem mFdData (h : MR w s mp S a) (p q size : Nat) (b1 : BoxV w s p #[ptr mp] 36) (b2 : BoxV w s q #[.int .i64 size] 3) (hz : size ≤ 64) (hl : S.l.length = 22 + 8 * size) (h01 : ∀ x ∈ S.l, x ≤ 1) (hraw : 0 < S.raw.length) :
    Calls Tryz.prog 116 #[.pointer (some ⟨p, 0, none⟩), .pointer (some ⟨q, 0, none⟩)] w (MDone w s mp (fdDataM S size)) := by
  obtain ⟨g, hg, hc1, hc2, -⟩ := h.rest.l.at_ 0 (by omega)
  obtain ⟨L, hL⟩ : ∃ L, S.l.length = L := ⟨_, rfl⟩
  obtain ⟨d, hd⟩ : ∃ d, L - 22 = d := ⟨_, rfl⟩
  have hr := h.rest.l.1.rd
  rw [hg] at hr
  rw [hL] at hc1 hl
  have HP := Lib.hid (fun W (hW : Rd W (some ⟨g, 0, none⟩) (bys S.l)) => packTail_any g 22 L d a.lc S.l W hW hL hd (by omega) (by omega) (by omega) hc1 hc2 h01)
  have c18 : w.cell? ⟨mp, 18, none⟩ = some (.slice (some ⟨g, 0, none⟩) L a.lc) := h.cell 18 _ (by rw [← hg, ← hL]; rfl)
  have hs : fdDataM S size = partM { S with f := { S.f with data := packL (S.l.drop 22) } } 4 true (4 + kSize (if 16 < size then 3 else 2)) (.fd (if 16 < size then 3 else 2)) := rfl
  rw [hs]
  obtain ⟨kd, hkd⟩ : ∃ kd, (if 16 < size then 3 else 2) = kd := ⟨_, rfl⟩
  rw [hkd]
  have HKD := Lib.hid hkd
  generalize packL (S.l.drop 22) = D at *
  have HKL := Lib.hid (fun k W hk => kLen_any k W hk)
  have HPT := Lib.hid (fun W s' S' a' (hW : MR W s' mp S' a') d f0 f1 f2 hv hr n hn => mPart hW 4 n true d f0 f1 f2 hv hr (by omega) (by omega) hn)
  have HH := Lib.hid h
  have HR := Lib.hid hr
  have HLA := Lib.hid hg
  have HLL := Lib.hid hL
  have HRAW := Lib.hid hraw
  have HS : Hid (∀ k ∈ s, k < w.heap.size) := h.rest.mem.2
  let l0 : List (Addr × Value) := [(⟨p, 0, none⟩, ptr mp), (⟨q, 0, none⟩, .int .i64 size), (⟨mp, 18, none⟩, .slice (some ⟨g, 0, none⟩) L a.lc)]
  have hce : Cels l0 w := by intro x hx; simp [l0] at hx; rcases hx with rfl | rfl | rfl; (exact b1.cell 0 _ rfl); (exact b2.cell 0 _ rfl); (exact c18)
  have HCE := Lib.hid hce
  have e0 : ∀ e : Sat (Cels l0), e.W.cell? ⟨p, 0, none⟩ = some (.pointer (some ⟨mp, 0, none⟩)) := fun e => Cels.at e.h 0 rfl
  have e1 : ∀ e : Sat (Cels l0), e.W.cell? ⟨q, 0, none⟩ = some (.int .i64 size) := fun e => Cels.at e.h 1 rfl
  have e2 : ∀ e : Sat (Cels l0), e.W.cell? ⟨mp, 18, none⟩ = some (.slice (some ⟨g, 0, none⟩) L a.lc) := fun e => Cels.at e.h 2 rfl
  have HCN : Hid (∀ W' S' a', MR W' s mp S' a' → S'.l.length = L → a'.lA = some ⟨g, 0, none⟩ → a'.lc = a.lc → Turn s w W' → Cels l0 W') := by
    intro W' S' a' hm k1 k2 k3 ht x hx
    have hss : ∀ k ∈ s, k ∈ s ∨ w.heap.size ≤ k := fun _ hk => .inl hk
    simp [l0] at hx
    rcases hx with rfl | rfl | rfl
    · exact (b1.turn ht hss).cell 0 _ rfl
    · exact (b2.turn ht hss).cell 0 _ rfl
    · exact hm.cell 18 _ (by rw [← k1, ← k2, ← k3]; rfl)
  have B1 := Lib.hid b1
  have B2 := Lib.hid b2
  haveI : Nonempty (Sat (Cels l0)) := ⟨⟨w, hce⟩⟩
  generalize l0 = l1 at *
  have hc22 : ¬ a.lc < L := by omega
  have hL22 : ¬ L < 22 := by omega
  clear hkd h b1 b2 hr h01 c18 hs hce hg hL hraw hl
  go_enter Tryz.func116, Tryz.ntmps116
  go_wp2_with fail
  refine wp_region_mix (fun w' => ∃ e : Sat (Cels l1), w' = e.W) [(true, 0), (true, 1), (true, 2), (true, 3), (true, 4), (true, 5), (false, 6), (true, 7), (true, 8), (true, 9), (true, 10), (true, 11), (true, 12), (false, 13)] [] (by kernel_rfl) (by kernel_rfl) (by intro _ _ d _ _ h; cases d <;> exact h) ⟨⟨w.drew, HCE.out.drew⟩, rfl⟩ ?_
  simp only [pickM, pickL, List.drop_succ_cons, List.drop_zero]
  repeat (first | (refine mix_pure (by rfl) (by rfl) ?_; intro K hK; go_big_quiet_op; go_big_quiet_on) | (refine mix_nilc ⟨mp, 0, none⟩ (by rfl) (by kernel_rfl) ?_; go_simp))
  refine mix_eff (by rfl) ?_
  intro K hK
  go_simp
  refine (HP.out _ (HR.out.below (Below.refl _ _).drew)).mono ?_
  rintro e w4 ⟨⟨A', c', rfl, hrow⟩, hb4⟩
  have hb04 : Below w.heap.size w w4 := below_trans (Below.refl _ _).drew hb4
  refine hK _ _ ⟨⟨w4, HCE.out.below hb04⟩, rfl⟩ ?_
  clear hK K
  have H4 := Lib.hid (HH.out.below hb04)
  have HROW := Lib.hid hrow
  have HB4 := Lib.hid hb04
  clear hrow hb4 hb04
  repeat (first | (refine mix_pure (by rfl) (by rfl) ?_; intro K hK; go_big_quiet_op; go_big_quiet_on) | (refine mix_nilc ⟨mp, 0, none⟩ (by rfl) (by kernel_rfl) ?_; go_simp))
  refine mix_mput H4.out (by rfl) 22 (.tmp 15) (.tmp 11) rfl 31 (.slice A' D.length c') (by kernel_rfl) (by kernel_rfl) rfl info_slcS (by decide) { S with f := { S.f with data := D } } { a with fA := A', fc := c' } (by kernel_rfl) (fun w' ht hm => ⟨hm.mem, hm.raw, hm.l, hm.own, hm.rl, hm.ro, hm.lo, hm.sf, (DatU.of HROW.out HS.out).turn ht (fun _ hk => .inl hk), hm.step, hm.next, hm.gho⟩) (fun W' hm ht => ⟨⟨W', HCN.out _ _ _ hm HLL.out HLA.out rfl ((Turn.of HB4.out).tr ht)⟩, rfl⟩) ?_
  intro W5 H5 T5
  refine mix_nil (wpList_nil ?_)
  generalize (if a.lc = 22 then (some ⟨g, 0, none⟩ : Option Addr) else some ⟨g, 22, none⟩) = A9
  have T05 : Hid (Turn s w W5) := (Turn.of HB4.out).tr T5.out
  have C1 := Lib.hid (B1.out.turn T05.out (fun _ hk => .inl hk))
  have C2 := Lib.hid (B2.out.turn T05.out (fun _ hk => .inl hk))
  clear T5 H4 HROW HB4 HCE
  go_upto_region 2 with (fail)
  obtain ⟨W6, hW6, q6, hb6⟩ : ∃ W6, W5.alloc (.cells #[.int .i64 2] 3) = W6 ∧ W6.heap[W5.heap.size]? = some (.cells #[.int .i64 2] 3 (0, 0)) ∧ Below W5.heap.size W5 W6 := ⟨_, rfl, heap_new_at rfl, below_alloc (Below.refl _ _) _⟩
  rw [hW6]
  have H6 := Lib.hid (H5.out.below hb6)
  have D1 := Lib.hid (C1.out.turn (Turn.of hb6) (fun _ hk => .inl hk))
  have D2 := Lib.hid (C2.out.turn (Turn.of hb6) (fun _ hk => .inl hk))
  have Q6 := Lib.hid q6
  have T06 : Hid (Turn s w W6) := T05.out.tr (Turn.of hb6)
  have hnew : ∀ k ∈ s, k < W5.heap.size := H5.out.rest.mem.2
  have HNW := Lib.hid hnew
  have c2 : W6.cell? ⟨q, 0, none⟩ = some (.int .i64 size) := D2.out.cell 0 _ rfl
  have hp5 : p < W5.heap.size := heap_lt C1.out.1
  obtain ⟨b, hbe⟩ : ∃ b, W5.heap.size = b := ⟨_, rfl⟩
  rw [hbe] at Q6 HNW hp5 ⊢
  have HBE := Lib.hid hbe
  have HB6 := Lib.hid hb6
  clear hW6 q6 hb6 C1 C2 hnew hbe
  by_cases h16 : 16 < size
  · have g16 : decide ((16 : Int) < (size : Int)) = true := by simp; omega
    have hkd : kd = 3 := by rw [← HKD.out, if_pos h16]
    subst hkd
    go_wp2_with (first
      | (refine wpList_sput Q6.out rfl 3 (.tmp 2) (.const (.int .i64 3)) rfl 0 (.int .i64 3) (by kernel_rfl) (by kernel_rfl) rfl info_intS (by simp) #[.int .i64 3] (by simp) ?_; intro W7 Q7 T7)
      | fail)
    have hb67 : Below b W6 W7 := Below.of_turn T7.out (Nat.le_refl _) (by have := heap_lt Q6.out; omega)
    have hb57 : Below W5.heap.size W5 W7 := by rw [HBE.out]; exact (HBE.out ▸ HB6.out : Below b W5 W6).trans hb67
    have H7 := Lib.hid (H5.out.below hb57)
    have T07 : Hid (Turn s w W7) := T05.out.tr (Turn.of hb57)
    have G1 : Hid (BoxV W7 s p #[ptr mp] 36) := ⟨(heap_belowG hb67 hp5 D1.out.1), D1.out.2⟩
    clear hb67 hb57 T7 T06 H6 D1 D2 Q6 H5
    have f0 : ∀ e : Ext W7, e.W.cell? ⟨p, 0, none⟩ = some (.pointer (some ⟨mp, 0, none⟩)) := fun e => ext_cell (G1.out.cell 0 _ rfl) e
    have f2 : ∀ e : Ext W7, e.W.cell? ⟨b, 0, none⟩ = some (.int .i64 3) := fun e => ext_cell (cell_of_heap Q7.out 0 _ rfl) e
    clear c2 e0 e1 e2
    refine wp_region_mix (fun w' => ∃ e : Ext W7, w' = e.W) [(true, 0), (true, 1), (true, 2), (true, 5), (false, 3), (true, 4)] [6] (by kernel_rfl) (by kernel_rfl) (by intro _ _ d _ _ h; cases d <;> exact h) ⟨⟨W7.drew, (Below.refl _ _).drew⟩, rfl⟩ ?_
    simp only [pickM, pickL, List.drop_succ_cons, List.drop_zero]
    repeat (first | (refine mix_pure (by rfl) (by rfl) ?_; intro K hK; go_big_quiet_op; go_big_quiet_on) | (refine mix_nilc ⟨mp, 0, none⟩ (by rfl) (by kernel_rfl) ?_; go_simp))
    refine mix_eff (by rfl) ?_
    intro K hK
    go_simp
    refine (HKL.out 3 _ (by omega)).mono ?_
    rintro e w8 ⟨rfl, hb8⟩
    have hb78 : Below W7.heap.size W7 w8 := below_trans (Below.refl _ _).drew hb8
    refine hK _ _ ⟨⟨w8, hb78⟩, rfl⟩ ?_
    clear hK K
    have H8 := Lib.hid (H7.out.below hb78)
    have T8 := Lib.hid (T07.out.tr (Turn.of hb78))
    have E1 := Lib.hid (G1.out.turn (Turn.of (s := s) hb78) (fun _ hk => .inl hk))
    have E2 : Hid (BoxV w8 s b #[.int .i64 3] 3) := ⟨heap_below hb78 Q7.out, fun hm => by have := HNW.out b hm; omega⟩
    clear hb8 hb78 f0 f2
    repeat (first | (refine mix_pure (by rfl) (by rfl) ?_; intro K hK; go_big_quiet_op; go_big_quiet_on) | (refine mix_nilc ⟨mp, 0, none⟩ (by rfl) (by kernel_rfl) ?_; go_simp))
    refine mix_nil ?_
    have hke : kSize 3 = 21 := rfl
    rw [hke] at *
    have HFIN := Lib.hid (HPT.out w8 s _ _ H8.out (.fd 3) (.func 118) #[] #[ptr p, ptr b] ⟨p, b, rfl, E1.out, E2.out⟩ HRAW.out (4 + 21) (by omega))
    go_wp2_with fail
    refine (part_at HFIN.out (by kernel_rfl)).mono ?_
    rintro e w9 ⟨rfl, hA⟩
    go_wp2_with fail
    go_end0
    exact ⟨rfl, hA.after (fun _ hk => .inl hk) T8.out⟩
  · have g16 : decide ((16 : Int) < (size : Int)) = false := by simp; omega
    have hkd : kd = 2 := by rw [← HKD.out, if_neg h16]
    subst hkd
    go_wp2_with fail
    have f0 : ∀ e : Ext W6, e.W.cell? ⟨p, 0, none⟩ = some (.pointer (some ⟨mp, 0, none⟩)) := fun e => ext_cell (D1.out.cell 0 _ rfl) e
    have f2 : ∀ e : Ext W6, e.W.cell? ⟨b, 0, none⟩ = some (.int .i64 2) := fun e => ext_cell (cell_of_heap Q6.out 0 _ rfl) e
    clear c2 e0 e1 e2
    refine wp_region_mix (fun w' => ∃ e : Ext W6, w' = e.W) [(true, 0), (true, 1), (true, 2), (true, 5), (false, 3), (true, 4)] [6] (by kernel_rfl) (by kernel_rfl) (by intro _ _ d _ _ h; cases d <;> exact h) ⟨⟨W6.drew, (Below.refl _ _).drew⟩, rfl⟩ ?_
    simp only [pickM, pickL, List.drop_succ_cons, List.drop_zero]
    repeat (first | (refine mix_pure (by rfl) (by rfl) ?_; intro K hK; go_big_quiet_op; go_big_quiet_on) | (refine mix_nilc ⟨mp, 0, none⟩ (by rfl) (by kernel_rfl) ?_; go_simp))
    refine mix_eff (by rfl) ?_
    intro K hK
    go_simp
    refine (HKL.out 2 _ (by omega)).mono ?_
    rintro e w8 ⟨rfl, hb8⟩
    have hb78 : Below W6.heap.size W6 w8 := below_trans (Below.refl _ _).drew hb8
    refine hK _ _ ⟨⟨w8, hb78⟩, rfl⟩ ?_
    clear hK K
    have H8 := Lib.hid (H6.out.below hb78)
    have T8 := Lib.hid (T06.out.tr (Turn.of hb78))
    have E1 := Lib.hid (D1.out.turn (Turn.of (s := s) hb78) (fun _ hk => .inl hk))
    have E2 : Hid (BoxV w8 s b #[.int .i64 2] 3) := ⟨heap_below hb78 Q6.out, fun hm => by have := HNW.out b hm; omega⟩
    clear hb8 hb78 f0 f2
    repeat (first | (refine mix_pure (by rfl) (by rfl) ?_; intro K hK; go_big_quiet_op; go_big_quiet_on) | (refine mix_nilc ⟨mp, 0, none⟩ (by rfl) (by kernel_rfl) ?_; go_simp))
    refine mix_nil ?_
    have hke : kSize 2 = 17 := rfl
    rw [hke] at *
    have HFIN := Lib.hid (HPT.out w8 s _ _ H8.out (.fd 2) (.func 118) #[] #[ptr p, ptr b] ⟨p, b, rfl, E1.out, E2.out⟩ HRAW.out (4 + 17) (by omega))
    go_wp2_with fail
    refine (part_at HFIN.out (by kernel_rfl)).mono ?_
    rintro e w9 ⟨rfl, hA⟩
    go_wp2_with fail
    go_end0
    exact ⟨rfl, hA.after (fun _ hk => .inl hk) T8.out⟩
end Go.Proofs.YtlmdkmflbhnlgaaGreat
namespace Go.Proofs.YtlmdkmflbhnlgaaGreat
open Go.RowKit
variable {w : World} {s : List Nat} {mp : Nat} {S : MS} {a : MA}
theorem fdSz_of (n : Nat) (h : n < 16) : (fdSizes[n]'(by show n < 16; exact h)) = ((fdSz n : Nat) : Int) := by
  have : ∀ k : Fin 16, (fdSizes[k.1]'(by show k.1 < 16; exact k.2)) = ((fdSz k.1 : Nat) : Int) := by decide
  exact this ⟨n, h⟩
theorem fdSz_le (n : Nat) (h : n < 16) : fdSz n ≤ 64 := by
  have : ∀ k : Fin 16, fdSz k.1 ≤ 64 := by decide
  exact this ⟨n, h⟩
set_option maxRecDepth 100000 in
set_option maxHeartbeats 4000000 in
theorem mFdCode (h : MR w s mp S a) (hl : S.l.length = 22) (h01 : ∀ x ∈ S.l, x ≤ 1) (hraw : 0 < S.raw.length) :
    Calls Tryz.prog 109 #[.pointer (some ⟨mp, 0, none⟩)] w (MDone w s mp (fdCodeM S)) := by
  obtain ⟨r1, hr1⟩ : ∃ r, flagM S 16 = r := ⟨_, rfl⟩
  obtain ⟨r2, hr2⟩ : ∃ r, flagM S 17 = r := ⟨_, rfl⟩
  obtain ⟨n, hn⟩ : ∃ n, numM S 18 22 = n := ⟨_, rfl⟩
  have hn16 : n < 16 := by have := numM_lt S 18 22 4 (by omega) h01; rw [hn] at this; omega
  have HF1 := Lib.hid (fun W (hW : MR W s mp S a) => mFlag hW 16 (by omega))
  have HF2 := Lib.hid (fun W (hW : MR W s mp S a) => mFlag hW 17 (by omega))
  rw [hr1] at HF1
  rw [hr2] at HF2
  have HN := Lib.hid (fun W S2 a2 (hW : MR W s mp S2 a2) (e : S2.l = S.l) => by
    have k := mNumber hW 18 22 (by omega) (by rw [e]; omega) (by omega) (by rw [e]; exact h01) (by rw [e]; omega)
    rw [show numM S2 18 22 = n by rw [← hn]; unfold numM; rw [e]] at k
    exact k)
  have HZ := Lib.hid (fun W => by
    have k := Size_fd n W hn16
    rw [fdSz_of n hn16] at k
    exact k)
  have hz64 := fdSz_le n hn16
  have hs : fdCodeM S = if fdSz n = 0 then fdDataM { S with f := { S.f with brs := r1, esi := r2 } } 0 else askM { S with f := { S.f with brs := r1, esi := r2 } } (22 + 8 * fdSz n) (.fdData (fdSz n)) := by
    rw [← hn, ← hr1, ← hr2]; rfl
  generalize fdSz n = z at *
  obtain ⟨T, hT⟩ : ∃ T, fdCodeM S = T := ⟨_, rfl⟩
  rw [hT] at hs ⊢
  have HSS := Lib.hid hs
  have HH := Lib.hid h
  have HS : Hid (∀ k ∈ s, k < w.heap.size) := h.rest.mem.2
  have HD := Lib.hid (fun W s' S' a' (hW : MR W s' mp S' a') p q size b1 b2 hz hl' (e1 : S'.l = S.l) (e2 : S'.raw = S.raw) => mFdData hW p q size b1 b2 hz hl' (by rw [e1]; exact h01) (by rw [e2]; exact hraw))
  have HL := Lib.hid hl
  clear h hs hT hr1 hr2 hn h01 hraw hn16 hl
  go_enter Tryz.func109, Tryz.ntmps109
  go_upto_region 1 with (fail)
  obtain ⟨W1, hW1, q1, hb1⟩ : ∃ W1, w.alloc (.cells #[.pointer (some ⟨mp, 0, none⟩)] 36) = W1 ∧ W1.heap[w.heap.size]? = some (.cells #[.pointer (some ⟨mp, 0, none⟩)] 36 (0, 0)) ∧ Below w.heap.size w W1 := ⟨_, rfl, heap_new_at rfl, below_alloc (Below.refl _ _) _⟩
  rw [hW1]
  have H1 := Lib.hid (HH.out.below hb1)
  have B1 := Lib.hid (BoxV.new (t := 36) q1 HS.out (Nat.le_refl _))
  have HB1 := Lib.hid hb1
  have hwl : w.heap.size < W1.heap.size := heap_lt q1
  clear hW1 q1 hb1
  let l0 : List (Addr × Value) := [(⟨w.heap.size, 0, none⟩, ptr mp)]
  have hcl : ∀ W, BoxV W s w.heap.size #[ptr mp] 36 → Cels l0 W := by intro W hb x hx; simp [l0] at hx; subst hx; exact hb.cell 0 _ rfl
  have HCL := Lib.hid hcl
  have e0 : ∀ e : Sat (Cels l0), e.W.cell? ⟨w.heap.size, 0, none⟩ = some (.pointer (some ⟨mp, 0, none⟩)) := fun e => Cels.at e.h 0 rfl
  haveI : Nonempty (Sat (Cels l0)) := ⟨⟨W1, hcl _ B1.out⟩⟩
  clear hcl
  generalize l0 = l1 at *
  refine wp_region_mix (fun w' => ∃ e : Sat (Cels l1), w' = e.W) [(true, 0), (true, 1), (true, 2), (true, 4), (false, 3), (false, 5), (true, 6), (true, 7), (true, 8), (false, 9), (true, 10), (true, 11), (true, 12)] [13] (by kernel_rfl) (by kernel_rfl) (by intro _ _ d _ _ h; cases d <;> exact h) ⟨⟨W1.drew, (HCL.out _ B1.out).drew⟩, rfl⟩ ?_
  simp only [pickM, pickL, List.drop_succ_cons, List.drop_zero]
  repeat (first | (refine mix_pure (by rfl) (by rfl) ?_; intro K hK; go_big_quiet_op; go_big_quiet_on) | (refine mix_nilc ⟨mp, 0, none⟩ (by rfl) (by kernel_rfl) ?_; go_simp))
  refine mix_eff (by rfl) ?_
  intro K hK
  go_simp
  refine (HF1.out _ H1.out.drew).mono ?_
  rintro e w2 ⟨rfl, hb2⟩
  have hb12 : Below W1.heap.size W1 w2 := below_trans (Below.refl _ _).drew hb2
  have B2 := Lib.hid (B1.out.turn (Turn.of (s := s) hb12) (fun _ hk => .inl hk))
  refine hK _ _ ⟨⟨w2, HCL.out _ B2.out⟩, rfl⟩ ?_
  clear hK K hb2
  have H2 := Lib.hid (H1.out.below hb12)
  have HB2 := Lib.hid hb12
  clear hb12
  refine mix_eff (by rfl) ?_
  intro K hK
  go_simp
  refine (HF2.out _ H2.out).mono ?_
  rintro e w3 ⟨rfl, hb3⟩
  have B3 := Lib.hid (B2.out.turn (Turn.of (s := s) hb3) (fun _ hk => .inl hk))
  refine hK _ _ ⟨⟨w3, HCL.out _ B3.out⟩, rfl⟩ ?_
  clear hK K
  have H3 := Lib.hid (H2.out.below hb3)
  have HB3 := Lib.hid (below_trans HB2.out hb3)
  clear hb3
  repeat (first | (refine mix_pure (by rfl) (by rfl) ?_; intro K hK; go_big_quiet_op; go_big_quiet_on) | (refine mix_nilc ⟨mp, 0, none⟩ (by rfl) (by kernel_rfl) ?_; go_simp))
  refine mix_mput H3.out (by rfl) 4 (.tmp 13) (.tmp 8) rfl 25 (.bool r1) (by kernel_rfl) (by kernel_rfl) rfl info_boolS (by decide) { S with f := { S.f with brs := r1 } } a (by kernel_rfl) (fun _ _ hm => hm) (fun W' hm ht => ⟨⟨W', HCL.out _ (B3.out.turn ht (fun _ hk => .inl hk))⟩, rfl⟩) ?_
  intro W4 H4 T4
  have B4 := Lib.hid (B3.out.turn T4.out (fun _ hk => .inl hk))
  repeat (first | (refine mix_pure (by rfl) (by rfl) ?_; intro K hK; go_big_quiet_op; go_big_quiet_on) | (refine mix_nilc ⟨mp, 0, none⟩ (by rfl) (by kernel_rfl) ?_; go_simp))
  refine mix_nil ?_
  refine wpList_mput H4.out rfl 4 (.tmp 16) (.tmp 10) rfl 26 (.bool r2) (by kernel_rfl) (by kernel_rfl) rfl info_boolS (by decide) { S with f := { S.f with brs := r1, esi := r2 } } a (by kernel_rfl) (fun _ _ hm => hm) ?_
  intro W5 H5 T5
  refine wpList_nil ?_
  have B5 := Lib.hid (B4.out.turn T5.out (fun _ hk => .inl hk))
  have T15 : Hid (Turn s W1 W5) := (Turn.of HB3.out).tr (T4.out.tr T5.out)
  have hs5 : W1.heap.size ≤ W5.heap.size := T15.out.size
  clear B1 B2 B3 B4 H1 H2 H3 H4 HB2 HB3 T4 T5
  have c0 : W5.cell? ⟨w.heap.size, 0, none⟩ = some (.pointer (some ⟨mp, 0, none⟩)) := B5.out.cell 0 _ rfl
  go_wp2_with fail
  refine (HN.out _ _ _ H5.out rfl).mono ?_
  rintro e w6 ⟨rfl, hb6⟩
  go_wp2_with fail
  refine (HZ.out _).mono ?_
  rintro e w7 ⟨rfl, hb7⟩
  have hb57 := below_trans hb6 hb7
  have H7 := Lib.hid (H5.out.below hb57)
  have B7 := Lib.hid (B5.out.turn (Turn.of (s := s) hb57) (fun _ hk => .inl hk))
  have T17 : Hid (Turn s W1 w7) := T15.out.tr (Turn.of hb57)
  clear hb6 hb7 hb57 T15 B5 c0
  go_upto_region 3 with (fail)
  obtain ⟨W8, hW8, q8, hb8⟩ : ∃ W8, w7.alloc (.cells #[.int .i64 z] 3) = W8 ∧ W8.heap[w7.heap.size]? = some (.cells #[.int .i64 z] 3 (0, 0)) ∧ Below w7.heap.size w7 W8 := ⟨_, rfl, heap_new_at rfl, below_alloc (Below.refl _ _) _⟩
  rw [hW8]
  have H8 := Lib.hid (H7.out.below hb8)
  have B8 := Lib.hid (B7.out.turn (Turn.of (s := s) hb8) (fun _ hk => .inl hk))
  have T18 : Hid (Turn s W1 W8) := T17.out.tr (Turn.of hb8)
  have D8 : Hid (BoxV W8 s w7.heap.size #[.int .i64 z] 3) := BoxV.new q8 H7.out.rest.mem.2 (Nat.le_refl _)
  clear hW8 q8 hb8 T17 B7 H7 e0
  generalize w7.heap.size = b at *
  have c0 : W8.cell? ⟨w.heap.size, 0, none⟩ = some (.pointer (some ⟨mp, 0, none⟩)) := B8.out.cell 0 _ rfl
  have c1 : W8.cell? ⟨b, 0, none⟩ = some (.int .i64 z) := D8.out.cell 0 _ rfl
  by_cases hz : z = 0
  · subst hz
    rw [if_pos rfl] at HSS
    go_wp2_with fail
    refine (HD.out _ _ _ _ H8.out w.heap.size b 0 B8.out D8.out (by omega) HL.out rfl rfl).mono ?_
    rintro e w9 ⟨rfl, hA⟩
    go_wp2_with fail
    go_end0
    exact ⟨rfl, HSS.out ▸ (hA.after (fun _ hk => .inl hk) T18.out).pre HB1.out⟩
  · have gz : ((z : Int) == 0) = false := by simp; omega
    rw [if_neg hz] at HSS
    have HA := Lib.hid (mAsk H8.out (22 + 8 * z) (.fdData z) _ ⟨w.heap.size, b, rfl, B8.out, D8.out⟩)
    go_wp2_with fail
    refine (ask_at HA.out (by omega)).mono ?_
    rintro e w9 ⟨rfl, hA⟩
    go_wp2_with fail
    go_end0
    exact ⟨rfl, HSS.out ▸ (hA.after (fun _ hk => .inl hk) T18.out).pre HB1.out⟩
end Go.Proofs.YtlmdkmflbhnlgaaGreat
-- ScanM: The machine behind an XL frame's data part. No condition.
namespace Go.Proofs.YtlmdkmflbhnlgaaGreat
open Go.RowKit
variable {w : World} {s : List Nat} {mp : Nat} {S : MS} {a : MA}
theorem getL_lt (l : List Nat) (i k : Nat) (h01 : ∀ x ∈ l, x ≤ 1) : getL l i k < 2 ^ k := by
  have h := numN_lt ((l.take (i + k)).drop i) (fun x hx => h01 x (List.mem_of_mem_take (List.mem_of_mem_drop hx)))
  have hl : ((l.take (i + k)).drop i).length ≤ k := by rw [List.length_drop, List.length_take]; omega
  exact Nat.lt_of_lt_of_le h (Nat.pow_le_pow_right (by omega) hl)
set_option maxHeartbeats 1000000 in
theorem mGet (w : World) (b g n c : Nat) (l : List Nat) (hb : w.heap[b]? = some (.cells #[.slice (some ⟨g, 0, none⟩) n c] 22 (0, 0))) (hr : Rd w (some ⟨g, 0, none⟩) (bys l)) (hn : l.length = n) (hc1 : n ≤ c) (hc2 : c ≤ 9223372036854775807) (i k : Nat) (hk : 0 < k) (hik : i + k ≤ n) (hk2 : k ≤ 62) (h01 : ∀ x ∈ l, x ≤ 1) :
    Calls Tryz.prog 136 #[.int .i64 i, .int .i64 k, .pointer (some ⟨b, 0, none⟩)] w fun e w' => e = .returned (.int .u64 (getL l i k : Nat)) ∧ Below w.heap.size w w' := by
  obtain ⟨j, hj⟩ : ∃ j, i + k = j := ⟨_, rfl⟩
  have hlen : ((l.take j).drop i).length = k := by rw [List.length_drop, List.length_take]; omega
  have h01' : ∀ x ∈ (l.take j).drop i, x ≤ 1 := fun x hx => h01 x (List.mem_of_mem_take (List.mem_of_mem_drop hx))
  have HG := Lib.hid (fun c' => Get_any w (some ⟨g, i, none⟩) c' k _ (rd_part hr i j) hlen (by omega) h01')
  have hlt := getL_lt l i k h01
  have hp : 2 ^ k ≤ 2 ^ 62 := Nat.pow_le_pow_right (by omega) hk2
  have hm : getL l i k < 4611686018427387904 := by omega
  have hge : numN ((l.take j).drop i) = getL l i k := by rw [← hj]; rfl
  rw [hge] at HG
  generalize getL l i k = x at *
  have c0 : w.cell? ⟨b, 0, none⟩ = some (.slice (some ⟨g, 0, none⟩) n c) := cell_of_heap hb 0 _ rfl
  have hln : (i : Int) + (k : Int) = (j : Int) := by omega
  have hji : ¬ j < i := by omega
  have hnd : j - i = k := by omega
  have hcj : ¬ c < j := by omega
  have hjn : ¬ n < j := by omega
  have hci : ¬ c = i := by omega
  clear hb hr hlen h01' h01 hlt hp hge hj
  go_enter Tryz.func136, Tryz.ntmps136
  go_wp2_with fail
  refine (HG.out _).mono ?_
  rintro e w1 ⟨rfl, hb⟩
  have HB := Lib.hid hb
  clear hb
  go_wp2_with fail
  go_ret
  exact ⟨rfl, HB.out⟩
set_option maxRecDepth 100000 in
set_option maxHeartbeats 4000000 in
theorem mXlData (h : MR w s mp S a) (g c n size : Nat) (l : List Nat) (hd : DatU w s (some ⟨g, 0, none⟩) c l) (hn : l.length = n) (hns : n = 109 + 8 * size) (hsz : size ≤ 2048) (hsz1 : 1 ≤ size) (hc1 : n ≤ c) (hc2 : c ≤ 9223372036854775807) (h01 : ∀ x ∈ l, x ≤ 1)
    (hraw : S.raw.length ≤ 30000) (hraw1 : ∀ x ∈ S.raw, x ≤ 1) (hl0 : 0 < S.l.length) (hl1 : S.l.length ≤ 1000) (hl01 : ∀ x ∈ S.l, x ≤ 1) :
    Calls Tryz.prog 134 #[.pointer (some ⟨mp, 0, none⟩), .slice (some ⟨g, 0, none⟩) n c, .int .i64 size] w (MDone w s mp (xlDataM S l size)) := by
  obtain ⟨x0, hx0⟩ : ∃ x, getL l 0 8 = x := ⟨_, rfl⟩
  obtain ⟨x1, hx1⟩ : ∃ x, getL l 8 1 = x := ⟨_, rfl⟩
  obtain ⟨x2, hx2⟩ : ∃ x, getL l 37 8 = x := ⟨_, rfl⟩
  obtain ⟨x3, hx3⟩ : ∃ x, getL l 45 32 = x := ⟨_, rfl⟩
  have l0 : x0 < 256 := by have := getL_lt l 0 8 h01; omega
  have l2 : x2 < 256 := by have := getL_lt l 37 8 h01; omega
  have l3 : x3 < 4294967296 := by have := getL_lt l 45 32 h01; omega
  obtain ⟨sb, hsb⟩ : ∃ sb, (x1 == 1) = sb := ⟨_, rfl⟩
  have hsb2 : ((x1 : Int) == 1) = sb := by rw [← hsb, Bool.eq_iff_iff]; simp only [beq_iff_eq]; omega
  obtain ⟨d, hdd⟩ : ∃ d, 8 * size = d := ⟨_, rfl⟩
  obtain ⟨j, hjj⟩ : ∃ j, 77 + d = j := ⟨_, rfl⟩
  have hlen : ((l.take j).drop 77).length = d := by rw [List.length_drop, List.length_take]; omega
  have h01' : ∀ x ∈ (l.take j).drop 77, x ≤ 1 := fun x hx => h01 x (List.mem_of_mem_take (List.mem_of_mem_drop hx))
  have hpl : (packL ((l.take j).drop 77)).length = d / 8 := by unfold packL; rw [List.length_map, List.length_range, hlen, nch8 d (by omega)]
  have HP := Lib.hid (fun W (hW : Rd W (some ⟨g, 0, none⟩) (bys l)) => Pack_any g 77 d (c - 77) _ (.inl rfl) _ W (rd_part hW 77 j) hlen (by omega) (by omega) (by omega) (by omega) h01')
  rw [← hpl] at HP
  have HGET := Lib.hid (fun W b (hb : W.heap[b]? = some (.cells #[.slice (some ⟨g, 0, none⟩) n c] 22 (0, 0))) (hr : Rd W (some ⟨g, 0, none⟩) (bys l)) i k h1 h2 h3 => mGet W b g n c l hb hr hn hc1 hc2 i k h1 h2 h3 h01)
  have HT := Lib.hid (fun W S' a' (hW : MR W s mp S' a') (e : S'.raw = S.raw) (hR : Rd W (some ⟨g, 0, none⟩) (bys l)) => by
    have k := mTells hW (some ⟨g, 20, none⟩) (c - 20) ((l.take 24).drop 20) (rd_part hR 20 24) (by rw [List.length_drop, List.length_take]; omega) (fun x hx => h01 x (List.mem_of_mem_take (List.mem_of_mem_drop hx))) (by rw [e]; omega) (by rw [e]; exact hraw1)
    rw [e] at k
    exact k)
  obtain ⟨g2, hg2, hd1, hd2, -⟩ := h.rest.l.at_ 0 hl0
  obtain ⟨m, hm⟩ : ∃ m, S.l.length = m := ⟨_, rfl⟩
  have hl37 : (l.take 37).length = 37 := by rw [List.length_take]; omega
  have HC := Lib.hid (fun W b dd (hb : W.heap[b]? = some (.cells #[.slice (some ⟨g2, 0, none⟩) m a.lc, .slice (some ⟨g, 0, none⟩) 37 c] 22 (0, 0))) (h1 : Rd W (some ⟨g2, 0, none⟩) (bys S.l)) (h2 : Rd W (some ⟨g, 0, none⟩) (bys l)) => cat2_any b m 37 _ _ a.lc c dd S.l (l.take 37) W hb h1 (rd_take h2 37) hm hl37 (by intro e; rw [e] at hl0; cases hl0) (by intro e; rw [e] at hl37; cases hl37) (by omega))
  have hLL : (S.l ++ l.take 37).length = m + 37 := by rw [List.length_append, hm, hl37]
  have HF1 := Lib.hid (fun W g' c' (hR : Rd W (some ⟨g', 0, none⟩) (bys (S.l ++ l.take 37))) k1 k2 => CrcFits_any of_4 (by omega) (by omega) g' c' (m + 37) (S.l ++ l.take 37) W hR hLL (by omega) (by omega) k1 k2 (fun x hx => (List.mem_append.1 hx).elim (hl01 x) (fun hx => h01 x (List.mem_of_mem_take hx))))
  have HF2 := Lib.hid (fun W (hR : Rd W (some ⟨g, 0, none⟩) (bys l)) => CrcFits_any of_5 (by omega) (by omega) g c n l W hR hn (by omega) (by omega) hc1 hc2 h01)
  have hs : xlDataM S l size = { S with f := { S.f with sdt := x0, sec := sb, vcid := x2, af := x3, data := packL ((l.take j).drop 77) }, fits := tellsM S.raw ((l.take 24).drop 20) && fitsC 13 6631 1 (S.l ++ l.take 37) && fitsC 32 4104977171 1 l } := by
    rw [← hx0, ← hsb, ← hx1, ← hx2, ← hx3, ← hjj, ← hdd]; rfl
  have HX0 := Lib.hid (fun W b hb hr => HGET.out W b hb hr 0 8 (by omega) (by omega) (by omega))
  have HX1 := Lib.hid (fun W b hb hr => HGET.out W b hb hr 8 1 (by omega) (by omega) (by omega))
  have HX2 := Lib.hid (fun W b hb hr => HGET.out W b hb hr 37 8 (by omega) (by omega) (by omega))
  have HX3 := Lib.hid (fun W b hb hr => HGET.out W b hb hr 45 32 (by omega) (by omega) (by omega))
  rw [hx0] at HX0
  rw [hx1] at HX1
  rw [hx2] at HX2
  rw [hx3] at HX3
  generalize packL ((l.take j).drop 77) = D at *
  generalize tellsM S.raw ((l.take 24).drop 20) = T1 at *
  generalize fitsC 13 6631 1 (S.l ++ l.take 37) = F1 at *
  generalize fitsC 32 4104977171 1 l = F2 at *
  obtain ⟨V, hV⟩ : ∃ V, (T1 && F1 && F2) = V := ⟨_, rfl⟩
  rw [hs, hV]
  have HV := Lib.hid hV
  have HH := Lib.hid h
  have HA := Lib.hid hg2
  have HM := Lib.hid hm
  have HDA := Lib.hid hd
  have HLL := Lib.hid hLL
  have HS : Hid (∀ k ∈ s, k < w.heap.size) := h.rest.mem.2
  have hdi : (8 : Int) * (size : Int) = (d : Int) := by omega
  have hji : (77 : Int) + (d : Int) = (j : Int) := by omega
  have j1 : ¬ c < j := by omega
  have j2 : ¬ n < j := by omega
  have j3 : ¬ c = 77 := by omega
  have j4 : ¬ c < 24 := by omega
  have j5 : ¬ c = 20 := by omega
  have j6 : ¬ c < 37 := by omega
  have j7 : d ≤ 20000 := by omega
  have j8 : j - 77 = d := by omega
  have hm0 : 0 < m := by omega
  clear hjj h hd hpl hlen h01 h01' hs hV hg2 hm hLL hl37 hn hns hraw hraw1 hl0 hl1 hl01 hx0 hx1 hx2 hx3 hsb HGET
  go_enter Tryz.func134, Tryz.ntmps134
  go_upto_region 1 with (fail)
  obtain ⟨W1, hW1, q1, hb1⟩ : ∃ W1, w.alloc (.cells #[.slice (some ⟨g, 0, none⟩) n c] 22) = W1 ∧ W1.heap[w.heap.size]? = some (.cells #[.slice (some ⟨g, 0, none⟩) n c] 22 (0, 0)) ∧ Below w.heap.size w W1 := ⟨_, rfl, heap_new_at rfl, below_alloc (Below.refl _ _) _⟩
  rw [hW1]
  have H1 := Lib.hid (HH.out.below hb1)
  have B1 := Lib.hid (BoxV.new (t := 22) q1 HS.out (Nat.le_refl _))
  have D1 := Lib.hid (HDA.out.turn (Turn.of hb1) (fun k hk => .inl hk))
  have HBW := Lib.hid hb1
  clear hW1 q1 hb1
  obtain ⟨b, hbe⟩ : ∃ b, w.heap.size = b := ⟨_, rfl⟩
  rw [hbe] at B1 ⊢
  clear hbe
  go_wp2_with fail
  refine (HX0.out _ _ B1.out.1 D1.out.1).mono ?_
  rintro e w2 ⟨rfl, hb2⟩
  have H2 := Lib.hid (H1.out.below hb2)
  have B2 := Lib.hid (B1.out.turn (Turn.of (s := s) hb2) (fun _ hk => .inl hk))
  have D2 := Lib.hid (D1.out.turn (Turn.of (s := s) hb2) (fun _ hk => .inl hk))
  have T2 : Hid (Turn s W1 w2) := Turn.of hb2
  clear hb2
  go_wp2_with fail
  refine (HX1.out _ _ B2.out.1 D2.out.1).mono ?_
  rintro e w3 ⟨rfl, hb3⟩
  have H3 := Lib.hid (H2.out.below hb3)
  have T3 : Hid (Turn s W1 w3) := T2.out.tr (Turn.of hb3)
  clear hb3
  go_wp2_with (first
    | (refine wpList_mput H3.out rfl 5 (.tmp 18) (.tmp 12) rfl 28 (.int .u8 x0) (by kernel_rfl) (by kernel_rfl) rfl info_u8S (by decide) { S with f := { S.f with sdt := x0 } } a (by kernel_rfl) (fun _ _ h => h) ?_; intro W4 H4 T4)
    | (refine wpList_mput H4.out rfl 4 (.tmp 21) (.tmp 15) rfl 27 (.bool sb) (by kernel_rfl) (by kernel_rfl) rfl info_boolS (by decide) { S with f := { S.f with sdt := x0, sec := sb } } a (by kernel_rfl) (fun _ _ h => h) ?_; intro W5 H5 T5; have T15 := Lib.hid (T3.out.tr (T4.out.tr T5.out)); have B5 := Lib.hid (B1.out.turn T15.out (fun _ hk => .inl hk)); have D5 := Lib.hid (D1.out.turn T15.out (fun _ hk => .inl hk))))
  clear H2 H3 H4 B2 D2 T2 T3 T4 T5 H1 hsb2
  refine (HX2.out _ _ B5.out.1 D5.out.1).mono ?_
  rintro e w6 ⟨rfl, hb6⟩
  have H6 := Lib.hid (H5.out.below hb6)
  have B6 := Lib.hid (B5.out.turn (Turn.of (s := s) hb6) (fun _ hk => .inl hk))
  have D6 := Lib.hid (D5.out.turn (Turn.of (s := s) hb6) (fun _ hk => .inl hk))
  have T16 : Hid (Turn s W1 w6) := T15.out.tr (Turn.of hb6)
  clear hb6 T15 B5 D5 H5
  go_wp2_with fail
  refine (HX3.out _ _ B6.out.1 D6.out.1).mono ?_
  rintro e w7 ⟨rfl, hb7⟩
  have H7 := Lib.hid (H6.out.below hb7)
  have T17 : Hid (Turn s W1 w7) := T16.out.tr (Turn.of hb7)
  clear hb7 T16 B6 D6 H6
  go_wp2_with (first
    | (refine wpList_mput H7.out rfl 5 (.tmp 32) (.tmp 26) rfl 29 (.int .u8 x2) (by kernel_rfl) (by kernel_rfl) rfl info_u8S (by decide) { S with f := { S.f with sdt := x0, sec := sb, vcid := x2 } } a (by kernel_rfl) (fun _ _ h => h) ?_; intro W8 H8 T8)
    | (refine wpList_mput H8.out rfl 26 (.tmp 35) (.tmp 29) rfl 30 (.int .u32 x3) (by kernel_rfl) (by kernel_rfl) rfl info_u32S (by decide) { S with f := { S.f with sdt := x0, sec := sb, vcid := x2, af := x3 } } a (by kernel_rfl) (fun _ _ h => h) ?_; intro W9 H9 T9; have T19 := Lib.hid (T17.out.tr (T8.out.tr T9.out)); have B9 := Lib.hid (B1.out.turn T19.out (fun _ hk => .inl hk)); have D9 := Lib.hid (D1.out.turn T19.out (fun _ hk => .inl hk)); have c0 := B9.out.cell 0 _ rfl))
  clear H7 H8 T17 T8 T9
  refine (HP.out _ D9.out.1).mono ?_
  rintro e w10 ⟨⟨A', c', rfl, hrow⟩, hb10⟩
  have H10 := Lib.hid (H9.out.below hb10)
  have B10 := Lib.hid (B9.out.turn (Turn.of (s := s) hb10) (fun _ hk => .inl hk))
  have T20 : Hid (Turn s W1 w10) := T19.out.tr (Turn.of hb10)
  have DD : Hid (DatU w10 s A' c' D) := DatU.of hrow H9.out.rest.mem.2
  clear hb10 hrow T19 B9 D9 H9 c0
  go_wp2_with (first
    | (refine wpList_mput H10.out rfl 22 (.tmp 48) (.tmp 44) rfl 31 (.slice A' D.length c') (by kernel_rfl) (by kernel_rfl) rfl info_slcS (by decide) { S with f := { S.f with sdt := x0, sec := sb, vcid := x2, af := x3, data := D } } { a with fA := A', fc := c' } (by kernel_rfl) (fun w' ht hm => ⟨hm.mem, hm.raw, hm.l, hm.own, hm.rl, hm.ro, hm.lo, hm.sf, DD.out.turn ht (fun _ hk => .inl hk), hm.step, hm.next, hm.gho⟩) ?_; intro W11 H11 T11; have T21 := Lib.hid (T20.out.tr T11.out); have B11 := Lib.hid (B1.out.turn T21.out (fun _ hk => .inl hk)); have D11 := Lib.hid (D1.out.turn T21.out (fun _ hk => .inl hk)))
    | fail)
  clear H10 T20 B10 DD T11
  have c18 : ∀ e : Ext W11, e.W.cell? ⟨mp, 18, none⟩ = some (.slice (some ⟨g2, 0, none⟩) m a.lc) := fun e => ext_cell (H11.out.cell 18 _ (by rw [← HM.out, ← HA.out]; rfl)) e
  have c0 : ∀ e : Ext W11, e.W.cell? ⟨b, 0, none⟩ = some (.slice (some ⟨g, 0, none⟩) n c) := fun e => ext_cell (B11.out.cell 0 _ rfl) e
  cases T1
  · go_wp2_with fail
    refine wp_region_mix (fun w' => ∃ e : Ext W11, w' = e.W) [(true, 0), (true, 1), (true, 2), (true, 3), (false, 4), (true, 5), (true, 6), (true, 7), (true, 8), (true, 9), (true, 10), (true, 11), (false, 12), (false, 13), (false, 14), (true, 15), (true, 16), (true, 17), (false, 18), (true, 19), (true, 20), (true, 21)] [22] (by kernel_rfl) (by kernel_rfl) (by intro _ _ d _ _ h; cases d <;> exact h) ⟨⟨W11.drew, (Below.refl _ _).drew⟩, rfl⟩ ?_
    simp only [pickM, pickL, List.drop_succ_cons, List.drop_zero]
    repeat (first | (refine mix_pure (by rfl) (by rfl) ?_; intro K hK; go_big_quiet_op; go_big_quiet_on) | (refine mix_nilc ⟨mp, 0, none⟩ (by rfl) (by kernel_rfl) ?_; go_simp))
    refine mix_eff (by rfl) ?_
    intro K hK
    go_simp
    refine (HT.out _ _ _ H11.out.drew rfl (D11.out.1.below (Below.refl _ _).drew)).mono ?_
    rintro e w12 ⟨rfl, hb12⟩
    have hb02 : Below W11.heap.size W11 w12 := below_trans (Below.refl _ _).drew hb12
    refine hK _ _ ⟨⟨w12, hb02⟩, rfl⟩ ?_
    clear hK K hb12
    have HB12 := Lib.hid hb02
    clear hb02
    repeat (first | (refine mix_pure (by rfl) (by rfl) ?_; intro K hK; go_big_quiet_op; go_big_quiet_on) | (refine mix_nilc ⟨mp, 0, none⟩ (by rfl) (by kernel_rfl) ?_; go_simp) | (refine mix_skip (by rfl) ?_; go_simp) | (refine mix_skipF (by rfl) ⟨⟨_, HB12.out⟩, rfl⟩ ?_; go_simp))
    refine mix_nil ?_
    clear c0 c18
    have H16 := Lib.hid (H11.out.below HB12.out)
    have T26 : Hid (Turn s W1 _) := T21.out.tr (Turn.of HB12.out)
    refine wpList_mput H16.out rfl 4 (.tmp 70) (.tmp 68) rfl 32 (.bool false) (by kernel_rfl) (by kernel_rfl) rfl info_boolS (by decide) { S with f := { S.f with sdt := x0, sec := sb, vcid := x2, af := x3, data := D }, fits := V } { a with fA := A', fc := c' } (by rw [← HV.out]; kernel_rfl) (fun _ _ h => h) ?_
    intro W17 H17 T17
    refine wpList_nil ?_
    go_wp2_with fail
    go_end0
    exact ⟨rfl, (MAct.same H17.out (T26.out.tr T17.out)).pre HBW.out⟩
  · cases F1
    · go_wp2_with fail
      refine wp_region_mix (fun w' => ∃ e : Ext W11, w' = e.W) [(true, 0), (true, 1), (true, 2), (true, 3), (false, 4), (true, 5), (true, 6), (true, 7), (true, 8), (true, 9), (true, 10), (true, 11), (false, 12), (false, 13), (false, 14), (true, 15), (true, 16), (true, 17), (false, 18), (true, 19), (true, 20), (true, 21)] [22] (by kernel_rfl) (by kernel_rfl) (by intro _ _ d _ _ h; cases d <;> exact h) ⟨⟨W11.drew, (Below.refl _ _).drew⟩, rfl⟩ ?_
      simp only [pickM, pickL, List.drop_succ_cons, List.drop_zero]
      repeat (first | (refine mix_pure (by rfl) (by rfl) ?_; intro K hK; go_big_quiet_op; go_big_quiet_on) | (refine mix_nilc ⟨mp, 0, none⟩ (by rfl) (by kernel_rfl) ?_; go_simp))
      refine mix_eff (by rfl) ?_
      intro K hK
      go_simp
      refine (HT.out _ _ _ H11.out.drew rfl (D11.out.1.below (Below.refl _ _).drew)).mono ?_
      rintro e w12 ⟨rfl, hb12⟩
      have hb02 : Below W11.heap.size W11 w12 := below_trans (Below.refl _ _).drew hb12
      refine hK _ _ ⟨⟨w12, hb02⟩, rfl⟩ ?_
      clear hK K hb12
      have HB12 := Lib.hid hb02
      clear hb02
      repeat (first | (refine mix_pure (by rfl) (by rfl) ?_; intro K hK; go_big_quiet_op; go_big_quiet_on) | (refine mix_nilc ⟨mp, 0, none⟩ (by rfl) (by kernel_rfl) ?_; go_simp))
      refine mix_eff (by rfl) ?_
      intro K hK
      go_simp
      have hb3 : Below w12.heap.size w12 (w12.alloc (.cells #[.slice (some ⟨g2, 0, none⟩) m a.lc, .slice (some ⟨g, 0, none⟩) 37 c] 22)) := below_alloc (Below.refl _ _) _
      have hblk : (w12.alloc (.cells #[.slice (some ⟨g2, 0, none⟩) m a.lc, .slice (some ⟨g, 0, none⟩) 37 c] 22)).heap[w12.heap.size]? = _ := heap_new_at rfl
      have HB13 := Lib.hid (below_trans HB12.out hb3)
      refine hK _ _ ⟨⟨_, HB13.out⟩, rfl⟩ ?_
      clear hK K
      have HBLK := Lib.hid hblk
      clear hblk hb3
      generalize w12.alloc (.cells #[.slice (some ⟨g2, 0, none⟩) m a.lc, .slice (some ⟨g, 0, none⟩) 37 c] 22) = W13 at *
      generalize w12.heap.size = bb at *
      refine mix_eff (by rfl) ?_
      intro K hK
      go_simp
      have hrl : Rd W13 (some ⟨g2, 0, none⟩) (bys S.l) := by have := (H11.out.below HB13.out).rest.l.1.rd; rwa [show ({ a with fA := A', fc := c' } : MA).lA = _ from HA.out] at this
      refine (HC.out W13 bb _ HBLK.out hrl (D11.out.1.below HB13.out)).mono ?_
      rintro e w14 ⟨⟨A4, c4, rfl, hrow⟩, hb4⟩
      have HB14 := Lib.hid (below_trans HB13.out hb4)
      refine hK _ _ ⟨⟨_, HB14.out⟩, rfl⟩ ?_
      clear hK K hrl
      obtain ⟨g4, rfl | h0⟩ := hrow.form
      rotate_left
      · rw [bys_length, HLL.out] at h0; omega
      have k1 := hrow.cap
      have k2 := hrow.capm
      have HRD := Lib.hid hrow.rd
      clear hrow hb4
      rw [bys_length, HLL.out] at k1
      refine mix_eff (by rfl) ?_
      intro K hK
      go_simp
      refine (HF1.out w14 g4 c4 HRD.out k1 k2).mono ?_
      rintro e w15 ⟨rfl, hb5⟩
      have HB15 := Lib.hid (below_trans HB14.out hb5)
      refine hK _ _ ⟨⟨_, HB15.out⟩, rfl⟩ ?_
      clear hK K k1 k2 hb5
      repeat (first | (refine mix_pure (by rfl) (by rfl) ?_; intro K hK; go_big_quiet_op; go_big_quiet_on) | (refine mix_nilc ⟨mp, 0, none⟩ (by rfl) (by kernel_rfl) ?_; go_simp) | (refine mix_skip (by rfl) ?_; go_simp) | (refine mix_skipF (by rfl) ⟨⟨_, HB15.out⟩, rfl⟩ ?_; go_simp))
      refine mix_nil ?_
      clear c0 c18
      have H16 := Lib.hid (H11.out.below HB15.out)
      have T26 : Hid (Turn s W1 _) := T21.out.tr (Turn.of HB15.out)
      refine wpList_mput H16.out rfl 4 (.tmp 70) (.tmp 68) rfl 32 (.bool false) (by kernel_rfl) (by kernel_rfl) rfl info_boolS (by decide) { S with f := { S.f with sdt := x0, sec := sb, vcid := x2, af := x3, data := D }, fits := V } { a with fA := A', fc := c' } (by rw [← HV.out]; kernel_rfl) (fun _ _ h => h) ?_
      intro W17 H17 T17
      refine wpList_nil ?_
      go_wp2_with fail
      go_end0
      exact ⟨rfl, (MAct.same H17.out (T26.out.tr T17.out)).pre HBW.out⟩
    · go_wp2_with fail
      refine wp_region_mix (fun w' => ∃ e : Ext W11, w' = e.W) [(true, 0), (true, 1), (true, 2), (true, 3), (false, 4), (true, 5), (true, 6), (true, 7), (true, 8), (true, 9), (true, 10), (true, 11), (false, 12), (false, 13), (false, 14), (true, 15), (true, 16), (true, 17), (false, 18), (true, 19), (true, 20), (true, 21)] [22] (by kernel_rfl) (by kernel_rfl) (by intro _ _ d _ _ h; cases d <;> exact h) ⟨⟨W11.drew, (Below.refl _ _).drew⟩, rfl⟩ ?_
      simp only [pickM, pickL, List.drop_succ_cons, List.drop_zero]
      repeat (first | (refine mix_pure (by rfl) (by rfl) ?_; intro K hK; go_big_quiet_op; go_big_quiet_on) | (refine mix_nilc ⟨mp, 0, none⟩ (by rfl) (by kernel_rfl) ?_; go_simp))
      refine mix_eff (by rfl) ?_
      intro K hK
      go_simp
      refine (HT.out _ _ _ H11.out.drew rfl (D11.out.1.below (Below.refl _ _).drew)).mono ?_
      rintro e w12 ⟨rfl, hb12⟩
      have hb02 : Below W11.heap.size W11 w12 := below_trans (Below.refl _ _).drew hb12
      refine hK _ _ ⟨⟨w12, hb02⟩, rfl⟩ ?_
      clear hK K hb12
      have HB12 := Lib.hid hb02
      clear hb02
      repeat (first | (refine mix_pure (by rfl) (by rfl) ?_; intro K hK; go_big_quiet_op; go_big_quiet_on) | (refine mix_nilc ⟨mp, 0, none⟩ (by rfl) (by kernel_rfl) ?_; go_simp))
      refine mix_eff (by rfl) ?_
      intro K hK
      go_simp
      have hb3 : Below w12.heap.size w12 (w12.alloc (.cells #[.slice (some ⟨g2, 0, none⟩) m a.lc, .slice (some ⟨g, 0, none⟩) 37 c] 22)) := below_alloc (Below.refl _ _) _
      have hblk : (w12.alloc (.cells #[.slice (some ⟨g2, 0, none⟩) m a.lc, .slice (some ⟨g, 0, none⟩) 37 c] 22)).heap[w12.heap.size]? = _ := heap_new_at rfl
      have HB13 := Lib.hid (below_trans HB12.out hb3)
      refine hK _ _ ⟨⟨_, HB13.out⟩, rfl⟩ ?_
      clear hK K
      have HBLK := Lib.hid hblk
      clear hblk hb3
      generalize w12.alloc (.cells #[.slice (some ⟨g2, 0, none⟩) m a.lc, .slice (some ⟨g, 0, none⟩) 37 c] 22) = W13 at *
      generalize w12.heap.size = bb at *
      refine mix_eff (by rfl) ?_
      intro K hK
      go_simp
      have hrl : Rd W13 (some ⟨g2, 0, none⟩) (bys S.l) := by have := (H11.out.below HB13.out).rest.l.1.rd; rwa [show ({ a with fA := A', fc := c' } : MA).lA = _ from HA.out] at this
      refine (HC.out W13 bb _ HBLK.out hrl (D11.out.1.below HB13.out)).mono ?_
      rintro e w14 ⟨⟨A4, c4, rfl, hrow⟩, hb4⟩
      have HB14 := Lib.hid (below_trans HB13.out hb4)
      refine hK _ _ ⟨⟨_, HB14.out⟩, rfl⟩ ?_
      clear hK K hrl
      obtain ⟨g4, rfl | h0⟩ := hrow.form
      rotate_left
      · rw [bys_length, HLL.out] at h0; omega
      have k1 := hrow.cap
      have k2 := hrow.capm
      have HRD := Lib.hid hrow.rd
      clear hrow hb4
      rw [bys_length, HLL.out] at k1
      refine mix_eff (by rfl) ?_
      intro K hK
      go_simp
      refine (HF1.out w14 g4 c4 HRD.out k1 k2).mono ?_
      rintro e w15 ⟨rfl, hb5⟩
      have HB15 := Lib.hid (below_trans HB14.out hb5)
      refine hK _ _ ⟨⟨_, HB15.out⟩, rfl⟩ ?_
      clear hK K k1 k2 hb5
      repeat (first | (refine mix_pure (by rfl) (by rfl) ?_; intro K hK; go_big_quiet_op; go_big_quiet_on) | (refine mix_nilc ⟨mp, 0, none⟩ (by rfl) (by kernel_rfl) ?_; go_simp))
      refine mix_eff (by rfl) ?_
      intro K hK
      go_simp
      refine (HF2.out w15 (D11.out.1.below HB15.out)).mono ?_
      rintro e w16 ⟨rfl, hb6⟩
      have HB16 := Lib.hid (below_trans HB15.out hb6)
      refine hK _ _ ⟨⟨_, HB16.out⟩, rfl⟩ ?_
      clear hK K hb6
      repeat (first | (refine mix_pure (by rfl) (by rfl) ?_; intro K hK; go_big_quiet_op; go_big_quiet_on) | (refine mix_nilc ⟨mp, 0, none⟩ (by rfl) (by kernel_rfl) ?_; go_simp))
      refine mix_nil ?_
      clear c0 c18
      have H16 := Lib.hid (H11.out.below HB16.out)
      have T26 : Hid (Turn s W1 _) := T21.out.tr (Turn.of HB16.out)
      refine wpList_mput H16.out rfl 4 (.tmp 70) (.tmp 68) rfl 32 (.bool F2) (by kernel_rfl) (by kernel_rfl) rfl info_boolS (by decide) { S with f := { S.f with sdt := x0, sec := sb, vcid := x2, af := x3, data := D }, fits := V } { a with fA := A', fc := c' } (by rw [← HV.out]; kernel_rfl) (fun _ _ h => h) ?_
      intro W17 H17 T17
      refine wpList_nil ?_
      go_wp2_with fail
      go_end0
      exact ⟨rfl, (MAct.same H17.out (T26.out.tr T17.out)).pre HBW.out⟩
end Go.Proofs.YtlmdkmflbhnlgaaGreat
namespace Go.Proofs.YtlmdkmflbhnlgaaGreat
open Go.RowKit
variable {w : World} {s : List Nat} {mp : Nat} {S : MS} {a : MA}
set_option maxRecDepth 100000 in
set_option maxHeartbeats 4000000 in
theorem mXl2 (h : MR w s mp S a) (p q size : Nat) (b1 : BoxV w s p #[ptr mp] 36) (b2 : BoxV w s q #[.int .i64 size] 3) (g c n : Nat) (l : List Nat) (hd : DatU w s (some ⟨g, 0, none⟩) c l) (hn : l.length = n) (hns : n = 109 + 8 * size) (hsz : size ≤ 2048) (hsz1 : 1 ≤ size) (hc1 : n ≤ c) (hc2 : c ≤ 9223372036854775807) (h01 : ∀ x ∈ l, x ≤ 1)
    (hraw : S.raw.length ≤ 30000) (hraw1 : ∀ x ∈ S.raw, x ≤ 1) (hl0 : 0 < S.l.length) (hl1 : S.l.length ≤ 1000) (hl01 : ∀ x ∈ S.l, x ≤ 1) :
    Calls Tryz.prog 133 #[.slice (some ⟨g, 0, none⟩) n c, .pointer (some ⟨p, 0, none⟩), .pointer (some ⟨q, 0, none⟩)] w (MDone w s mp (markM (xlDataM S l size) [0, 1, 1, 0] .fin)) := by
  have HX := Lib.hid (mXlData h g c n size l hd hn hns hsz hsz1 hc1 hc2 h01 hraw hraw1 hl0 hl1 hl01)
  generalize xlDataM S l size = S2 at *
  have c0 : w.cell? ⟨p, 0, none⟩ = some (.pointer (some ⟨mp, 0, none⟩)) := b1.cell 0 _ rfl
  have c1 : w.cell? ⟨q, 0, none⟩ = some (.int .i64 size) := b2.cell 0 _ rfl
  have B1 := Lib.hid b1
  clear h b1 b2 hd hn hns h01 hraw hraw1 hl0 hl1 hl01
  go_enter Tryz.func133, Tryz.ntmps133
  go_wp2_with fail
  refine HX.out.mono ?_
  rintro e w2 ⟨rfl, hA⟩
  obtain ⟨s2, a2, h2, n2, t2⟩ := hA
  have B2 := Lib.hid (B1.out.turn t2 n2)
  have c0 : w2.cell? ⟨p, 0, none⟩ = some (.pointer (some ⟨mp, 0, none⟩)) := B2.out.cell 0 _ rfl
  have H2 := Lib.hid h2
  have N2 := Lib.hid n2
  have T2 := Lib.hid t2
  have hmpl := h2.lt
  have hp2 : p < w2.heap.size := heap_lt B2.out.1
  clear h2 n2 t2 c1
  go_wp2_with fail
  have hb3 := below_alloc (Below.refl w2.heap.size w2) (.cells #[.int .u8 0, .int .u8 1, .int .u8 1, .int .u8 0] 5)
  have hd : DatU (w2.alloc (.cells #[.int .u8 0, .int .u8 1, .int .u8 1, .int .u8 0] 5)) s2 (some ⟨w2.heap.size, 0, none⟩) 4 [0, 1, 1, 0] :=
    ⟨Rd.blk (heap_new_at rfl), fun k hk => by simp [blkA] at hk; subst hk; exact ⟨fun hm => by have := H2.out.rest.mem.2 _ hm; omega, by simp, _, _, heap_new_at rfl⟩, fun e => by cases e⟩
  refine (mMark (H2.out.below hb3) _ 4 4 [0, 1, 1, 0] rfl hd .fin _ rfl).mono ?_
  rintro e w3 ⟨rfl, hA3⟩
  go_wp2_with fail
  go_end0
  exact ⟨rfl, (hA3.pre hb3).after N2.out T2.out⟩
set_option maxRecDepth 100000 in
set_option maxHeartbeats 4000000 in
theorem mXl1 (h : MR w s mp S a) (p q : Nat) (b1 : BoxV w s p #[ptr mp] 36) (b2 : BoxV w s q #[.int .i64 8, .bool false] 99) (g c : Nat) (l : List Nat) (hr : Rd w (some ⟨g, 0, none⟩) (bys l)) (hn : l.length = 20) (hc1 : 20 ≤ c) (hc2 : c ≤ 9223372036854775807) (h01 : ∀ x ∈ l, x ≤ 1) (hraw : 0 < S.raw.length) :
    Calls Tryz.prog 132 #[.slice (some ⟨g, 0, none⟩) 20 c, .pointer (some ⟨p, 0, none⟩), .pointer (some ⟨q, 0, none⟩)] w (MDone w s mp (xlSizeM S l)) := by
  have hlen : (l.drop 9).length = 11 := by rw [List.length_drop]; omega
  have h01' : ∀ x ∈ l.drop 9, x ≤ 1 := fun x hx => h01 x (List.mem_of_mem_drop hx)
  have hlt := numN_lt _ h01'
  rw [hlen] at hlt
  have HG := Lib.hid (by have k := rd_drop hr 9; rw [Nat.zero_add] at k; exact Get_any w (some ⟨g, 9, none⟩) (c - 9) 11 _ k hlen (by omega) h01')
  have hs : xlSizeM S l = partM S 8 false (109 + 8 * (numN (l.drop 9) + 1)) (.xl2 (numN (l.drop 9) + 1)) := rfl
  rw [hs]
  generalize numN (l.drop 9) = x at *
  have hx : x < 2048 := by omega
  obtain ⟨z, hz⟩ : ∃ z, x + 1 = z := ⟨_, rfl⟩
  have HZ := Lib.hid (fun W => by
    have k := Size_xl x W hx
    rw [show (x : Int) + 1 = (z : Int) by omega] at k
    exact k)
  rw [hz]
  have hz2 : z ≤ 2048 := by omega
  have HH := Lib.hid h
  have B1 := Lib.hid b1
  have B2 := Lib.hid b2
  have HRAW := Lib.hid hraw
  have hcc : ¬ c = 9 := by omega
  have hcc2 : ¬ c < 20 := by omega
  clear h b1 b2 hr hn h01 h01' hlt hlen hs hraw hz
  go_enter Tryz.func132, Tryz.ntmps132
  go_wp2_with fail
  refine HG.out.mono ?_
  rintro e w2 ⟨rfl, hb2⟩
  have HB2 := Lib.hid hb2
  clear hb2
  go_wp2_with fail
  refine (HZ.out _).mono ?_
  rintro e w3 ⟨rfl, hb3⟩
  have HB3 := Lib.hid (below_trans HB2.out hb3)
  clear hb3 HB2
  go_upto_region 2 with (fail)
  obtain ⟨W4, hW4, q4, hb4⟩ : ∃ W4, w3.alloc (.cells #[.int .i64 z] 3) = W4 ∧ W4.heap[w3.heap.size]? = some (.cells #[.int .i64 z] 3 (0, 0)) ∧ Below w3.heap.size w3 W4 := ⟨_, rfl, heap_new_at rfl, below_alloc (Below.refl _ _) _⟩
  rw [hW4]
  have hb04 := below_trans HB3.out hb4
  have H4 := Lib.hid (HH.out.below hb04)
  have C1 := Lib.hid (B1.out.turn (Turn.of (s := s) hb04) (fun _ hk => .inl hk))
  have C2 := Lib.hid (B2.out.turn (Turn.of (s := s) hb04) (fun _ hk => .inl hk))
  have C4 : Hid (BoxV W4 s w3.heap.size #[.int .i64 z] 3) := BoxV.new q4 (HH.out.below HB3.out).rest.mem.2 (Nat.le_refl _)
  have HB4 := Lib.hid hb04
  clear hW4 q4 hb4 hb04 HB3
  generalize w3.heap.size = b at *
  have c0 : W4.cell? ⟨p, 0, none⟩ = some (.pointer (some ⟨mp, 0, none⟩)) := C1.out.cell 0 _ rfl
  have c1 : W4.cell? ⟨q, 0, none⟩ = some (.int .i64 8) := C2.out.cell 0 _ rfl
  have c2 : W4.cell? ⟨q, 1, none⟩ = some (.bool false) := C2.out.cell 1 _ rfl
  have c3 : W4.cell? ⟨b, 0, none⟩ = some (.int .i64 z) := C4.out.cell 0 _ rfl
  have HFIN := Lib.hid (mPart H4.out 8 (109 + 8 * z) false (.xl2 z) (.func 133) #[] #[ptr p, ptr b] ⟨p, b, rfl, C1.out, C4.out⟩ HRAW.out (by omega) (by omega) (by omega))
  go_wp2_with fail
  refine (part_at HFIN.out (by omega)).mono ?_
  rintro e w5 ⟨rfl, hA⟩
  go_wp2_with fail
  go_end0
  exact ⟨rfl, hA.pre HB4.out⟩
set_option maxRecDepth 100000 in
set_option maxHeartbeats 4000000 in
theorem mXlCode (h : MR w s mp S a) (hraw : 0 < S.raw.length) :
    Calls Tryz.prog 121 #[.pointer (some ⟨mp, 0, none⟩)] w (MDone w s mp (partM S 8 false 20 .xl1)) := by
  have HH := Lib.hid h
  have HRAW := Lib.hid hraw
  have HS : Hid (∀ k ∈ s, k < w.heap.size) := h.rest.mem.2
  clear h hraw
  go_enter Tryz.func121, Tryz.ntmps121
  go_upto_region 2 with (fail)
  obtain ⟨W2, hW2, q1, q2, hb⟩ : ∃ W2, (w.alloc (.cells #[.pointer (some ⟨mp, 0, none⟩)] 36)).alloc (.cells #[.int .i64 8, .bool false] 99) = W2 ∧ W2.heap[w.heap.size]? = some (.cells #[.pointer (some ⟨mp, 0, none⟩)] 36 (0, 0)) ∧ W2.heap[w.heap.size + 1]? = some (.cells #[.int .i64 8, .bool false] 99 (0, 0)) ∧ Below w.heap.size w W2 :=
    ⟨_, rfl, heap_push (heap_new_at rfl), heap_new_at (by simp), below_alloc (below_alloc (Below.refl _ _) _) _⟩
  rw [hW2]
  have H2 := Lib.hid (HH.out.below hb)
  have C1 := Lib.hid (BoxV.new (t := 36) q1 HS.out (Nat.le_refl _))
  have C2 := Lib.hid (BoxV.new q2 HS.out (by omega))
  have HB := Lib.hid hb
  clear hW2 q1 q2 hb
  have c0 : W2.cell? ⟨w.heap.size, 0, none⟩ = some (.pointer (some ⟨mp, 0, none⟩)) := C1.out.cell 0 _ rfl
  have c1 : W2.cell? ⟨w.heap.size + 1, 0, none⟩ = some (.int .i64 8) := C2.out.cell 0 _ rfl
  have c2 : W2.cell? ⟨w.heap.size + 1, 1, none⟩ = some (.bool false) := C2.out.cell 1 _ rfl
  have HFIN := Lib.hid (mPart H2.out 8 20 false .xl1 (.func 132) #[] #[ptr w.heap.size, ptr (w.heap.size + 1)] ⟨_, _, rfl, C1.out, C2.out⟩ HRAW.out (by omega) (by omega) (by omega))
  go_wp2_with fail
  refine (part_at HFIN.out (by kernel_rfl)).mono ?_
  rintro e w5 ⟨rfl, hA⟩
  go_wp2_with fail
  go_end0
  exact ⟨rfl, hA.pre HB.out⟩
end Go.Proofs.YtlmdkmflbhnlgaaGreat
