/- The machine's parts: how one begins. No condition. -/
import Derived.Test.YtlmdkmflbhnlgaaGreatScanE
import Derived.Test.YtlmdkmflbhnlgaaGreatFixed0
import Derived.Test.YtlmdkmflbhnlgaaGreatMix
namespace Go.Proofs.YtlmdkmflbhnlgaaGreat
open Go.RowKit
variable {w : World} {s : List Nat} {mp : Nat} {S : MS} {a : MA}
/-- A cell's store into a block. -/
theorem wpList_sput {P : Program} {ops : Array Oper} {rest : List Oper} {op : Oper} {f : Act} {Q : Exit → Act → World → Prop} {g : Nat} {cs : Array Value} {t : TypeId} (hg : w.heap[g]? = some (.cells cs t (0, 0))) (hgd : op.guard = none) (ty : TypeId) (x y : Operand) (ho : op.op = .store ty x y)
    (i : Nat) (v : Value) (hx : f.eval x = .pointer (some ⟨g, i, none⟩)) (hy : f.eval y = v) (h1 : v.oneCell' = true) (hi : (P.info? ty).map (·.size) = some 1) (hin : i < cs.size)
    (ds : Array Value) (hv : cs.setIfInBounds i v = ds)
    (K : ∀ W', Hid (W'.heap[g]? = some (.cells ds t (0, 0))) → Hid (Turn [g] w W') → wpList P ops Q rest (f.put op.dst undef) W') : wpList P ops Q (op :: rest) f w := by
  refine wpList_plain hgd fun K0 hK => ?_
  have hc := cell_of_heap hg i _ (Array.getElem?_eq_getElem hin)
  have hz : w.frozen? ⟨g, i, none⟩ = false := by simp [World.frozen?, hg]
  unfold Oper.wp execOp
  have hs : (store ⟨g, i, none⟩ v).run P w = .ok () (w.setCell ⟨g, i, none⟩ v) := by rw [run_store P w _ v _ h1]; simp [hc, hz]
  have h3 := hK (f.put op.dst undef) _ (K _ (by rw [heap_setCell hg i v, hv]; rfl) ((Turn.refl _ _).setCell (p := ⟨g, i, none⟩) (.inl (by simp)) _))
  have hone : ∀ cs, v ≠ .agg cs := fun cs e => by subst e; simp [Value.oneCell'] at h1
  simp only [ho, hx, hy, Instr.storeAt, Instr.sureAddr, Sem.run_bind, Sem.run_pure, Result.andThen_ok]
  have hsv : (storeVar ty ⟨g, i, none⟩ v).run P w = .ok () (w.setCell ⟨g, i, none⟩ v) := by
    have hcs : v.cells = #[v] := by cases v <;> first | rfl | (simp [Value.oneCell'] at h1; done)
    cases hq : P.info? ty with
    | none => simp [hq] at hi
    | some ti =>
      have hs1 : ti.size = 1 := by simpa [hq] using hi
      simp [storeVar, sizeOf, typeInfo, hq, hcs, hs1, storeCells, hs, Addr.add]
  rw [hsv]
  exact h3
theorem info_u8S : (Tryz.prog.info? 5).map (·.size) = some 1 := by kernel_rfl
theorem Below.of_turn {base : Nat} {w w' : World} {g : Nat} (h : Turn [g] w w') (hg : base ≤ g) (hw : base ≤ w.heap.size) : Below base w w' := h.below (fun x hx => by simp at hx; omega) hw
set_option maxRecDepth 100000 in
set_option maxHeartbeats 4000000 in
theorem mPart (h : MR w s mp S a) (ev n : Nat) (ah : Bool) (d : Do) (f0 : Fn) (f1 f2 : Array Value) (hv : DoOk w s mp d (.func f0 f1 f2)) (hraw : 0 < S.raw.length) (h1 : 1 ≤ ev) (h2 : ev ≤ 64) (hn : n ≤ 65536) :
    Calls Tryz.prog 117 #[.pointer (some ⟨mp, 0, none⟩), wayV ev ah, .int .i64 n, .func f0 f1 f2] w (MDone w s mp (partM S ev ah n d)) := by
  obtain ⟨m, hm⟩ : ∃ m, S.raw.length = m + 1 := ⟨S.raw.length - 1, by omega⟩
  obtain ⟨g, hg, hc1, hc2, hcx⟩ := h.rest.raw.at_ m (by omega)
  have hpm : partM S ev ah n d = { S with step := .part (if ah then S.raw.getD m 0 else 1) ev ah (fsize n ev ah) d } := by unfold partM; rw [hm]; rfl
  rw [hpm]
  have HZ := Lib.hid (fun W => FSize_any n ev ah W h1 h2 hn)
  generalize fsize n ev ah = z at *
  have HH := Lib.hid h
  have HV := Lib.hid hv
  have HS : Hid (∀ k ∈ s, k < w.heap.size) := h.rest.mem.2
  have HCX := Lib.hid hcx
  have hcr : w.cell? ⟨mp, 17, none⟩ = some (.slice (some ⟨g, 0, none⟩) (m + 1 : Nat) a.rc) := h.cell 17 _ (by rw [← hg, ← hm]; rfl)
  have HCR := Lib.hid hcr
  have hmpl := h.lt
  have hrc : m + 1 ≤ a.rc := by omega
  obtain ⟨x, hx⟩ : ∃ x, S.raw.getD m 0 = x := ⟨_, rfl⟩
  rw [hx] at HCX ⊢
  obtain ⟨T, HT⟩ : ∃ T, Hid (({ S with step := .part (if ah then x else 1) ev ah z d } : MS) = T) := ⟨_, rfl⟩
  rw [HT.out]
  clear h hv hcx hcr hg hm hc1 hraw hx hpm
  go_enter Tryz.func117, Tryz.ntmps117
  go_upto_region 1 with (fail)
  obtain ⟨W1, hW1, q1, q2, q3, hb1⟩ : ∃ W1, ((w.alloc (.cells #[.pointer (some ⟨mp, 0, none⟩)] 36)).alloc (.cells #[.int .i64 ev, .bool ah] 99)).alloc (.cells #[.func f0 f1 f2] 159) = W1 ∧ W1.heap[w.heap.size]? = some (.cells #[.pointer (some ⟨mp, 0, none⟩)] 36 (0, 0)) ∧ W1.heap[w.heap.size + 1]? = some (.cells #[.int .i64 ev, .bool ah] 99 (0, 0)) ∧ W1.heap[w.heap.size + 1 + 1]? = some (.cells #[.func f0 f1 f2] 159 (0, 0)) ∧ Below w.heap.size w W1 :=
    ⟨_, rfl, heap_push (heap_push (heap_new_at rfl)), heap_push (heap_new_at (by simp)), heap_new_at (by simp), below_alloc (below_alloc (below_alloc (Below.refl _ _) _) _) _⟩
  rw [hW1]
  have d0 := cell_of_heap q2 0 _ rfl
  have d1 : W1.cell? ⟨w.heap.size + 1, 1, none⟩ = some (.bool ah) := cell_of_heap q2 1 _ rfl
  have HB1 := Lib.hid hb1
  have Q1 := Lib.hid q1
  have Q2 := Lib.hid q2
  have Q3 := Lib.hid q3
  clear hW1 q1 q2 q3 hb1
  go_wp2_with fail
  refine (HZ.out _).mono ?_
  rintro e w2 ⟨rfl, hb⟩
  have HB2 := Lib.hid (below_trans HB1.out hb)
  have R1 := Lib.hid (heap_below hb Q1.out)
  have R2 := Lib.hid (heap_below hb Q2.out)
  have R3 := Lib.hid (heap_below hb Q3.out)
  clear hb d0 d1 Q1 Q2 Q3 HB1
  go_wp2_with fail
  obtain ⟨W3, hW3, q8, hb3, hb23⟩ : ∃ W3, w2.alloc (.cells #[.int .i64 z] 3) = W3 ∧ W3.heap[w2.heap.size]? = some (.cells #[.int .i64 z] 3 (0, 0)) ∧ Below w.heap.size w W3 ∧ Below w2.heap.size w2 W3 :=
    ⟨_, rfl, heap_new_at rfl, below_alloc HB2.out _, below_alloc (Below.refl _ _) _⟩
  rw [hW3]
  have P1 := Lib.hid (heap_below hb23 R1.out)
  have P2 := Lib.hid (heap_below hb23 R2.out)
  have P3 := Lib.hid (heap_below hb23 R3.out)
  have hwp2 : w.heap.size + 1 + 1 < w2.heap.size := heap_lt R3.out
  have hwp : w.heap.size ≤ w2.heap.size := HB2.out.size
  generalize w2.heap.size = p at *
  have P4 := Lib.hid q8
  have HB3 := Lib.hid hb3
  have c0 : ∀ e : Ext W3, e.W.cell? ⟨w.heap.size, 0, none⟩ = some (.pointer (some ⟨mp, 0, none⟩)) := fun e => ext_cell (cell_of_heap P1.out 0 _ rfl) e
  have c17 : ∀ e : Ext W3, e.W.cell? ⟨mp, 17, none⟩ = some (.slice (some ⟨g, 0, none⟩) (m + 1 : Nat) a.rc) := fun e => ext_cell (Below.cell_of HB3.out HCR.out) e
  have cgm : ∀ e : Ext W3, e.W.cell? ⟨g, m, none⟩ = some (.int .u8 x) := fun e => ext_cell (Below.cell_of HB3.out HCX.out) e
  clear hW3 q8 hb3 hb23 R1 R2 R3 HB2
  refine wp_region_mix (fun w' => ∃ e : Ext W3, w' = e.W) [(true, 0), (true, 1), (true, 2), (true, 3), (true, 4), (true, 5), (true, 6), (true, 7), (true, 8), (true, 9), (true, 10), (true, 11), (false, 12)] [13] (by kernel_rfl) (by kernel_rfl) (by intro _ _ d _ _ h; cases d <;> exact h) ⟨⟨W3.drew, (Below.refl _ _).drew⟩, rfl⟩ ?_
  simp only [pickM, pickL, List.drop_succ_cons, List.drop_zero]
  repeat (first | (refine mix_pure (by rfl) (by rfl) ?_; intro K hK; go_big_quiet_op; go_big_quiet_on) | (refine mix_nilc ⟨mp, 0, none⟩ (by rfl) (by kernel_rfl) ?_; go_simp))
  refine mix_eff (by rfl) ?_
  intro K hK
  go_simp
  have hb34 : Below W3.heap.size W3 (W3.alloc (.cells #[.int .u8 0] 5)).drew := (below_alloc (Below.refl _ _) _).drew
  refine hK _ _ ⟨⟨_, hb34⟩, rfl⟩ ?_
  clear hK K
  refine mix_nil ?_
  obtain ⟨W4, hW4, q10, hwq⟩ : ∃ W4, (W3.alloc (.cells #[.int .u8 0] 5)).drew = W4 ∧ W4.heap[W3.heap.size]? = some (.cells #[.int .u8 0] 5 (0, 0)) ∧ w.heap.size ≤ W3.heap.size := ⟨_, rfl, heap_new_at rfl, HB3.out.size⟩
  rw [hW4] at hb34 ⊢
  have X1 := Lib.hid (heap_below hb34 P1.out)
  have X2 := Lib.hid (heap_below hb34 P2.out)
  have X3 := Lib.hid (heap_below hb34 P3.out)
  have X4 := Lib.hid (heap_below hb34 P4.out)
  have hpq : p < W3.heap.size := heap_lt P4.out
  have HB4 : Hid (Below w.heap.size w W4) := HB3.out.trans (hb34.mono hwq)
  clear hW4 hb34 c0 c17 cgm P1 P2 P3 P4
  refine wpList_sput q10 rfl 5 (.tmp 10) (.tmp 28) rfl 0 (.int .u8 x) (by kernel_rfl) (by kernel_rfl) rfl info_u8S (by simp) #[.int .u8 x] (by simp) ?_
  intro W5 Y5 T5
  refine wpList_nil ?_
  have hb45 : Below w2.heap.size w2 w2 := Below.refl _ _
  have Y1 := Lib.hid (T5.out.heap X1.out (by simp; omega))
  have Y2 := Lib.hid (T5.out.heap X2.out (by simp; omega))
  have Y3 := Lib.hid (T5.out.heap X3.out (by simp; omega))
  have Y4 := Lib.hid (T5.out.heap X4.out (by simp; omega))
  have HB5 := Lib.hid (HB4.out.trans (Below.of_turn T5.out (by omega) (by have := heap_lt X4.out; omega)))
  generalize W3.heap.size = q at *
  clear X1 X2 X3 X4 q10 hb45
  have hpart : Hid (∀ W v, MR W s mp S a → Below w.heap.size w W → W.heap[w.heap.size]? = some (.cells #[ptr mp] 36 (0, 0)) → W.heap[q]? = some (.cells #[.int .u8 (if ah then x else 1 : Nat)] 5 (0, 0)) → W.heap[w.heap.size + 1]? = some (.cells #[.int .i64 ev, .bool ah] 99 (0, 0)) → W.heap[p]? = some (.cells #[.int .i64 z] 3 (0, 0)) → W.heap[w.heap.size + 1 + 1]? = some (.cells #[.func f0 f1 f2] 159 (0, 0)) →
      v = .func (.func 127) #[] #[ptr w.heap.size, ptr q, ptr (w.heap.size + 1), ptr p, ptr (w.heap.size + 1 + 1)] →
      ∀ w', Turn s W w' → MRest w' s mp S.raw S.l S.own S.sf.data S.f.data S.step S.next S.gh a → MRest w' s mp T.raw T.l T.own T.sf.data T.f.data T.step T.next T.gh { a with sv := v }) := by
    intro W v hW hb e1 e2 e3 e4 e5 ev' w' ht hm
    have hs : ∀ k ∈ s, k ∈ s ∨ W.heap.size ≤ k := fun k hk => .inl hk
    have bx : ∀ {b : Nat} {cs : Array Value} {t : TypeId}, W.heap[b]? = some (.cells cs t (0, 0)) → w.heap.size ≤ b → BoxV w' s b cs t := fun h hge => (BoxV.new h HS.out hge).turn ht hs
    rw [← HT.out]
    exact ⟨hm.mem, hm.raw, hm.l, hm.own, hm.rl, hm.ro, hm.lo, hm.sf, hm.f, ⟨_, _, _, _, _, _, ev', bx e1 (Nat.le_refl _), bx e2 hwq, bx e3 (by omega), bx e4 hwp, bx e5 (by omega), (HV.out.turn (Turn.of hb) (fun k hk => .inl hk)).turn ht hs⟩, hm.next, hm.gho⟩
  obtain ⟨v, hv⟩ : ∃ v, Value.func (.func 127) #[] #[ptr w.heap.size, ptr q, ptr (w.heap.size + 1), ptr p, ptr (w.heap.size + 1 + 1)] = v := ⟨_, rfl⟩
  cases ah
  · have c1 : W5.cell? ⟨w.heap.size + 1, 1, none⟩ = some (.bool false) := cell_of_heap Y2.out 1 _ rfl
    go_wp2_with (first
      | (refine wpList_sput Y5.out rfl 5 (.tmp 10) (.const (.int .u8 1)) rfl 0 (.int .u8 1) (by kernel_rfl) (by kernel_rfl) rfl info_u8S (by simp) #[.int .u8 1] (by simp) ?_; intro W6 Z5 T6; have Z1 := Lib.hid (T6.out.heap Y1.out (by simp; omega)); have Z2 := Lib.hid (T6.out.heap Y2.out (by simp; omega)); have Z3 := Lib.hid (T6.out.heap Y3.out (by simp; omega)); have Z4 := Lib.hid (T6.out.heap Y4.out (by simp; omega)); have HB6 := Lib.hid (HB5.out.trans (Below.of_turn T6.out (by omega) (by have := heap_lt Y4.out; omega))); have H6 := Lib.hid (HH.out.below HB6.out); have c0 := cell_of_heap Z1.out 0 _ rfl; have HM := Lib.hid (hpart.out W6 v H6.out HB6.out Z1.out Z5.out Z2.out Z4.out Z3.out hv.symm))
      | (refine wpList_mput H6.out rfl 57 (.tmp 35) (.tmp 33) rfl 15 v (by kernel_rfl) (by rw [← hv]; kernel_rfl) (by rw [← hv]; rfl) info_funcB (by decide) T { a with sv := v } (by rw [← HT.out]; kernel_rfl) HM.out ?_; intro W7 H7 T7))
    go_end0
    exact ⟨rfl, (MAct.same H7.out T7.out).pre HB6.out⟩
  · have c1 : W5.cell? ⟨w.heap.size + 1, 1, none⟩ = some (.bool true) := cell_of_heap Y2.out 1 _ rfl
    have c0 : W5.cell? ⟨w.heap.size, 0, none⟩ = some (.pointer (some ⟨mp, 0, none⟩)) := cell_of_heap Y1.out 0 _ rfl
    have H5 := Lib.hid (HH.out.below HB5.out)
    have HM := Lib.hid (hpart.out W5 v H5.out HB5.out Y1.out Y5.out Y2.out Y4.out Y3.out hv.symm)
    go_wp2_with (first
      | (refine wpList_mput H5.out rfl 57 (.tmp 35) (.tmp 33) rfl 15 v (by kernel_rfl) (by rw [← hv]; kernel_rfl) (by rw [← hv]; rfl) info_funcB (by decide) T { a with sv := v } (by rw [← HT.out]; kernel_rfl) HM.out ?_; intro W6 H6 T6)
      | fail)
    go_end0
    exact ⟨rfl, (MAct.same H6.out T6.out).pre HB5.out⟩
end Go.Proofs.YtlmdkmflbhnlgaaGreat
namespace Go.Proofs.YtlmdkmflbhnlgaaGreat
open Go.RowKit
variable {w : World} {s : List Nat} {mp : Nat} {S : MS} {a : MA}
theorem below_alloc' {B : Nat} {w : World} (h : B ≤ w.heap.size) (o : Obj) : Below B w (w.alloc o) := (below_alloc (Below.refl w.heap.size w) o).mono h
theorem ask_at {P : Program} {f : FuncId} {p v : Value} {n : Nat} {m : Int} {W : World} {R : Ending → World → Prop} (h : Calls P f #[p, .int .i64 n, v] W R) (e : m = n) : Calls P f #[p, .int .i64 m, v] W R := by rw [e]; exact h
set_option maxRecDepth 100000 in
set_option maxHeartbeats 4000000 in
theorem mCode (h : MR w s mp S a) (hl4 : 4 ≤ S.l.length) (hl : S.l.length ≤ 1000000) (h01 : ∀ x ∈ S.l, x ≤ 1) :
    Calls Tryz.prog 96 #[.pointer (some ⟨mp, 0, none⟩)] w (MDone w s mp (codeM S)) := by
  have HN := Lib.hid (fun W (hW : MR W s mp S a) => mNumber hW (S.l.length - 4) S.l.length (by omega) (Nat.le_refl _) (by omega) h01 hl)
  have hs : codeM S = if numM S (S.l.length - 4) S.l.length ≤ 8 ∧ (numM S (S.l.length - 4) S.l.length = 0 ∨ S.f.rtr = false) then askM S (S.l.length + 8 * numM S (S.l.length - 4) S.l.length + 15) (.codeC S.l.length (numM S (S.l.length - 4) S.l.length)) else badM S 5 := rfl
  have hn16 := numM_lt S (S.l.length - 4) S.l.length 4 (by omega) h01
  generalize numM S (S.l.length - 4) S.l.length = n at *
  obtain ⟨T, hT⟩ : ∃ T, codeM S = T := ⟨_, rfl⟩
  rw [hT] at hs ⊢
  have HH := Lib.hid h
  have hmpl := h.lt
  obtain ⟨k, hk⟩ : ∃ k, S.l.length = k + 4 := ⟨S.l.length - 4, by omega⟩
  have c18 : w.cell? ⟨mp, 18, none⟩ = some (.slice a.lA (k + 4 : Nat) a.lc) := h.cell 18 _ (by rw [← hk]; rfl)
  have C18 := Lib.hid c18
  obtain ⟨r, hr⟩ : ∃ r, S.f.rtr = r := ⟨_, rfl⟩
  have c24 : w.cell? ⟨mp, 24, none⟩ = some (.bool r) := h.cell 24 _ (by rw [← hr]; rfl)
  have C24 := Lib.hid c24
  have HS : Hid (∀ k ∈ s, k < w.heap.size) := h.rest.mem.2
  have HK := Lib.hid hk
  rw [hk, Nat.add_sub_cancel, show ((k + 4 : Nat) : Int) = (k : Int) + 4 by omega] at HN
  rw [hk, hr] at hs
  have HSS := Lib.hid hs
  have hkl : k ≤ 1000000 := by omega
  clear h hl c18 c24 h01 hs hT hk hl4 hr
  go_enter Tryz.func96, Tryz.ntmps96
  go_upto_region 1 with (fail)
  obtain ⟨W1, hW1, q1, hb1⟩ : ∃ W1, w.alloc (.cells #[.pointer (some ⟨mp, 0, none⟩)] 36) = W1 ∧ W1.heap[w.heap.size]? = some (.cells #[.pointer (some ⟨mp, 0, none⟩)] 36 (0, 0)) ∧ Below w.heap.size w W1 := ⟨_, rfl, heap_new_at rfl, below_alloc (Below.refl _ _) _⟩
  rw [hW1]
  have c0 := cell_of_heap q1 0 _ rfl
  have c18 := Below.cell_of hb1 C18.out
  have HB1 := Lib.hid hb1
  have Q1 := Lib.hid q1
  clear hW1 q1 hb1
  go_upto_region 2 with (fail)
  obtain ⟨W2, hW2, q2, hb2⟩ : ∃ W2, W1.alloc (.cells #[.int .i64 (k + 4 : Int)] 3) = W2 ∧ W2.heap[W1.heap.size]? = some (.cells #[.int .i64 (k + 4 : Nat)] 3 (0, 0)) ∧ Below W1.heap.size W1 W2 := ⟨_, rfl, by rw [show ((k + 4 : Nat) : Int) = (k : Int) + 4 by omega]; exact heap_new_at rfl, below_alloc (Below.refl _ _) _⟩
  rw [hW2]
  have hp1 : w.heap.size < W1.heap.size := heap_lt Q1.out
  have R1 := Lib.hid (heap_below hb2 Q1.out)
  have HB2 := Lib.hid (HB1.out.trans (hb2.mono (by omega)))
  have R2 := Lib.hid q2
  have c0 := cell_of_heap R1.out 0 _ rfl
  have c2 := cell_of_heap q2 0 _ rfl
  clear hW2 q2 hb2
  generalize W1.heap.size = p at *
  go_wp2_with fail
  refine (HN.out _ (HH.out.below HB2.out)).mono ?_
  rintro e w2 ⟨rfl, hb3⟩
  have hp2 : p < W2.heap.size := heap_lt R2.out
  have X1 := Lib.hid (heap_below hb3 R1.out)
  have X2 := Lib.hid (heap_below hb3 R2.out)
  have HB3 := Lib.hid (HB2.out.trans (hb3.mono (by omega)))
  clear hb3 c0 c2 R1 R2 c18
  go_upto_region 3 with (fail)
  have hp3 : p < w2.heap.size := heap_lt X2.out
  obtain ⟨W3, hW3, q3, hb4⟩ : ∃ W3, w2.alloc (.cells #[.int .i64 n] 3) = W3 ∧ W3.heap[w2.heap.size]? = some (.cells #[.int .i64 n] 3 (0, 0)) ∧ Below w2.heap.size w2 W3 := ⟨_, rfl, heap_new_at rfl, below_alloc (Below.refl _ _) _⟩
  rw [hW3]
  have Y1 := Lib.hid (heap_below hb4 X1.out)
  have Y2 := Lib.hid (heap_below hb4 X2.out)
  have Y3 := Lib.hid q3
  have HB4 := Lib.hid (HB3.out.trans (hb4.mono (by omega)))
  clear hW3 q3 hb4 X1 X2
  generalize w2.heap.size = q at *
  have c0 : ∀ e : Ext W3, e.W.cell? ⟨w.heap.size, 0, none⟩ = some (.pointer (some ⟨mp, 0, none⟩)) := fun e => ext_cell (cell_of_heap Y1.out 0 _ rfl) e
  have c3 : ∀ e : Ext W3, e.W.cell? ⟨q, 0, none⟩ = some (.int .i64 n) := fun e => ext_cell (cell_of_heap Y3.out 0 _ rfl) e
  have c24 : ∀ e : Ext W3, e.W.cell? ⟨mp, 24, none⟩ = some (.bool r) := fun e => ext_cell (Below.cell_of HB4.out C24.out) e
  by_cases h8 : n ≤ 8
  · have g8 : decide ((n : Int) ≤ 8) = true := by simp; omega
    by_cases h0 : n = 0
    · subst h0
      rw [if_pos ⟨h8, .inl rfl⟩] at HSS
      refine wp_region_mix (fun w' => ∃ e : Ext W3, w' = e.W) [(true, 0), (true, 1), (true, 2), (true, 3), (true, 4), (true, 5), (true, 6), (true, 7), (true, 8), (true, 9), (true, 10), (true, 11), (true, 12), (true, 13), (true, 14)] [15, 16] (by kernel_rfl) (by kernel_rfl) (by intro _ _ d _ _ h; cases d <;> exact h) ⟨⟨W3.drew, (Below.refl _ _).drew⟩, rfl⟩ ?_
      simp only [pickM, pickL, List.drop_succ_cons, List.drop_zero]
      repeat (first | (refine mix_pure (by rfl) (by rfl) ?_; intro K hK; go_big_quiet_op; go_big_quiet_on) | (refine mix_nilc ⟨mp, 0, none⟩ (by rfl) (by kernel_rfl) ?_; go_simp) | (refine mix_skip (by rfl) ?_; go_simp))
      refine mix_nil ?_
      clear c0 c3 c24
      have hbd : Below W3.heap.size W3 W3.drew := (Below.refl _ _).drew
      have Z1 := Lib.hid (heap_below hbd Y1.out)
      have Z2 := Lib.hid (heap_below hbd Y2.out)
      have Z3 := Lib.hid (heap_below hbd Y3.out)
      have H3 := Lib.hid (HH.out.below HB4.out.drew)
      have HB5 := Lib.hid HB4.out.drew
      clear hbd Y1 Y2 Y3
      generalize W3.drew = W4 at *
      go_wp2_with fail
      refine (mMust H3.out _).mono ?_
      rintro e w4 ⟨rfl, hA⟩
      obtain ⟨s4, a4, h4, n4, t4⟩ := hA
      have nm : ∀ b, w.heap.size ≤ b → b ∉ s := fun b hb hm => by have := HS.out b hm; omega
      have z1 := t4.heap Z1.out (nm _ (Nat.le_refl _))
      have z2 := t4.heap Z2.out (nm _ (by omega))
      have z3 := t4.heap Z3.out (nm _ (by omega))
      have c0 := cell_of_heap z1 0 _ rfl
      have c2 : w4.cell? ⟨p, 0, none⟩ = some (.int .i64 (k + 4 : Int)) := (cell_of_heap z2 0 _ rfl).trans (by simp)
      have c3 := cell_of_heap z3 0 _ rfl
      have ls4 : ∀ b, w.heap.size ≤ b → b < W4.heap.size → b ∉ s4 := fun b h1 h2 hm => (n4 b hm).elim (nm b h1) (fun h => by omega)
      have b1 : BoxV w4 s4 w.heap.size #[ptr mp] 36 := ⟨z1, ls4 _ (Nat.le_refl _) (heap_lt Z1.out)⟩
      have b2 : BoxV w4 s4 p #[.int .i64 (k + 4 : Nat)] 3 := ⟨z2, ls4 _ (by omega) (heap_lt Z2.out)⟩
      have b3 : BoxV w4 s4 q #[.int .i64 (0 : Nat)] 3 := ⟨z3, ls4 _ (by omega) (heap_lt Z3.out)⟩
      have HA := Lib.hid (mAsk h4 (k + 4 + 8 * (0 : Nat) + 15) (.codeC (k + 4) (0 : Nat)) _ ⟨w.heap.size, p, q, rfl, b1, b2, b3⟩)
      have N4 := Lib.hid n4
      have T4 := Lib.hid t4
      clear z1 z2 z3 b1 b2 b3 ls4 nm n4 t4 h4
      go_wp2_with fail
      refine (ask_at HA.out (by omega)).mono ?_
      rintro e w5 ⟨rfl, hA5⟩
      go_wp2_with fail
      go_end0
      exact ⟨rfl, HSS.out ▸ ((hA5.after N4.out T4.out).pre HB5.out)⟩
    · have g0 : ((n : Int) == 0) = false := by simp; omega
      cases r
      · rw [if_pos ⟨h8, .inr rfl⟩] at HSS
        refine wp_region_mix (fun w' => ∃ e : Ext W3, w' = e.W) [(true, 0), (true, 1), (true, 2), (true, 3), (true, 4), (true, 5), (true, 6), (true, 7), (true, 8), (true, 9), (true, 10), (true, 11), (true, 12), (true, 13), (true, 14)] [15, 16] (by kernel_rfl) (by kernel_rfl) (by intro _ _ d _ _ h; cases d <;> exact h) ⟨⟨W3.drew, (Below.refl _ _).drew⟩, rfl⟩ ?_
        simp only [pickM, pickL, List.drop_succ_cons, List.drop_zero]
        repeat (first | (refine mix_pure (by rfl) (by rfl) ?_; intro K hK; go_big_quiet_op; go_big_quiet_on) | (refine mix_nilc ⟨mp, 0, none⟩ (by rfl) (by kernel_rfl) ?_; go_simp) | (refine mix_skip (by rfl) ?_; go_simp))
        refine mix_nil ?_
        clear c0 c3 c24
        have hbd : Below W3.heap.size W3 W3.drew := (Below.refl _ _).drew
        have Z1 := Lib.hid (heap_below hbd Y1.out)
        have Z2 := Lib.hid (heap_below hbd Y2.out)
        have Z3 := Lib.hid (heap_below hbd Y3.out)
        have H3 := Lib.hid (HH.out.below HB4.out.drew)
        have HB5 := Lib.hid HB4.out.drew
        clear hbd Y1 Y2 Y3
        generalize W3.drew = W4 at *
        go_wp2_with fail
        refine (mMust H3.out _).mono ?_
        rintro e w4 ⟨rfl, hA⟩
        obtain ⟨s4, a4, h4, n4, t4⟩ := hA
        have nm : ∀ b, w.heap.size ≤ b → b ∉ s := fun b hb hm => by have := HS.out b hm; omega
        have z1 := t4.heap Z1.out (nm _ (Nat.le_refl _))
        have z2 := t4.heap Z2.out (nm _ (by omega))
        have z3 := t4.heap Z3.out (nm _ (by omega))
        have c0 := cell_of_heap z1 0 _ rfl
        have c2 : w4.cell? ⟨p, 0, none⟩ = some (.int .i64 (k + 4 : Int)) := (cell_of_heap z2 0 _ rfl).trans (by simp)
        have c3 := cell_of_heap z3 0 _ rfl
        have ls4 : ∀ b, w.heap.size ≤ b → b < W4.heap.size → b ∉ s4 := fun b h1 h2 hm => (n4 b hm).elim (nm b h1) (fun h => by omega)
        have b1 : BoxV w4 s4 w.heap.size #[ptr mp] 36 := ⟨z1, ls4 _ (Nat.le_refl _) (heap_lt Z1.out)⟩
        have b2 : BoxV w4 s4 p #[.int .i64 (k + 4 : Nat)] 3 := ⟨z2, ls4 _ (by omega) (heap_lt Z2.out)⟩
        have b3 : BoxV w4 s4 q #[.int .i64 n] 3 := ⟨z3, ls4 _ (by omega) (heap_lt Z3.out)⟩
        have HA := Lib.hid (mAsk h4 (k + 4 + 8 * n + 15) (.codeC (k + 4) n) _ ⟨w.heap.size, p, q, rfl, b1, b2, b3⟩)
        have N4 := Lib.hid n4
        have T4 := Lib.hid t4
        clear z1 z2 z3 b1 b2 b3 ls4 nm n4 t4 h4
        go_wp2_with fail
        refine (ask_at HA.out (by omega)).mono ?_
        rintro e w5 ⟨rfl, hA5⟩
        go_wp2_with fail
        go_end0
        exact ⟨rfl, HSS.out ▸ ((hA5.after N4.out T4.out).pre HB5.out)⟩
      · rw [if_neg (by rintro ⟨-, h | h⟩; exact h0 h; cases h)] at HSS
        refine wp_region_mix (fun w' => ∃ e : Ext W3, w' = e.W) [(true, 0), (true, 1), (true, 2), (true, 3), (true, 4), (true, 5), (true, 6), (true, 7), (true, 8), (true, 9), (true, 10), (true, 11), (true, 12), (true, 13), (true, 14)] [15, 16] (by kernel_rfl) (by kernel_rfl) (by intro _ _ d _ _ h; cases d <;> exact h) ⟨⟨W3.drew, (Below.refl _ _).drew⟩, rfl⟩ ?_
        simp only [pickM, pickL, List.drop_succ_cons, List.drop_zero]
        repeat (first | (refine mix_pure (by rfl) (by rfl) ?_; intro K hK; go_big_quiet_op; go_big_quiet_on) | (refine mix_nilc ⟨mp, 0, none⟩ (by rfl) (by kernel_rfl) ?_; go_simp) | (refine mix_skip (by rfl) ?_; go_simp))
        refine mix_nil ?_
        clear c0 c3 c24
        have hbd : Below W3.heap.size W3 W3.drew := (Below.refl _ _).drew
        have Z1 := Lib.hid (heap_below hbd Y1.out)
        have Z2 := Lib.hid (heap_below hbd Y2.out)
        have Z3 := Lib.hid (heap_below hbd Y3.out)
        have H3 := Lib.hid (HH.out.below HB4.out.drew)
        have HB5 := Lib.hid HB4.out.drew
        clear hbd Y1 Y2 Y3
        generalize W3.drew = W4 at *
        go_wp2_with fail
        refine (mMust H3.out _).mono ?_
        rintro e w4 ⟨rfl, hA⟩
        obtain ⟨s4, a4, h4, n4, t4⟩ := hA
        have hA4 : MAct _ s mp _ w4 := ⟨s4, a4, h4, n4, t4⟩
        clear h4 n4 t4
        go_wp2_with fail
        go_end0
        exact ⟨rfl, HSS.out ▸ hA4.pre HB5.out⟩
  · have g8 : decide ((n : Int) ≤ 8) = false := by simp; omega
    rw [if_neg (fun h => h8 h.1)] at HSS
    refine wp_region_mix (fun w' => ∃ e : Ext W3, w' = e.W) [(true, 0), (true, 1), (true, 2), (true, 3), (true, 4), (true, 5), (true, 6), (true, 7), (true, 8), (true, 9), (true, 10), (true, 11), (true, 12), (true, 13), (true, 14)] [15, 16] (by kernel_rfl) (by kernel_rfl) (by intro _ _ d _ _ h; cases d <;> exact h) ⟨⟨W3.drew, (Below.refl _ _).drew⟩, rfl⟩ ?_
    simp only [pickM, pickL, List.drop_succ_cons, List.drop_zero]
    repeat (first | (refine mix_pure (by rfl) (by rfl) ?_; intro K hK; go_big_quiet_op; go_big_quiet_on) | (refine mix_nilc ⟨mp, 0, none⟩ (by rfl) (by kernel_rfl) ?_; go_simp) | (refine mix_skip (by rfl) ?_; go_simp))
    refine mix_nil ?_
    clear c0 c3 c24
    have hbd : Below W3.heap.size W3 W3.drew := (Below.refl _ _).drew
    have Z1 := Lib.hid (heap_below hbd Y1.out)
    have Z2 := Lib.hid (heap_below hbd Y2.out)
    have Z3 := Lib.hid (heap_below hbd Y3.out)
    have H3 := Lib.hid (HH.out.below HB4.out.drew)
    have HB5 := Lib.hid HB4.out.drew
    clear hbd Y1 Y2 Y3
    generalize W3.drew = W4 at *
    go_wp2_with fail
    refine (mMust H3.out _).mono ?_
    rintro e w4 ⟨rfl, hA⟩
    obtain ⟨s4, a4, h4, n4, t4⟩ := hA
    have hA4 : MAct _ s mp _ w4 := ⟨s4, a4, h4, n4, t4⟩
    clear h4 n4 t4
    go_wp2_with fail
    go_end0
    exact ⟨rfl, HSS.out ▸ hA4.pre HB5.out⟩
end Go.Proofs.YtlmdkmflbhnlgaaGreat
namespace Go.Proofs.YtlmdkmflbhnlgaaGreat
open Go.RowKit
variable {w : World} {s : List Nat} {mp : Nat} {S : MS} {a : MA}
/-- Cells that hold these values. -/
def Cels (l : List (Addr × Value)) (w : World) : Prop := ∀ x ∈ l, w.cell? x.1 = some x.2
theorem Cels.at {l : List (Addr × Value)} {w : World} (h : Cels l w) (i : Nat) {p : Addr} {v : Value} (hi : l[i]? = some (p, v)) : w.cell? p = some v := h _ (List.mem_of_getElem? hi)
/-- A world of which something holds. -/
structure Sat (C : World → Prop) where
  W : World
  h : C W
theorem Cels.below {l : List (Addr × Value)} {w w' : World} (h : Cels l w) (hb : Below w.heap.size w w') : Cels l w' := fun x hx => Below.cell_of hb (h x hx)
theorem Cels.drew {l : List (Addr × Value)} {w : World} (h : Cels l w) : Cels l w.drew := h.below (Below.refl _ _).drew
theorem oper_mput {P : Program} {o : Oper} {f : Act} {Q : Exit → Act → World → Prop} {K : Act → World → Prop} (h : MR w s mp S a) (ty : TypeId) (x y : Operand) (ho : o.op = .store ty x y)
    (i : Nat) (v : Value) (hx : f.eval x = .pointer (some ⟨mp, i, none⟩)) (hy : f.eval y = v) (h1 : v.oneCell' = true) (hi : (P.info? ty).map (·.size) = some 1) (hin : i < 34)
    (S' : MS) (a' : MA) (hv : (mca S a).setIfInBounds i v = mca S' a')
    (hk : ∀ w', Turn s w w' → MRest w' s mp S.raw S.l S.own S.sf.data S.f.data S.step S.next S.gh a → MRest w' s mp S'.raw S'.l S'.own S'.sf.data S'.f.data S'.step S'.next S'.gh a')
    (hK : ∀ W', Hid (MR W' s mp S' a') → Hid (Turn s w W') → K (f.put o.dst undef) W') : o.wp P f w K Q := by
  have t1 : Turn [mp] w (w.setCell ⟨mp, i, none⟩ v) := (Turn.refl _ _).setCell (p := ⟨mp, i, none⟩) (.inl (by simp)) _
  have h2 : MR (w.setCell ⟨mp, i, none⟩ v) s mp S' a' := ⟨by rw [heap_setCell h.cells i v, hv], hk _ (h.turn1 i v) (h.rest.turnM t1 h.cells)⟩
  have hc : ∃ u, w.cell? ⟨mp, i, none⟩ = some u := by
    have hlt : i < (mca S a).size := by simpa [mca, mcs] using hin
    exact ⟨_, h.cell i _ (Array.getElem?_eq_getElem hlt)⟩
  obtain ⟨u, hc⟩ := hc
  have hz := h.frz i
  unfold Oper.wp execOp
  have hs : (store ⟨mp, i, none⟩ v).run P w = .ok () (w.setCell ⟨mp, i, none⟩ v) := by rw [run_store P w _ v _ h1]; simp [hc, hz]
  have h3 := hK _ h2 (h.turn1 i v)
  have hone : ∀ cs, v ≠ .agg cs := fun cs e => by subst e; simp [Value.oneCell'] at h1
  simp only [ho, hx, hy, Instr.storeAt, Instr.sureAddr, Sem.run_bind, Sem.run_pure, Result.andThen_ok]
  have hsv : (storeVar ty ⟨mp, i, none⟩ v).run P w = .ok () (w.setCell ⟨mp, i, none⟩ v) := by
    have hcs : v.cells = #[v] := by cases v <;> first | rfl | (simp [Value.oneCell'] at h1; done)
    cases hq : P.info? ty with
    | none => simp [hq] at hi
    | some ti =>
      have hs1 : ti.size = 1 := by simpa [hq] using hi
      have hs2 : (store (⟨mp, i, none⟩ : Addr) v).run P w = .ok () (w.setCell ⟨mp, i, none⟩ v) := hs
      simp [storeVar, sizeOf, typeInfo, hq, hcs, hs1, storeCells, hs2, Addr.add]
  rw [hsv]
  exact h3
/-- A cell's store into the machine, in a region that draws its order. -/
theorem mix_mput {P : Program} {ops : Array Oper} {T : Act → World → Prop} {C : World → Prop} {r : List (Bool × Oper)} {o : Oper} {f : Act} {Q : Exit → Act → World → Prop} (h : MR w s mp S a) (hw : Region.wanted o (yielded ops f.tmps) = true) (ty : TypeId) (x y : Operand) (ho : o.op = .store ty x y)
    (i : Nat) (v : Value) (hx : f.eval x = .pointer (some ⟨mp, i, none⟩)) (hy : f.eval y = v) (h1 : v.oneCell' = true) (hi : (P.info? ty).map (·.size) = some 1) (hin : i < 34)
    (S' : MS) (a' : MA) (hv : (mca S a).setIfInBounds i v = mca S' a')
    (hk : ∀ w', Turn s w w' → MRest w' s mp S.raw S.l S.own S.sf.data S.f.data S.step S.next S.gh a → MRest w' s mp S'.raw S'.l S'.own S'.sf.data S'.f.data S'.step S'.next S'.gh a')
    (hC : ∀ W', MR W' s mp S' a' → Turn s w W' → C W')
    (hK : ∀ W', Hid (MR W' s mp S' a') → Hid (Turn s w W') → wpMixL P ops Q C T r (f.put o.dst undef) W') : wpMixL P ops Q C T ((false, o) :: r) f w :=
  mix_eff hw fun K hK1 => oper_mput h ty x y ho i v hx hy h1 hi hin S' a' hv hk fun W' h2 t2 => hK1 _ _ (hC W' h2.out t2.out) (hK W' h2 t2)
theorem info_slcS : (Tryz.prog.info? 22).map (·.size) = some 1 := by kernel_rfl
theorem BoxV.cell {p : Nat} {cs : Array Value} {t : TypeId} (h : BoxV w s p cs t) (i : Nat) (v : Value) (hv : cs[i]? = some v) : w.cell? ⟨p, i, none⟩ = some v := cell_of_heap h.1 i v hv
set_option maxRecDepth 100000 in
set_option maxHeartbeats 4000000 in
theorem mCodeC (h : MR w s mp S a) (p q r at_ n : Nat) (b1 : BoxV w s p #[ptr mp] 36) (b2 : BoxV w s q #[.int .i64 at_] 3) (b3 : BoxV w s r #[.int .i64 n] 3) (hn : n ≤ 8) (hat : at_ ≤ 100) (hl : S.l.length = at_ + 8 * n + 15) (h01 : ∀ x ∈ S.l, x ≤ 1) :
    Calls Tryz.prog 105 #[.pointer (some ⟨p, 0, none⟩), .pointer (some ⟨q, 0, none⟩), .pointer (some ⟨r, 0, none⟩)] w (MDone w s mp (codeCM S at_ n)) := by
  obtain ⟨j, hj⟩ : ∃ j, at_ + 8 * n = j := ⟨_, rfl⟩
  obtain ⟨d, hd⟩ : ∃ d, 8 * n = d := ⟨_, rfl⟩
  obtain ⟨g, hg, hc1, hc2, -⟩ := h.rest.l.at_ 0 (by omega)
  have hr := h.rest.l.1.rd
  rw [hg] at hr
  have hlen : ((S.l.take j).drop at_).length = d := by rw [List.length_drop, List.length_take]; omega
  have h01' : ∀ x ∈ (S.l.take j).drop at_, x ≤ 1 := fun x hx => h01 x (List.mem_of_mem_take (List.mem_of_mem_drop hx))
  have HP := Lib.hid (fun W c (hW : Rd W (some ⟨g, 0, none⟩) (bys S.l)) k1 k2 => Pack_any g at_ d c _ (.inl rfl) _ W (rd_part hW at_ j) hlen (by omega) (by omega) k1 k2 h01')
  have HF := Lib.hid (fun W (hW : Rd W (some ⟨g, 0, none⟩) (bys S.l)) => CrcFits_any of_1 (by omega) (by omega) g a.lc S.l.length S.l W hW rfl (by omega) (by omega) hc1 hc2 h01)
  have hpl : (packL ((S.l.take j).drop at_)).length = d / 8 := by unfold packL; rw [List.length_map, List.length_range, hlen, nch8 d (by omega)]
  have hs : codeCM S at_ n = endM { S with f := { S.f with data := packL ((S.l.take j).drop at_) }, fits := fitsC 15 17817 0 S.l } := by rw [← hj]; rfl
  rw [hs]
  generalize packL ((S.l.take j).drop at_) = D at *
  generalize fitsC 15 17817 0 S.l = F at *
  have hln : (at_ : Int) + 8 * (n : Int) = (j : Int) := by omega
  have c18 : w.cell? ⟨mp, 18, none⟩ = some (.slice (some ⟨g, 0, none⟩) S.l.length a.lc) := h.cell 18 _ (by rw [← hg]; rfl)
  have hji : ¬ j < at_ := by omega
  have hcne : ¬ a.lc = at_ := by omega
  rw [← hpl] at HP
  have HSS : Hid (∀ k ∈ s, k < w.heap.size) := h.rest.mem.2
  have hnd : j - at_ = d := by omega
  have hcj : ¬ a.lc < j := by omega
  have hjl : ¬ S.l.length < j := by omega
  obtain ⟨L, hL⟩ : ∃ L, S.l.length = L := ⟨_, rfl⟩
  rw [hL] at hl hc1 HF c18 hjl
  have HH := Lib.hid h
  have B1 := Lib.hid b1
  have B2 := Lib.hid b2
  have B3 := Lib.hid b3
  have HR := Lib.hid hr
  let l0 : List (Addr × Value) := [(⟨p, 0, none⟩, ptr mp), (⟨q, 0, none⟩, .int .i64 at_), (⟨r, 0, none⟩, .int .i64 n), (⟨mp, 18, none⟩, .slice (some ⟨g, 0, none⟩) L a.lc)]
  have hce : Cels l0 w := by intro x hx; simp [l0] at hx; rcases hx with rfl | rfl | rfl | rfl; (exact b1.cell 0 _ rfl); (exact b2.cell 0 _ rfl); (exact b3.cell 0 _ rfl); (exact c18)
  have HCE := Lib.hid hce
  have e0 : ∀ e : Sat (Cels l0), e.W.cell? ⟨p, 0, none⟩ = some (.pointer (some ⟨mp, 0, none⟩)) := fun e => Cels.at e.h 0 rfl
  have e1 : ∀ e : Sat (Cels l0), e.W.cell? ⟨q, 0, none⟩ = some (.int .i64 at_) := fun e => Cels.at e.h 1 rfl
  have e2 : ∀ e : Sat (Cels l0), e.W.cell? ⟨r, 0, none⟩ = some (.int .i64 n) := fun e => Cels.at e.h 2 rfl
  have e3 : ∀ e : Sat (Cels l0), e.W.cell? ⟨mp, 18, none⟩ = some (.slice (some ⟨g, 0, none⟩) L a.lc) := fun e => Cels.at e.h 3 rfl
  haveI : Nonempty (Sat (Cels l0)) := ⟨⟨w, hce⟩⟩
  have HCN : Hid (∀ W' S' a', MR W' s mp S' a' → S'.l.length = L → a'.lA = some ⟨g, 0, none⟩ → a'.lc = a.lc → Turn s w W' → Cels l0 W') := by
    intro W' S' a' hm k1 k2 k3 ht x hx
    have hss : ∀ k ∈ s, k ∈ s ∨ w.heap.size ≤ k := fun _ hk => .inl hk
    simp [l0] at hx
    rcases hx with rfl | rfl | rfl | rfl
    · exact (b1.turn ht hss).cell 0 _ rfl
    · exact (b2.turn ht hss).cell 0 _ rfl
    · exact (b3.turn ht hss).cell 0 _ rfl
    · exact hm.cell 18 _ (by rw [← k1, ← k2, ← k3]; rfl)
  have HLL : Hid (S.l.length = L) := hL
  have HLA : Hid (a.lA = some ⟨g, 0, none⟩) := hg
  generalize l0 = l1 at *
  clear hpl hg hL h b1 b2 b3 hr hj hd hlen h01 h01' c18 hs hce hl
  go_enter Tryz.func105, Tryz.ntmps105
  go_wp2_with fail
  refine wp_region_mix (fun w' => ∃ e : Sat (Cels l1), w' = e.W) [(true, 0), (true, 1), (true, 2), (true, 3), (true, 4), (true, 5), (true, 6), (true, 7), (true, 8), (true, 9), (true, 10), (false, 11), (true, 12), (true, 13), (true, 14), (true, 15), (true, 16), (true, 17), (false, 18)] [] (by kernel_rfl) (by kernel_rfl) (by intro _ _ d _ _ h; cases d <;> exact h) ⟨⟨w.drew, HCE.out.drew⟩, rfl⟩ ?_
  simp only [pickM, pickL, List.drop_succ_cons, List.drop_zero]
  repeat (first | (refine mix_pure (by rfl) (by rfl) ?_; intro K hK; go_big_quiet_op; go_big_quiet_on) | (refine mix_nilc ⟨mp, 0, none⟩ (by rfl) (by kernel_rfl) ?_; go_simp))
  refine mix_eff (by rfl) ?_
  intro K hK
  go_simp
  refine (HP.out _ (a.lc - at_) (HR.out.below (Below.refl _ _).drew) (by omega) (by omega)).mono ?_
  rintro e w4 ⟨⟨A', c', rfl, hrow⟩, hb4⟩
  have hb04 : Below w.heap.size w w4 := below_trans (Below.refl _ _).drew hb4
  refine hK _ _ ⟨⟨w4, HCE.out.below hb04⟩, rfl⟩ ?_
  clear hK K
  have H4 := Lib.hid (HH.out.below hb04)
  have HROW := Lib.hid hrow
  have HB4 := Lib.hid hb04
  clear hrow hb4 hb04
  repeat (first | (refine mix_pure (by rfl) (by rfl) ?_; intro K hK; go_big_quiet_op; go_big_quiet_on) | (refine mix_nilc ⟨mp, 0, none⟩ (by rfl) (by kernel_rfl) ?_; go_simp))
  refine mix_mput H4.out (by rfl) 22 (.tmp 20) (.tmp 16) rfl 31 (.slice A' D.length c') (by kernel_rfl) (by kernel_rfl) rfl info_slcS (by decide) { S with f := { S.f with data := D } } { a with fA := A', fc := c' } (by kernel_rfl) (fun w' ht hm => ⟨hm.mem, hm.raw, hm.l, hm.own, hm.rl, hm.ro, hm.lo, hm.sf, (DatU.of HROW.out HSS.out).turn ht (fun _ hk => .inl hk), hm.step, hm.next, hm.gho⟩) (fun W' hm ht => ⟨⟨W', HCN.out _ _ _ hm HLL.out HLA.out rfl ((Turn.of HB4.out).tr ht)⟩, rfl⟩) ?_
  intro W5 H5 T5
  refine mix_nil (wpList_nil ?_)
  go_wp2_with fail
  have hce5 : Cels l1 W5 := HCN.out _ _ _ H5.out HLL.out HLA.out rfl ((Turn.of HB4.out).tr T5.out)
  have R5 : Rd W5 (some ⟨g, 0, none⟩) (bys S.l) := by have := H5.out.rest.l.1.rd; rw [show ({ a with fA := A', fc := c' } : MA).lA = _ from HLA.out] at this; exact this
  have HR5 := Lib.hid R5
  have HCE5 := Lib.hid hce5
  clear R5 hce5
  refine wp_region_mix (fun w' => ∃ e : Sat (Cels l1), w' = e.W) [(true, 0), (true, 1), (true, 2), (true, 3), (true, 4), (false, 5), (true, 6), (true, 7)] [8] (by kernel_rfl) (by kernel_rfl) (by intro _ _ d _ _ h; cases d <;> exact h) ⟨⟨W5.drew, HCE5.out.drew⟩, rfl⟩ ?_
  simp only [pickM, pickL, List.drop_succ_cons, List.drop_zero]
  repeat (first | (refine mix_pure (by rfl) (by rfl) ?_; intro K hK; go_big_quiet_op; go_big_quiet_on) | (refine mix_nilc ⟨mp, 0, none⟩ (by rfl) (by kernel_rfl) ?_; go_simp))
  refine mix_eff (by rfl) ?_
  intro K hK
  go_simp
  refine (HF.out _ (HR5.out.below (Below.refl _ _).drew)).mono ?_
  rintro e w6 ⟨rfl, hb6⟩
  have hb56 : Below W5.heap.size W5 w6 := below_trans (Below.refl _ _).drew hb6
  refine hK _ _ ⟨⟨w6, HCE5.out.below hb56⟩, rfl⟩ ?_
  clear hK K
  have H6 := Lib.hid (H5.out.below hb56)
  have T6 := Lib.hid ((Turn.of (s := s) HB4.out).tr (T5.out.tr (Turn.of hb56)))
  have HCE6 := Lib.hid (HCE5.out.below hb56)
  clear hb6 hb56
  repeat (first | (refine mix_pure (by rfl) (by rfl) ?_; intro K hK; go_big_quiet_op; go_big_quiet_on) | (refine mix_nilc ⟨mp, 0, none⟩ (by rfl) (by kernel_rfl) ?_; go_simp))
  refine mix_nil ?_
  refine wpList_mput H6.out rfl 4 (.tmp 28) (.tmp 26) rfl 32 (.bool F) (by kernel_rfl) (by kernel_rfl) rfl info_boolS (by decide) { S with f := { S.f with data := D }, fits := F } { a with fA := A', fc := c' } (by kernel_rfl) (fun _ _ hm => hm) ?_
  intro W7 H7 T7
  refine wpList_nil ?_
  have hce7 : Cels l1 W7 := HCN.out _ _ _ H7.out HLL.out HLA.out rfl (T6.out.tr T7.out)
  have c0 : W7.cell? ⟨p, 0, none⟩ = some (.pointer (some ⟨mp, 0, none⟩)) := e0 ⟨W7, hce7⟩
  clear hce7
  go_wp2_with fail
  refine (mEnd H7.out).mono ?_
  rintro e w8 ⟨rfl, hA⟩
  go_wp2_with fail
  go_end0
  exact ⟨rfl, hA.after (fun _ hk => .inl hk) (T6.out.tr T7.out)⟩
end Go.Proofs.YtlmdkmflbhnlgaaGreat
