/- box.Come: a frame comes. No condition. -/
import Derived.Test.YtlmdkmflbhnlgaaBox2
namespace Go.Proofs.Ytlmdkmflbhnlgaa
open Go.RowKit
/-- A world in which of what lay in w only blocks of s are turned. -/
structure ExtT (s : List Nat) (w : World) where
  W : World
  turn : Turn s w W
instance {s : List Nat} {w : World} : Nonempty (ExtT s w) := ⟨⟨w, Turn.refl _ _⟩⟩
theorem extT_cell {s : List Nat} {w : World} {g k : Nat} {v : Value} (h : w.cell? ⟨g, k, none⟩ = some v) (hg : g ∉ s) (e : ExtT s w) : e.W.cell? ⟨g, k, none⟩ = some v := by
  have hl : g < w.heap.size := cell_lt h
  have hb := e.turn.block g hl hg
  unfold World.cell? at h ⊢
  rw [hb]; exact h
theorem extT_11 {s : List Nat} {w : World} {g : Nat} {v0 v1 v2 v3 v4 v5 v6 v7 v8 v9 v10 : Value} {t : TypeId} {fr : Nat × Nat} (h : w.heap[g]? = some (.cells #[v0, v1, v2, v3, v4, v5, v6, v7, v8, v9, v10] t fr)) (hg : g ∉ s) :
    (∀ e : ExtT s w, e.W.cell? ⟨g, 0, none⟩ = some v0) ∧ (∀ e : ExtT s w, e.W.cell? ⟨g, 1, none⟩ = some v1) ∧ (∀ e : ExtT s w, e.W.cell? ⟨g, 2, none⟩ = some v2) ∧ (∀ e : ExtT s w, e.W.cell? ⟨g, 3, none⟩ = some v3) ∧ (∀ e : ExtT s w, e.W.cell? ⟨g, 4, none⟩ = some v4) ∧
    (∀ e : ExtT s w, e.W.cell? ⟨g, 5, none⟩ = some v5) ∧ (∀ e : ExtT s w, e.W.cell? ⟨g, 6, none⟩ = some v6) ∧ (∀ e : ExtT s w, e.W.cell? ⟨g, 7, none⟩ = some v7) ∧ (∀ e : ExtT s w, e.W.cell? ⟨g, 8, none⟩ = some v8) ∧ (∀ e : ExtT s w, e.W.cell? ⟨g, 9, none⟩ = some v9) ∧ (∀ e : ExtT s w, e.W.cell? ⟨g, 10, none⟩ = some v10) := by
  obtain ⟨a0, a1, a2, a3, a4, a5, a6, a7, a8, a9, a10⟩ := cells11 h
  exact ⟨extT_cell a0 hg, extT_cell a1 hg, extT_cell a2 hg, extT_cell a3 hg, extT_cell a4 hg, extT_cell a5 hg, extT_cell a6 hg, extT_cell a7 hg, extT_cell a8 hg, extT_cell a9 hg, extT_cell a10 hg⟩
/-- A box behind a frame came. -/
def comeT (T : BX) (f : Fr) : BX :=
  if okF f then (if inR T.rules T.els f then (if T.l.length < T.iroom then { T with came := T.came + 1, kept := T.kept + 1, l := T.l ++ [f] } else { T with came := T.came + 1, over := T.over + 1 }) else { T with came := T.came + 1, refused := T.refused + 1 }) else T
/-- What is answered then. -/
def comeK (T : BX) (f : Fr) : Int := if okF f then (if inR T.rules T.els f then (if T.l.length < T.iroom then 0 else 2) else 1) else 0
/-- What an act leaves of a box. -/
def Acted (w : World) (base N : Nat) (ft : List Nat) (b : Nat) (T : BX) (w' : World) : Prop := ∃ ft', BoxA w' base N ft' b T ∧ (∀ k ∈ ft', k ∈ ft ∨ w.heap.size ≤ k) ∧ Turn ft w w'
theorem cell_turn {w w' : World} {s : List Nat} {g k : Nat} {v : Value} (h : w.cell? ⟨g, k, none⟩ = some v) (ht : Turn s w w') (hg : g ∉ s) : w'.cell? ⟨g, k, none⟩ = some v := extT_cell h hg ⟨w', ht⟩
theorem Rd.turnB {w w' : World} {s : List Nat} {A : Option Addr} {vs : List Value} (h : Rd w A vs) (ht : Turn s w w') (hn : ∀ ad, A = some ad → vs ≠ [] → ad.block ∉ s) : Rd w' A vs := fun j u hj => by
  obtain ⟨ad, e, hc⟩ := h j u hj
  refine ⟨ad, e, ?_⟩
  have hb := ht.block (ad.add j).block (cell_lt hc) (by rw [block_of_add]; exact hn ad e (by intro h0; rw [h0] at hj; simp at hj))
  unfold World.cell? at hc ⊢
  rw [hb]; exact hc
set_option maxRecDepth 100000 in
set_option maxHeartbeats 8000000 in
theorem Come_any (w : World) (base N : Nat) (ft : List Nat) (b d m : Nat) (B : Option Addr) (T : BX) (f : Fr) (h : BoxA w base N ft b T) (hN : N ≤ 1000000) (hbase : base ≤ w.heap.size) (hr : Rd w B (bys f.data)) (hz : B = none → d = 0) (hm : f.data.length = m) (hf : FrIn f)
    (hB : ∀ ad, B = some ad → bys f.data ≠ [] → ad.block ∉ ft) :
    Calls Try.prog 12 #[.pointer (some ⟨b, 0, none⟩), frv f (.slice B m d)] w fun e w' => e = .returned (.tuple #[.int .i64 (comeK T f), errV (okF f)]) ∧ Acted w base (N + 1) ft b (comeT T f) w' := by
  obtain ⟨qb, fb, RA, rc, QA, cap, ql, fl, first, fov, hI, hBD, rfl⟩ := h
  obtain ⟨g1, g2, g3, g4, g5, g6, g7, g8⟩ := hI.foot
  have hbl : b < w.heap.size := heap_lt hI.box
  have HI := Lib.hid hI
  have HBD := Lib.hid hBD
  have hrc := hI.rules.cap
  have HIN := Lib.hid (fun W hW => In_any RA B T.rules.length rc d m T.els T.rules f W hW rfl (by have := hrc.1; have := hrc.2; omega) hI.wf hf hm)
  rw [hI.bank, Bool.true_and] at HIN
  have HPU := Lib.hid (fun W hW hR => fifoPush_any W fb T.iroom first fov d m B fl f hW hR hz hm (by have := hf.len; omega) (by have := hBD; unfold BndB at this; omega))
  have HR := Lib.hid hr
  have HF := Lib.hid hf
  have HFT := Lib.hid g1
  have HBN := Lib.hid hB
  have hlen : fl.length = T.l.length := by rw [← hI.hl]; simp
  have hcame : T.came ≤ 1000000 ∧ T.kept ≤ 1000000 ∧ T.refused ≤ 1000000 ∧ T.over ≤ 1000000 := by unfold BndB at hBD; omega
  obtain ⟨k1, k2, k3, k4⟩ := hcame
  obtain ⟨q, hq⟩ : ∃ q, okF f = q := ⟨_, rfl⟩
  obtain ⟨i, hi⟩ : ∃ i, inR T.rules T.els f = i := ⟨_, rfl⟩
  have hcT : comeT T f = if q then (if i then (if T.l.length < T.iroom then { T with came := T.came + 1, kept := T.kept + 1, l := T.l ++ [f] } else { T with came := T.came + 1, over := T.over + 1 }) else { T with came := T.came + 1, refused := T.refused + 1 }) else T := by unfold comeT; rw [hq, hi]
  have hcK : comeK T f = if q then (if i then (if T.l.length < T.iroom then 0 else 2) else 1) else 0 := by unfold comeK; rw [hq, hi]
  generalize comeT T f = T2 at hcT ⊢
  generalize comeK T f = kk at hcK ⊢
  rw [hq]
  rw [hq, hi] at HIN
  have HCT := Lib.hid hcT
  have HCK := Lib.hid hcK
  have HQ := Lib.hid hq
  have HL := Lib.hid hlen
  obtain ⟨fk, fi, fe, fr, f4, f5, f6, f7, f8, f9, data⟩ := f
  dsimp only [frv] at *
  have HM := Lib.hid hm
  have hmlen : m ≤ 9223372036854775807 := by rw [← hm]; exact hf.len
  obtain ⟨n, hn⟩ : ∃ n, T.rules.length = n := ⟨_, rfl⟩
  rw [hn] at hrc HIN
  have HN := Lib.hid hn
  clear hI hBD hr hf hq hi hcT hcK hm g1 g2 hB hlen hn
  go_enter Try.func12, Try.ntmps12
  go_wp2_with fail
  obtain ⟨W1, hW1, q1, hb1⟩ : ∃ W1, W1 = w.alloc (.cells #[.int .i64 fk, .int .u32 fi, .bool fe, .bool fr, .bool f4, .bool f5, .bool f6, .int .u8 f7, .int .u8 f8, .int .u32 f9, .slice B m d] 42) ∧ W1.heap[w.heap.size]? = some (.cells #[.int .i64 fk, .int .u32 fi, .bool fe, .bool fr, .bool f4, .bool f5, .bool f6, .int .u8 f7, .int .u8 f8, .int .u32 f9, .slice B m d] 42 (0, 0)) ∧ Below w.heap.size w W1 := ⟨_, rfl, heap_new_at rfl, below_alloc (Below.refl _ _) _⟩
  rw [← hW1]
  obtain ⟨y0, y1, y2, y3, y4, y5, y6, y7, y8, y9, y10⟩ := ext11 q1
  have hbx1 := heap_below hb1 HI.out.box
  have x0 : ∀ e : Ext W1, e.W.cell? ⟨b, 0, none⟩ = some (.slice RA n rc) := fun e => ext_cell (cell_of_heap hbx1 0 _ (by simp only [boxL]; rw [HN.out]; rfl)) e
  have x1 : ∀ e : Ext W1, e.W.cell? ⟨b, 1, none⟩ = some (.bool T.els) := fun e => ext_cell (cell_of_heap hbx1 1 _ rfl) e
  have Q1 := Lib.hid q1
  have HB1 := Lib.hid hb1
  clear hW1 q1 hb1 hbx1
  refine wp_region_mix (fun w' => ∃ e : Ext W1, w' = e.W) [(true, 0), (true, 1), (true, 2), (true, 3), (true, 4), (false, 5), (true, 6), (true, 7), (true, 8), (true, 9), (true, 10)] [] (by kernel_rfl) (by kernel_rfl) (by intro _ _ d _ _ h; cases d <;> exact h) ⟨⟨W1.drew, (Below.refl _ _).drew⟩, rfl⟩ ?_
  simp only [pickM, pickL, List.drop_succ_cons, List.drop_zero]
  repeat (first | (refine mix_pure (by rfl) (by rfl) ?_; intro K hK; go_big_quiet_op; go_big_quiet_on) | (refine mix_nilc ⟨b, 0, none⟩ (by rfl) (by kernel_rfl) ?_; go_simp))
  refine mix_eff (by rfl) ?_
  intro K hK
  go_simp
  refine (HIN.out _ ((HI.out.rules.rd.below HB1.out).below (Below.refl _ _).drew)).mono ?_
  rintro e w2 ⟨rfl, hb2⟩
  have hb12 : Below W1.heap.size W1 w2 := below_trans (Below.refl _ _).drew hb2
  refine hK _ _ ⟨⟨w2, hb12⟩, rfl⟩ ?_
  clear hK K
  repeat (first | (refine mix_pure (by rfl) (by rfl) ?_; intro K hK; go_big_quiet_op; go_big_quiet_on) | (refine mix_nilc ⟨b, 0, none⟩ (by rfl) (by kernel_rfl) ?_; go_simp))
  refine mix_nil (wpList_nil ?_)
  have HB2 := Lib.hid (below_trans HB1.out hb12)
  have Q2 := Lib.hid (heap_below hb12 Q1.out)
  have HBX := Lib.hid (heap_below HB2.out HI.out.box)
  have HI2 := Lib.hid (HI.out.below HB2.out)
  clear hb2 hb12 y0 y1 y2 y3 y4 y5 y6 y7 y8 y9 y10 x0 x1
  have z2 : ∀ o, w2.frozen? ⟨b, o, none⟩ = false := fun o => by simp [World.frozen?, HBX.out]
  have c10 : w2.cell? ⟨b, 10, none⟩ = some (.int .i64 T.came) := cell_of_heap HBX.out 10 _ rfl
  have c12 : w2.cell? ⟨b, 12, none⟩ = some (.int .i64 T.refused) := cell_of_heap HBX.out 12 _ rfl
  cases q
  · clear c10 c12 z2
    simp only [errV, Bool.false_eq_true, if_false]
    go_wp2_with fail
    go_ret2
    have hct := HCT.out
    have hck := HCK.out
    simp only [Bool.false_eq_true, if_false] at hct hck
    subst hct hck
    exact ⟨rfl, _, ⟨qb, fb, RA, rc, QA, cap, ql, fl, first, fov, HI2.out, HBD.out.mono (by omega), rfl⟩, fun k hk => .inl hk, Turn.of HB2.out⟩
  cases i
  · simp only [errV, if_true]
    go_wp2_with fail
    go_ret2
    have hct := HCT.out
    have hck := HCK.out
    simp only [Bool.false_eq_true, if_true, if_false] at hct hck
    subst hct hck
    have t : Turn [b] w2 ((w2.setCell ⟨b, 10, none⟩ (.int .i64 ((T.came : Int) + 1))).setCell ⟨b, 12, none⟩ (.int .i64 ((T.refused : Int) + 1))) := ((Turn.refl _ _).setCell (p := ⟨b, 10, none⟩) (.inl (by simp)) _).setCell (p := ⟨b, 12, none⟩) (.inl (by simp)) _
    have hft : Foot [b] w2 := fun k hk => by simp at hk; subst hk; exact ⟨_, _, _, HBX.out, by decide, by decide⟩
    have hI2 := HI2.out
    refine ⟨rfl, _, ⟨qb, fb, RA, rc, QA, cap, ql, fl, first, fov, ⟨?_, hI2.rules.turn t hft, hI2.queue.turn t (by simpa using Ne.symm g3) (fun a ha => by simp; rintro rfl; exact g6 ha) hft, hI2.fifo.turn t (by simpa using Ne.symm g4), fun x hx => (hI2.data x hx).turn_ty t hft.bytes, hI2.fok, hI2.bank, hI2.wf, hI2.hq, hI2.hs, hI2.hl, hI2.lo⟩, ?_, rfl⟩, fun k hk => .inl hk, (Turn.of HB2.out).tr (t.mono fun x hx => .inl (by simp at hx; subst hx; simp [footB]))⟩
    · rw [heap_setCell (heap_setCell HBX.out 10 _) 12 _]
      simp [boxL]
    · have := HBD.out; unfold BndB at this ⊢; dsimp only; omega
  · simp only [Bool.true_and]
    simp only [errV, if_true]
    go_wp2_with fail
    obtain ⟨W3, hW3⟩ : ∃ W3, w2.setCell ⟨b, 10, none⟩ (.int .i64 ((T.came : Int) + 1)) = W3 := ⟨_, rfl⟩
    have t3 : Turn [b] w2 W3 := by rw [← hW3]; exact (Turn.refl _ _).setCell (p := ⟨b, 10, none⟩) (.inl (by simp)) _
    have hbx3 : W3.heap[b]? = some (.cells (boxL RA rc qb fb { T with came := T.came + 1 }).toArray 86 (0, 0)) := by rw [← hW3, heap_setCell HBX.out 10 _]; simp [boxL]
    have hft3 : Foot [b] w2 := fun k hk => by simp at hk; subst hk; exact ⟨_, _, _, HBX.out, by decide, by decide⟩
    have hne : w.heap.size ≠ b := by omega
    have hnf : w.heap.size ∉ [fb] := by
      obtain ⟨cs, hh, -⟩ := HI.out.fifo
      have := heap_lt hh
      simp; omega
    have hq3 := t3.heap Q2.out (by simpa using hne)
    have hfi3 : FifoI W3 fb T.iroom first fov fl := HI2.out.fifo.turn t3 (by simpa using Ne.symm g4)
    have hr3 : Rd W3 B (bys data) := (HR.out.below HB2.out).turnB t3 fun ad e hne2 => by
      have := HBN.out ad e hne2
      simp only [List.mem_singleton]
      intro e2
      exact this (by rw [e2]; simp [footB])
    rw [hW3]
    obtain ⟨y0, y1, y2, y3, y4, y5, y6, y7, y8, y9, y10⟩ := extT_11 hq3 hnf
    have x4 : ∀ e : ExtT [fb] W3, e.W.cell? ⟨b, 4, none⟩ = some (.pointer (some ⟨fb, 0, none⟩)) := fun e => extT_cell (cell_of_heap hbx3 4 _ rfl) (by simpa using g4) e
    have T3 := Lib.hid t3
    have HBX3 := Lib.hid hbx3
    have HFT3 := Lib.hid hft3
    have HFI3 := Lib.hid hfi3
    have HR3 := Lib.hid hr3
    clear hW3 t3 hbx3 hft3 hne hnf hq3 hfi3 hr3 c10 c12 z2
    refine wp_region_mix (fun w' => ∃ e : ExtT [fb] W3, w' = e.W) [(true, 0), (true, 1), (true, 2), (true, 3), (true, 4), (false, 5), (true, 6), (true, 7), (true, 8), (true, 9), (true, 10)] [] (by kernel_rfl) (by kernel_rfl) (by intro _ _ d _ _ h; cases d <;> exact h) ⟨⟨W3.drew, (Turn.refl _ _).drew⟩, rfl⟩ ?_
    simp only [pickM, pickL, List.drop_succ_cons, List.drop_zero]
    repeat (first | (refine mix_pure (by rfl) (by rfl) ?_; intro K hK; go_big_quiet_op; go_big_quiet_on) | (refine mix_nilc ⟨b, 0, none⟩ (by rfl) (by kernel_rfl) ?_; go_simp))
    refine mix_eff (by rfl) ?_
    intro K hK
    go_simp
    refine (HPU.out W3.drew (HFI3.out.below (Below.refl _ _).drew) (HR3.out.below (Below.refl _ _).drew)).mono ?_
    rintro e w4 (⟨h0, -, -⟩ | ⟨-, hfull, rfl, hF4, t4⟩ | ⟨-, hroom, rfl, A', c', hrow4, hF4, t4⟩)
    · rw [HQ.out] at h0; cases h0
    · have t34 : Turn [fb] W3 w4 := (Turn.refl _ W3).drew.tr t4
      refine hK _ _ ⟨⟨w4, t34⟩, rfl⟩ ?_
      clear hK K
      repeat (first | (refine mix_pure (by rfl) (by rfl) ?_; intro K hK; go_big_quiet_op; go_big_quiet_on) | (refine mix_nilc ⟨b, 0, none⟩ (by rfl) (by kernel_rfl) ?_; go_simp))
      refine mix_nil (wpList_nil ?_)
      have HBX4 := Lib.hid (t34.heap HBX3.out (by simpa using g4))
      have T34 := Lib.hid t34
      have HF4 := Lib.hid hF4
      have HFULL := Lib.hid hfull
      clear hF4 t4 t34 hfull y0 y1 y2 y3 y4 y5 y6 y7 y8 y9 y10 x4
      have z4 : ∀ o, w4.frozen? ⟨b, o, none⟩ = false := fun o => by simp [World.frozen?, HBX4.out]
      have c13 : w4.cell? ⟨b, 13, none⟩ = some (.int .i64 T.over) := cell_of_heap HBX4.out 13 _ rfl
      go_wp2_with fail
      go_ret2
      have hnl : ¬ T.l.length < T.iroom := by have := HFULL.out; have := HL.out; omega
      have hct := HCT.out
      have hck := HCK.out
      simp only [if_true, if_neg hnl] at hct hck
      subst hct hck
      have hI2 := HI2.out
      have t5 : Turn [b] w4 (w4.setCell ⟨b, 13, none⟩ (.int .i64 ((T.over : Int) + 1))) := (Turn.refl _ _).setCell (p := ⟨b, 13, none⟩) (.inl (by simp)) _
      have t : Turn [b, fb] w2 (w4.setCell ⟨b, 13, none⟩ (.int .i64 ((T.over : Int) + 1))) := ((T3.out.mono (fun x hx => .inl (by simp at hx; subst hx; simp))).tr (T34.out.mono (fun x hx => .inl (by simp at hx; subst hx; simp)))).tr (t5.mono (fun x hx => .inl (by simp at hx; subst hx; simp)))
      have hft : Foot [b, fb] w2 := fun k hk => by
        simp at hk
        rcases hk with rfl | rfl
        · exact ⟨_, _, _, HBX.out, by decide, by decide⟩
        · obtain ⟨cs, hh, -⟩ := hI2.fifo; exact ⟨_, _, _, hh, by decide, by decide⟩
      refine ⟨rfl, _, ⟨qb, fb, RA, rc, QA, cap, ql, fl, first, fov + 1, ⟨?_, hI2.rules.turn t hft, hI2.queue.turn t (by simp; exact ⟨Ne.symm g3, g5⟩) (fun a ha => by simp; exact ⟨by rintro rfl; exact g6 ha, by rintro rfl; exact g8 ha⟩) hft, HF4.out.turn t5 (by simpa using Ne.symm g4), fun x hx => (hI2.data x hx).turn_ty t hft.bytes, hI2.fok, hI2.bank, hI2.wf, hI2.hq, hI2.hs, hI2.hl, hI2.lo⟩, ?_, rfl⟩, fun k hk => .inl hk, (Turn.of HB2.out).tr (t.mono fun x hx => .inl (by simp at hx; rcases hx with rfl | rfl <;> simp [footB]))⟩
      · rw [heap_setCell HBX4.out 13 _]
        simp [boxL]
      · have := HBD.out; unfold BndB at this ⊢; dsimp only; omega
    · have t34 : Turn [fb] W3 w4 := (Turn.refl _ W3).drew.tr t4
      refine hK _ _ ⟨⟨w4, t34⟩, rfl⟩ ?_
      clear hK K
      repeat (first | (refine mix_pure (by rfl) (by rfl) ?_; intro K hK; go_big_quiet_op; go_big_quiet_on) | (refine mix_nilc ⟨b, 0, none⟩ (by rfl) (by kernel_rfl) ?_; go_simp))
      refine mix_nil (wpList_nil ?_)
      have HBX4 := Lib.hid (t34.heap HBX3.out (by simpa using g4))
      have T34 := Lib.hid t34
      have HF4 := Lib.hid hF4
      have HROOM := Lib.hid hroom
      have HROW4 := Lib.hid (hrow4.mono (show W3.heap.size ≤ W3.drew.heap.size from Nat.le_refl _))
      clear hF4 t4 t34 hroom hrow4 y0 y1 y2 y3 y4 y5 y6 y7 y8 y9 y10 x4
      have z4 : ∀ o, w4.frozen? ⟨b, o, none⟩ = false := fun o => by simp [World.frozen?, HBX4.out]
      have c11 : w4.cell? ⟨b, 11, none⟩ = some (.int .i64 T.kept) := cell_of_heap HBX4.out 11 _ rfl
      go_wp2_with fail
      go_ret2
      have hnl : T.l.length < T.iroom := by have := HROOM.out; have := HL.out; omega
      have hct := HCT.out
      have hck := HCK.out
      simp only [if_true, if_pos hnl] at hct hck
      subst hct hck
      have hI2 := HI2.out
      have t5 : Turn [b] w4 (w4.setCell ⟨b, 11, none⟩ (.int .i64 ((T.kept : Int) + 1))) := (Turn.refl _ _).setCell (p := ⟨b, 11, none⟩) (.inl (by simp)) _
      have t : Turn [b, fb] w2 (w4.setCell ⟨b, 11, none⟩ (.int .i64 ((T.kept : Int) + 1))) := ((T3.out.mono (fun x hx => .inl (by simp at hx; subst hx; simp))).tr (T34.out.mono (fun x hx => .inl (by simp at hx; subst hx; simp)))).tr (t5.mono (fun x hx => .inl (by simp at hx; subst hx; simp)))
      have hft : Foot [b, fb] w2 := fun k hk => by
        simp at hk
        rcases hk with rfl | rfl
        · exact ⟨_, _, _, HBX.out, by decide, by decide⟩
        · obtain ⟨cs, hh, -⟩ := hI2.fifo; exact ⟨_, _, _, hh, by decide, by decide⟩
      have hs3 : w.heap.size ≤ W3.heap.size := Nat.le_trans HB2.out.size T3.out.size
      refine ⟨rfl, _, ⟨qb, fb, RA, rc, QA, cap, ql, fl ++ [⟨⟨fk, fi, fe, fr, f4, f5, f6, f7, f8, f9, data⟩, A', c'⟩], first, fov, ⟨?_, hI2.rules.turn t hft, hI2.queue.turn t (by simp; exact ⟨Ne.symm g3, g5⟩) (fun a ha => by simp; exact ⟨by rintro rfl; exact g6 ha, by rintro rfl; exact g8 ha⟩) hft, HF4.out.turn t5 (by simpa using Ne.symm g4), fun x hx => ?_, fun x hx => ?_, hI2.bank, hI2.wf, hI2.hq, hI2.hs, by rw [List.map_append, hI2.hl]; rfl, hI2.lo⟩, ?_, rfl⟩, fun k hk => .inl hk, (Turn.of HB2.out).tr (t.mono fun x hx => .inl (by simp at hx; rcases hx with rfl | rfl <;> simp [footB]))⟩
      · rw [heap_setCell HBX4.out 11 _]
        simp [boxL]
      · rcases List.mem_append.1 hx with hx | hx
        · exact (hI2.data x hx).turn_ty t hft.bytes
        · rw [List.mem_singleton.1 hx]
          refine (HROW4.out.turn t5 fun ad e hm => ?_).mono (by omega)
          have := HROW4.out.geq ad e
          simp at hm
          omega
      · rcases List.mem_append.1 hx with hx | hx
        · exact hI2.fok x hx
        · rw [List.mem_singleton.1 hx]; exact ⟨HQ.out, HF.out⟩
      · have := HBD.out; unfold BndB at this ⊢; dsimp only; omega
end Go.Proofs.Ytlmdkmflbhnlgaa
