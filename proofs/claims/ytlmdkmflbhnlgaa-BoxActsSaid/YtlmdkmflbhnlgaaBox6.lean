/- box.Put: a frame waits. No condition. -/
import Derived.Test.YtlmdkmflbhnlgaaBox3
namespace Go.Proofs.Ytlmdkmflbhnlgaa
open Go.RowKit
/-- Is a frame of a kind that a box doesn't know? -/
def alienB (T : BX) (f : Fr) : Bool := (f.kind == 3) && !T.xl && okF f
/-- A box behind a frame was put. -/
def putT (T : BX) (f : Fr) : BX :=
  if alienB T f then T else if okF f then (if T.q.length < T.oroom then { T with last := T.last + 1, q := insQ ⟨(T.last : Int) + 1, f⟩ T.q, put := T.put + 1 } else T) else T
def putK (T : BX) (f : Fr) : Int := if alienB T f then 0 else if okF f then (if T.q.length < T.oroom then (T.last : Int) + 1 else 0) else 0
def putE (T : BX) (f : Fr) : Int := if alienB T f then 10 else if okF f then (if T.q.length < T.oroom then 0 else 8) else 2
theorem absQ_ins {ql l' : List QN} {x : QN} {q : List QE} (hq : (ql.map absQ).Perm q) (hp : l'.Perm (ql ++ [x])) : (l'.map absQ).Perm (insQ (absQ x) q) := by
  have h1 := hp.map absQ
  rw [List.map_append] at h1
  exact h1.trans ((List.Perm.append_right _ hq).trans (insQ_perm _ _).symm)
set_option maxRecDepth 100000 in
set_option maxHeartbeats 16000000 in
theorem Put_any (w : World) (base N : Nat) (ft : List Nat) (b d m : Nat) (B : Option Addr) (T : BX) (f : Fr) (h : BoxA w base N ft b T) (hN : N ≤ 100000) (hbase : base ≤ w.heap.size) (hr : Rd w B (bys f.data)) (hz : B = none → d = 0) (hm : f.data.length = m) (hf : FrIn f)
    (hB : ∀ ad, B = some ad → bys f.data ≠ [] → ad.block ∉ ft) :
    Calls Try.prog 16 #[.pointer (some ⟨b, 0, none⟩), frv f (.slice B m d)] w fun e w' => e = .returned (.tuple #[.int .i64 (putK T f), .int .i64 (putE T f)]) ∧ Acted w base (N + 1) ft b (putT T f) w' := by
  obtain ⟨qb, fb, RA, rc, QA, cap, ql, fl, first, fov, hI, hBD, rfl⟩ := h
  obtain ⟨g1, g2, g3, g4, g5, g6, g7, g8⟩ := hI.foot
  have hbl : b < w.heap.size := heap_lt hI.box
  have hqbl : qb < w.heap.size := heap_lt hI.queue.heap.box
  have HI := Lib.hid hI
  have HBD := Lib.hid hBD
  have HCH := Lib.hid (fun W => Check_any f B d W hf.len)
  have HPU := Lib.hid (fun W (hW : HeapQ W base qb T.oroom T.last QA cap ql) hb hR => qPut_any W base qb T.oroom T.last cap d m QA B ql f hW hI.queue.ord hI.queue.len hI.queue.room (by unfold BndB at hBD; omega) hb hR hz hm hf (fun ad e hne hq => hB ad e hne (by rw [hq]; simp [footB])))
  have HR := Lib.hid hr
  have HF := Lib.hid hf
  have HBN := Lib.hid hB
  have hlen : ql.length = T.q.length := by have := hI.hq.length_eq; simpa using this
  have HL := Lib.hid hlen
  have hput : T.put ≤ 1000000 := by unfold BndB at hBD; omega
  obtain ⟨q, hq⟩ : ∃ q, okF f = q := ⟨_, rfl⟩
  obtain ⟨al, hal⟩ : ∃ al, alienB T f = al := ⟨_, rfl⟩
  have hcT : putT T f = if al then T else if q then (if T.q.length < T.oroom then { T with last := T.last + 1, q := insQ ⟨(T.last : Int) + 1, f⟩ T.q, put := T.put + 1 } else T) else T := by unfold putT; rw [hq, hal]
  have hcK : putK T f = if al then 0 else if q then (if T.q.length < T.oroom then (T.last : Int) + 1 else 0) else 0 := by unfold putK; rw [hq, hal]
  have hcE : putE T f = if al then 10 else if q then (if T.q.length < T.oroom then 0 else 8) else 2 := by unfold putE; rw [hq, hal]
  have hal2 : al = ((f.kind == 3) && !T.xl && q) := by rw [← hal, ← hq]; rfl
  generalize putT T f = T2 at hcT ⊢
  generalize putK T f = kk at hcK ⊢
  generalize putE T f = ke at hcE ⊢
  rw [hq, hm] at HCH
  have HQ := Lib.hid hq
  have HCT := Lib.hid hcT
  have HCK := Lib.hid hcK
  have HCE := Lib.hid hcE
  obtain ⟨xl, hxl⟩ : ∃ xl, T.xl = xl := ⟨_, rfl⟩
  rw [hxl] at hal2
  have HXL := Lib.hid hxl
  obtain ⟨fk, fi, fe, fr, f4, f5, f6, f7, f8, f9, data⟩ := f
  dsimp only [frv] at *
  have HM := Lib.hid hm
  obtain ⟨k3, hk3⟩ : ∃ k3, (fk == 3) = k3 := ⟨_, rfl⟩
  rw [hk3] at hal2
  have c2 : w.cell? ⟨b, 2, none⟩ = some (.bool xl) := by rw [← hxl]; exact cell_of_heap hI.box 2 _ rfl
  have HBX := Lib.hid hI.box
  clear hI hBD hr hf hq hcT hcK hcE hm g1 g2 hB hlen hal hxl
  by_cases hcase : al = true
  · have hct := HCT.out
    have hck := HCK.out
    have hce := HCE.out
    rw [hcase] at hct hck hce hal2
    simp only [if_true] at hct hck hce
    have h3 : k3 = true ∧ xl = false ∧ q = true := by revert hal2; cases k3 <;> cases xl <;> cases q <;> simp
    obtain ⟨rfl, rfl, rfl⟩ := h3
    subst hct hck hce
    clear hcase hal2
    go_enter Try.func16, Try.ntmps16
    go_wp2_with fail
    refine (HCH.out _).mono ?_
    rintro e w1 ⟨rfl, hb⟩
    have HB1 := Lib.hid (below_trans (below_alloc (Below.refl _ _) _) hb)
    clear hb c2
    simp only [errV]
    go_wp2_with fail
    go_ret2
    exact ⟨rfl, _, ⟨qb, fb, RA, rc, QA, cap, ql, fl, first, fov, HI.out.below HB1.out, HBD.out.mono (by omega), rfl⟩, fun k hk => .inl hk, Turn.of HB1.out⟩
  · have hal0 : al = false := by simpa using hcase
    subst hal0
    have h3 : k3 = false ∨ (k3 = true ∧ xl = true) ∨ (k3 = true ∧ xl = false ∧ q = false) := by revert hal2; cases k3 <;> cases xl <;> cases q <;> simp
    have hct := HCT.out
    have hck := HCK.out
    have hce := HCE.out
    simp only [Bool.false_eq_true, if_false] at hct hck hce
    have HCT' := Lib.hid hct
    have HCK' := Lib.hid hck
    have HCE' := Lib.hid hce
    have hnb : w.heap.size ∉ qb :: blkA QA := fun hm => by
      rcases List.mem_cons.1 hm with h | h
      · omega
      · obtain ⟨-, -, cs, hh⟩ := HI.out.queue.heap.blk _ h
        have := heap_lt hh
        omega
    have HNB := Lib.hid hnb
    clear hcase hal2 hct hck hce hnb
    rcases h3 with rfl | ⟨rfl, rfl⟩ | ⟨rfl, rfl, rfl⟩
    · go_enter Try.func16, Try.ntmps16
      go_wp2_with fail
      obtain ⟨W2, hW2, q2, hb2⟩ : ∃ W2, W2 = w.alloc (.cells #[.int .i64 fk, .int .u32 fi, .bool fe, .bool fr, .bool f4, .bool f5, .bool f6, .int .u8 f7, .int .u8 f8, .int .u32 f9, .slice B m d] 42) ∧ W2.heap[w.heap.size]? = some (.cells #[.int .i64 fk, .int .u32 fi, .bool fe, .bool fr, .bool f4, .bool f5, .bool f6, .int .u8 f7, .int .u8 f8, .int .u32 f9, .slice B m d] 42 (0, 0)) ∧ Below w.heap.size w W2 := ⟨_, rfl, heap_new_at rfl, below_alloc (Below.refl _ _) _⟩
      rw [← hW2]
      clear hW2
      have hbx2 := heap_below hb2 HBX.out
      have x3 : ∀ e : ExtT (qb :: blkA QA) W2, e.W.cell? ⟨b, 3, none⟩ = some (.pointer (some ⟨qb, 0, none⟩)) := fun e => extT_cell (cell_of_heap hbx2 3 _ rfl) (by simp; exact ⟨g3, g6⟩) e
      obtain ⟨y0, y1, y2, y3, y4, y5, y6, y7, y8, y9, y10⟩ := extT_11 q2 HNB.out
      have HB2 := Lib.hid hb2
      have HBX2 := Lib.hid hbx2
      have HI2 := Lib.hid (HI.out.below hb2)
      clear q2 hb2 hbx2 c2
      refine wp_region_mix (fun w' => ∃ e : ExtT (qb :: blkA QA) W2, w' = e.W) [(true, 0), (true, 1), (true, 2), (true, 3), (true, 4), (false, 5), (true, 6), (true, 7), (true, 8), (true, 9), (true, 10)] [] (by kernel_rfl) (by kernel_rfl) (by intro _ _ d _ _ h; cases d <;> exact h) ⟨⟨W2.drew, (Turn.refl _ _).drew⟩, rfl⟩ ?_
      simp only [pickM, pickL, List.drop_succ_cons, List.drop_zero]
      repeat (first | (refine mix_pure (by rfl) (by rfl) ?_; intro K hK; go_big_quiet_op; go_big_quiet_on) | (refine mix_nilc ⟨b, 0, none⟩ (by rfl) (by kernel_rfl) ?_; go_simp))
      refine mix_eff (by rfl) ?_
      intro K hK
      go_simp
      refine (HPU.out W2.drew (HI2.out.queue.heap.below (Below.refl _ _).drew) (Nat.le_trans hbase HB2.out.size) ((HR.out.below HB2.out).below (Below.refl _ _).drew)).mono ?_
      rintro e w4 (⟨h0, rfl, hb4⟩ | ⟨h0, hfull, rfl, hb4⟩ | ⟨h0, hroom, rfl, A', cap', l', B', c', hh4, ho4, hp4, hrow4, fr4, t4⟩)
      · have t24 : Turn (qb :: blkA QA) W2 w4 := Turn.of (below_trans (Below.refl _ _).drew hb4)
        refine hK _ _ ⟨⟨w4, t24⟩, rfl⟩ ?_
        clear hK K
        repeat (first | (refine mix_pure (by rfl) (by rfl) ?_; intro K hK; go_big_quiet_op; go_big_quiet_on) | (refine mix_nilc ⟨b, 0, none⟩ (by rfl) (by kernel_rfl) ?_; go_simp))
        refine mix_nil (wpList_nil ?_)
        have HB4 := Lib.hid (below_trans HB2.out (below_trans (Below.refl _ _).drew hb4))
        have hq0 : q = false := by have := HQ.out; first | (rw [h0] at this; exact this.symm) | rfl
        have HQ0 := Lib.hid hq0
        clear hb4 t24 h0 hq0 y0 y1 y2 y3 y4 y5 y6 y7 y8 y9 y10 x3
        go_wp2_with fail
        refine (countE_any 2 b 7 w4 (by decide)).mono ?_
        rintro e _ ⟨rfl, rfl⟩
        go_wp2_with fail
        go_ret2
        have hct := HCT'.out
        have hck := HCK'.out
        have hce := HCE'.out
        first | rw [HQ0.out] at hct hck hce | skip
        simp only [Bool.false_eq_true, if_false] at hct hck hce
        subst hct hck hce
        exact ⟨rfl, _, ⟨qb, fb, RA, rc, QA, cap, ql, fl, first, fov, HI.out.below HB4.out, HBD.out.mono (by omega), rfl⟩, fun k hk => .inl hk, Turn.of HB4.out⟩
      · have t24 : Turn (qb :: blkA QA) W2 w4 := Turn.of (below_trans (Below.refl _ _).drew hb4)
        refine hK _ _ ⟨⟨w4, t24⟩, rfl⟩ ?_
        clear hK K
        repeat (first | (refine mix_pure (by rfl) (by rfl) ?_; intro K hK; go_big_quiet_op; go_big_quiet_on) | (refine mix_nilc ⟨b, 0, none⟩ (by rfl) (by kernel_rfl) ?_; go_simp))
        refine mix_nil (wpList_nil ?_)
        have HB4 := Lib.hid (below_trans HB2.out (below_trans (Below.refl _ _).drew hb4))
        have HQ0 : Hid (q = true) := by show _ = _; have := HQ.out; rw [h0] at this; exact this.symm
        have HFULL : Hid (¬ T.q.length < T.oroom) := by show ¬ _; have := HL.out; omega
        clear hb4 t24 h0 hfull y0 y1 y2 y3 y4 y5 y6 y7 y8 y9 y10 x3
        go_wp2_with fail
        refine (countE_any 8 b 7 w4 (by decide)).mono ?_
        rintro e _ ⟨rfl, rfl⟩
        go_wp2_with fail
        go_ret2
        have hct := HCT'.out
        have hck := HCK'.out
        have hce := HCE'.out
        rw [HQ0.out] at hct hck hce
        simp only [if_true, if_neg HFULL.out] at hct hck hce
        subst hct hck hce
        exact ⟨rfl, _, ⟨qb, fb, RA, rc, QA, cap, ql, fl, first, fov, HI.out.below HB4.out, HBD.out.mono (by omega), rfl⟩, fun k hk => .inl hk, Turn.of HB4.out⟩
      · have t24 : Turn (qb :: blkA QA) W2 w4 := (Turn.refl _ W2).drew.tr t4
        refine hK _ _ ⟨⟨w4, t24⟩, rfl⟩ ?_
        clear hK K
        repeat (first | (refine mix_pure (by rfl) (by rfl) ?_; intro K hK; go_big_quiet_op; go_big_quiet_on) | (refine mix_nilc ⟨b, 0, none⟩ (by rfl) (by kernel_rfl) ?_; go_simp))
        refine mix_nil (wpList_nil ?_)
        have HBX4 := Lib.hid (t24.heap HBX2.out (by simp; exact ⟨g3, g6⟩))
        have T24 := Lib.hid t24
        have HH4 := Lib.hid hh4
        have HO4 := Lib.hid ho4
        have HP4 := Lib.hid hp4
        have HROW4 := Lib.hid (hrow4.mono (show W2.heap.size ≤ W2.drew.heap.size from Nat.le_refl _))
        have HFR4 : Hid (∀ a ∈ blkA A', a ∈ blkA QA ∨ W2.heap.size ≤ a) := fr4
        have HQ0 : Hid (q = true) := by show _ = _; have := HQ.out; rw [h0] at this; exact this.symm
        have HROOM : Hid (T.q.length < T.oroom) := by show _ < _; have := HL.out; omega
        have HQLR : Hid (ql.length < T.oroom) := hroom
        clear hh4 ho4 hp4 hrow4 fr4 t4 t24 h0 hroom y0 y1 y2 y3 y4 y5 y6 y7 y8 y9 y10 x3
        go_wp2_with fail
        refine (count0_any b 7 T.put w4 (cell_of_heap HBX4.out 7 _ rfl) (by simp [World.frozen?, HBX4.out]) hput).mono ?_
        rintro e _ ⟨rfl, rfl⟩
        go_wp2_with fail
        go_ret2
        have hct := HCT'.out
        have hck := HCK'.out
        have hce := HCE'.out
        rw [HQ0.out] at hct hck hce
        simp only [if_true, if_pos HROOM.out] at hct hck hce
        subst hct hck hce
        have hI2 := HI2.out
        have t5 : Turn [b] w4 (w4.setCell ⟨b, 7, none⟩ (.int .i64 ((T.put : Int) + 1))) := (Turn.refl _ _).setCell (p := ⟨b, 7, none⟩) (.inl (by simp)) _
        have t : Turn (b :: qb :: blkA QA) W2 (w4.setCell ⟨b, 7, none⟩ (.int .i64 ((T.put : Int) + 1))) := (T24.out.mono (fun x hx => .inl (List.mem_cons_of_mem _ hx))).tr (t5.mono (fun x hx => .inl (by simp at hx; subst hx; simp)))
        have hft : Foot (b :: qb :: blkA QA) W2 := fun k hk => by
          refine hI2.foot.1 k ?_
          simp only [footB, List.mem_cons] at hk ⊢
          rcases hk with h | h | h
          · exact .inl h
          · exact .inr (.inl h)
          · exact .inr (.inr (.inr h))
        have hf4 : Foot [b] w4 := fun k hk => by simp at hk; subst hk; exact ⟨_, _, _, HBX4.out, by decide, by decide⟩
        have hnewA : ∀ a ∈ blkA A', a ≠ b := fun a ha e => by
          subst e
          rcases HFR4.out _ ha with h | h
          · exact g6 h
          · have := heap_lt HBX2.out; omega
        have hqb4 : qb ∉ [b] := by simpa using Ne.symm g3
        have hs2 : w.heap.size ≤ W2.heap.size := HB2.out.size
        refine ⟨rfl, _, ⟨qb, fb, RA, rc, A', cap', l', fl, first, fov, ⟨?_, hI2.rules.turn t hft, ⟨HH4.out.turn t5 hqb4 (fun a ha => by simpa using hnewA a ha), HO4.out, fun x hx => ?_, ?_, hI2.queue.room, fun x hx => ?_, fun x hx => ?_, ?_⟩, hI2.fifo.turn t (by simp; exact ⟨Ne.symm g4, Ne.symm g5, g8⟩), fun x hx => (hI2.data x hx).turn_ty t hft.bytes, hI2.fok, hI2.bank, hI2.wf, absQ_ins hI2.hq HP4.out, insQ_sorted hI2.hs (fun y hy => ?_), hI2.hl, hI2.lo⟩, ?_, rfl⟩, fun k hk => ?_, (Turn.of HB2.out).tr (t.mono fun x hx => .inl ?_)⟩
        · rw [heap_setCell HBX4.out 7 _]
          simp [boxL]
        · rcases List.mem_append.1 (HP4.out.mem_iff.1 hx) with hx | hx
          · exact (hI2.queue.data x hx).turn_ty t hft.bytes
          · rw [List.mem_singleton.1 hx]
            exact (HROW4.out.turn_ty t5 hf4.bytes).mono (Nat.le_trans hbase hs2)
        · rw [HP4.out.length_eq, List.length_append]; have := HQLR.out; exact this
        · rcases List.mem_append.1 (HP4.out.mem_iff.1 hx) with hx | hx
          · exact hI2.queue.ok x hx
          · rw [List.mem_singleton.1 hx]; exact ⟨by have := HQ.out; rw [HQ0.out] at this; exact this, rfl, HF.out⟩
        · rcases List.mem_append.1 (HP4.out.mem_iff.1 hx) with hx | hx
          · have := hI2.queue.nos x hx; dsimp only; omega
          · rw [List.mem_singleton.1 hx]; dsimp only; omega
        · have hp := HP4.out.map (·.no)
          rw [List.map_append] at hp
          rw [hp.nodup_iff, List.nodup_append]
          refine ⟨hI2.queue.nodup, by simp, fun a ha c hc => ?_⟩
          obtain ⟨x, hx, rfl⟩ := List.mem_map.1 ha
          simp at hc
          have := (hI2.queue.nos x hx).2
          omega
        · obtain ⟨x, hx, rfl⟩ := List.mem_map.1 (hI2.hq.mem_iff.2 hy)
          have := (hI2.queue.nos x hx).2
          simp only [absQ]
          omega
        · have := HBD.out; unfold BndB at this ⊢; dsimp only; omega
        · simp only [footB, List.mem_cons] at hk ⊢
          rcases hk with h | h | h | h
          · exact .inl (.inl h)
          · exact .inl (.inr (.inl h))
          · exact .inl (.inr (.inr (.inl h)))
          · rcases HFR4.out k h with h | h
            · exact .inl (.inr (.inr (.inr h)))
            · exact .inr (by omega)
        · simp only [footB, List.mem_cons] at hx ⊢
          rcases hx with h | h | h
          · exact .inl h
          · exact .inr (.inl h)
          · exact .inr (.inr (.inr h))
    · go_enter Try.func16, Try.ntmps16
      go_wp2_with fail
      obtain ⟨W2, hW2, q2, hb2⟩ : ∃ W2, W2 = w.alloc (.cells #[.int .i64 fk, .int .u32 fi, .bool fe, .bool fr, .bool f4, .bool f5, .bool f6, .int .u8 f7, .int .u8 f8, .int .u32 f9, .slice B m d] 42) ∧ W2.heap[w.heap.size]? = some (.cells #[.int .i64 fk, .int .u32 fi, .bool fe, .bool fr, .bool f4, .bool f5, .bool f6, .int .u8 f7, .int .u8 f8, .int .u32 f9, .slice B m d] 42 (0, 0)) ∧ Below w.heap.size w W2 := ⟨_, rfl, heap_new_at rfl, below_alloc (Below.refl _ _) _⟩
      rw [← hW2]
      clear hW2
      have hbx2 := heap_below hb2 HBX.out
      have x3 : ∀ e : ExtT (qb :: blkA QA) W2, e.W.cell? ⟨b, 3, none⟩ = some (.pointer (some ⟨qb, 0, none⟩)) := fun e => extT_cell (cell_of_heap hbx2 3 _ rfl) (by simp; exact ⟨g3, g6⟩) e
      obtain ⟨y0, y1, y2, y3, y4, y5, y6, y7, y8, y9, y10⟩ := extT_11 q2 HNB.out
      have HB2 := Lib.hid hb2
      have HBX2 := Lib.hid hbx2
      have HI2 := Lib.hid (HI.out.below hb2)
      clear q2 hb2 hbx2 c2
      refine wp_region_mix (fun w' => ∃ e : ExtT (qb :: blkA QA) W2, w' = e.W) [(true, 0), (true, 1), (true, 2), (true, 3), (true, 4), (false, 5), (true, 6), (true, 7), (true, 8), (true, 9), (true, 10)] [] (by kernel_rfl) (by kernel_rfl) (by intro _ _ d _ _ h; cases d <;> exact h) ⟨⟨W2.drew, (Turn.refl _ _).drew⟩, rfl⟩ ?_
      simp only [pickM, pickL, List.drop_succ_cons, List.drop_zero]
      repeat (first | (refine mix_pure (by rfl) (by rfl) ?_; intro K hK; go_big_quiet_op; go_big_quiet_on) | (refine mix_nilc ⟨b, 0, none⟩ (by rfl) (by kernel_rfl) ?_; go_simp))
      refine mix_eff (by rfl) ?_
      intro K hK
      go_simp
      refine (HPU.out W2.drew (HI2.out.queue.heap.below (Below.refl _ _).drew) (Nat.le_trans hbase HB2.out.size) ((HR.out.below HB2.out).below (Below.refl _ _).drew)).mono ?_
      rintro e w4 (⟨h0, rfl, hb4⟩ | ⟨h0, hfull, rfl, hb4⟩ | ⟨h0, hroom, rfl, A', cap', l', B', c', hh4, ho4, hp4, hrow4, fr4, t4⟩)
      · have t24 : Turn (qb :: blkA QA) W2 w4 := Turn.of (below_trans (Below.refl _ _).drew hb4)
        refine hK _ _ ⟨⟨w4, t24⟩, rfl⟩ ?_
        clear hK K
        repeat (first | (refine mix_pure (by rfl) (by rfl) ?_; intro K hK; go_big_quiet_op; go_big_quiet_on) | (refine mix_nilc ⟨b, 0, none⟩ (by rfl) (by kernel_rfl) ?_; go_simp))
        refine mix_nil (wpList_nil ?_)
        have HB4 := Lib.hid (below_trans HB2.out (below_trans (Below.refl _ _).drew hb4))
        have hq0 : q = false := by have := HQ.out; first | (rw [h0] at this; exact this.symm) | rfl
        have HQ0 := Lib.hid hq0
        clear hb4 t24 h0 hq0 y0 y1 y2 y3 y4 y5 y6 y7 y8 y9 y10 x3
        go_wp2_with fail
        refine (countE_any 2 b 7 w4 (by decide)).mono ?_
        rintro e _ ⟨rfl, rfl⟩
        go_wp2_with fail
        go_ret2
        have hct := HCT'.out
        have hck := HCK'.out
        have hce := HCE'.out
        first | rw [HQ0.out] at hct hck hce | skip
        simp only [Bool.false_eq_true, if_false] at hct hck hce
        subst hct hck hce
        exact ⟨rfl, _, ⟨qb, fb, RA, rc, QA, cap, ql, fl, first, fov, HI.out.below HB4.out, HBD.out.mono (by omega), rfl⟩, fun k hk => .inl hk, Turn.of HB4.out⟩
      · have t24 : Turn (qb :: blkA QA) W2 w4 := Turn.of (below_trans (Below.refl _ _).drew hb4)
        refine hK _ _ ⟨⟨w4, t24⟩, rfl⟩ ?_
        clear hK K
        repeat (first | (refine mix_pure (by rfl) (by rfl) ?_; intro K hK; go_big_quiet_op; go_big_quiet_on) | (refine mix_nilc ⟨b, 0, none⟩ (by rfl) (by kernel_rfl) ?_; go_simp))
        refine mix_nil (wpList_nil ?_)
        have HB4 := Lib.hid (below_trans HB2.out (below_trans (Below.refl _ _).drew hb4))
        have HQ0 : Hid (q = true) := by show _ = _; have := HQ.out; rw [h0] at this; exact this.symm
        have HFULL : Hid (¬ T.q.length < T.oroom) := by show ¬ _; have := HL.out; omega
        clear hb4 t24 h0 hfull y0 y1 y2 y3 y4 y5 y6 y7 y8 y9 y10 x3
        go_wp2_with fail
        refine (countE_any 8 b 7 w4 (by decide)).mono ?_
        rintro e _ ⟨rfl, rfl⟩
        go_wp2_with fail
        go_ret2
        have hct := HCT'.out
        have hck := HCK'.out
        have hce := HCE'.out
        rw [HQ0.out] at hct hck hce
        simp only [if_true, if_neg HFULL.out] at hct hck hce
        subst hct hck hce
        exact ⟨rfl, _, ⟨qb, fb, RA, rc, QA, cap, ql, fl, first, fov, HI.out.below HB4.out, HBD.out.mono (by omega), rfl⟩, fun k hk => .inl hk, Turn.of HB4.out⟩
      · have t24 : Turn (qb :: blkA QA) W2 w4 := (Turn.refl _ W2).drew.tr t4
        refine hK _ _ ⟨⟨w4, t24⟩, rfl⟩ ?_
        clear hK K
        repeat (first | (refine mix_pure (by rfl) (by rfl) ?_; intro K hK; go_big_quiet_op; go_big_quiet_on) | (refine mix_nilc ⟨b, 0, none⟩ (by rfl) (by kernel_rfl) ?_; go_simp))
        refine mix_nil (wpList_nil ?_)
        have HBX4 := Lib.hid (t24.heap HBX2.out (by simp; exact ⟨g3, g6⟩))
        have T24 := Lib.hid t24
        have HH4 := Lib.hid hh4
        have HO4 := Lib.hid ho4
        have HP4 := Lib.hid hp4
        have HROW4 := Lib.hid (hrow4.mono (show W2.heap.size ≤ W2.drew.heap.size from Nat.le_refl _))
        have HFR4 : Hid (∀ a ∈ blkA A', a ∈ blkA QA ∨ W2.heap.size ≤ a) := fr4
        have HQ0 : Hid (q = true) := by show _ = _; have := HQ.out; rw [h0] at this; exact this.symm
        have HROOM : Hid (T.q.length < T.oroom) := by show _ < _; have := HL.out; omega
        have HQLR : Hid (ql.length < T.oroom) := hroom
        clear hh4 ho4 hp4 hrow4 fr4 t4 t24 h0 hroom y0 y1 y2 y3 y4 y5 y6 y7 y8 y9 y10 x3
        go_wp2_with fail
        refine (count0_any b 7 T.put w4 (cell_of_heap HBX4.out 7 _ rfl) (by simp [World.frozen?, HBX4.out]) hput).mono ?_
        rintro e _ ⟨rfl, rfl⟩
        go_wp2_with fail
        go_ret2
        have hct := HCT'.out
        have hck := HCK'.out
        have hce := HCE'.out
        rw [HQ0.out] at hct hck hce
        simp only [if_true, if_pos HROOM.out] at hct hck hce
        subst hct hck hce
        have hI2 := HI2.out
        have t5 : Turn [b] w4 (w4.setCell ⟨b, 7, none⟩ (.int .i64 ((T.put : Int) + 1))) := (Turn.refl _ _).setCell (p := ⟨b, 7, none⟩) (.inl (by simp)) _
        have t : Turn (b :: qb :: blkA QA) W2 (w4.setCell ⟨b, 7, none⟩ (.int .i64 ((T.put : Int) + 1))) := (T24.out.mono (fun x hx => .inl (List.mem_cons_of_mem _ hx))).tr (t5.mono (fun x hx => .inl (by simp at hx; subst hx; simp)))
        have hft : Foot (b :: qb :: blkA QA) W2 := fun k hk => by
          refine hI2.foot.1 k ?_
          simp only [footB, List.mem_cons] at hk ⊢
          rcases hk with h | h | h
          · exact .inl h
          · exact .inr (.inl h)
          · exact .inr (.inr (.inr h))
        have hf4 : Foot [b] w4 := fun k hk => by simp at hk; subst hk; exact ⟨_, _, _, HBX4.out, by decide, by decide⟩
        have hnewA : ∀ a ∈ blkA A', a ≠ b := fun a ha e => by
          subst e
          rcases HFR4.out _ ha with h | h
          · exact g6 h
          · have := heap_lt HBX2.out; omega
        have hqb4 : qb ∉ [b] := by simpa using Ne.symm g3
        have hs2 : w.heap.size ≤ W2.heap.size := HB2.out.size
        refine ⟨rfl, _, ⟨qb, fb, RA, rc, A', cap', l', fl, first, fov, ⟨?_, hI2.rules.turn t hft, ⟨HH4.out.turn t5 hqb4 (fun a ha => by simpa using hnewA a ha), HO4.out, fun x hx => ?_, ?_, hI2.queue.room, fun x hx => ?_, fun x hx => ?_, ?_⟩, hI2.fifo.turn t (by simp; exact ⟨Ne.symm g4, Ne.symm g5, g8⟩), fun x hx => (hI2.data x hx).turn_ty t hft.bytes, hI2.fok, hI2.bank, hI2.wf, absQ_ins hI2.hq HP4.out, insQ_sorted hI2.hs (fun y hy => ?_), hI2.hl, hI2.lo⟩, ?_, rfl⟩, fun k hk => ?_, (Turn.of HB2.out).tr (t.mono fun x hx => .inl ?_)⟩
        · rw [heap_setCell HBX4.out 7 _]
          simp [boxL]
        · rcases List.mem_append.1 (HP4.out.mem_iff.1 hx) with hx | hx
          · exact (hI2.queue.data x hx).turn_ty t hft.bytes
          · rw [List.mem_singleton.1 hx]
            exact (HROW4.out.turn_ty t5 hf4.bytes).mono (Nat.le_trans hbase hs2)
        · rw [HP4.out.length_eq, List.length_append]; have := HQLR.out; exact this
        · rcases List.mem_append.1 (HP4.out.mem_iff.1 hx) with hx | hx
          · exact hI2.queue.ok x hx
          · rw [List.mem_singleton.1 hx]; exact ⟨by have := HQ.out; rw [HQ0.out] at this; exact this, rfl, HF.out⟩
        · rcases List.mem_append.1 (HP4.out.mem_iff.1 hx) with hx | hx
          · have := hI2.queue.nos x hx; dsimp only; omega
          · rw [List.mem_singleton.1 hx]; dsimp only; omega
        · have hp := HP4.out.map (·.no)
          rw [List.map_append] at hp
          rw [hp.nodup_iff, List.nodup_append]
          refine ⟨hI2.queue.nodup, by simp, fun a ha c hc => ?_⟩
          obtain ⟨x, hx, rfl⟩ := List.mem_map.1 ha
          simp at hc
          have := (hI2.queue.nos x hx).2
          omega
        · obtain ⟨x, hx, rfl⟩ := List.mem_map.1 (hI2.hq.mem_iff.2 hy)
          have := (hI2.queue.nos x hx).2
          simp only [absQ]
          omega
        · have := HBD.out; unfold BndB at this ⊢; dsimp only; omega
        · simp only [footB, List.mem_cons] at hk ⊢
          rcases hk with h | h | h | h
          · exact .inl (.inl h)
          · exact .inl (.inr (.inl h))
          · exact .inl (.inr (.inr (.inl h)))
          · rcases HFR4.out k h with h | h
            · exact .inl (.inr (.inr (.inr h)))
            · exact .inr (by omega)
        · simp only [footB, List.mem_cons] at hx ⊢
          rcases hx with h | h | h
          · exact .inl h
          · exact .inr (.inl h)
          · exact .inr (.inr (.inr h))
    · go_enter Try.func16, Try.ntmps16
      go_wp2_with fail
      refine calls_blk1 fun W1 q1 hb1 => ?_
      refine (HCH.out _).mono ?_
      rintro e W2 ⟨rfl, hb⟩
      have q2 := heap_below hb q1
      have hb2 := below_trans hb1 hb
      clear hb hb1 q1
      simp only [errV]
      go_wp2_with fail
      have hbx2 := heap_below hb2 HBX.out
      have x3 : ∀ e : ExtT (qb :: blkA QA) W2, e.W.cell? ⟨b, 3, none⟩ = some (.pointer (some ⟨qb, 0, none⟩)) := fun e => extT_cell (cell_of_heap hbx2 3 _ rfl) (by simp; exact ⟨g3, g6⟩) e
      obtain ⟨y0, y1, y2, y3, y4, y5, y6, y7, y8, y9, y10⟩ := extT_11 q2 HNB.out
      have HB2 := Lib.hid hb2
      have HBX2 := Lib.hid hbx2
      have HI2 := Lib.hid (HI.out.below hb2)
      clear q2 hb2 hbx2 c2
      refine wp_region_mix (fun w' => ∃ e : ExtT (qb :: blkA QA) W2, w' = e.W) [(true, 0), (true, 1), (true, 2), (true, 3), (true, 4), (false, 5), (true, 6), (true, 7), (true, 8), (true, 9), (true, 10)] [] (by kernel_rfl) (by kernel_rfl) (by intro _ _ d _ _ h; cases d <;> exact h) ⟨⟨W2.drew, (Turn.refl _ _).drew⟩, rfl⟩ ?_
      simp only [pickM, pickL, List.drop_succ_cons, List.drop_zero]
      repeat (first | (refine mix_pure (by rfl) (by rfl) ?_; intro K hK; go_big_quiet_op; go_big_quiet_on) | (refine mix_nilc ⟨b, 0, none⟩ (by rfl) (by kernel_rfl) ?_; go_simp))
      refine mix_eff (by rfl) ?_
      intro K hK
      go_simp
      refine (HPU.out W2.drew (HI2.out.queue.heap.below (Below.refl _ _).drew) (Nat.le_trans hbase HB2.out.size) ((HR.out.below HB2.out).below (Below.refl _ _).drew)).mono ?_
      rintro e w4 (⟨h0, rfl, hb4⟩ | ⟨h0, hfull, rfl, hb4⟩ | ⟨h0, hroom, rfl, A', cap', l', B', c', hh4, ho4, hp4, hrow4, fr4, t4⟩)
      · have t24 : Turn (qb :: blkA QA) W2 w4 := Turn.of (below_trans (Below.refl _ _).drew hb4)
        refine hK _ _ ⟨⟨w4, t24⟩, rfl⟩ ?_
        clear hK K
        repeat (first | (refine mix_pure (by rfl) (by rfl) ?_; intro K hK; go_big_quiet_op; go_big_quiet_on) | (refine mix_nilc ⟨b, 0, none⟩ (by rfl) (by kernel_rfl) ?_; go_simp))
        refine mix_nil (wpList_nil ?_)
        have HB4 := Lib.hid (below_trans HB2.out (below_trans (Below.refl _ _).drew hb4))
        have hq0 : (false : Bool) = false := by have := HQ.out; first | (rw [h0] at this; exact this.symm) | rfl
        have HQ0 := Lib.hid hq0
        clear hb4 t24 h0 hq0 y0 y1 y2 y3 y4 y5 y6 y7 y8 y9 y10 x3
        go_wp2_with fail
        refine (countE_any 2 b 7 w4 (by decide)).mono ?_
        rintro e _ ⟨rfl, rfl⟩
        go_wp2_with fail
        go_ret2
        have hct := HCT'.out
        have hck := HCK'.out
        have hce := HCE'.out
        first | rw [HQ0.out] at hct hck hce | skip
        simp only [Bool.false_eq_true, if_false] at hct hck hce
        subst hct hck hce
        exact ⟨rfl, _, ⟨qb, fb, RA, rc, QA, cap, ql, fl, first, fov, HI.out.below HB4.out, HBD.out.mono (by omega), rfl⟩, fun k hk => .inl hk, Turn.of HB4.out⟩
      · have t24 : Turn (qb :: blkA QA) W2 w4 := Turn.of (below_trans (Below.refl _ _).drew hb4)
        refine hK _ _ ⟨⟨w4, t24⟩, rfl⟩ ?_
        clear hK K
        repeat (first | (refine mix_pure (by rfl) (by rfl) ?_; intro K hK; go_big_quiet_op; go_big_quiet_on) | (refine mix_nilc ⟨b, 0, none⟩ (by rfl) (by kernel_rfl) ?_; go_simp))
        refine mix_nil (wpList_nil ?_)
        have HB4 := Lib.hid (below_trans HB2.out (below_trans (Below.refl _ _).drew hb4))
        have HQ0 : Hid ((false : Bool) = true) := by show _ = _; have := HQ.out; rw [h0] at this; exact this.symm
        have HFULL : Hid (¬ T.q.length < T.oroom) := by show ¬ _; have := HL.out; omega
        clear hb4 t24 h0 hfull y0 y1 y2 y3 y4 y5 y6 y7 y8 y9 y10 x3
        go_wp2_with fail
        refine (countE_any 8 b 7 w4 (by decide)).mono ?_
        rintro e _ ⟨rfl, rfl⟩
        go_wp2_with fail
        go_ret2
        have hct := HCT'.out
        have hck := HCK'.out
        have hce := HCE'.out
        rw [HQ0.out] at hct hck hce
        simp only [if_true, if_neg HFULL.out] at hct hck hce
        subst hct hck hce
        exact ⟨rfl, _, ⟨qb, fb, RA, rc, QA, cap, ql, fl, first, fov, HI.out.below HB4.out, HBD.out.mono (by omega), rfl⟩, fun k hk => .inl hk, Turn.of HB4.out⟩
      · have t24 : Turn (qb :: blkA QA) W2 w4 := (Turn.refl _ W2).drew.tr t4
        refine hK _ _ ⟨⟨w4, t24⟩, rfl⟩ ?_
        clear hK K
        repeat (first | (refine mix_pure (by rfl) (by rfl) ?_; intro K hK; go_big_quiet_op; go_big_quiet_on) | (refine mix_nilc ⟨b, 0, none⟩ (by rfl) (by kernel_rfl) ?_; go_simp))
        refine mix_nil (wpList_nil ?_)
        have HBX4 := Lib.hid (t24.heap HBX2.out (by simp; exact ⟨g3, g6⟩))
        have T24 := Lib.hid t24
        have HH4 := Lib.hid hh4
        have HO4 := Lib.hid ho4
        have HP4 := Lib.hid hp4
        have HROW4 := Lib.hid (hrow4.mono (show W2.heap.size ≤ W2.drew.heap.size from Nat.le_refl _))
        have HFR4 : Hid (∀ a ∈ blkA A', a ∈ blkA QA ∨ W2.heap.size ≤ a) := fr4
        have HQ0 : Hid ((false : Bool) = true) := by show _ = _; have := HQ.out; rw [h0] at this; exact this.symm
        have HROOM : Hid (T.q.length < T.oroom) := by show _ < _; have := HL.out; omega
        have HQLR : Hid (ql.length < T.oroom) := hroom
        clear hh4 ho4 hp4 hrow4 fr4 t4 t24 h0 hroom y0 y1 y2 y3 y4 y5 y6 y7 y8 y9 y10 x3
        go_wp2_with fail
        refine (count0_any b 7 T.put w4 (cell_of_heap HBX4.out 7 _ rfl) (by simp [World.frozen?, HBX4.out]) hput).mono ?_
        rintro e _ ⟨rfl, rfl⟩
        go_wp2_with fail
        go_ret2
        have hct := HCT'.out
        have hck := HCK'.out
        have hce := HCE'.out
        rw [HQ0.out] at hct hck hce
        simp only [if_true, if_pos HROOM.out] at hct hck hce
        subst hct hck hce
        have hI2 := HI2.out
        have t5 : Turn [b] w4 (w4.setCell ⟨b, 7, none⟩ (.int .i64 ((T.put : Int) + 1))) := (Turn.refl _ _).setCell (p := ⟨b, 7, none⟩) (.inl (by simp)) _
        have t : Turn (b :: qb :: blkA QA) W2 (w4.setCell ⟨b, 7, none⟩ (.int .i64 ((T.put : Int) + 1))) := (T24.out.mono (fun x hx => .inl (List.mem_cons_of_mem _ hx))).tr (t5.mono (fun x hx => .inl (by simp at hx; subst hx; simp)))
        have hft : Foot (b :: qb :: blkA QA) W2 := fun k hk => by
          refine hI2.foot.1 k ?_
          simp only [footB, List.mem_cons] at hk ⊢
          rcases hk with h | h | h
          · exact .inl h
          · exact .inr (.inl h)
          · exact .inr (.inr (.inr h))
        have hf4 : Foot [b] w4 := fun k hk => by simp at hk; subst hk; exact ⟨_, _, _, HBX4.out, by decide, by decide⟩
        have hnewA : ∀ a ∈ blkA A', a ≠ b := fun a ha e => by
          subst e
          rcases HFR4.out _ ha with h | h
          · exact g6 h
          · have := heap_lt HBX2.out; omega
        have hqb4 : qb ∉ [b] := by simpa using Ne.symm g3
        have hs2 : w.heap.size ≤ W2.heap.size := HB2.out.size
        refine ⟨rfl, _, ⟨qb, fb, RA, rc, A', cap', l', fl, first, fov, ⟨?_, hI2.rules.turn t hft, ⟨HH4.out.turn t5 hqb4 (fun a ha => by simpa using hnewA a ha), HO4.out, fun x hx => ?_, ?_, hI2.queue.room, fun x hx => ?_, fun x hx => ?_, ?_⟩, hI2.fifo.turn t (by simp; exact ⟨Ne.symm g4, Ne.symm g5, g8⟩), fun x hx => (hI2.data x hx).turn_ty t hft.bytes, hI2.fok, hI2.bank, hI2.wf, absQ_ins hI2.hq HP4.out, insQ_sorted hI2.hs (fun y hy => ?_), hI2.hl, hI2.lo⟩, ?_, rfl⟩, fun k hk => ?_, (Turn.of HB2.out).tr (t.mono fun x hx => .inl ?_)⟩
        · rw [heap_setCell HBX4.out 7 _]
          simp [boxL]
        · rcases List.mem_append.1 (HP4.out.mem_iff.1 hx) with hx | hx
          · exact (hI2.queue.data x hx).turn_ty t hft.bytes
          · rw [List.mem_singleton.1 hx]
            exact (HROW4.out.turn_ty t5 hf4.bytes).mono (Nat.le_trans hbase hs2)
        · rw [HP4.out.length_eq, List.length_append]; have := HQLR.out; exact this
        · rcases List.mem_append.1 (HP4.out.mem_iff.1 hx) with hx | hx
          · exact hI2.queue.ok x hx
          · rw [List.mem_singleton.1 hx]; exact ⟨by have := HQ.out; rw [HQ0.out] at this; exact this, rfl, HF.out⟩
        · rcases List.mem_append.1 (HP4.out.mem_iff.1 hx) with hx | hx
          · have := hI2.queue.nos x hx; dsimp only; omega
          · rw [List.mem_singleton.1 hx]; dsimp only; omega
        · have hp := HP4.out.map (·.no)
          rw [List.map_append] at hp
          rw [hp.nodup_iff, List.nodup_append]
          refine ⟨hI2.queue.nodup, by simp, fun a ha c hc => ?_⟩
          obtain ⟨x, hx, rfl⟩ := List.mem_map.1 ha
          simp at hc
          have := (hI2.queue.nos x hx).2
          omega
        · obtain ⟨x, hx, rfl⟩ := List.mem_map.1 (hI2.hq.mem_iff.2 hy)
          have := (hI2.queue.nos x hx).2
          simp only [absQ]
          omega
        · have := HBD.out; unfold BndB at this ⊢; dsimp only; omega
        · simp only [footB, List.mem_cons] at hk ⊢
          rcases hk with h | h | h | h
          · exact .inl (.inl h)
          · exact .inl (.inr (.inl h))
          · exact .inl (.inr (.inr (.inl h)))
          · rcases HFR4.out k h with h | h
            · exact .inl (.inr (.inr (.inr h)))
            · exact .inr (by omega)
        · simp only [footB, List.mem_cons] at hx ⊢
          rcases hx with h | h | h
          · exact .inl h
          · exact .inr (.inl h)
          · exact .inr (.inr (.inr h))
end Go.Proofs.Ytlmdkmflbhnlgaa
