/- An act, done in both boxes: the same. No condition. -/
import Derived.Test.YtlmdkmflbhnlgaaPBoth
namespace Go.Proofs.Ytlmdkmflbhnlgaa
open Go.RowKit
/-- What do answers. -/
def DoOf (w0 : World) (base N : Nat) (b M mb : Nat) (RA : Option Addr) (rc : Nat) (T : BX) (e : Ending) (w' : World) : Prop := e = .returned (.bool true) ∧ ∃ ft' fr', Both w0 w' base (N + 1) ft' b T (M + 1) fr' mb RA rc T
set_option maxRecDepth 100000 in
set_option maxHeartbeats 16000000 in
theorem do1_any (w0 w : World) (base N : Nat) (ft : List Nat) (b M : Nat) (fr : List Nat) (mb : Nat) (RA : Option Addr) (rc : Nat) (T : BX) (no : Int) (f : Fr) (A : Option Addr) (c : Nat) (h : Both w0 w base N ft b T M fr mb RA rc T) (hg : GoodT T) (hN : N ≤ 100000) (hlo : w0.heap.size ≤ base) (hbase : base ≤ w.heap.size) :
    Calls Try.prog 26 #[.pointer (some ⟨b, 0, none⟩), .pointer (some ⟨mb, 0, none⟩), acV ⟨1, no, ⟨f, A, c⟩⟩] w (DoOf w0 base N b M mb RA rc (goneT T no)) := by
  have HH := Lib.hid h
  have HSM := Lib.hid (h.a.small (by omega))
  have HNI : Hid (w.heap.size ∉ mb :: ft) := fun hm => by
    rcases List.mem_cons.1 hm with h1 | h1
    · have := (h.m.foot.2.1 mb h.m.foot.2.2).2; omega
    · have := h.a.foot.2.2.1 _ h1; omega
  obtain ⟨kc, hke⟩ : ∃ kc : Int, (if hasQ no T.q then (0 : Int) else 9) = kc := ⟨_, rfl⟩
  clear h
  obtain ⟨fk, fi, fe, fr', f4, f5, f6, f7, f8, f9, data⟩ := f
  dsimp only [acV]
  go_enter Try.func26, Try.ntmps26
  go_wp2_with fail
  obtain ⟨W1, hW1⟩ : ∃ W1, w.alloc (.cells #[.int .i64 1, .int .i64 no, .int .i64 fk, .int .u32 fi, .bool fe, .bool fr', .bool f4, .bool f5, .bool f6, .int .u8 f7, .int .u8 f8, .int .u32 f9, .slice A data.length c] 73) = W1 := ⟨_, rfl⟩
  have q1 : W1.heap[w.heap.size]? = some (.cells #[.int .i64 1, .int .i64 no, .int .i64 fk, .int .u32 fi, .bool fe, .bool fr', .bool f4, .bool f5, .bool f6, .int .u8 f7, .int .u8 f8, .int .u32 f9, .slice A data.length c] 73 (0, 0)) := by rw [← hW1]; exact heap_new_at rfl
  have hb1 : Below w.heap.size w W1 := by rw [← hW1]; exact below_alloc (Below.refl _ _) _
  rw [hW1]
  have HB1 := Lib.hid hb1
  have H2 := Lib.hid ((HH.out.step hb1).step (Below.refl _ W1).drew)
  have x1 : ∀ e : ExtT (mb :: ft) W1, e.W.cell? ⟨w.heap.size, 1, none⟩ = some (.int .i64 no) := fun e => extT_cell (cell_of_heap q1 1 _ rfl) HNI.out e
  clear hW1 q1 hb1
  refine wp_region_mix (fun w' => ∃ e : ExtT (mb :: ft) W1, w' = e.W) [(true, 0), (true, 1), (true, 2), (true, 4), (true, 5), (true, 6), (false, 3), (false, 7), (true, 8), (true, 9)] [] (by kernel_rfl) (by kernel_rfl) (by intro _ _ d _ _ h; cases d <;> exact h) ⟨⟨W1.drew, (Turn.refl _ _).drew⟩, rfl⟩ ?_
  simp only [pickM, pickL, List.drop_succ_cons, List.drop_zero]
  repeat (refine mix_pure (by rfl) (by rfl) ?_; intro K hK; go_big_quiet_op; go_big_quiet_on)
  refine mix_eff (by rfl) ?_
  intro K hK
  go_simp
  refine (BoxCancel_any W1.drew base N ft b T no H2.out.a hN).mono ?_
  rintro e w3 ⟨rfl, ha⟩
  rw [hke]
  have t3 : Turn (mb :: ft) W1 w3 := (Turn.of (Below.refl _ W1).drew).tr (ha.choose_spec.2.2.mono (fun x hx => .inl (by simp [hx])))
  obtain ⟨ft3, h3⟩ := H2.out.actA hlo ha
  have H3 := Lib.hid h3
  have T3 := Lib.hid t3
  refine hK _ _ ⟨⟨w3, t3⟩, rfl⟩ ?_
  clear hK K ha h3 t3
  refine mix_eff (by rfl) ?_
  intro K hK
  go_simp
  refine (RBCancel_any w3 base mb rc M RA fr T no H3.out.m hg HSM.out.2.2.2.1 (Nat.le_trans hbase (Nat.le_trans HB1.out.size T3.out.size))).mono ?_
  rintro e w4 ⟨rfl, ha⟩
  rw [hke]
  have t4 : Turn (mb :: ft) W1 w4 := T3.out.tr (ha.choose_spec.2.2.mono (fun x hx => .inl (by rw [List.mem_singleton.1 hx]; simp)))
  obtain ⟨fr4, h4⟩ := H3.out.actM hlo ha
  have H4 := Lib.hid h4
  refine hK _ _ ⟨⟨w4, t4⟩, rfl⟩ ?_
  clear hK K ha h4 t4 x1
  repeat (refine mix_pure (by rfl) (by rfl) ?_; intro K hK; go_big_quiet_op; go_big_quiet_on)
  refine mix_nil (wpList_nil ?_)
  go_wp2_with fail
  go_ret
  exact ⟨by first | rfl | simp, ft3, fr4, H4.out.monoM (by omega)⟩
set_option maxRecDepth 100000 in
set_option maxHeartbeats 16000000 in
theorem do3_any (w0 w : World) (base N : Nat) (ft : List Nat) (b M : Nat) (fr : List Nat) (mb : Nat) (RA : Option Addr) (rc : Nat) (T : BX) (no : Int) (f : Fr) (A : Option Addr) (c : Nat) (h : Both w0 w base N ft b T M fr mb RA rc T) (hg : GoodT T) (hN : N ≤ 100000) (hlo : w0.heap.size ≤ base) (hbase : base ≤ w.heap.size) :
    Calls Try.prog 26 #[.pointer (some ⟨b, 0, none⟩), .pointer (some ⟨mb, 0, none⟩), acV ⟨3, no, ⟨f, A, c⟩⟩] w (DoOf w0 base N b M mb RA rc (sentT T no)) := by
  have HH := Lib.hid h
  have HSM := Lib.hid (h.a.small (by omega))
  have HNI : Hid (w.heap.size ∉ mb :: ft) := fun hm => by
    rcases List.mem_cons.1 hm with h1 | h1
    · have := (h.m.foot.2.1 mb h.m.foot.2.2).2; omega
    · have := h.a.foot.2.2.1 _ h1; omega
  obtain ⟨kc, hke⟩ : ∃ kc : Int, (if hasQ no T.q then (0 : Int) else 9) = kc := ⟨_, rfl⟩
  clear h
  obtain ⟨fk, fi, fe, fr', f4, f5, f6, f7, f8, f9, data⟩ := f
  dsimp only [acV]
  go_enter Try.func26, Try.ntmps26
  go_wp2_with fail
  obtain ⟨W1, hW1⟩ : ∃ W1, w.alloc (.cells #[.int .i64 3, .int .i64 no, .int .i64 fk, .int .u32 fi, .bool fe, .bool fr', .bool f4, .bool f5, .bool f6, .int .u8 f7, .int .u8 f8, .int .u32 f9, .slice A data.length c] 73) = W1 := ⟨_, rfl⟩
  have q1 : W1.heap[w.heap.size]? = some (.cells #[.int .i64 3, .int .i64 no, .int .i64 fk, .int .u32 fi, .bool fe, .bool fr', .bool f4, .bool f5, .bool f6, .int .u8 f7, .int .u8 f8, .int .u32 f9, .slice A data.length c] 73 (0, 0)) := by rw [← hW1]; exact heap_new_at rfl
  have hb1 : Below w.heap.size w W1 := by rw [← hW1]; exact below_alloc (Below.refl _ _) _
  rw [hW1]
  have HB1 := Lib.hid hb1
  have H2 := Lib.hid ((HH.out.step hb1).step (Below.refl _ W1).drew)
  have x1 : ∀ e : ExtT (mb :: ft) W1, e.W.cell? ⟨w.heap.size, 1, none⟩ = some (.int .i64 no) := fun e => extT_cell (cell_of_heap q1 1 _ rfl) HNI.out e
  clear hW1 q1 hb1
  refine wp_region_mix (fun w' => ∃ e : ExtT (mb :: ft) W1, w' = e.W) [(true, 0), (true, 1), (true, 2), (true, 4), (true, 5), (true, 6), (false, 3), (false, 7), (true, 8), (true, 9)] [] (by kernel_rfl) (by kernel_rfl) (by intro _ _ d _ _ h; cases d <;> exact h) ⟨⟨W1.drew, (Turn.refl _ _).drew⟩, rfl⟩ ?_
  simp only [pickM, pickL, List.drop_succ_cons, List.drop_zero]
  repeat (refine mix_pure (by rfl) (by rfl) ?_; intro K hK; go_big_quiet_op; go_big_quiet_on)
  refine mix_eff (by rfl) ?_
  intro K hK
  go_simp
  refine (BoxDone_any W1.drew base N ft b T no H2.out.a hN).mono ?_
  rintro e w3 ⟨rfl, ha⟩
  rw [hke]
  have t3 : Turn (mb :: ft) W1 w3 := (Turn.of (Below.refl _ W1).drew).tr (ha.choose_spec.2.2.mono (fun x hx => .inl (by simp [hx])))
  obtain ⟨ft3, h3⟩ := H2.out.actA hlo ha
  have H3 := Lib.hid h3
  have T3 := Lib.hid t3
  refine hK _ _ ⟨⟨w3, t3⟩, rfl⟩ ?_
  clear hK K ha h3 t3
  refine mix_eff (by rfl) ?_
  intro K hK
  go_simp
  refine (RBDone_any w3 base mb rc M RA fr T no H3.out.m hg HSM.out.2.2.1 (Nat.le_trans hbase (Nat.le_trans HB1.out.size T3.out.size))).mono ?_
  rintro e w4 ⟨rfl, ha⟩
  rw [hke]
  have t4 : Turn (mb :: ft) W1 w4 := T3.out.tr (ha.choose_spec.2.2.mono (fun x hx => .inl (by rw [List.mem_singleton.1 hx]; simp)))
  obtain ⟨fr4, h4⟩ := H3.out.actM hlo ha
  have H4 := Lib.hid h4
  refine hK _ _ ⟨⟨w4, t4⟩, rfl⟩ ?_
  clear hK K ha h4 t4 x1
  repeat (refine mix_pure (by rfl) (by rfl) ?_; intro K hK; go_big_quiet_op; go_big_quiet_on)
  refine mix_nil (wpList_nil ?_)
  go_wp2_with fail
  go_ret
  exact ⟨by first | rfl | simp, ft3, fr4, H4.out.monoM (by omega)⟩
end Go.Proofs.Ytlmdkmflbhnlgaa
namespace Go.Proofs.Ytlmdkmflbhnlgaa
open Go.RowKit
set_option maxRecDepth 100000 in
set_option maxHeartbeats 16000000 in
theorem do4_any (w0 w : World) (base N : Nat) (ft : List Nat) (b M : Nat) (fr : List Nat) (mb : Nat) (RA : Option Addr) (rc : Nat) (T : BX) (no : Int) (f : Fr) (A : Option Addr) (c : Nat) (h : Both w0 w base N ft b T M fr mb RA rc T) (hg : GoodT T) (hN : N ≤ 100000) (hM : M ≤ 100000) (hlo : w0.heap.size ≤ base) (hbase : base ≤ w.heap.size) (hs : SFIn w0 ⟨f, A, c⟩) (hru : RdRu w0 RA T.rules) (hbk : bankOk T.rules = true) (hwf : ∀ r ∈ T.rules, RuWf r) (hrl : T.rules.length ≤ 9223372036854775807) :
    Calls Try.prog 26 #[.pointer (some ⟨b, 0, none⟩), .pointer (some ⟨mb, 0, none⟩), acV ⟨4, no, ⟨f, A, c⟩⟩] w (DoOf w0 base N b M mb RA rc (comeT T f)) := by
  have HH := Lib.hid h
  have HSM := Lib.hid (h.a.small (by omega))
  have HLT : Hid (∀ ad, A = some ad → bys f.data ≠ [] → ad.block < w0.heap.size) := fun ad e hne => rdlt hs.rd ad e hne
  have HNI : Hid (w.heap.size ∉ ft) := fun h1 => by have := h.a.foot.2.2.1 _ h1; omega
  have HFT : Hid (∀ k ∈ ft, base ≤ k) := h.a.foot.2.1
  have HMB : Hid (base ≤ mb) := (h.m.foot.2.1 mb h.m.foot.2.2).1
  have HCA := Lib.hid (fun W (hB : Both w0 W base N ft b T M fr mb RA rc T) (hw : base ≤ W.heap.size) => Come_any W base N ft b c f.data.length A T f hB.a (by omega) hw (hs.rd.below hB.below) hs.nz rfl hs.wf (fun ad e hne hm => by have h1 := HLT.out ad e hne; have h2 := HFT.out _ hm; omega))
  have HCM := Lib.hid (fun W ft' N' T' (hB : Both w0 W base N' ft' b T' M fr mb RA rc T) (hw : base ≤ W.heap.size) => RBCome_any W base mb rc M c f.data.length RA A fr T f hB.m hg (HSM.out) (by have HM1 := hM; omega) hw (hs.rd.below hB.below) hs.nz rfl hs.wf (fun ad e hne hm => by have h1 := HLT.out ad e hne; have h2 := HMB.out; omega) (hru.below hB.below) hbk hwf hrl)
  obtain ⟨kc, hkc⟩ : ∃ kc, comeK T f = kc := ⟨_, rfl⟩
  obtain ⟨q, hq⟩ : ∃ q, okF f = q := ⟨_, rfl⟩
  rw [hkc, hq] at HCA HCM
  generalize comeT T f = T4 at *
  clear hkc hq
  have hev : errV q = .int .i64 (if q then 0 else 2) := by cases q <;> rfl
  rw [hev] at HCA HCM
  obtain ⟨ev, hev2⟩ : ∃ ev : Int, (if q then 0 else 2) = ev := ⟨_, rfl⟩
  rw [hev2] at HCA HCM
  clear hev hev2
  clear h hs hru
  obtain ⟨fk, fi, fe, fr', f4, f5, f6, f7, f8, f9, data⟩ := f
  dsimp only [acV, frv] at *
  go_enter Try.func26, Try.ntmps26
  go_wp2_with fail
  refine calls_blk1 fun W1 q1 hb1 => ?_
  have HB1 := Lib.hid hb1
  refine (HCA.out W1 (HH.out.step hb1) (Nat.le_trans hbase hb1.size)).mono ?_
  rintro e w2 ⟨rfl, ha⟩
  have q2 := (ha.choose_spec.2.2).heap q1 HNI.out
  have hs2 := (ha.choose_spec.2.2).size
  have hsz : base ≤ w2.heap.size := Nat.le_trans hbase (Nat.le_trans HB1.out.size hs2)
  obtain ⟨ft2, h2⟩ := (HH.out.step hb1).actA hlo ha
  have H2 := Lib.hid h2
  have y2 := cell_of_heap q2 2 (.int .i64 fk) rfl
  have y3 := cell_of_heap q2 3 (.int .u32 fi) rfl
  have y4 := cell_of_heap q2 4 (.bool fe) rfl
  have y5 := cell_of_heap q2 5 (.bool fr') rfl
  have y6 := cell_of_heap q2 6 (.bool f4) rfl
  have y7 := cell_of_heap q2 7 (.bool f5) rfl
  have y8 := cell_of_heap q2 8 (.bool f6) rfl
  have y9 := cell_of_heap q2 9 (.int .u8 f7) rfl
  have y10 := cell_of_heap q2 10 (.int .u8 f8) rfl
  have y11 := cell_of_heap q2 11 (.int .u32 f9) rfl
  have y12 := cell_of_heap q2 12 (.slice A data.length c) rfl
  clear q1 hb1 ha q2 h2 hs2
  go_wp2_with fail
  refine (HCM.out w2 ft2 _ _ H2.out hsz).mono ?_
  rintro e w3 ⟨rfl, ha⟩
  obtain ⟨fr3, h3⟩ := H2.out.actM hlo ha
  have H3 := Lib.hid h3
  clear ha h3 y2 y3 y4 y5 y6 y7 y8 y9 y10 y11 y12
  go_wp2_with fail
  go_ret
  exact ⟨by first | rfl | simp, ft2, fr3, H3.out⟩
set_option maxRecDepth 100000 in
set_option maxHeartbeats 16000000 in
theorem do0_any (w0 w : World) (base N : Nat) (ft : List Nat) (b M : Nat) (fr : List Nat) (mb : Nat) (RA : Option Addr) (rc : Nat) (T : BX) (kind : Int) (k1 : kind ≠ 1) (k2 : kind ≠ 2) (k3 : kind ≠ 3) (k4 : kind ≠ 4) (k5 : kind ≠ 5) (no : Int) (f : Fr) (A : Option Addr) (c : Nat) (h : Both w0 w base N ft b T M fr mb RA rc T) (hg : GoodT T) (hN : N ≤ 100000) (hlo : w0.heap.size ≤ base) (hbase : base ≤ w.heap.size) (hs : SFIn w0 ⟨f, A, c⟩) :
    Calls Try.prog 26 #[.pointer (some ⟨b, 0, none⟩), .pointer (some ⟨mb, 0, none⟩), acV ⟨kind, no, ⟨f, A, c⟩⟩] w (DoOf w0 base N b M mb RA rc (putT T f)) := by
  have HH := Lib.hid h
  have HSM := Lib.hid (h.a.small (by omega))
  have HLT : Hid (∀ ad, A = some ad → bys f.data ≠ [] → ad.block < w0.heap.size) := fun ad e hne => rdlt hs.rd ad e hne
  have HNI : Hid (w.heap.size ∉ ft) := fun h1 => by have := h.a.foot.2.2.1 _ h1; omega
  have HFT : Hid (∀ k ∈ ft, base ≤ k) := h.a.foot.2.1
  have HMB : Hid (base ≤ mb) := (h.m.foot.2.1 mb h.m.foot.2.2).1
  have HCA := Lib.hid (fun W (hB : Both w0 W base N ft b T M fr mb RA rc T) (hw : base ≤ W.heap.size) => Put_any W base N ft b c f.data.length A T f hB.a (by omega) hw (hs.rd.below hB.below) hs.nz rfl hs.wf (fun ad e hne hm => by have h1 := HLT.out ad e hne; have h2 := HFT.out _ hm; omega))
  have HCM := Lib.hid (fun W ft' N' T' (hB : Both w0 W base N' ft' b T' M fr mb RA rc T) (hw : base ≤ W.heap.size) => RBPut_any W base mb rc M c f.data.length RA A fr T f hB.m hg ⟨HSM.out.1, HSM.out.2.1⟩ hw (hs.rd.below hB.below) hs.nz rfl (fun ad e hne hm => by have h1 := HLT.out ad e hne; have h2 := HMB.out; omega) hs.wf.id0)
  obtain ⟨kc, hkc⟩ : ∃ kc, putK T f = kc := ⟨_, rfl⟩
  obtain ⟨ev, hev⟩ : ∃ ev, putE T f = ev := ⟨_, rfl⟩
  rw [hkc, hev] at HCA HCM
  generalize putT T f = T4 at *
  clear hkc hev
  clear h hs
  obtain ⟨fk, fi, fe, fr', f4, f5, f6, f7, f8, f9, data⟩ := f
  dsimp only [acV, frv] at *
  have e1 : (kind == 1) = false := by simp [k1]
  have e2 : (kind == 2) = false := by simp [k2]
  have e3 : (kind == 3) = false := by simp [k3]
  have e4 : (kind == 4) = false := by simp [k4]
  have e5 : (kind == 5) = false := by simp [k5]
  clear k1 k2 k3 k4 k5
  go_enter Try.func26, Try.ntmps26
  go_wp2_with fail
  refine calls_blk1 fun W1 q1 hb1 => ?_
  have HB1 := Lib.hid hb1
  refine (HCA.out W1 (HH.out.step hb1) (Nat.le_trans hbase hb1.size)).mono ?_
  rintro e w2 ⟨rfl, ha⟩
  have q2 := (ha.choose_spec.2.2).heap q1 HNI.out
  have hs2 := (ha.choose_spec.2.2).size
  have hsz : base ≤ w2.heap.size := Nat.le_trans hbase (Nat.le_trans HB1.out.size hs2)
  obtain ⟨ft2, h2⟩ := (HH.out.step hb1).actA hlo ha
  have H2 := Lib.hid h2
  have y2 := cell_of_heap q2 2 (.int .i64 fk) rfl
  have y3 := cell_of_heap q2 3 (.int .u32 fi) rfl
  have y4 := cell_of_heap q2 4 (.bool fe) rfl
  have y5 := cell_of_heap q2 5 (.bool fr') rfl
  have y6 := cell_of_heap q2 6 (.bool f4) rfl
  have y7 := cell_of_heap q2 7 (.bool f5) rfl
  have y8 := cell_of_heap q2 8 (.bool f6) rfl
  have y9 := cell_of_heap q2 9 (.int .u8 f7) rfl
  have y10 := cell_of_heap q2 10 (.int .u8 f8) rfl
  have y11 := cell_of_heap q2 11 (.int .u32 f9) rfl
  have y12 := cell_of_heap q2 12 (.slice A data.length c) rfl
  clear q1 hb1 ha q2 h2 hs2
  go_wp2_with fail
  refine (HCM.out w2 ft2 _ _ H2.out hsz).mono ?_
  rintro e w3 ⟨rfl, ha⟩
  obtain ⟨fr3, h3⟩ := H2.out.actM hlo ha
  have H3 := Lib.hid h3
  clear ha h3 y2 y3 y4 y5 y6 y7 y8 y9 y10 y11 y12
  go_wp2_with fail
  go_ret
  exact ⟨by first | rfl | simp, ft2, fr3, H3.out.monoM (by omega)⟩
end Go.Proofs.Ytlmdkmflbhnlgaa
namespace Go.Proofs.Ytlmdkmflbhnlgaa
open Go.RowKit
set_option maxRecDepth 100000 in
set_option maxHeartbeats 16000000 in
theorem do5_any (w0 w : World) (base N : Nat) (ft : List Nat) (b M : Nat) (fr : List Nat) (mb : Nat) (RA : Option Addr) (rc : Nat) (T : BX) (no : Int) (f : Fr) (A : Option Addr) (c : Nat) (h : Both w0 w base N ft b T M fr mb RA rc T) (hg : GoodT T) (hN : N ≤ 100000) (hlo : w0.heap.size ≤ base) (hbase : base ≤ w.heap.size) :
    Calls Try.prog 26 #[.pointer (some ⟨b, 0, none⟩), .pointer (some ⟨mb, 0, none⟩), acV ⟨5, no, ⟨f, A, c⟩⟩] w (DoOf w0 base N b M mb RA rc (takeT T)) := by
  have HH := Lib.hid h
  have HG := Lib.hid hg
  have HSM := Lib.hid (h.a.small (by omega))
  have HLO := Lib.hid hlo
  have HS05 := Lib.hid (fun f A B c d W ha hb hl => Same05_any f A B c d W ha hb hl)
  have HS14 := Lib.hid (fun no f A B c d W ha hb hl => Same14_any no f A B c d W ha hb hl)
  clear h hg hlo
  obtain ⟨fk, fi, fe, fr', f4, f5, f6, f7, f8, f9, data⟩ := f
  dsimp only [acV, frv, itL] at *
  go_enter Try.func26, Try.ntmps26
  go_wp2_with fail
  refine calls_blk1 fun W1 q1 hb1 => ?_
  have H1 := Lib.hid (HH.out.step hb1)
  have hw1 : base ≤ W1.heap.size := Nat.le_trans hbase hb1.size
  clear q1 hb1
  have hlen : T.l.length ≤ 1000 := by have := HG.out.inv.iroom; have := HG.out.iroom; omega
  refine (Take_any W1 base N ft b T H1.out.a (by omega) hw1).mono ?_
  rintro e w2 ⟨ha, he⟩
  have hs2 := (ha.choose_spec.2.2).size
  obtain ⟨ft2, h2⟩ := H1.out.actA HLO.out ha
  have H2 := Lib.hid h2
  clear ha h2
  rcases he with ⟨hl, rfl⟩ | ⟨f1, r1, A1, c1, hl, rfl, hrow1, hok1, hfi1⟩
  · unfold zfL
    go_wp2_with fail
    refine calls_blk1 fun W3 q3 hb3 => ?_
    refine (RBTake_any W3 base mb rc M RA fr T (H2.out.step hb3).m hlen HSM.out.2.2.2.2.2.2.2.2).mono ?_
    rintro e w4 ⟨ha, he2⟩
    have hne3 : w2.heap.size ∉ [mb] := by have := (H2.out.m.foot.2.1 mb H2.out.m.foot.2.2).2; simp; omega
    have q4 := (ha.choose_spec.2.2).heap q3 hne3
    obtain ⟨fr4, h4⟩ := (H2.out.step hb3).actM HLO.out ha
    have H4 := Lib.hid h4
    have Q4 := Lib.hid q4
    clear ha h4 q3 hb3 q4
    rcases he2 with ⟨_, rfl⟩ | ⟨s, r, hl2, _⟩
    rotate_left
    · rw [hl] at hl2; cases hl2
    unfold zfL
    have f0 := fun o => (cells11 (heap_push (o' := o) Q4.out)).1
    have f1 := fun o => (cells11 (heap_push (o' := o) Q4.out)).2.1
    have f2 := fun o => (cells11 (heap_push (o' := o) Q4.out)).2.2.1
    have f3 := fun o => (cells11 (heap_push (o' := o) Q4.out)).2.2.2.1
    have f4 := fun o => (cells11 (heap_push (o' := o) Q4.out)).2.2.2.2.1
    have f5 := fun o => (cells11 (heap_push (o' := o) Q4.out)).2.2.2.2.2.1
    have f6 := fun o => (cells11 (heap_push (o' := o) Q4.out)).2.2.2.2.2.2.1
    have f7 := fun o => (cells11 (heap_push (o' := o) Q4.out)).2.2.2.2.2.2.2.1
    have f8 := fun o => (cells11 (heap_push (o' := o) Q4.out)).2.2.2.2.2.2.2.2.1
    have f9 := fun o => (cells11 (heap_push (o' := o) Q4.out)).2.2.2.2.2.2.2.2.2.1
    have f10 := fun o => (cells11 (heap_push (o' := o) Q4.out)).2.2.2.2.2.2.2.2.2.2
    have hz4 : w2.heap.size < w4.heap.size := heap_lt Q4.out
    clear hl hne3
    go_wp2_with fail
    refine calls_blk1 fun W5 q5 hb5 => ?_
    refine (HS05.out ⟨0, 0, false, false, false, false, false, 0, 0, 0, []⟩ none none 0 0 W5 (Rd.nil _ _) (Rd.nil _ _) (by simp)).mono ?_
    rintro e w6 ⟨rfl, hb6⟩
    have H6 := Lib.hid ((H4.out.step hb5).step hb6)
    clear q5 hb5 hb6 f0 f1 f2 f3 f4 f5 f6 f7 f8 f9 f10
    go_wp2_with fail
    go_ret
    exact ⟨by first | rfl | simp, ft2, fr4, H6.out.monoM (by omega)⟩
  · have HL := Lib.hid hl
    have HROW1 := Lib.hid hrow1
    have HFI := Lib.hid hfi1
    clear hl hrow1 hok1 hfi1
    obtain ⟨gk, gi, ge, gr, g4, g5, g6, g7, g8, g9, gdata⟩ := f1
    dsimp only at *
    go_wp2_with fail
    refine calls_blk1 fun W3 q3 hb3 => ?_
    refine (RBTake_any W3 base mb rc M RA fr T (H2.out.step hb3).m hlen HSM.out.2.2.2.2.2.2.2.2).mono ?_
    rintro e w4 ⟨ha, he2⟩
    have hne3 : w2.heap.size ∉ [mb] := by have := (H2.out.m.foot.2.1 mb H2.out.m.foot.2.2).2; simp; omega
    have q4 := (ha.choose_spec.2.2).heap q3 hne3
    have HROW4 := Lib.hid ((HROW1.out.below hb3).turn_ty (ha.choose_spec.2.2) ((H2.out.step hb3).m.foot.1.bytes))
    obtain ⟨fr4, h4⟩ := (H2.out.step hb3).actM HLO.out ha
    have H4 := Lib.hid h4
    have Q4 := Lib.hid q4
    clear ha h4 q3 hb3 q4
    rcases he2 with ⟨hl2, _⟩ | ⟨s, r, hl2, rfl, hrow2⟩
    · rw [HL.out] at hl2; cases hl2
    rw [HL.out] at hl2
    injection hl2 with hl2 _
    obtain ⟨sf, sA, sc⟩ := s
    dsimp only at hl2
    subst hl2
    have HROW2 := Lib.hid hrow2
    clear hrow2
    simp only [frL]
    have f0 := fun o => (cells11 (heap_push (o' := o) Q4.out)).1
    have f1 := fun o => (cells11 (heap_push (o' := o) Q4.out)).2.1
    have f2 := fun o => (cells11 (heap_push (o' := o) Q4.out)).2.2.1
    have f3 := fun o => (cells11 (heap_push (o' := o) Q4.out)).2.2.2.1
    have f4 := fun o => (cells11 (heap_push (o' := o) Q4.out)).2.2.2.2.1
    have f5 := fun o => (cells11 (heap_push (o' := o) Q4.out)).2.2.2.2.2.1
    have f6 := fun o => (cells11 (heap_push (o' := o) Q4.out)).2.2.2.2.2.2.1
    have f7 := fun o => (cells11 (heap_push (o' := o) Q4.out)).2.2.2.2.2.2.2.1
    have f8 := fun o => (cells11 (heap_push (o' := o) Q4.out)).2.2.2.2.2.2.2.2.1
    have f9 := fun o => (cells11 (heap_push (o' := o) Q4.out)).2.2.2.2.2.2.2.2.2.1
    have f10 := fun o => (cells11 (heap_push (o' := o) Q4.out)).2.2.2.2.2.2.2.2.2.2
    have hz4 : w2.heap.size < w4.heap.size := heap_lt Q4.out
    clear hne3
    go_wp2_with fail
    refine calls_blk1 fun W5 q5 hb5 => ?_
    refine (HS05.out ⟨gk, gi, ge, gr, g4, g5, g6, g7, g8, g9, gdata⟩ A1 sA c1 sc W5 (HROW4.out.below hb5).rd (HROW2.out.below hb5).rd HFI.out.len).mono ?_
    rintro e w6 ⟨rfl, hb6⟩
    have H6 := Lib.hid ((H4.out.step hb5).step hb6)
    clear q5 hb5 hb6 f0 f1 f2 f3 f4 f5 f6 f7 f8 f9 f10
    go_wp2_with fail
    go_ret
    exact ⟨by first | rfl | simp, ft2, fr4, H6.out.monoM (by omega)⟩
set_option maxRecDepth 100000 in
set_option maxHeartbeats 16000000 in
theorem do2_any (w0 w : World) (base N : Nat) (ft : List Nat) (b M : Nat) (fr : List Nat) (mb : Nat) (RA : Option Addr) (rc : Nat) (T : BX) (no : Int) (f : Fr) (A : Option Addr) (c : Nat) (h : Both w0 w base N ft b T M fr mb RA rc T) (hg : GoodT T) (hN : N ≤ 100000) (hlo : w0.heap.size ≤ base) (hbase : base ≤ w.heap.size) :
    Calls Try.prog 26 #[.pointer (some ⟨b, 0, none⟩), .pointer (some ⟨mb, 0, none⟩), acV ⟨2, no, ⟨f, A, c⟩⟩] w (DoOf w0 base N b M mb RA rc (T)) := by
  have HH := Lib.hid h
  have HG := Lib.hid hg
  have HSM := Lib.hid (h.a.small (by omega))
  have HLO := Lib.hid hlo
  have HS05 := Lib.hid (fun f A B c d W ha hb hl => Same05_any f A B c d W ha hb hl)
  have HS14 := Lib.hid (fun no f A B c d W ha hb hl => Same14_any no f A B c d W ha hb hl)
  clear h hg hlo
  obtain ⟨fk, fi, fe, fr', f4, f5, f6, f7, f8, f9, data⟩ := f
  dsimp only [acV, frv, itL] at *
  go_enter Try.func26, Try.ntmps26
  go_wp2_with fail
  refine calls_blk1 fun W1 q1 hb1 => ?_
  have H1 := Lib.hid (HH.out.step hb1)
  have hw1 : base ≤ W1.heap.size := Nat.le_trans hbase hb1.size
  clear q1 hb1
  refine (Next_any W1 base N ft b T H1.out.a).mono ?_
  rintro e w2 ⟨he, hb2⟩
  have H2 := Lib.hid (H1.out.step hb2)
  clear hb2
  rcases he with ⟨hq, rfl⟩ | ⟨y, r1, A1, c1, hq, rfl, hrow1, hok1, hfi1⟩
  · go_wp2_with fail
    refine calls_blk1 fun W3 q3 hb3 => ?_
    have H3 := Lib.hid (H2.out.step hb3)
    obtain ⟨qA, qc, L, fo, fA, fc, F, h1, hfo, hfr⟩ := H3.out.m
    obtain rfl : L = [] := by have := h1.ql; rw [hq] at this; exact List.map_eq_nil_iff.1 this
    refine (RHead_nil W3 base mb 5 T.oroom T.last qc qA _ _ h1.q).mono ?_
    rintro e w4 ⟨rfl, hb4⟩
    have H4 := Lib.hid (H3.out.step hb4)
    have Q4 := Lib.hid (heap_below hb4 q3)
    clear q3 hb3 hb4 h1 hfo hfr hq
    have f0 := fun o => (cells12n (heap_push (o' := o) Q4.out)).1
    have f1 := fun o => (cells12n (heap_push (o' := o) Q4.out)).2.1
    have f2 := fun o => (cells12n (heap_push (o' := o) Q4.out)).2.2.1
    have f3 := fun o => (cells12n (heap_push (o' := o) Q4.out)).2.2.2.1
    have f4 := fun o => (cells12n (heap_push (o' := o) Q4.out)).2.2.2.2.1
    have f5 := fun o => (cells12n (heap_push (o' := o) Q4.out)).2.2.2.2.2.1
    have f6 := fun o => (cells12n (heap_push (o' := o) Q4.out)).2.2.2.2.2.2.1
    have f7 := fun o => (cells12n (heap_push (o' := o) Q4.out)).2.2.2.2.2.2.2.1
    have f8 := fun o => (cells12n (heap_push (o' := o) Q4.out)).2.2.2.2.2.2.2.2.1
    have f9 := fun o => (cells12n (heap_push (o' := o) Q4.out)).2.2.2.2.2.2.2.2.2.1
    have f10 := fun o => (cells12n (heap_push (o' := o) Q4.out)).2.2.2.2.2.2.2.2.2.2.1
    have f11 := fun o => (cells12n (heap_push (o' := o) Q4.out)).2.2.2.2.2.2.2.2.2.2.2
    have hz4 : w2.heap.size < w4.heap.size := heap_lt Q4.out
    go_wp2_with fail
    refine calls_blk1 fun W5 q5 hb5 => ?_
    refine (HS14.out 0 ⟨0, 0, false, false, false, false, false, 0, 0, 0, []⟩ none none 0 0 W5 (Rd.nil _ _) (Rd.nil _ _) (by simp)).mono ?_
    rintro e w6 ⟨rfl, hb6⟩
    have H6 := Lib.hid ((H4.out.step hb5).step hb6)
    clear q5 hb5 hb6 f0 f1 f2 f3 f4 f5 f6 f7 f8 f9 f10 f11
    go_wp2_with fail
    go_ret
    exact ⟨by first | rfl | simp, ft, fr, ⟨H6.out.a.mono (by omega), H6.out.m.mono (by omega), H6.out.dis, H6.out.below⟩⟩
  · have HROW1 := Lib.hid hrow1
    have HFI := Lib.hid hfi1
    clear hrow1 hok1 hfi1
    obtain ⟨yn, ⟨gk, gi, ge, gr, g4, g5, g6, g7, g8, g9, gdata⟩⟩ := y
    dsimp only at *
    simp only [itL]
    go_wp2_with fail
    refine calls_blk1 fun W3 q3 hb3 => ?_
    have H3 := Lib.hid (H2.out.step hb3)
    have HROW3 := Lib.hid (HROW1.out.below hb3)
    obtain ⟨qA, qc, L, fo, fA, fc, F, h1, hfo, hfr⟩ := H3.out.m
    have hql := h1.ql
    rw [hq] at hql
    cases L with
    | nil => cases hql
    | cons x L =>
    rw [List.map_cons] at hql
    injection hql with hx _
    obtain ⟨xn, xf, xA, xc⟩ := x
    unfold absI at hx
    injection hx with hx1 hx2
    dsimp only at hx1 hx2
    subst hx1 hx2
    have HROWX := Lib.hid (h1.q.data _ List.mem_cons_self)
    refine (RHead_cons W3 base mb 5 T.oroom T.last qc _ qA _ L _ _ h1.q rfl).mono ?_
    rintro e w4 ⟨rfl, hb4⟩
    have H4 := Lib.hid (H3.out.step hb4)
    have Q4 := Lib.hid (heap_below hb4 q3)
    have HROW4 := Lib.hid (HROW3.out.below hb4)
    have HROWX4 := Lib.hid (HROWX.out.below hb4)
    clear q3 hb3 hb4 h1 hfo hfr hq
    dsimp only at HROWX4 ⊢
    have f0 := fun o => (cells12n (heap_push (o' := o) Q4.out)).1
    have f1 := fun o => (cells12n (heap_push (o' := o) Q4.out)).2.1
    have f2 := fun o => (cells12n (heap_push (o' := o) Q4.out)).2.2.1
    have f3 := fun o => (cells12n (heap_push (o' := o) Q4.out)).2.2.2.1
    have f4 := fun o => (cells12n (heap_push (o' := o) Q4.out)).2.2.2.2.1
    have f5 := fun o => (cells12n (heap_push (o' := o) Q4.out)).2.2.2.2.2.1
    have f6 := fun o => (cells12n (heap_push (o' := o) Q4.out)).2.2.2.2.2.2.1
    have f7 := fun o => (cells12n (heap_push (o' := o) Q4.out)).2.2.2.2.2.2.2.1
    have f8 := fun o => (cells12n (heap_push (o' := o) Q4.out)).2.2.2.2.2.2.2.2.1
    have f9 := fun o => (cells12n (heap_push (o' := o) Q4.out)).2.2.2.2.2.2.2.2.2.1
    have f10 := fun o => (cells12n (heap_push (o' := o) Q4.out)).2.2.2.2.2.2.2.2.2.2.1
    have f11 := fun o => (cells12n (heap_push (o' := o) Q4.out)).2.2.2.2.2.2.2.2.2.2.2
    have hz4 : w2.heap.size < w4.heap.size := heap_lt Q4.out
    go_wp2_with fail
    refine calls_blk1 fun W5 q5 hb5 => ?_
    refine (HS14.out xn ⟨gk, gi, ge, gr, g4, g5, g6, g7, g8, g9, gdata⟩ A1 xA c1 xc W5 (HROW4.out.below hb5).rd (HROWX4.out.below hb5).rd HFI.out.len).mono ?_
    rintro e w6 ⟨rfl, hb6⟩
    have H6 := Lib.hid ((H4.out.step hb5).step hb6)
    clear q5 hb5 hb6 f0 f1 f2 f3 f4 f5 f6 f7 f8 f9 f10 f11
    go_wp2_with fail
    go_ret
    exact ⟨by first | rfl | simp, ft, fr, ⟨H6.out.a.mono (by omega), H6.out.m.mono (by omega), H6.out.dis, H6.out.below⟩⟩
end Go.Proofs.Ytlmdkmflbhnlgaa
