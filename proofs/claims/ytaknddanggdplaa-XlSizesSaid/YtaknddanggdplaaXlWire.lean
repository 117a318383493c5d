/- xl.Wire: an XL frame on the wire. No condition. -/
import Derived.Test.YtaknddanggdplaaXlBody2
import Derived.Test.YtaknddanggdplaaFixedPut
import Derived.Test.YtaknddanggdplaaConcatP
import Derived.Test.YtaknddanggdplaaRepeat
import Derived.Test.YtaknddanggdplaaMix
namespace Go.Proofs.Ytaknddanggdplaa
open Go.RowKit
theorem xlStart_any (w : World) : Calls Try.prog 38 #[] w fun e w' => (∃ A' c', e = .returned (.slice A' 4 c') ∧ Row w' w.heap.size 5 A' c' (bys [1, 0, 0, 1])) ∧ Below w.heap.size w w' := by
  have hr := lit_row (w := w) (l := [1, 0, 0, 1]) rfl (by decide)
  have HR := Lib.hid hr
  clear hr
  go_enter Try.func38, Try.ntmps38
  go_wp2
  go_ret
  exact ⟨⟨_, 4, rfl, HR.out⟩, below_alloc (Below.refl _ _) _⟩
theorem xlStop_any (w : World) : Calls Try.prog 42 #[] w fun e w' => (∃ A' c', e = .returned (.slice A' 4 c') ∧ Row w' w.heap.size 5 A' c' (bys [0, 1, 1, 0])) ∧ Below w.heap.size w w' := by
  have hr := lit_row (w := w) (l := [0, 1, 1, 0]) rfl (by decide)
  have HR := Lib.hid hr
  clear hr
  go_enter Try.func42, Try.ntmps42
  go_wp2
  go_ret
  exact ⟨⟨_, 4, rfl, HR.out⟩, below_alloc (Below.refl _ _) _⟩
theorem xlWay_any (w : World) : Calls Try.prog 40 #[] w fun e w' => e = .returned (wayV 8 false) ∧ Below w.heap.size w w' := by
  go_enter Try.func40, Try.ntmps40
  go_wp2
  exact bodyPost_ret (v := wayV 8 false) (by simp [results, Try.results40, go_sem]) rfl ⟨rfl, below_alloc (Below.refl _ _) _⟩
/-- An XL frame ahead of its delimiter's recessive bits. -/
def rawX (f : Fr) : List Nat := stuffN (headX f) ++ [1, 0, 0, 1] ++ fixN 8 false 1 (bodyX f) ++ [0, 1, 1, 0]
def wireX (f : Fr) : List Nat := rawX f ++ List.replicate 10 1
set_option maxRecDepth 100000 in
set_option maxHeartbeats 2000000 in
theorem XlWire_no (f : Fr) (A : Option Addr) (c : Nat) (w : World) (hl : f.data.length ≤ 9223372036854775807) (hno : ¬ (f.kind = 3 ∧ okF f = true)) :
    Calls Try.prog 17 #[frv f (.slice A f.data.length c)] w fun e w' => e = .returned (.tuple #[.agg #[.slice none 0 0, .int .i64 0, .int .i64 0], .int .i64 2]) ∧ Below w.heap.size w w' := by
  have HC := Lib.hid (fun W => XlBody_no f A c W hl hno)
  obtain ⟨kind, id, ext, rtr, brs, esi, sec, sdt, vcid, af, data⟩ := f
  dsimp only [frv] at *
  generalize data.length = n at *
  clear hno
  go_enter Try.func17, Try.ntmps17
  go_wp2_with fail
  refine calls_blk2 (fun W0 q1 q2 hb => ?_)
  have HB := Lib.hid hb
  have HQ2 := Lib.hid q2
  have hsz := heap_lt q2
  clear hb q1 q2
  refine (HC.out _).mono ?_
  rintro e w1 ⟨rfl, hb1⟩
  have hq := heap_below hb1 HQ2.out
  have c0 := cell_of_heap hq 0 _ rfl
  have c1 := cell_of_heap hq 1 _ rfl
  have c2 := cell_of_heap hq 2 _ rfl
  have z0 : w1.frozen? ⟨w.heap.size + 1, 0, none⟩ = false := by simp [World.frozen?, hq]
  have z1 : w1.frozen? ⟨w.heap.size + 1, 1, none⟩ = false := by simp [World.frozen?, hq]
  have z2 : w1.frozen? ⟨w.heap.size + 1, 2, none⟩ = false := by simp [World.frozen?, hq]
  have HB1 := Lib.hid hb1
  have HQ3 := Lib.hid hq
  clear hb1 hq
  go_wp2_with fail
  refine bodyPost_ret (v := .tuple #[.agg #[.slice none 0 0, .int .i64 0, .int .i64 0], .int .i64 2]) (by simp [results, Try.results17, go_sem, c0, c1, c2]) rfl ⟨rfl, ?_⟩
  have h := below_trans HB.out HB1.out
  exact ((h.setCell (p := ⟨w.heap.size + 1, 0, none⟩) (by show w.heap.size ≤ w.heap.size + 1; omega) _).setCell (p := ⟨w.heap.size + 1, 1, none⟩) (by show w.heap.size ≤ w.heap.size + 1; omega) _).setCell (p := ⟨w.heap.size + 1, 2, none⟩) (by show w.heap.size ≤ w.heap.size + 1; omega) _
set_option maxRecDepth 100000 in
set_option maxHeartbeats 4000000 in
theorem XlWire_ok (f : Fr) (A : Option Addr) (c NR NH : Nat) (w : World) (hk : f.kind = 3) (hok : okF f = true) (h0 : 0 ≤ f.id) (hs : 0 ≤ f.sdt ∧ f.sdt < 256) (hv : 0 ≤ f.vcid ∧ f.vcid < 256) (ha : 0 ≤ f.af ∧ f.af < 4294967296) (hr : Rd w A (bys f.data)) (hby : isBytes f.data) (hNR : (rawX f).length = NR) (hNH : (stuffN (headX f)).length = NH) :
    Calls Try.prog 17 #[frv f (.slice A f.data.length c)] w fun e w' => (∃ A' c', e = .returned (.tuple #[.agg #[.slice A' (NR + 10 : Nat) c', .int .i64 (NH : Nat), .int .i64 (NR + 1 : Nat)], .int .i64 0]) ∧ Row w' w.heap.size 5 A' c' (bys (wireX f))) ∧ Below w.heap.size w w' := by
  obtain ⟨hid, hn1, hn2, -⟩ := okX f hk hok
  have HBody := Lib.hid (fun W (hW : Rd W A (bys f.data)) => XlBody_ok f A c W hk hok h0 hs hv ha hW hby)
  have HHead := Lib.hid (fun W => headX_any f A f.data.length c W h0 hid)
  have hlB := bodyX_length f
  have HbB := Lib.hid (bodyX_bits f)
  have HhB := Lib.hid (headX_bits f)
  have hlF := fixN_length 8 false 1 (bodyX f) (by decide)
  obtain ⟨NF, hNF⟩ : ∃ NF, (fixN 8 false 1 (bodyX f)).length = NF := ⟨_, rfl⟩
  have hNF2 : NF ≤ 30000 := by
    rw [hNF, hlB] at hlF
    rw [hlF]
    split <;> simp <;> omega
  have hNH2 : NH ≤ 22 := by have := stuffN_le (headX f); rw [hNH, headX_length] at this; omega
  have hNRe : NH + 4 + NF + 4 = NR := by rw [← hNR]; unfold rawX; simp [hNH, hNF]; omega
  have HW : Hid (wireX f = rawX f ++ List.replicate 10 1) := rfl
  have HRAW : Hid (rawX f = stuffN (headX f) ++ [1, 0, 0, 1] ++ fixN 8 false 1 (bodyX f) ++ [0, 1, 1, 0]) := rfl
  obtain ⟨bo, hbo⟩ : ∃ bo, bodyX f = bo := ⟨_, rfl⟩
  obtain ⟨hL, hhL⟩ : ∃ hL, headX f = hL := ⟨_, rfl⟩
  have hhl : hL.length = 17 := by rw [← hhL]; exact headX_length f
  obtain ⟨wi, hwi⟩ : ∃ wi, wireX f = wi := ⟨_, rfl⟩
  obtain ⟨ra, hra⟩ : ∃ ra, rawX f = ra := ⟨_, rfl⟩
  rw [hbo] at HBody HbB hlB hNF HRAW
  rw [hhL] at HHead HhB hNH HRAW
  rw [hwi, hra] at HW
  rw [hwi]
  rw [hra] at HRAW hNR
  obtain ⟨kind, id, ext, rtr, brs, esi, sec, sdt, vcid, af, data⟩ := f
  dsimp only [frv] at *
  obtain ⟨n, hn⟩ : ∃ n, data.length = n := ⟨_, rfl⟩
  rw [hn] at HBody HHead hlB hn1 hn2 ⊢
  have HLB := Lib.hid hlB
  have HNF := Lib.hid hNF
  have HNR := Lib.hid hNR
  have HNH := Lib.hid hNH
  have HHL := Lib.hid hhl
  have HR := Lib.hid hr
  have HNRE := Lib.hid hNRe
  clear hlB hNF hNR hNH hhl hr hNRe hlF hbo hhL hwi hra hn hok h0 hby hk hs hv ha hid
  go_enter Try.func17, Try.ntmps17
  go_wp2_with fail
  refine calls_blk2 (fun W0 q1 q2 hb => ?_)
  have HB := Lib.hid hb
  have HQ2 := Lib.hid q2
  have hsz := heap_lt q2
  obtain ⟨a0, a1, a2, a3, a4, a5, a6, a7, a8, a9, a10⟩ := ext11 q1
  clear hb q1 q2
  refine (extc_same (HBody.out _ (HR.out.below HB.out))).mono ?_
  rintro x _ ⟨e1, rfl, A1, c1, rfl, hrow1⟩
  have HROW1 := Lib.hid hrow1
  clear hrow1
  go_wp2_with fail
  refine (extcB (HHead.out _)).mono ?_
  rintro x _ ⟨e2, rfl, HB2, A2, c2, rfl, hrow2⟩
  have HROW2 := Lib.hid hrow2
  clear hrow2
  go_wp2_with fail
  refine (extcB (StuffPut_any _ A2 c2 17 NH hL HROW2.out.rd HHL.out (by omega) HhB.out HNH.out)).mono ?_
  rintro x _ ⟨e3, rfl, HB3, A3, c3, rfl, hrow3⟩
  have HROW3 := Lib.hid (hrow3.mono (ext_ge e2))
  clear hrow3
  go_wp2_with fail
  refine (extcB (xlStart_any _)).mono ?_
  rintro x _ ⟨e4, rfl, HB4, A4, c4, rfl, hrow4⟩
  obtain ⟨g4, rfl, hg4, hc4a, hc4b⟩ := row_some (n := 4) hrow4 rfl (by decide)
  have y3 : ∀ e : Ext e4.W, e.W.cell? ⟨g4, 3, none⟩ = some (.int .u8 1) := fun e => row_at hrow4 e.below 3 1 rfl
  have HROW4 := Lib.hid (hrow4.mono (ext_ge e3))
  have HROW14 := Lib.hid (((HROW1.out.below HB2.out).below HB3.out).below HB4.out)
  have HROW34 := Lib.hid (HROW3.out.below HB4.out)
  clear hrow4 a0 a1 a2 a3 a4 a5 a6 a7 a8 a9 a10
  go_wp2_with fail
  refine wp_region_mix (fun w' => ∃ e : Ext e4.W, w' = e.W) [(true, 0), (true, 1), (true, 2), (true, 3), (true, 4), (true, 5), (true, 6), (false, 7), (false, 8), (true, 9), (true, 10), (true, 11), (true, 12), (true, 13)] [] (by kernel_rfl) (by kernel_rfl) (by intro _ _ d _ _ h; cases d <;> exact h) ⟨⟨e4.W.drew, (Below.refl _ _).drew⟩, rfl⟩ ?_
  simp only [pickM, pickL, List.drop_succ_cons, List.drop_zero]
  repeat (refine mix_pure (by rfl) (by rfl) ?_; intro K hK; go_big_quiet_op; go_big_quiet_on)
  refine mix_eff (by rfl) ?_
  intro K hK
  go_simp
  refine (xlWay_any _).mono ?_
  rintro x w5 ⟨rfl, hb5⟩
  have hb45 : Below e4.W.heap.size e4.W w5 := below_trans (Below.refl _ _).drew hb5
  have HB45 := Lib.hid hb45
  refine hK _ _ ⟨⟨w5, hb45⟩, rfl⟩ ?_
  clear hK K hb5 hb45
  refine mix_eff (by rfl) ?_
  intro K hK
  go_simp
  refine (FixedPut_any w5 A1 1 8 c1 (109 + 8 * n) NF false bo (by decide) (by decide) (by decide) (HROW14.out.rd.below HB45.out) HLB.out (by omega) (by omega) HbB.out HNF.out).mono ?_
  rintro x w6 ⟨⟨A6, c6, rfl, hrow6⟩, hb6⟩
  have hb46 : Below e4.W.heap.size e4.W w6 := below_trans HB45.out hb6
  refine hK _ _ ⟨⟨w6, hb46⟩, rfl⟩ ?_
  clear hK K
  repeat (refine mix_pure (by rfl) (by rfl) ?_; intro K hK; go_big_quiet_op; go_big_quiet_on)
  refine mix_nil (wpList_nil ?_)
  obtain ⟨e6, he6⟩ : ∃ e : Ext W0, e.W = w6 := ⟨⟨w6, below_trans e4.below hb46⟩, rfl⟩
  have HROW6 := Lib.hid hrow6
  have HROW36 := Lib.hid (HROW34.out.below hb46)
  have HROW46 := Lib.hid (HROW4.out.below hb46)
  have hg46 : w5.heap.size ≤ w5.heap.size := Nat.le_refl _
  have HB5 := Lib.hid (HB45.out.size)
  subst he6
  clear hrow6 hb6 hb46 y3
  go_wp2_with fail
  refine (extcB (xlStop_any _)).mono ?_
  rintro x _ ⟨e7, rfl, HB7, A7, c7, rfl, hrow7⟩
  have HROW7 := Lib.hid hrow7
  have HROW37 := Lib.hid (HROW36.out.below HB7.out)
  have HROW47 := Lib.hid (HROW46.out.below HB7.out)
  have HROW67 := Lib.hid (HROW6.out.below HB7.out)
  clear hrow7
  go_wp2_with fail
  refine (repeat_any _ _ (heap_new_at rfl)).mono ?_
  rintro x w8 ⟨⟨A8, c8, rfl, hrow8⟩, hb8⟩
  have hb78 : Below e7.W.heap.size e7.W w8 := below_trans (below_alloc (Below.refl _ _) _) hb8
  obtain ⟨e8, he8⟩ : ∃ e : Ext W0, e.W = w8 := ⟨⟨w8, below_trans e7.below hb78⟩, rfl⟩
  subst he8
  have HROW8 := Lib.hid hrow8
  have HROW38 := Lib.hid (HROW37.out.below hb78)
  have HROW48 := Lib.hid (HROW47.out.below hb78)
  have HROW68 := Lib.hid (HROW67.out.below hb78)
  have HROW78 := Lib.hid (HROW7.out.below hb78)
  clear hrow8 hb8 hb78
  go_wp2_with fail
  refine calls_name (T := fun W1 => W1.heap[e8.W.heap.size]? = some (.cells #[.slice A3 NH c3, .slice (some ⟨g4, 0, none⟩) 4 c4, .slice A6 NF c6, .slice A7 4 c7, .slice A8 10 c8] 23) ∧ Below e8.W.heap.size e8.W W1) ⟨heap_new_at rfl, below_alloc (Below.refl _ _) _⟩ ?_
  rintro W1 ⟨q9, hb9⟩
  have hcat := concatP (N := NR + 10) (n := 5) [(A3, c3, stuffN hL), (some ⟨g4, 0, none⟩, c4, [1, 0, 0, 1]), (A6, c6, fixN 8 false 1 bo), (A7, c7, [0, 1, 1, 0]), (A8, c8, List.replicate 10 1)] _ q9 (by simp [partV, HNH.out, HNF.out]) rfl (by
    intro p hp
    simp only [List.mem_cons, List.not_mem_nil, or_false] at hp
    rcases hp with rfl | rfl | rfl | rfl | rfl
    · exact (HROW38.out.below hb9).part
    · exact (HROW48.out.below hb9).part
    · exact (HROW68.out.below hb9).part
    · exact (HROW78.out.below hb9).part
    · exact (HROW8.out.below hb9).part) (by simp [partsL, HNH.out, HNF.out]; have := HNRE.out; omega) (by have := HNRE.out; omega) (by decide)
  have hpl : partsL [(A3, c3, stuffN hL), (some ⟨g4, 0, none⟩, c4, [1, 0, 0, 1]), (A6, c6, fixN 8 false 1 bo), (A7, c7, [0, 1, 1, 0]), (A8, c8, List.replicate 10 1)] = wi := by rw [HW.out, HRAW.out]; simp [partsL]
  rw [hpl] at hcat
  refine hcat.mono ?_
  rintro x w10 ⟨⟨A10, c10, rfl, hrow10⟩, hb10⟩
  have hbw : Below W0.heap.size W0 w10 := below_trans (below_trans e8.below hb9) hb10
  have hq := heap_below hbw HQ2.out
  have r0 := cell_of_heap hq 0 _ rfl
  have r1 := cell_of_heap hq 1 _ rfl
  have r2 := cell_of_heap hq 2 _ rfl
  have z0 : w10.frozen? ⟨w.heap.size + 1, 0, none⟩ = false := by simp [World.frozen?, hq]
  have z1 : w10.frozen? ⟨w.heap.size + 1, 1, none⟩ = false := by simp [World.frozen?, hq]
  have z2 : w10.frozen? ⟨w.heap.size + 1, 2, none⟩ = false := by simp [World.frozen?, hq]
  have hge : W0.heap.size ≤ W1.heap.size := (below_trans e8.below hb9).size
  have HROW10 := Lib.hid (hrow10.mono hge)
  have HBW := Lib.hid hbw
  have HQ10 := Lib.hid hq
  have hNRb : NR ≤ 40000 := by have := HNRE.out; omega
  clear hcat hpl q9 hb9 hrow10 hb10 hbw hq
  go_wp2_with fail
  refine bodyPost_ret (v := .tuple #[.agg #[.slice A10 (NR + 10 : Nat) c10, .int .i64 (NH : Nat), .int .i64 (NR + 1 : Nat)], .int .i64 0]) (by simp [results, Try.results17, go_sem, r0, r1, r2]) rfl ⟨⟨A10, c10, rfl, ?_⟩, ?_⟩
  · have h7 : ∀ ad, A10 = some ad → ad.block ≠ w.heap.size + 1 := fun ad e => by have := HROW10.out.ge ad e; omega
    exact (((HROW10.out.setCell h7 0 _).setCell h7 1 _).setCell h7 2 _).mono (by omega)
  · have h := below_trans HB.out HBW.out
    exact ((h.setCell (p := ⟨w.heap.size + 1, 0, none⟩) (by show w.heap.size ≤ w.heap.size + 1; omega) _).setCell (p := ⟨w.heap.size + 1, 1, none⟩) (by show w.heap.size ≤ w.heap.size + 1; omega) _).setCell (p := ⟨w.heap.size + 1, 2, none⟩) (by show w.heap.size ≤ w.heap.size + 1; omega) _
end Go.Proofs.Ytaknddanggdplaa
