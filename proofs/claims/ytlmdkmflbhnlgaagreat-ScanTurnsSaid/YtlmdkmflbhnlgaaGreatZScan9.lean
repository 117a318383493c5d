/- Words, walks and plain facts that several laws need, part 9: each with its own head. No condition. -/
import Derived.Test.YtlmdkmflbhnlgaaGreatZScan8
import Derived.LoopN
-- XlWire: xl.Wire: an XL frame on the wire. No condition.
namespace Go.Proofs.YtlmdkmflbhnlgaaGreat
open Go.RowKit
theorem xlStart_any (w : World) : Calls Tryz.prog 59 #[] w fun e w' => (∃ A' c', e = .returned (.slice A' 4 c') ∧ Row w' w.heap.size 5 A' c' (bys [1, 0, 0, 1])) ∧ Below w.heap.size w w' := by
  have hr := lit_row (w := w) (l := [1, 0, 0, 1]) rfl (by decide)
  have HR := Lib.hid hr
  clear hr
  go_enter Tryz.func59, Tryz.ntmps59
  go_wp2
  go_ret
  exact ⟨⟨_, 4, rfl, HR.out⟩, below_alloc (Below.refl _ _) _⟩
theorem xlStop_any (w : World) : Calls Tryz.prog 62 #[] w fun e w' => (∃ A' c', e = .returned (.slice A' 4 c') ∧ Row w' w.heap.size 5 A' c' (bys [0, 1, 1, 0])) ∧ Below w.heap.size w w' := by
  have hr := lit_row (w := w) (l := [0, 1, 1, 0]) rfl (by decide)
  have HR := Lib.hid hr
  clear hr
  go_enter Tryz.func62, Tryz.ntmps62
  go_wp2
  go_ret
  exact ⟨⟨_, 4, rfl, HR.out⟩, below_alloc (Below.refl _ _) _⟩
theorem xlWay_any (w : World) : Calls Tryz.prog 61 #[] w fun e w' => e = .returned (wayV 8 false) ∧ Below w.heap.size w w' := by
  go_enter Tryz.func61, Tryz.ntmps61
  go_wp2
  exact bodyPost_ret (v := wayV 8 false) (by simp [results, Tryz.results61, go_sem]) rfl ⟨rfl, below_alloc (Below.refl _ _) _⟩
/-- An XL frame ahead of its delimiter's recessive bits. -/
def rawX (f : Fr) : List Nat := stuffN (headX f) ++ [1, 0, 0, 1] ++ fixN 8 false 1 (bodyX f) ++ [0, 1, 1, 0]
def wireX (f : Fr) : List Nat := rawX f ++ List.replicate 10 1
set_option maxRecDepth 100000 in
set_option maxHeartbeats 2000000 in
theorem XlWire_no (f : Fr) (A : Option Addr) (c : Nat) (w : World) (hl : f.data.length ≤ 9223372036854775807) (hno : ¬ (f.kind = 3 ∧ okF f = true)) :
    Calls Tryz.prog 32 #[frv f (.slice A f.data.length c)] w fun e w' => e = .returned (.tuple #[.agg #[.slice none 0 0, .int .i64 0, .int .i64 0], .int .i64 2]) ∧ Below w.heap.size w w' := by
  have HC := Lib.hid (fun W => XlBody_no f A c W hl hno)
  obtain ⟨kind, id, ext, rtr, brs, esi, sec, sdt, vcid, af, data⟩ := f
  dsimp only [frv] at *
  generalize data.length = n at *
  clear hno
  go_enter Tryz.func32, Tryz.ntmps32
  go_wp2_with fail
  refine calls_blk2 (fun W0 q1 q2 hb => ?_)
  have HB := Lib.hid hb
  have HQ2 := Lib.hid q2
  have hsz := heap_lt q2
  clear hb q1 q2
  refine (HC.out _).mono ?_
  rintro e w1 ⟨rfl, hb1⟩
  have hq := heap_below hb1 HQ2.out
  have c0 := cell_of_heap hq 0 _ rfl
  have c1 := cell_of_heap hq 1 _ rfl
  have c2 := cell_of_heap hq 2 _ rfl
  have z0 : w1.frozen? ⟨w.heap.size + 1, 0, none⟩ = false := by simp [World.frozen?, hq]
  have z1 : w1.frozen? ⟨w.heap.size + 1, 1, none⟩ = false := by simp [World.frozen?, hq]
  have z2 : w1.frozen? ⟨w.heap.size + 1, 2, none⟩ = false := by simp [World.frozen?, hq]
  have HB1 := Lib.hid hb1
  have HQ3 := Lib.hid hq
  clear hb1 hq
  go_wp2_with fail
  refine bodyPost_ret (v := .tuple #[.agg #[.slice none 0 0, .int .i64 0, .int .i64 0], .int .i64 2]) (by simp [results, Tryz.results32, go_sem, c0, c1, c2]) rfl ⟨rfl, ?_⟩
  have h := below_trans HB.out HB1.out
  exact ((h.setCell (p := ⟨w.heap.size + 1, 0, none⟩) (by show w.heap.size ≤ w.heap.size + 1; omega) _).setCell (p := ⟨w.heap.size + 1, 1, none⟩) (by show w.heap.size ≤ w.heap.size + 1; omega) _).setCell (p := ⟨w.heap.size + 1, 2, none⟩) (by show w.heap.size ≤ w.heap.size + 1; omega) _
set_option maxRecDepth 100000 in
set_option maxHeartbeats 4000000 in
theorem XlWire_ok (f : Fr) (A : Option Addr) (c NR NH : Nat) (w : World) (hk : f.kind = 3) (hok : okF f = true) (h0 : 0 ≤ f.id) (hs : 0 ≤ f.sdt ∧ f.sdt < 256) (hv : 0 ≤ f.vcid ∧ f.vcid < 256) (ha : 0 ≤ f.af ∧ f.af < 4294967296) (hr : Rd w A (bys f.data)) (hby : isBytes f.data) (hNR : (rawX f).length = NR) (hNH : (stuffN (headX f)).length = NH) :
    Calls Tryz.prog 32 #[frv f (.slice A f.data.length c)] w fun e w' => (∃ A' c', e = .returned (.tuple #[.agg #[.slice A' (NR + 10 : Nat) c', .int .i64 (NH : Nat), .int .i64 (NR + 1 : Nat)], .int .i64 0]) ∧ Row w' w.heap.size 5 A' c' (bys (wireX f))) ∧ Below w.heap.size w w' := by
  obtain ⟨hid, hn1, hn2, -⟩ := okX f hk hok
  have HBody := Lib.hid (fun W (hW : Rd W A (bys f.data)) => XlBody_ok f A c W hk hok h0 hs hv ha hW hby)
  have HHead := Lib.hid (fun W => headX_any f A f.data.length c W h0 hid)
  have hlB := bodyX_length f
  have HbB := Lib.hid (bodyX_bits f)
  have HhB := Lib.hid (headX_bits f)
  have hlF := fixN_length 8 false 1 (bodyX f) (by decide)
  obtain ⟨NF, hNF⟩ : ∃ NF, (fixN 8 false 1 (bodyX f)).length = NF := ⟨_, rfl⟩
  have hNF2 : NF ≤ 30000 := by
    rw [hNF, hlB] at hlF
    rw [hlF]
    split <;> simp <;> omega
  have hNH2 : NH ≤ 22 := by have := stuffN_le (headX f); rw [hNH, headX_length] at this; omega
  have hNRe : NH + 4 + NF + 4 = NR := by rw [← hNR]; unfold rawX; simp [hNH, hNF]; omega
  have HW : Hid (wireX f = rawX f ++ List.replicate 10 1) := rfl
  have HRAW : Hid (rawX f = stuffN (headX f) ++ [1, 0, 0, 1] ++ fixN 8 false 1 (bodyX f) ++ [0, 1, 1, 0]) := rfl
  obtain ⟨bo, hbo⟩ : ∃ bo, bodyX f = bo := ⟨_, rfl⟩
  obtain ⟨hL, hhL⟩ : ∃ hL, headX f = hL := ⟨_, rfl⟩
  have hhl : hL.length = 17 := by rw [← hhL]; exact headX_length f
  obtain ⟨wi, hwi⟩ : ∃ wi, wireX f = wi := ⟨_, rfl⟩
  obtain ⟨ra, hra⟩ : ∃ ra, rawX f = ra := ⟨_, rfl⟩
  rw [hbo] at HBody HbB hlB hNF HRAW
  rw [hhL] at HHead HhB hNH HRAW
  rw [hwi, hra] at HW
  rw [hwi]
  rw [hra] at HRAW hNR
  obtain ⟨kind, id, ext, rtr, brs, esi, sec, sdt, vcid, af, data⟩ := f
  dsimp only [frv] at *
  obtain ⟨n, hn⟩ : ∃ n, data.length = n := ⟨_, rfl⟩
  rw [hn] at HBody HHead hlB hn1 hn2 ⊢
  have HLB := Lib.hid hlB
  have HNF := Lib.hid hNF
  have HNR := Lib.hid hNR
  have HNH := Lib.hid hNH
  have HHL := Lib.hid hhl
  have HR := Lib.hid hr
  have HNRE := Lib.hid hNRe
  clear hlB hNF hNR hNH hhl hr hNRe hlF hbo hhL hwi hra hn hok h0 hby hk hs hv ha hid
  go_enter Tryz.func32, Tryz.ntmps32
  go_wp2_with fail
  refine calls_blk2 (fun W0 q1 q2 hb => ?_)
  have HB := Lib.hid hb
  have HQ2 := Lib.hid q2
  have hsz := heap_lt q2
  obtain ⟨a0, a1, a2, a3, a4, a5, a6, a7, a8, a9, a10⟩ := ext11 q1
  clear hb q1 q2
  refine (extc_same (HBody.out _ (HR.out.below HB.out))).mono ?_
  rintro x _ ⟨e1, rfl, A1, c1, rfl, hrow1⟩
  have HROW1 := Lib.hid hrow1
  clear hrow1
  go_wp2_with fail
  refine (extcB (HHead.out _)).mono ?_
  rintro x _ ⟨e2, rfl, HB2, A2, c2, rfl, hrow2⟩
  have HROW2 := Lib.hid hrow2
  clear hrow2
  go_wp2_with fail
  refine (extcB (StuffPut_any _ A2 c2 17 NH hL HROW2.out.rd HHL.out (by omega) HhB.out HNH.out)).mono ?_
  rintro x _ ⟨e3, rfl, HB3, A3, c3, rfl, hrow3⟩
  have HROW3 := Lib.hid (hrow3.mono (ext_ge e2))
  clear hrow3
  go_wp2_with fail
  refine (extcB (xlStart_any _)).mono ?_
  rintro x _ ⟨e4, rfl, HB4, A4, c4, rfl, hrow4⟩
  obtain ⟨g4, rfl, hg4, hc4a, hc4b⟩ := row_some (n := 4) hrow4 rfl (by decide)
  have y3 : ∀ e : Ext e4.W, e.W.cell? ⟨g4, 3, none⟩ = some (.int .u8 1) := fun e => row_at hrow4 e.below 3 1 rfl
  have HROW4 := Lib.hid (hrow4.mono (ext_ge e3))
  have HROW14 := Lib.hid (((HROW1.out.below HB2.out).below HB3.out).below HB4.out)
  have HROW34 := Lib.hid (HROW3.out.below HB4.out)
  clear hrow4 a0 a1 a2 a3 a4 a5 a6 a7 a8 a9 a10
  go_wp2_with fail
  refine wp_region_mix (fun w' => ∃ e : Ext e4.W, w' = e.W) [(true, 0), (true, 1), (true, 2), (true, 3), (true, 4), (true, 5), (true, 6), (false, 7), (false, 8), (true, 9), (true, 10), (true, 11), (true, 12), (true, 13)] [] (by kernel_rfl) (by kernel_rfl) (by intro _ _ d _ _ h; cases d <;> exact h) ⟨⟨e4.W.drew, (Below.refl _ _).drew⟩, rfl⟩ ?_
  simp only [pickM, pickL, List.drop_succ_cons, List.drop_zero]
  repeat (refine mix_pure (by rfl) (by rfl) ?_; intro K hK; go_big_quiet_op; go_big_quiet_on)
  refine mix_eff (by rfl) ?_
  intro K hK
  go_simp
  refine (xlWay_any _).mono ?_
  rintro x w5 ⟨rfl, hb5⟩
  have hb45 : Below e4.W.heap.size e4.W w5 := below_trans (Below.refl _ _).drew hb5
  have HB45 := Lib.hid hb45
  refine hK _ _ ⟨⟨w5, hb45⟩, rfl⟩ ?_
  clear hK K hb5 hb45
  refine mix_eff (by rfl) ?_
  intro K hK
  go_simp
  refine (FixedPut_any w5 A1 1 8 c1 (109 + 8 * n) NF false bo (by decide) (by decide) (by decide) (HROW14.out.rd.below HB45.out) HLB.out (by omega) (by omega) HbB.out HNF.out).mono ?_
  rintro x w6 ⟨⟨A6, c6, rfl, hrow6⟩, hb6⟩
  have hb46 : Below e4.W.heap.size e4.W w6 := below_trans HB45.out hb6
  refine hK _ _ ⟨⟨w6, hb46⟩, rfl⟩ ?_
  clear hK K
  repeat (refine mix_pure (by rfl) (by rfl) ?_; intro K hK; go_big_quiet_op; go_big_quiet_on)
  refine mix_nil (wpList_nil ?_)
  obtain ⟨e6, he6⟩ : ∃ e : Ext W0, e.W = w6 := ⟨⟨w6, below_trans e4.below hb46⟩, rfl⟩
  have HROW6 := Lib.hid hrow6
  have HROW36 := Lib.hid (HROW34.out.below hb46)
  have HROW46 := Lib.hid (HROW4.out.below hb46)
  have hg46 : w5.heap.size ≤ w5.heap.size := Nat.le_refl _
  have HB5 := Lib.hid (HB45.out.size)
  subst he6
  clear hrow6 hb6 hb46 y3
  go_wp2_with fail
  refine (extcB (xlStop_any _)).mono ?_
  rintro x _ ⟨e7, rfl, HB7, A7, c7, rfl, hrow7⟩
  have HROW7 := Lib.hid hrow7
  have HROW37 := Lib.hid (HROW36.out.below HB7.out)
  have HROW47 := Lib.hid (HROW46.out.below HB7.out)
  have HROW67 := Lib.hid (HROW6.out.below HB7.out)
  clear hrow7
  go_wp2_with fail
  refine (repeat_any _ _ (heap_new_at rfl)).mono ?_
  rintro x w8 ⟨⟨A8, c8, rfl, hrow8⟩, hb8⟩
  have hb78 : Below e7.W.heap.size e7.W w8 := below_trans (below_alloc (Below.refl _ _) _) hb8
  obtain ⟨e8, he8⟩ : ∃ e : Ext W0, e.W = w8 := ⟨⟨w8, below_trans e7.below hb78⟩, rfl⟩
  subst he8
  have HROW8 := Lib.hid hrow8
  have HROW38 := Lib.hid (HROW37.out.below hb78)
  have HROW48 := Lib.hid (HROW47.out.below hb78)
  have HROW68 := Lib.hid (HROW67.out.below hb78)
  have HROW78 := Lib.hid (HROW7.out.below hb78)
  clear hrow8 hb8 hb78
  go_wp2_with fail
  refine calls_name (T := fun W1 => W1.heap[e8.W.heap.size]? = some (.cells #[.slice A3 NH c3, .slice (some ⟨g4, 0, none⟩) 4 c4, .slice A6 NF c6, .slice A7 4 c7, .slice A8 10 c8] 22) ∧ Below e8.W.heap.size e8.W W1) ⟨heap_new_at rfl, below_alloc (Below.refl _ _) _⟩ ?_
  rintro W1 ⟨q9, hb9⟩
  have hcat := concatP (N := NR + 10) (n := 5) [(A3, c3, stuffN hL), (some ⟨g4, 0, none⟩, c4, [1, 0, 0, 1]), (A6, c6, fixN 8 false 1 bo), (A7, c7, [0, 1, 1, 0]), (A8, c8, List.replicate 10 1)] _ q9 (by simp [partV, HNH.out, HNF.out]) rfl (by
    intro p hp
    simp only [List.mem_cons, List.not_mem_nil, or_false] at hp
    rcases hp with rfl | rfl | rfl | rfl | rfl
    · exact (HROW38.out.below hb9).part
    · exact (HROW48.out.below hb9).part
    · exact (HROW68.out.below hb9).part
    · exact (HROW78.out.below hb9).part
    · exact (HROW8.out.below hb9).part) (by simp [partsL, HNH.out, HNF.out]; have := HNRE.out; omega) (by have := HNRE.out; omega) (by decide)
  have hpl : partsL [(A3, c3, stuffN hL), (some ⟨g4, 0, none⟩, c4, [1, 0, 0, 1]), (A6, c6, fixN 8 false 1 bo), (A7, c7, [0, 1, 1, 0]), (A8, c8, List.replicate 10 1)] = wi := by rw [HW.out, HRAW.out]; simp [partsL]
  rw [hpl] at hcat
  refine hcat.mono ?_
  rintro x w10 ⟨⟨A10, c10, rfl, hrow10⟩, hb10⟩
  have hbw : Below W0.heap.size W0 w10 := below_trans (below_trans e8.below hb9) hb10
  have hq := heap_below hbw HQ2.out
  have r0 := cell_of_heap hq 0 _ rfl
  have r1 := cell_of_heap hq 1 _ rfl
  have r2 := cell_of_heap hq 2 _ rfl
  have z0 : w10.frozen? ⟨w.heap.size + 1, 0, none⟩ = false := by simp [World.frozen?, hq]
  have z1 : w10.frozen? ⟨w.heap.size + 1, 1, none⟩ = false := by simp [World.frozen?, hq]
  have z2 : w10.frozen? ⟨w.heap.size + 1, 2, none⟩ = false := by simp [World.frozen?, hq]
  have hge : W0.heap.size ≤ W1.heap.size := (below_trans e8.below hb9).size
  have HROW10 := Lib.hid (hrow10.mono hge)
  have HBW := Lib.hid hbw
  have HQ10 := Lib.hid hq
  have hNRb : NR ≤ 40000 := by have := HNRE.out; omega
  clear hcat hpl q9 hb9 hrow10 hb10 hbw hq
  go_wp2_with fail
  refine bodyPost_ret (v := .tuple #[.agg #[.slice A10 (NR + 10 : Nat) c10, .int .i64 (NH : Nat), .int .i64 (NR + 1 : Nat)], .int .i64 0]) (by simp [results, Tryz.results32, go_sem, r0, r1, r2]) rfl ⟨⟨A10, c10, rfl, ?_⟩, ?_⟩
  · have h7 : ∀ ad, A10 = some ad → ad.block ≠ w.heap.size + 1 := fun ad e => by have := HROW10.out.ge ad e; omega
    exact (((HROW10.out.setCell h7 0 _).setCell h7 1 _).setCell h7 2 _).mono (by omega)
  · have h := below_trans HB.out HBW.out
    exact ((h.setCell (p := ⟨w.heap.size + 1, 0, none⟩) (by show w.heap.size ≤ w.heap.size + 1; omega) _).setCell (p := ⟨w.heap.size + 1, 1, none⟩) (by show w.heap.size ≤ w.heap.size + 1; omega) _).setCell (p := ⟨w.heap.size + 1, 2, none⟩) (by show w.heap.size ≤ w.heap.size + 1; omega) _
end Go.Proofs.YtlmdkmflbhnlgaaGreat
-- PXlLaw: XL frames on the wire: lengths, runs, and where two of them first differ: plain laws of lists. No condition.
namespace Go.Proofs.YtlmdkmflbhnlgaaGreat
open Go.RowKit
theorem xl_len (f : Fr) (hk : f.kind = 3) (hok : okF f = true) : f.data.length ≤ 2048 := (okX f hk hok).2.2.1
theorem headX_zero (f : Fr) : ∃ l, headX f = 0 :: l := ⟨_, rfl⟩
theorem stuffN_zero' (l : List Nat) : ∃ m, stuffN (0 :: l) = 0 :: m := ⟨_, rfl⟩
theorem rawX_zero (f : Fr) : ∃ l, rawX f = 0 :: l := by
  obtain ⟨l, hl⟩ := headX_zero f
  obtain ⟨m, hm⟩ := stuffN_zero' l
  unfold rawX
  rw [hl, hm]
  exact ⟨_, rfl⟩
theorem stuffX_le (f : Fr) : (stuffN (headX f)).length ≤ 21 ∧ 17 ≤ (stuffN (headX f)).length := by
  have h1 := stuffN_len (headX f) (by obtain ⟨l, hl⟩ := headX_zero f; rw [hl]; simp)
  have h2 := stuffN_ge (headX f)
  rw [headX_length] at h1 h2
  omega
theorem fixX_length (f : Fr) : (fixN 8 false 1 (bodyX f)).length = 109 + 8 * f.data.length + (108 + 8 * f.data.length) / 8 := by
  rw [fixN_length 8 false 1 (bodyX f) (by decide), bodyX_length, if_neg (by omega)]
  simp
theorem rawX_len (f : Fr) : (rawX f).length = (stuffN (headX f)).length + 8 + (109 + 8 * f.data.length + (108 + 8 * f.data.length) / 8) := by
  unfold rawX
  simp only [List.length_append, fixX_length, List.length_cons, List.length_nil]
  omega
theorem xl_bound (f : Fr) (hk : f.kind = 3) (hok : okF f = true) : (stuffN (headX f)).length + 19 ≤ (rawX f).length ∧ (rawX f).length ≤ 40000 ∧ 12 ≤ (stuffN (headX f)).length := by
  have h1 := stuffX_le f
  have h2 := rawX_len f
  have h3 := xl_len f hk hok
  omega
theorem rawX_bits (f : Fr) : ∀ x ∈ rawX f, x ≤ 1 := by
  intro x hx
  unfold rawX at hx
  simp only [List.mem_append] at hx
  rcases hx with ((h | h) | h) | h
  · exact stuffN_bits _ (headX_bits f) x h
  · simp at h; omega
  · exact fixE_bits 8 _ (bodyX_bits f) _ _ x h
  · simp at h; omega
theorem leftE_7 (m : Nat) : leftE 8 8 (109 + 8 * m) = 3 := by
  have h8 : ∀ n, leftE 8 7 (n + 8) = leftE 8 7 n := fun n => by simp [leftE]
  have hk : ∀ k, leftE 8 7 (4 + 8 * k) = 3 := by
    intro k
    induction k with
    | zero => rfl
    | succ k ih => rw [show 4 + 8 * (k + 1) = (4 + 8 * k) + 8 by omega, h8]; exact ih
  rw [show 109 + 8 * m = (4 + 8 * (13 + m)) + 1 by omega]
  simp only [leftE]
  exact hk _
theorem start_runs (a r : Nat) (h : r ≤ 5) : runsM 9 a r [1, 0, 0, 1] = true ∧ rawE a r [1, 0, 0, 1] = (1, 1) := by
  have h1 := seeN_le a r 1
  constructor
  · simp only [runsM, Bool.and_eq_true, decide_eq_true_eq]
    refine ⟨by omega, ?_⟩
    simp [seeN]
  · simp [rawE, seeN]
theorem stop_runs (a r : Nat) (h : r ≤ 6) : runsM 9 a r [0, 1, 1, 0] = true := by
  have h1 := seeN_le a r 0
  simp only [runsM, Bool.and_eq_true, decide_eq_true_eq]
  refine ⟨by omega, ?_⟩
  simp [seeN]
theorem rawX_runs (f : Fr) : runsM 9 0 0 (rawX f) = true := by
  have hA := runsM_of 9 (by omega) _ 0 0 (stuffN_runs (headX f))
  have hA5 : (rawE 0 0 (stuffN (headX f))).2 ≤ 5 := by unfold stuffN; rw [rawE_stf _ 0 0 (by omega)]; exact stE_le _ 0 0 (by omega)
  obtain ⟨s1, s2⟩ := start_runs (rawE 0 0 (stuffN (headX f))).1 _ hA5
  obtain ⟨f1, f2, f3⟩ := fix_runs 8 (by omega) (bodyX f) (bodyX_bits f) 1 1 8 (by omega) (by omega) (by omega)
  rw [bodyX_length, leftE_7] at f2
  have hF : fixN 8 false 1 (bodyX f) = fixE 8 1 8 (bodyX f) := rfl
  have eB : rawE 0 0 (stuffN (headX f) ++ [1, 0, 0, 1]) = (1, 1) := by rw [rawE_append, s2]
  have eF : rawE 0 0 (stuffN (headX f) ++ [1, 0, 0, 1] ++ fixE 8 1 8 (bodyX f)) = rawE 1 1 (fixE 8 1 8 (bodyX f)) := by rw [rawE_append, eB]
  unfold rawX
  rw [hF, runsM_append, runsM_append, runsM_append, eF, eB, hA, s1, f1, stop_runs _ _ (by omega)]
  rfl
theorem rawX_see (f : Fr) : SeeOk 9 (stuffN (headX f)).length (rawX f) := by
  intro k hk
  refine ⟨runsM_at 9 _ (rawX_runs f) k hk, fun hk2 => ?_⟩
  have h := runs_at (stuffN (headX f)) (stuffN_runs (headX f)) k hk2
  have e : ∃ l, rawX f = stuffN (headX f) ++ l := ⟨[1, 0, 0, 1] ++ fixN 8 false 1 (bodyX f) ++ [0, 1, 1, 0], by unfold rawX; simp only [List.append_assoc]⟩
  obtain ⟨l, e⟩ := e
  have e1 : (rawX f).take k = (stuffN (headX f)).take k := by rw [e, List.take_append_of_le_length (by omega)]
  have e2 : (rawX f)[k] = (stuffN (headX f))[k] := by
    have h3 : (rawX f)[k]? = some (stuffN (headX f))[k] := by rw [e, List.getElem?_append_left hk2, List.getElem?_eq_getElem hk2]
    exact (List.getElem?_eq_some_iff.1 h3).2
  rw [e1, e2]
  exact h
/-! ### where two frames differ -/
theorem headX_first (f g : Fr) (f0 : 0 ≤ f.id) (f1 : f.id < 2048) (g0 : 0 ≤ g.id) (g1 : g.id < 2048) (hne : f.id ≠ g.id) : First (f.id < g.id) (headX f) (headX g) := by
  obtain ⟨n, hn⟩ := Int.eq_ofNat_of_zero_le f0
  obtain ⟨m, hm⟩ := Int.eq_ofNat_of_zero_le g0
  unfold headX
  rw [hn, hm]
  simp only [Int.toNat_natCast]
  have h : First (n < m) (bitsN n 11) (bitsN m 11) := bitsN_first 11 n m (by omega) (by omega) (by omega)
  exact ((h.ahead (bitsN 0 1)).behind (bitsN 6 5) (bitsN 6 5)).iff (by omega)
theorem wireX_head (f : Fr) : ∃ l, wireX f = stuffN (headX f) ++ l := ⟨[1, 0, 0, 1] ++ fixN 8 false 1 (bodyX f) ++ [0, 1, 1, 0] ++ List.replicate 10 1, by unfold wireX rawX; simp only [List.append_assoc]⟩
theorem xlOrders_plain (f g : Fr) (hk : f.kind = 3) (hkg : g.kind = 3) (fo : okF f = true) (go : okF g = true) (f0 : 0 ≤ f.id) (g0 : 0 ≤ g.id) (hne : f.id ≠ g.id) :
    ∃ j, j < (stuffN (headX f)).length ∧ j < (stuffN (headX g)).length ∧ (∀ i, i < j → (wireX f)[i]? = (wireX g)[i]?) ∧ ∃ x y, (wireX f)[j]? = some x ∧ (wireX g)[j]? = some y ∧ x ≠ y ∧ (x = 0 ↔ f.id < g.id) := by
  have h := (headX_first f g f0 (okX f hk fo).1 g0 (okX g hkg go).1 hne).stuffed
  obtain ⟨j, h1, h2, h3, x, y, h4, h5, h6⟩ := h.at
  obtain ⟨l, el⟩ := wireX_head f
  obtain ⟨m, em⟩ := wireX_head g
  rw [el, em]
  refine ⟨j, h1, h2, fun i hi => ?_, x, y, ?_, ?_, h6⟩
  · rw [List.getElem?_append_left (by omega), List.getElem?_append_left (by omega)]; exact h3 i hi
  · rw [List.getElem?_append_left h1]; exact h4
  · rw [List.getElem?_append_left h2]; exact h5
theorem okX_bare (f : Fr) (hk : f.kind = 3) (h : okF f = true) : f.ext = false ∧ f.rtr = false ∧ f.brs = false ∧ f.esi = false := by
  unfold okF at h
  simp only [Bool.and_eq_true] at h
  have h2 := h.2
  unfold sameF bareF zeroF at h2
  rw [hk] at h2
  simp at h2
  simp_all
theorem sameX (f g : Fr) (fk : f.kind = 3) (gk : g.kind = 3) (fo : okF f = true) (go : okF g = true) : sameF f g = decide (f.id = g.id ∧ f.sec = g.sec ∧ f.sdt = g.sdt ∧ f.vcid = g.vcid ∧ f.af = g.af ∧ f.data = g.data) := by
  obtain ⟨a1, a2, a3, a4⟩ := okX_bare f fk fo
  obtain ⟨b1, b2, b3, b4⟩ := okX_bare g gk go
  unfold sameF
  rw [fk, gk, a1, a2, a3, a4, b1, b2, b3, b4]
  rw [Bool.eq_iff_iff]
  simp only [decide_eq_true_eq]
  constructor
  · intro h; simp_all
  · intro h; simp_all
theorem codeX_eq (f : Fr) (hk : f.kind = 3) (hok : okF f = true) : codeX f = f.data.length - 1 := by
  unfold codeX
  rw [(okX f hk hok).2.2.2]
  simp
theorem toNat_ne {a b : Int} (ha : 0 ≤ a) (hb : 0 ≤ b) (h : a ≠ b) : a.toNat ≠ b.toNat := by omega
theorem wireX_diff (f g : Fr) (fk : f.kind = 3) (gk : g.kind = 3) (fo : okF f = true) (go : okF g = true) (fn : FrN f) (gn : FrN g) (h : ¬ (f.id = g.id ∧ f.sec = g.sec ∧ f.sdt = g.sdt ∧ f.vcid = g.vcid ∧ f.af = g.af ∧ f.data = g.data)) : Diff (wireX f) (wireX g) := by
  obtain ⟨fi, fl1, fl2, -⟩ := okX f fk fo
  obtain ⟨gi, gl1, gl2, -⟩ := okX g gk go
  by_cases hid : f.id = g.id
  · have hh : headX f = headX g := by unfold headX; rw [hid]
    suffices hb : Diff (bodyX f) (bodyX g) by
      unfold wireX rawX
      rw [hh]
      exact (((hb.fixed 8 false 1).ahead _).behind _ _).behind _ _
    unfold bodyX
    refine Diff.behind ?_ _ _
    unfold part3X
    by_cases h1 : f.sdt = g.sdt ∧ f.sec = g.sec ∧ f.data.length = g.data.length
    · obtain ⟨hsd, hse, hl⟩ := h1
      have hp1 : part1X f = part1X g := by unfold part1X; rw [hh, hsd, hse, codeX_eq f fk fo, codeX_eq g gk go, hl]
      have hp2 : part2X f = part2X g := by unfold part2X; rw [hp1, hh]
      rw [hp2]
      by_cases hv : f.vcid = g.vcid
      · rw [hv]
        by_cases ha : f.af = g.af
        · rw [ha]
          exact (bytesN_diff f.data g.data hl fn.data gn.data (fun hd => h ⟨hid, hse, hsd, hv, ha, hd⟩)).ahead _
        · exact Diff.behind (Diff.ahead (bitsN_diff 32 _ _ (by have := fn.af; omega) (by have := gn.af; omega) (toNat_ne fn.af.1 gn.af.1 ha)) _) _ _
      · exact Diff.behind (Diff.behind (Diff.ahead (bitsN_diff 8 _ _ (by have := fn.vcid; omega) (by have := gn.vcid; omega) (toNat_ne fn.vcid.1 gn.vcid.1 hv)) _) _ _) _ _
    · refine Diff.behind (Diff.behind (Diff.behind ?_ _ _) _ _) _ _
      unfold part2X
      refine Diff.behind ?_ _ _
      unfold part1X
      rw [hh, codeX_eq f fk fo, codeX_eq g gk go]
      refine Diff.behind ?_ _ _
      by_cases hsd : f.sdt = g.sdt
      · rw [hsd]
        by_cases hse : f.sec = g.sec
        · rw [hse]
          exact Diff.ahead (bitsN_diff 11 _ _ (by omega) (by omega) (fun hl => h1 ⟨hsd, hse, by omega⟩)) _
        · have hb := bitB_inj hse
          exact Diff.behind (Diff.ahead (bitsN_diff 1 _ _ (by cases f.sec <;> decide) (by cases g.sec <;> decide) hb) _) _ _
      · exact Diff.behind (Diff.behind (bitsN_diff 8 _ _ (by have := fn.sdt; omega) (by have := gn.sdt; omega) (toNat_ne fn.sdt.1 gn.sdt.1 hsd)) _ _) _ _
  · have hF := (headX_first f g fn.id0 fi gn.id0 gi hid).stuffed.diff
    obtain ⟨l, el⟩ := wireX_head f
    obtain ⟨m, em⟩ := wireX_head g
    rw [el, em]
    exact hF.behind _ _
theorem wireX_same (f g : Fr) (fk : f.kind = 3) (gk : g.kind = 3) (h : f.id = g.id ∧ f.sec = g.sec ∧ f.sdt = g.sdt ∧ f.vcid = g.vcid ∧ f.af = g.af ∧ f.data = g.data) : wireX f = wireX g := by
  obtain ⟨h1, h2, h3, h4, h5, h6⟩ := h
  have hh : headX f = headX g := by unfold headX; rw [h1]
  have hc : codeX f = codeX g := by unfold codeX; rw [fk, gk, h6]
  have hp1 : part1X f = part1X g := by unfold part1X; rw [hh, h2, h3, hc]
  have hp2 : part2X f = part2X g := by unfold part2X; rw [hp1, hh]
  have hp3 : part3X f = part3X g := by unfold part3X; rw [hp2, h4, h5, h6]
  have hb : bodyX f = bodyX g := by unfold bodyX; rw [hp3]
  unfold wireX rawX
  rw [hh, hb]
theorem xlApart_plain (f g : Fr) (fk : f.kind = 3) (gk : g.kind = 3) (fo : okF f = true) (go : okF g = true) (fn : FrN f) (gn : FrN g) :
    diffB (wireX f) (wireX g) (min (wireX f).length (wireX g).length) = !sameF f g := by
  rw [sameX f g fk gk fo go]
  by_cases h : f.id = g.id ∧ f.sec = g.sec ∧ f.sdt = g.sdt ∧ f.vcid = g.vcid ∧ f.af = g.af ∧ f.data = g.data
  · rw [decide_eq_true h, wireX_same f g fk gk h, same_apart]; rfl
  · rw [decide_eq_false h, diff_apart (wireX_diff f g fk gk fo go fn gn h)]; rfl
end Go.Proofs.YtlmdkmflbhnlgaaGreat
-- WireP: What a frame's wire tells the machine, bit by bit (plain). No condition.
namespace Go.Proofs.YtlmdkmflbhnlgaaGreat
open Go.RowKit
/-- A frame's raw bits, up to its delimiter; and those that arbitrate. -/
def rawA (f : Fr) : List Nat := if f.kind = 2 then rawD f else if f.kind = 3 then rawX f else stuffN (bodyC f)
def hdS (f : Fr) : List Nat := if f.kind = 2 then headD f else if f.kind = 3 then headX f else headL f
theorem rawA_bits (f : Fr) : ∀ x ∈ rawA f, x ≤ 1 := by
  unfold rawA
  split
  · exact rawD_bits f
  · split
    · exact rawX_bits f
    · exact stuffN_bits _ (coreC_bitsB f)
theorem rawA_len (f : Fr) (hok : okF f = true) (hl : f.data.length ≤ 300) : (rawA f).length ≤ 4000 := by
  have hk := ((okF_iff f).1 hok).kind
  rcases hk with hk | hk | hk
  · have hw : rawA f = stuffN (bodyC f) := by unfold rawA; rw [if_neg (by omega), if_neg (by omega)]
    have h1 := stuffN_le (bodyC f)
    have h2 : (bodyC f).length ≤ 118 := by have := okF_len1 f hk hok; rw [bodyC_length]; split <;> omega
    rw [hw]
    omega
  · have hw : rawA f = rawD f := by unfold rawA; rw [if_pos hk]
    have h1 := raw0D_len f
    have h2 := okD f hk hok
    have h3 : sizeS f.data.length ≤ 21 := by unfold sizeS; split <;> omega
    rw [hw, rawD_len]
    omega
  · have hw : rawA f = rawX f := by unfold rawA; rw [if_neg (by omega), if_pos hk]
    have h1 := stuffN_le (headX f)
    have h2 := headX_length f
    rw [hw]
    unfold rawX
    rw [List.length_append, List.length_append, List.length_append, fixN_length _ _ _ _ (by omega), bodyX_length]
    simp
    omega
/-- A frame's raw bits bring the machine to its end. -/
theorem done_any (f : Fr) (hok : okF f = true) (hf : FrN f) : ∃ S : MS, scanM true (rawA f) = endM { S with fits := true } ∧ S.kind = 0 ∧ S.f = f := by
  have hk := ((okF_iff f).1 hok).kind
  rcases hk with hk | hk | hk
  · have hw : rawA f = stuffN (bodyC f) := by unfold rawA; rw [if_neg (by omega), if_neg (by omega)]
    rw [hw]
    exact done_c true f hk hok hf.id0 hf.data
  · have hw : rawA f = rawD f := by unfold rawA; rw [if_pos hk]
    rw [hw]
    exact done_d true f hk hok hf.id0 hf.data
  · have hw : rawA f = rawX f := by unfold rawA; rw [if_neg (by omega), if_pos hk]
    rw [hw]
    exact done_x f hk hok hf.id0 hf.sdt.1 hf.sdt.2 hf.vcid.1 hf.vcid.2 hf.af.1 hf.af.2 hf.data
/-- A frame on the wire; its slot is `a`. -/
def wireB (f : Fr) (a : Nat) : List Nat := rawA f ++ [1, a, 1, 1, 1, 1, 1, 1, 1, 1]
theorem wireB_one (f : Fr) : rawA f ++ List.replicate 10 1 = wireB f 1 := rfl
theorem wireB_len (f : Fr) (a : Nat) : (wireB f a).length = (rawA f).length + 10 := by unfold wireB; rw [List.length_append]; rfl
theorem wireB_set (f : Fr) (NR : Nat) (h : (rawA f).length = NR) : (wireB f 1).set (NR + 1) 0 = wireB f 0 := by
  unfold wireB
  rw [List.set_append_right _ _ (by omega), h, show NR + 1 - NR = 1 by omega]
  rfl
theorem wireB_bits (f : Fr) (a : Nat) (ha : a ≤ 1) : ∀ x ∈ wireB f a, x ≤ 1 := by
  intro x hx
  unfold wireB at hx
  rcases List.mem_append.1 hx with h | h
  · exact rawA_bits f x h
  · simp at h; omega
theorem wireB_take (f : Fr) (a : Nat) : (wireB f a).take ((rawA f).length + 9) = rawA f ++ [1, a, 1, 1, 1, 1, 1, 1, 1] := by unfold wireB; rw [List.take_length_add_append]; rfl
/-- Each beginning of a frame's wire: more, at its slot, then more, then done as that frame. -/
theorem wireB_kinds (f : Fr) (a : Nat) (hok : okF f = true) (hf : FrN f) (NR : Nat) (hNR : (rawA f).length = NR) (i : Nat) (hi : i < NR + 9) :
    (scanM true ((wireB f a).take (i + 1))).kind = (if i = NR then 1 else if i = NR + 8 then 2 else 0) ∧ (scanM true ((wireB f a).take (i + 1))).err = 0 ∧ (i = NR + 8 → (scanM true ((wireB f a).take (i + 1))).sf = f) := by
  obtain ⟨S, hS, hk, hSf⟩ := done_any f hok hf
  obtain ⟨k1, k2, k3, k4, k5⟩ := kinds_wire true (rawA f) S a hS hk
  subst hNR
  by_cases h1 : i < (rawA f).length
  · have e : (wireB f a).take (i + 1) = (rawA f).take (i + 1) := by unfold wireB; rw [List.take_append_of_le_length (by omega)]
    have hm := more_raw true (rawA f) S hS hk (i + 1)
    rw [e, if_neg (by omega), if_neg (by omega)]
    exact ⟨hm, (scanM_q true _ (by omega)).1, fun h => by omega⟩
  · obtain ⟨j, rfl⟩ : ∃ j, i = (rawA f).length + j := ⟨i - (rawA f).length, by omega⟩
    have e : (wireB f a).take ((rawA f).length + j + 1) = rawA f ++ [1, a, 1, 1, 1, 1, 1, 1, 1, 1].take (j + 1) := by unfold wireB; rw [Nat.add_assoc, List.take_length_add_append]
    rw [e]
    by_cases h2 : j = 0
    · subst h2
      rw [if_pos (by omega)]
      exact ⟨k1, (scanM_q true _ (show (scanM true (rawA f ++ [1])).kind < 2 by omega)).1, fun h => by omega⟩
    · by_cases h3 : j = 8
      · subst h3
        rw [if_neg (by omega), if_pos (by omega)]
        exact ⟨k3, k4, fun _ => k5.trans hSf⟩
      · rw [if_neg (by omega), if_neg (by omega)]
        have e2 : ([1, a, 1, 1, 1, 1, 1, 1, 1, 1] : List Nat).take (j + 1) = [1, a, 1, 1, 1, 1, 1, 1].take (j + 1) := by
          have h8 : j + 1 ≤ 8 := by omega
          rw [show ([1, a, 1, 1, 1, 1, 1, 1, 1, 1] : List Nat) = [1, a, 1, 1, 1, 1, 1, 1] ++ [1, 1] from rfl, List.take_append_of_le_length (by simpa using h8)]
        have hm := k2 (j + 1) (by omega) (by omega)
        rw [e2]
        exact ⟨hm, (scanM_q true _ (by omega)).1, fun h => by omega⟩
/-- Whatever comes behind. -/
theorem wireB_behind (f : Fr) (a : Nat) (hok : okF f = true) (hf : FrN f) (NR : Nat) (hNR : (rawA f).length = NR) (l : List Nat) :
    (scanM true ((wireB f a).take (NR + 9) ++ l)).kind = 2 ∧ (scanM true ((wireB f a).take (NR + 9) ++ l)).err = 0 ∧ (scanM true ((wireB f a).take (NR + 9) ++ l)).sf = f := by
  obtain ⟨k1, k2, k3⟩ := wireB_kinds f a hok hf NR hNR (NR + 8) (by omega)
  rw [if_neg (by omega), if_pos rfl] at k1
  obtain ⟨s1, s2, s3⟩ := scanM_stays true ((wireB f a).take (NR + 9)) l (by rw [k1]; omega)
  exact ⟨s1.trans k1, s2.trans k2, s3.trans (k3 rfl)⟩
end Go.Proofs.YtlmdkmflbhnlgaaGreat
-- ConcatF: slices.Grow of nil, and slices.Concat over fd's fields. No condition.
namespace Go.Proofs.YtlmdkmflbhnlgaaGreat
open Go.RowKit
set_option maxRecDepth 100000 in
set_option maxHeartbeats 400000 in
theorem growNilF_any (n : Nat) (w : World) (hn : n ≤ 1000000) :
    Calls Tryz.prog 64 #[.slice none 0 0, .int .i64 n] w fun e w' => (∃ A c, e = .returned (.slice A 0 c) ∧ Row w' w.heap.size 5 A c []) ∧ Below w.heap.size w w' := by
  by_cases h0 : n = 0
  · subst h0
    go_enter Tryz.func64, Tryz.ntmps64
    go_wp2_with fail
    go_ret
    exact ⟨⟨none, 0, rfl, Row.nil _ _ _⟩, Below.refl _ _⟩
  · obtain ⟨i0, hi, hz0, hz1, hz2⟩ := info_parts info_u8
    have hp : 0 < (n : Int) := by omega
    have hfit : Builtin.nextslicecap (0 + n) 0 * i0.bytes ≤ 281474976710656 := by
      rw [hz2]
      have : Builtin.nextslicecap (0 + n) 0 = n := by unfold Builtin.nextslicecap; simp; omega
      omega
    have hrun := Lib.run_append_grow_zeros (P := Tryz.prog) w 66 3 66 5 i0 (.int .u8 0) .i64 .i64 Tryz.underlying66 Tryz.underlying3 hi hz0 none 0 0 [] (by simp [Builtin.firstCells]) n (by omega) (by omega) (by omega) (by omega) (by rw [hz2]; omega) hfit
    have hcap : 0 + n ≤ grownCap w (0 + n) 0 5 := grownCap_ge _ _ _ _
    have hcm : grownCap w (0 + n) 0 5 ≤ maxLen := grownCap_le_maxLen _ _ _ _ (by unfold maxLen; omega)
    generalize grownCap w (0 + n) 0 5 = cap at *
    rw [Nat.zero_add] at *
    have hown := World.ownsRow_made (e := 5) (size := 1) (base := w.heap.size) w.drew (([] : List Value).toArray ++ Builtin.zeroCells (Value.int .u8 0).cells n ++ Builtin.zeroCells (Value.int .u8 0).cells (cap - n)) cap (Nat.le_refl _) hcm (by simp [size_zeroCells, Value.cells]; omega)
    rw [show (([] : List Value).toArray ++ Builtin.zeroCells (Value.int .u8 0).cells n) = Builtin.zeroCells #[Value.int .u8 0] n from by simp [Value.cells]] at hown
    have HRUN := Lib.hid hrun
    have HOWN := Lib.hid hown
    have hcm2 : (cap : Int) ≤ 9223372036854775807 := by unfold maxLen at hcm; omega
    clear hrun hown hfit hi hz0 hz1 hz2 h0 hcm
    go_enter Tryz.func64, Tryz.ntmps64
    go_wp2_with (at_builtin; refine wpList_append_run rfl (.tmp 20) (.tmp 21) 66 3 rfl _ _ _ _ rfl rfl HRUN.out ?_)
    go_ret
    exact ⟨⟨_, _, rfl, HOWN.out⟩, (below_alloc (Below.refl _ _) _).drew⟩
set_option maxRecDepth 100000 in
set_option maxHeartbeats 1000000 in
theorem concatF_any (A : Option Addr) (c n N : Nat) (ps : List Part) (w : World) (hr : Rd w A (ps.map partV)) (hn : ps.length = n) (hps : ∀ p ∈ ps, PartOk w p) (hN : (partsL ps).length = N) (hN2 : N ≤ 1000000) (hn2 : n ≤ 1000) :
    Calls Tryz.prog 37 #[.slice A n c] w fun e w' => (∃ A' c', e = .returned (.slice A' N c') ∧ Row w' w.heap.size 5 A' c' (bys (partsL ps))) ∧ Below w.heap.size w w' := by
  obtain ⟨i0, hi, hz0, hz1, hz2⟩ := info_parts info_u8
  have HR := Lib.hid hr
  have HN := Lib.hid hn
  have HPS := Lib.hid hps
  have HL := Lib.hid hN
  clear hr hn hps hN
  go_enter Tryz.func37, Tryz.ntmps37
  go_wp2_with fail
  go_loop [3, 11] (fun sv iv => ∃ k s : Nat, k ≤ n ∧ s ≤ N ∧ Hid (s = (partsL (ps.take k)).length) ∧ sv = .int .i64 s ∧ iv = .int .i64 k) (fun _ iv => n - (intOf iv).toNat)
  case atStart => exact ⟨0, 0, by omega, by omega, (by simp [partsL] : (0 : Nat) = (partsL (ps.take 0)).length), rfl, rfl⟩
  case round =>
    obtain ⟨k, s, hk, hs, HS, rfl, rfl⟩ := hrel
    by_cases hkn : k < n
    · have hkl : k < ps.length := by rw [HN.out]; exact hkn
      obtain ⟨p, hp⟩ : ∃ p, ps[k] = p := ⟨_, rfl⟩
      obtain ⟨ad, rfl, ca⟩ := HR.out k (partV p) (by simp [hkl, hp])
      obtain ⟨m, hm⟩ : ∃ m, p.2.2.length = m := ⟨_, rfl⟩
      have ca' : w.cell? (ad.add k) = some (.slice p.1 m p.2.1) := by rw [ca, partV, hm]
      have hsum : s + m = (partsL (ps.take (k + 1))).length := by rw [partsL_take ps k hkl, List.length_append, hp, hm, ← HS.out]
      have hle : s + m ≤ N := by rw [hsum, ← HL.out]; exact partsL_le ps (k + 1)
      have HSUM := Lib.hid hsum
      clear ca hsum hm hp
      obtain ⟨p1, p2, p3⟩ := p
      dsimp only at ca'
      go_wp2_with fail
      go_round
      case rel => exact ⟨k + 1, s + m, by omega, by omega, HSUM.out, by go_num, by go_num⟩
      case measure => simp [intOf]; omega
    · obtain rfl : n = k := by omega
      have hsN : s = N := by rw [HS.out, ← HL.out, ← HN.out, List.take_length]
      subst hsN
      clear HS
      go_wp2_with fail
      refine (growNilF_any s w hN2).mono ?_
      rintro x w1 ⟨⟨A0, c0, rfl, hrow⟩, hb⟩
      have HB := Lib.hid hb
      have HROW := Lib.hid hrow
      clear hb hrow
      go_wp2_with fail
      go_loopw [6, 27] (fun v iv wr => ∃ (k s' : Nat) (A' : Option Addr) (c' : Nat), k ≤ n ∧ s' ≤ s ∧ Hid (s' = (partsL (ps.take k)).length) ∧ v = .slice A' s' c' ∧ iv = .int .i64 k ∧ Hid (Row wr w.heap.size 5 A' c' (bys (partsL (ps.take k)))) ∧ Hid (Below w.heap.size w wr)) (fun _ iv _ => n - (intOf iv).toNat)
      case atStart => exact ⟨0, 0, A0, c0, by omega, by omega, (by simp [partsL] : (0 : Nat) = (partsL (ps.take 0)).length), rfl, rfl, by simpa [partsL, bys] using HROW, HB⟩
      case round =>
        obtain ⟨k, s', A', c', hk, hs', HS, rfl, rfl, HROW', HB'⟩ := hrel
        by_cases hkn : k < n
        · have hkl : k < ps.length := by rw [HN.out]; exact hkn
          obtain ⟨p, hp⟩ : ∃ p, ps[k] = p := ⟨_, rfl⟩
          obtain ⟨ad, rfl, ca⟩ := HR.out k (partV p) (by simp [hkl, hp])
          obtain ⟨m, hm⟩ : ∃ m, p.2.2.length = m := ⟨_, rfl⟩
          have ca' : wr.cell? (ad.add k) = some (.slice p.1 m p.2.1) := by rw [Below.cell_of HB'.out ca, partV, hm]
          have hsum : s' + m = (partsL (ps.take (k + 1))).length := by rw [partsL_take ps k hkl, List.length_append, hp, hm, ← HS.out]
          have hle : s' + m ≤ s := by rw [hsum, ← HL.out]; exact partsL_le ps (k + 1)
          have hpo : PartOk wr p := (HPS.out p (by rw [← hp]; exact List.getElem_mem hkl)).below HB'.out
          have hpl : bys (partsL (ps.take (k + 1))) = bys (partsL (ps.take k)) ++ bys p.2.2 := by rw [partsL_take ps k hkl, bys_append, hp]
          have HSUM := Lib.hid hsum
          have HPO := Lib.hid hpo
          have HPL := Lib.hid hpl
          have HM := Lib.hid hm
          clear ca hsum hm hp hpo hpl
          obtain ⟨p1, p2, p3⟩ := p
          dsimp only at ca' HPL HM
          go_wp2_with (at_builtin; refine wpList_appE (w0 := w) HB'.out rfl (.tmp 31) (.tmp 32) 66 rfl w.heap.size 5 i0 _ 1 Tryz.underlying66 hi hz0 hz1 hz2 rfl A' s' c' (bys (partsL (ps.take k))) rfl (by rw [bys_length]; exact HS.out.symm) HROW'.out p1 m p2 (bys p3) rfl (by rw [bys_length]; exact HM.out) HPO.out.rd (bys_one _) (fun e => HPO.out.nil (by cases p3 with | nil => rfl | cons x l => simp [bys] at e)) (s' + m) rfl (by unfold maxLen; omega) (by omega) (Nat.le_refl _) HB'.out.size ?_; intro e3 A3 c3 HO3)
          go_roundw
          case rel => exact ⟨k + 1, s' + m, A3, c3, by omega, by omega, HSUM.out, by go_num, by go_num, by rw [HPL.out]; exact HO3, e3.below⟩
          case measure => simp [intOf]; omega
        · obtain rfl : n = k := by omega
          go_wp2_with fail
          go_ret
          have e : ps.take n = ps := by rw [← HN.out, List.take_length]
          have h1 := HROW'.out
          have h2 := HS.out
          rw [e] at h1 h2
          rw [HL.out] at h2
          subst h2
          exact ⟨⟨A', c', rfl, h1⟩, HB'.out⟩
end Go.Proofs.YtlmdkmflbhnlgaaGreat
-- FdBody: fd.Body: an FD frame's bits ahead of all stuffing. No condition.
namespace Go.Proofs.YtlmdkmflbhnlgaaGreat
open Go.RowKit
theorem concatPF {W : World} {vs : Array Value} {t n N : Nat} (ps : List Part) (g : Nat) (hg : W.heap[g]? = some (.cells vs t)) (hv : vs.toList = ps.map partV) (hn : ps.length = n) (hps : ∀ p ∈ ps, PartOk W p) (hN : (partsL ps).length = N) (hN2 : N ≤ 1000000) (hn2 : n ≤ 1000) :
    Calls Tryz.prog 37 #[.slice (some ⟨g, 0, none⟩) n n] W fun e w' => (∃ A' c', e = .returned (.slice A' N c') ∧ Row w' W.heap.size 5 A' c' (bys (partsL ps))) ∧ Below W.heap.size W w' :=
  concatF_any _ n n N ps W (by rw [← hv]; exact Rd.blk hg) hn hps hN hN2 hn2
theorem FdBody_no (f : Fr) (A : Option Addr) (c : Nat) (w : World) (hl : f.data.length ≤ 9223372036854775807) (hno : ¬ (f.kind = 2 ∧ okF f = true)) :
    Calls Tryz.prog 19 #[frv f (.slice A f.data.length c)] w fun e w' => e = .returned (.tuple #[.slice none 0 0, .int .i64 2]) ∧ Below w.heap.size w w' := by
  have HC := Lib.hid (fun W => Check_any f A c W hl)
  by_cases hk : f.kind = 2
  · have hok : okF f = false := by cases h : okF f with | false => rfl | true => exact absurd ⟨hk, h⟩ hno
    rw [hok] at HC
    have he : errV false = .int .i64 2 := rfl
    rw [he] at HC
    obtain ⟨kind, id, ext, rtr, brs, esi, sec, sdt, vcid, af, data⟩ := f
    dsimp only [frv] at *
    generalize data.length = n at *
    subst hk
    clear hno hok he
    go_enter Tryz.func19, Tryz.ntmps19
    go_wp2_with fail
    refine (HC.out _).mono ?_
    rintro e w1 ⟨rfl, hb⟩
    have HB := Lib.hid hb
    clear hb
    go_wp2_with fail
    go_ret2
    exact ⟨rfl, (below_alloc (Below.refl _ _) _).trans (HB.out.mono (by simp))⟩
  · obtain ⟨kind, id, ext, rtr, brs, esi, sec, sdt, vcid, af, data⟩ := f
    dsimp only [frv] at *
    generalize data.length = n at *
    have hkb : (kind != 2) = true := by rw [bne_iff_ne]; exact hk
    clear hno hk HC
    go_enter Tryz.func19, Tryz.ntmps19
    go_wp2_with fail
    go_ret2
    exact ⟨rfl, below_alloc (Below.refl _ _) _⟩
set_option maxRecDepth 100000 in
set_option maxHeartbeats 4000000 in
theorem FdBody_ok (f : Fr) (A : Option Addr) (c N : Nat) (w : World) (hk : f.kind = 2) (hok : okF f = true) (h0 : 0 ≤ f.id) (hr : Rd w A (bys f.data)) (hby : isBytes f.data) (hN : (bodyD f).length = N) :
    Calls Tryz.prog 19 #[frv f (.slice A f.data.length c)] w fun e w' => (∃ A' c', e = .returned (.tuple #[.slice A' N c', .int .i64 0]) ∧ Row w' w.heap.size 5 A' c' (bys (bodyD f))) ∧ Below w.heap.size w w' := by
  obtain ⟨hid, hn64, co, hco16, hcode, -⟩ := okD f hk hok
  have HC := Lib.hid (fun W => Check_any f A c W (by omega))
  rw [hok] at HC
  have he : errV true = .int .i64 0 := rfl
  rw [he] at HC
  have HH := Lib.hid (fun W => headD_any f A f.data.length c W h0 hid)
  have HCO := Lib.hid (fun W => Code_any f.kind f.data.length W (by omega) (by omega))
  rw [hcode] at HCO
  have hcv : codeV (some (co : Int)) = .tuple #[.int .i64 (co : Int), .int .i64 0] := rfl
  rw [hcv] at HCO
  have hcd : codeD f = co := by unfold codeD; rw [hcode]; simp
  have hb : bodyD f = headD f ++ bitsN (bitB f.brs) 1 ++ bitsN (bitB f.esi) 1 ++ bitsN co 4 ++ bytesN f.data := by unfold bodyD; rw [hcd]
  rw [bodyD_length] at hN
  have hlh := headD_length f
  obtain ⟨hX, hhX⟩ : ∃ hX, headD f = hX := ⟨_, rfl⟩
  obtain ⟨BX, hBX⟩ : ∃ BX, bodyD f = BX := ⟨_, rfl⟩
  rw [hhX] at HH hb hlh
  rw [hBX] at hb ⊢
  have HBX := Lib.hid hb
  have HR := Lib.hid hr
  have HBY := Lib.hid hby
  have HLH := Lib.hid hlh
  obtain ⟨kind, id, ext, rtr, brs, esi, sec, sdt, vcid, af, data⟩ := f
  dsimp only [frv] at *
  subst hk
  obtain ⟨n, hn⟩ : ∃ n, data.length = n := ⟨_, rfl⟩
  rw [hn] at HC HH HCO hN ⊢
  rw [hn] at hn64
  have HN := Lib.hid hn
  clear hr hby hok he h0 hid hcode hcv hcd hb hlh hhX hBX hn
  subst hN
  have i0 : ∀ w : World, (Instr.index 68 (.agg #[.bool brs, .bool esi]) (.int .i64 0)).run Tryz.prog w = .ok (.bool brs) w := fun _ => by kernel_rfl
  have i1 : ∀ w : World, (Instr.index 68 (.agg #[.bool brs, .bool esi]) (.int .i64 1)).run Tryz.prog w = .ok (.bool esi) w := fun _ => by kernel_rfl
  go_enter Tryz.func19, Tryz.ntmps19
  go_wp2_with fail
  refine calls_blk1 (fun W0 q1 hb => ?_)
  have HB := Lib.hid hb
  obtain ⟨a0, a1, a2, a3, a4, a5, a6, a7, a8, a9, a10⟩ := ext11 q1
  have hsz := ext_lt q1
  clear hb q1
  refine (extc_same (HC.out _)).mono ?_
  rintro x _ ⟨e1, rfl, rfl⟩
  go_wp2_with fail
  refine (extcB (HH.out e1.W)).mono ?_
  rintro x _ ⟨e2, rfl, HB2, A2, c2, rfl, hrow2⟩
  obtain ⟨g2, rfl, hg2, hca, hcb⟩ := row_some (n := 16) hrow2 HLH.out (by decide)
  have HROW2 := Lib.hid hrow2
  clear hrow2
  go_wp2_with fail
  refine wp_loop_rounds 3 ?_
  rw [rounds_succ]
  go_wp2_with fail
  obtain ⟨p, hp⟩ : ∃ p, e2.W.heap.size = p := ⟨_, rfl⟩
  rw [hp] at hg2
  have hs1 := hsz e1
  have hs2 : e1.W.heap.size ≤ p := by rw [← hp]; exact HB2.out.size
  rw [hp]
  refine calls_name (T := fun W1 => W1.heap[p]? = some (.cells #[.slice (some ⟨g2, 0, none⟩) 16 c2] 66) ∧ Below e2.W.heap.size e2.W W1) ⟨heap_new_at hp.symm, below_alloc (Below.refl _ _) _⟩ ?_
  rintro W1 ⟨q2, hb1⟩
  obtain ⟨B, hB⟩ : ∃ B, e1.W.heap.size = B := ⟨_, rfl⟩
  rw [hB] at hs1 hs2
  have hpot : Pot W1 B p 66 (some ⟨g2, 0, none⟩) c2 hX := ⟨by rw [HLH.out]; exact q2, fun ad e => by injection e with e; subst e; show g2 ≠ p; omega, by have := heap_lt q2; omega, by rw [← hB]; exact HROW2.out.below hb1⟩
  have hb01 : Below W0.heap.size W0 W1 := below_trans e2.below hb1
  have g0 : W1.cell? ⟨w.heap.size, 0, none⟩ = some (.int .i64 2) := a0 ⟨W1, hb01⟩
  have g10 : W1.cell? ⟨w.heap.size, 10, none⟩ = some (.slice A n c) := a10 ⟨W1, hb01⟩
  have b0 := fun e : KE B p W1 => ke_cell g0 (by show w.heap.size < _; omega) (by show w.heap.size ≠ _; omega) e
  have b10 := fun e : KE B p W1 => ke_cell g10 (by show w.heap.size < _; omega) (by show w.heap.size ≠ _; omega) e
  have HPOT := Lib.hid hpot
  have HB01 := Lib.hid hb01
  have hw0 : W0.heap.size ≤ B := by rw [← hB]; exact e1.below.size
  have HSB := Lib.hid hB
  have hszW := heap_lt q2
  clear hp q2 hb1 hpot hb01 g0 g10 hB a0 a1 a2 a3 a4 a5 a6 a7 a8 a9 a10 HC HH hsz
  refine (kec_same (fdFlag_any _ _ _ _ _ _ brs _ HPOT.out (by rw [HLH.out]; decide))).mono ?_
  rintro x _ ⟨k1, rfl, rfl, B1, d1, hp1⟩
  have HP1 := Lib.hid hp1
  clear hp1
  go_wp2_with fail
  rw [rounds_succ]
  go_wp2_with fail
  refine (kec (fdFlag_any _ _ _ _ _ _ esi _ HP1.out (by rw [List.length_append, HLH.out, bitsN_length]; decide))).mono ?_
  rintro x _ ⟨k2, rfl, rfl, B2, d2, hp2⟩
  have HP2 := Lib.hid hp2
  clear hp2
  go_wp2_with fail
  rw [rounds_succ]
  go_wp2_with fail
  refine (HCO.out _).mono ?_
  rintro x w3 ⟨rfl, hb3⟩
  obtain ⟨k3, hk3⟩ : ∃ k3 : KE B p W1, k3.W = w3 := ⟨⟨w3, k2.keep.trans (Keep.of hb3 HP2.out.size)⟩, rfl⟩
  have HP3 := Lib.hid (HP2.out.below hb3)
  subst hk3
  clear hb3
  go_wp2_with fail
  refine (kec (fdPut_row _ _ _ _ _ _ _ _ co 4 _ ?c4 rfl HP3.out (by omega) (by omega) (by omega) (by rw [List.length_append, List.length_append, HLH.out, bitsN_length, bitsN_length]; decide))).mono ?_
  case c4 => first | rfl | omega
  rintro x _ ⟨k4, rfl, rfl, B4, d4, hp4⟩
  obtain ⟨L4, hL4⟩ : ∃ L, hX ++ bitsN (bitB brs) 1 ++ bitsN (bitB esi) 1 ++ bitsN co 4 = L := ⟨_, rfl⟩
  rw [hL4] at hp4
  have hl4 : L4.length = 22 := by rw [← hL4]; simp [bitsN_length, HLH.out]
  have c04 : k4.W.cell? ⟨p, 0, none⟩ = some (.slice B4 22 d4) := by rw [← hl4]; exact hp4.cell
  have g10 := b10 k4
  have HP4 := Lib.hid hp4
  have HL4 := Lib.hid hl4
  have HE4 := Lib.hid hL4
  have hrdA : Rd k4.W A (bys data) := ((HR.out.below HB.out).below HB01.out).keep k4.keep (fun ad h1 h2 => by have := HR.out.lt ad h1 h2; omega)
  have HRA := Lib.hid hrdA
  have x04 := fun e : Ext k4.W => ext_cell c04 e
  have x10 := fun e : Ext k4.W => ext_cell g10 e
  clear hp4 hl4 hL4 hrdA c04 g10
  go_wp2_with fail
  refine wp_region_mix (fun w' => ∃ e : Ext k4.W, w' = e.W) [(true, 0), (true, 1), (true, 2), (false, 3), (false, 4), (false, 5), (true, 6), (true, 7)] [] (by kernel_rfl) (by kernel_rfl) (by intro _ _ d _ _ h; cases d <;> exact h) ⟨⟨k4.W.drew, (Below.refl _ _).drew⟩, rfl⟩ ?_
  simp only [pickM, pickL, List.drop_succ_cons, List.drop_zero]
  repeat (refine mix_pure (by rfl) (by rfl) ?_; intro K hK; go_big_quiet_op; go_big_quiet_on)
  refine mix_eff (by rfl) ?_
  intro K hK
  go_simp
  refine (Bytes_any _ A c n data HRA.out.drew HN.out (by omega) HBY.out).mono ?_
  rintro x w5 ⟨⟨A5, c5, rfl, hrow5⟩, hb5⟩
  have hb45 : Below k4.W.heap.size k4.W w5 := below_trans (Below.refl _ _).drew hb5
  refine hK _ _ ⟨⟨w5, hb45⟩, rfl⟩ ?_
  clear hK K
  have HROW5 := Lib.hid hrow5
  have HB45 := Lib.hid hb45
  clear hrow5 hb5 hb45
  refine mix_eff (by rfl) ?_
  intro K hK
  go_simp
  refine hK _ _ ⟨⟨_, below_alloc HB45.out _⟩, rfl⟩ ?_
  clear hK K
  refine mix_eff (by rfl) ?_
  intro K hK
  go_simp
  refine calls_name (T := fun W6 => W6.heap[w5.heap.size]? = some (.cells #[.slice B4 22 d4, .slice A5 (8 * n : Nat) c5] 66) ∧ Below w5.heap.size w5 W6) ⟨heap_new_at rfl, below_alloc (Below.refl _ _) _⟩ ?_
  rintro W6 ⟨q6, hb6⟩
  have hcat := concatPF (N := 22 + 8 * n) (n := 2) [(B4, d4, L4), (A5, c5, bytesN data)] _ q6 (by simp [partV, HL4.out, bytesN_length, HN.out]) rfl (by
    intro p hp
    simp only [List.mem_cons, List.not_mem_nil, or_false] at hp
    rcases hp with rfl | rfl
    · exact ((HP4.out.row.below HB45.out).below hb6).part
    · exact (HROW5.out.below hb6).part) (by simp [partsL, HL4.out, bytesN_length, HN.out]) (by omega) (by decide)
  have hpl : partsL [(B4, d4, L4), (A5, c5, bytesN data)] = BX := by rw [HBX.out, HE4.out]; simp [partsL]
  rw [hpl] at hcat
  refine hcat.mono ?_
  rintro x w7 ⟨⟨A7, c7, rfl, hrow7⟩, hb7⟩
  have hb47 : Below k4.W.heap.size k4.W w7 := below_trans (below_trans HB45.out hb6) hb7
  refine hK _ _ ⟨⟨w7, hb47⟩, rfl⟩ ?_
  clear hK K
  repeat (refine mix_pure (by rfl) (by rfl) ?_; intro K hK; go_big_quiet_op; go_big_quiet_on)
  refine mix_nil (wpList_nil ?_)
  have hge : w.heap.size ≤ W6.heap.size := by have h1 := (below_trans HB45.out hb6).size; have h2 := k4.keep.size; omega
  have HROW7 := Lib.hid (hrow7.mono hge)
  have HB7 := Lib.hid (((below_trans HB.out HB01.out).trans (k4.keep.below (by omega) (by omega))).trans (hb47.mono (by have h2 := k4.keep.size; omega)))
  clear hcat hpl q6 hb6 hrow7 hb7 hb47 x04 x10
  go_wp2_with fail
  go_ret2
  exact ⟨⟨A7, c7, rfl, HROW7.out⟩, HB7.out⟩
end Go.Proofs.YtlmdkmflbhnlgaaGreat
-- FdClose: fd.close: what stands behind an FD frame's first raw bits. No condition.
namespace Go.Proofs.YtlmdkmflbhnlgaaGreat
open Go.RowKit
theorem of_S (n : Nat) : OfK (kindS n) (sizeS n) (polyS n) (startS n) := by
  unfold kindS sizeS polyS startS
  by_cases h : 16 < n
  · simp only [if_pos h]; exact of_3
  · simp only [if_neg h]; exact of_2
theorem fdSum_any (n : Nat) (w : World) (hn : n ≤ 100000) : Calls Tryz.prog 79 #[.int .i64 n] w fun e w' => e = .returned (.int .i64 (kindS n)) ∧ w = w' := by
  unfold kindS
  by_cases h : 16 < n
  · have h2 : (16 : Int) < (n : Int) := by omega
    rw [if_pos h]
    go_enter Tryz.func79, Tryz.ntmps79
    go_wp2
    go_ret
    exact ⟨rfl, rfl⟩
  · have h2 : ¬ (16 : Int) < (n : Int) := by omega
    rw [if_neg h]
    go_enter Tryz.func79, Tryz.ntmps79
    go_wp2
    go_ret
    exact ⟨rfl, rfl⟩
theorem fdWay_any (w : World) : Calls Tryz.prog 80 #[] w fun e w' => e = .returned (wayV 4 true) ∧ Below w.heap.size w w' := by
  go_enter Tryz.func80, Tryz.ntmps80
  go_wp2
  exact bodyPost_ret (v := wayV 4 true) (by simp [results, Tryz.results80, go_sem]) rfl ⟨rfl, below_alloc (Below.refl _ _) _⟩
theorem rd_dropD {w : World} {g k : Nat} {l : List Nat} (h : Rd w (some ⟨g, 0, none⟩) (bys l)) : Rd w (some ⟨g, k, none⟩) (bys (l.drop k)) := by
  intro j u hj
  refine ⟨_, rfl, ?_⟩
  have h1 : (bys l)[k + j]? = some u := by
    rw [← hj]
    simp [bys]
  obtain ⟨ad, e, hc⟩ := h (k + j) u h1
  injection e with e
  subst e
  rw [← hc]
  unfold Addr.add
  by_cases h0 : j = 0 <;> by_cases h2 : k = 0 <;> simp [h0, h2]
set_option maxRecDepth 100000 in
set_option maxHeartbeats 4000000 in
theorem fdClose_any (g c n st sz N : Nat) (raw : List Nat) (w : World) (hr : Rd w (some ⟨g, 0, none⟩) (bys raw)) (hn : raw.length = n) (hn1 : 1 ≤ n) (hn2 : n ≤ 5000) (hc : n ≤ c) (_hc2 : c ≤ 9223372036854775807) (h01 : ∀ x ∈ raw, x ≤ 1) (hst : st ≤ 5000) (hsz : sz ≤ 100) (hN : (closeD raw st sz).length = N) :
    Calls Tryz.prog 56 #[.slice (some ⟨g, 0, none⟩) n c, .int .i64 st, .int .i64 sz] w fun e w' => (∃ A' c', e = .returned (.slice A' N c') ∧ Row w' w.heap.size 5 A' c' (bys (closeD raw st sz))) ∧ Below w.heap.size w w' := by
  have hS := sizeS_or sz
  have hcb : ∀ x ∈ raw ++ tallyN st, x ≤ 1 := fun x hx => by rcases List.mem_append.1 hx with h | h; exact h01 x h; exact tallyN_bits _ x h
  have hlast : lastN raw ≤ 1 := lastN_le raw h01
  have y0 : raw[n - 1]? = some (lastN raw) := by
    unfold lastN
    rw [hn, List.getElem?_eq_getElem (by omega)]; rfl
  have hal : (addN (sizeS sz) (polyS sz) (startS sz) (raw ++ tallyN st)).drop n = sealD raw st sz := by
    unfold addN sealD
    rw [List.append_assoc, List.drop_append_of_le_length (by omega), ← hn, List.drop_length, List.nil_append]
  have hsel := sealD_length raw st sz
  have HADD := Lib.hid (fun (W : World) (base : Nat) (A2 : Option Addr) (c2 : Nat) (hrow : Row W base 5 A2 c2 (bys (raw ++ tallyN st))) => Add_row (of_S sz) (n + 4) c2 (n + 4 + sizeS sz) base A2 (raw ++ tallyN st) W hrow (by rw [List.length_append, tallyN_length, hn]) (by omega) hcb rfl)
  have HFP := Lib.hid (fun (W : World) (A2 : Option Addr) (c2 : Nat) (hW : Rd W A2 (bys (sealD raw st sz))) => FixedPut_any W A2 (lastN raw) 4 c2 (4 + sizeS sz) N true (sealD raw st sz) (by decide) (by decide) hlast hW (sealD_length _ _ _) (by omega) (by omega) (sealD_bits _ _ _) hN)
  have hcl : closeD raw st sz = fixN 4 true (lastN raw) (sealD raw st sz) := rfl
  rw [hcl]
  have hk1 : kindS sz = 2 ∨ kindS sz = 3 := by unfold kindS; split <;> simp
  obtain ⟨la, hla⟩ : ∃ la, lastN raw = la := ⟨_, rfl⟩
  obtain ⟨S, hSS⟩ : ∃ S, sizeS sz = S := ⟨_, rfl⟩
  obtain ⟨K, hKK⟩ : ∃ K, kindS sz = K := ⟨_, rfl⟩
  obtain ⟨ad, had⟩ : ∃ ad, addN (sizeS sz) (polyS sz) (startS sz) (raw ++ tallyN st) = ad := ⟨_, rfl⟩
  obtain ⟨se, hse⟩ : ∃ se, sealD raw st sz = se := ⟨_, rfl⟩
  have HSUM := Lib.hid (fun W => fdSum_any sz W (by omega))
  rw [hla] at hlast y0 HFP ⊢
  rw [hse] at hal HFP hsel ⊢
  rw [had] at hal HADD
  rw [hSS] at hS HADD HFP hsel
  rw [hKK] at HADD HSUM
  have HR := Lib.hid hr
  have HRN := Lib.hid hn
  have HAL := Lib.hid hal
  have HSEL := Lib.hid hsel
  have c0 : w.cell? ⟨g, n - 1, none⟩ = some (.int .u8 (la : Int)) := by
    obtain ⟨a, e, hc0⟩ := hr (n - 1) (.int .u8 (la : Int)) (by simp [bys, y0])
    injection e with e
    subst e
    rw [← hc0]
    unfold Addr.add
    by_cases h0 : n - 1 = 0 <;> simp [h0]
  have HC0 := Lib.hid c0
  have i1 : (n : Int) - 1 = ((n - 1 : Nat) : Int) := by omega
  clear hr hn h01 hcb y0 hal hsel hN hcl hk1 hla hSS hKK had hse c0
  go_enter Tryz.func56, Tryz.ntmps56
  go_wp2_with fail
  refine (extc_same (Tally_any st _ (by omega))).mono ?_
  rintro x _ ⟨e1, rfl, A1, c1, rfl, hrow1⟩
  have HROW1 := Lib.hid hrow1
  clear hrow1
  go_wp2_with fail
  refine (HSUM.out _).mono ?_
  rintro x _ ⟨rfl, rfl⟩
  go_wp2_with fail
  refine (concat2 e1.W (some ⟨g, 0, none⟩) A1 c c1 n 4 (n + 4) raw (tallyN st) ⟨HR.out.ext e1, fun _ h => by cases h⟩ HROW1.out.part HRN.out (tallyN_length _) rfl (by omega)).mono ?_
  rintro x w2 ⟨⟨A2, c2, rfl, hrow2⟩, hb2⟩
  have hb02 : Below w.heap.size w w2 := below_trans (below_alloc e1.below _) hb2
  obtain ⟨e2, he2⟩ : ∃ e : Ext w, e.W = w2 := ⟨⟨w2, hb02⟩, rfl⟩
  have HROW2 := Lib.hid hrow2
  subst he2
  clear hrow2 hb2 hb02
  go_wp2_with fail
  refine (extcB (HADD.out _ _ _ _ HROW2.out)).mono ?_
  rintro x _ ⟨e3, rfl, HB3, A3, c3, rfl, hrow3⟩
  have hadl : ad.length = n + 4 + S := by
    have h1 : (ad.drop n).length = 4 + S := by rw [HAL.out]; exact HSEL.out
    rw [List.length_drop] at h1
    have h2 := hrow3.cap
    have h3 : n ≤ ad.length := by omega
    omega
  obtain ⟨g3, rfl, hg3, hc3a, hc3b⟩ := row_some (n := n + 4 + S) hrow3 hadl (by omega)
  have HRD3 := Lib.hid (rd_dropD (k := n) hrow3.rd)
  have y0 := fun e : Ext e3.W => Below.cell_of (e3.below) HC0.out
  have z1 : (0 : Int) ≤ (n : Int) := by omega
  have z2 : (n : Int) ≤ ((n + 4 + S : Nat) : Int) := by omega
  have z3 : ((n + 4 + S : Nat) : Int) ≤ (c3 : Int) := by omega
  have z4 : (n : Int) ≤ (c : Int) := by omega
  clear hrow3 hadl
  go_wp2_with fail
  refine wp_region_mix (fun w' => ∃ e : Ext e3.W, w' = e.W) [(true, 0), (true, 1), (true, 2), (true, 3), (true, 4), (true, 5), (true, 6), (true, 7), (true, 8), (true, 9), (false, 10), (false, 11), (true, 12), (true, 13), (true, 14), (true, 15), (true, 16)] [] (by kernel_rfl) (by kernel_rfl) (by intro _ _ d _ _ h; cases d <;> exact h) ⟨⟨e3.W.drew, (Below.refl _ _).drew⟩, rfl⟩ ?_
  simp only [pickM, pickL, List.drop_succ_cons, List.drop_zero]
  have y1 : ∀ e : Ext e3.W, e.W.cell? ⟨g, n - 1, none⟩ = some (.int .u8 (la : Int)) := fun e => Below.cell_of (below_trans e3.below e.below) HC0.out
  clear y0
  repeat (refine mix_pure (by rfl) (by rfl) ?_; intro K hK; go_big_quiet_op; go_big_quiet_on)
  refine mix_eff (by rfl) ?_
  intro K' hK
  go_simp
  refine (fdWay_any _).mono ?_
  rintro x w5 ⟨rfl, hb5⟩
  have hb35 : Below e3.W.heap.size e3.W w5 := below_trans (Below.refl _ _).drew hb5
  have HB35 := Lib.hid hb35
  refine hK _ _ ⟨⟨w5, hb35⟩, rfl⟩ ?_
  clear hK K' hb5 hb35
  refine mix_eff (by rfl) ?_
  intro K' hK
  go_simp
  rw [show n + 4 + S - n = 4 + S by omega]
  refine (HFP.out w5 (some ⟨g3, n, none⟩) (c3 - n) (by rw [← HAL.out]; exact HRD3.out.below HB35.out)).mono ?_
  rintro x w6 ⟨⟨A6, c6, rfl, hrow6⟩, hb6⟩
  have hb36 : Below e3.W.heap.size e3.W w6 := below_trans HB35.out hb6
  refine hK _ _ ⟨⟨w6, hb36⟩, rfl⟩ ?_
  clear hK K'
  repeat (refine mix_pure (by rfl) (by rfl) ?_; intro K' hK; go_big_quiet_op; go_big_quiet_on)
  refine mix_nil (wpList_nil ?_)
  have HROW6 := Lib.hid (hrow6.mono (below_trans e3.below HB35.out).size)
  have HB6 := Lib.hid (below_trans e3.below hb36)
  clear hrow6 hb6 hb36 y1
  go_wp2_with fail
  go_ret
  exact ⟨⟨A6, c6, rfl, HROW6.out⟩, HB6.out⟩
end Go.Proofs.YtlmdkmflbhnlgaaGreat
-- FdWire: fd.Wire: an FD frame on the wire. No condition.
namespace Go.Proofs.YtlmdkmflbhnlgaaGreat
open Go.RowKit
set_option maxRecDepth 100000 in
set_option maxHeartbeats 2000000 in
theorem FdWire_no (f : Fr) (A : Option Addr) (c : Nat) (w : World) (hl : f.data.length ≤ 9223372036854775807) (hno : ¬ (f.kind = 2 ∧ okF f = true)) :
    Calls Tryz.prog 31 #[frv f (.slice A f.data.length c)] w fun e w' => e = .returned (.tuple #[.agg #[.slice none 0 0, .int .i64 0, .int .i64 0], .int .i64 2]) ∧ Below w.heap.size w w' := by
  have HC := Lib.hid (fun W => FdBody_no f A c W hl hno)
  obtain ⟨kind, id, ext, rtr, brs, esi, sec, sdt, vcid, af, data⟩ := f
  dsimp only [frv] at *
  generalize data.length = n at *
  clear hno
  go_enter Tryz.func31, Tryz.ntmps31
  go_wp2_with fail
  refine calls_blk2 (fun W0 q1 q2 hb => ?_)
  have HB := Lib.hid hb
  have HQ2 := Lib.hid q2
  have hsz := heap_lt q2
  clear hb q1 q2
  refine (HC.out _).mono ?_
  rintro e w1 ⟨rfl, hb1⟩
  have hq := heap_below hb1 HQ2.out
  have c0 := cell_of_heap hq 0 _ rfl
  have c1 := cell_of_heap hq 1 _ rfl
  have c2 := cell_of_heap hq 2 _ rfl
  have z0 : w1.frozen? ⟨w.heap.size + 1, 0, none⟩ = false := by simp [World.frozen?, hq]
  have z1 : w1.frozen? ⟨w.heap.size + 1, 1, none⟩ = false := by simp [World.frozen?, hq]
  have z2 : w1.frozen? ⟨w.heap.size + 1, 2, none⟩ = false := by simp [World.frozen?, hq]
  have HB1 := Lib.hid hb1
  have HQ3 := Lib.hid hq
  clear hb1 hq
  go_wp2_with fail
  refine bodyPost_ret (v := .tuple #[.agg #[.slice none 0 0, .int .i64 0, .int .i64 0], .int .i64 2]) (by simp [results, Tryz.results31, go_sem, c0, c1, c2]) rfl ⟨rfl, ?_⟩
  have h := below_trans HB.out HB1.out
  exact ((h.setCell (p := ⟨w.heap.size + 1, 0, none⟩) (by show w.heap.size ≤ w.heap.size + 1; omega) _).setCell (p := ⟨w.heap.size + 1, 1, none⟩) (by show w.heap.size ≤ w.heap.size + 1; omega) _).setCell (p := ⟨w.heap.size + 1, 2, none⟩) (by show w.heap.size ≤ w.heap.size + 1; omega) _
set_option maxRecDepth 100000 in
set_option maxHeartbeats 4000000 in
theorem FdWire_ok (f : Fr) (A : Option Addr) (c NR NH : Nat) (w : World) (hk : f.kind = 2) (hok : okF f = true) (h0 : 0 ≤ f.id) (hr : Rd w A (bys f.data)) (hby : isBytes f.data) (hNR : (rawD f).length = NR) (hNH : (stuffN (headD f)).length = NH) :
    Calls Tryz.prog 31 #[frv f (.slice A f.data.length c)] w fun e w' => (∃ A' c', e = .returned (.tuple #[.agg #[.slice A' (NR + 10 : Nat) c', .int .i64 (NH : Nat), .int .i64 (NR + 1 : Nat)], .int .i64 0]) ∧ Row w' w.heap.size 5 A' c' (bys (wireD f))) ∧ Below w.heap.size w w' := by
  obtain ⟨hid, hn64, -⟩ := okD f hk hok
  obtain ⟨hNHR, hNR2, -⟩ := fd_bound f hk hok
  rw [hNR, hNH] at hNHR
  rw [hNR] at hNR2
  obtain ⟨NB, hNB⟩ : ∃ NB, (bodyD f).length = NB := ⟨_, rfl⟩
  have hNB2 : NB = 22 + 8 * f.data.length := by rw [← hNB, bodyD_length]
  obtain ⟨N0, hN0⟩ : ∃ N0, (raw0D f).length = N0 := ⟨_, rfl⟩
  have hN02 := raw0D_len f
  rw [hN0] at hN02
  obtain ⟨NC, hNC⟩ : ∃ NC, (closeD (raw0D f) ((raw0D f).length - (bodyD f).length) f.data.length).length = NC := ⟨_, rfl⟩
  have hNRe : N0 + NC = NR := by rw [← hNR]; unfold rawD; rw [List.length_append, hNC, hN0]
  have HBody := Lib.hid (fun W (hW : Rd W A (bys f.data)) => FdBody_ok f A c NB W hk hok h0 hW hby hNB)
  have HHead := Lib.hid (fun W => headD_any f A f.data.length c W h0 hid)
  have HbB := Lib.hid (bodyD_bits f)
  have HhB := Lib.hid (headD_bits f)
  have H0B := Lib.hid (raw0D_bits f)
  have HW : Hid (wireD f = raw0D f ++ closeD (raw0D f) (N0 - NB) f.data.length ++ List.replicate 10 1) := by show wireD f = _; unfold wireD rawD; rw [hN0, hNB]
  have h00 : raw0D f = stuffN (bodyD f) := rfl
  rw [hN0, hNB] at hNC
  obtain ⟨bo, hbo⟩ : ∃ bo, bodyD f = bo := ⟨_, rfl⟩
  obtain ⟨hL, hhL⟩ : ∃ hL, headD f = hL := ⟨_, rfl⟩
  have hhl : hL.length = 16 := by rw [← hhL]; exact headD_length f
  obtain ⟨wi, hwi⟩ : ∃ wi, wireD f = wi := ⟨_, rfl⟩
  obtain ⟨r0, hr0⟩ : ∃ r0, raw0D f = r0 := ⟨_, rfl⟩
  rw [hbo] at HBody HbB hNB h00
  rw [hhL] at HHead HhB hNH
  rw [hr0] at H0B h00 hN0 hNC
  rw [hwi, hr0] at HW
  rw [hwi]
  obtain ⟨kind, id, ext, rtr, brs, esi, sec, sdt, vcid, af, data⟩ := f
  dsimp only [frv] at *
  obtain ⟨n, hn⟩ : ∃ n, data.length = n := ⟨_, rfl⟩
  rw [hn] at HBody HHead hNB2 hN02 hn64 HW hNC ⊢
  obtain ⟨cl, hcl⟩ : ∃ cl, closeD r0 (N0 - NB) n = cl := ⟨_, rfl⟩
  have HCL := Lib.hid (fun (W : World) (g c2 : Nat) (hW : Rd W (some ⟨g, 0, none⟩) (bys r0)) (h1 : N0 ≤ c2) (h2 : c2 ≤ 9223372036854775807) => fdClose_any g c2 N0 (N0 - NB) n NC r0 W hW hN0 (by omega) (by omega) h1 h2 H0B.out (by omega) (by omega) hNC)
  rw [hcl] at HCL HW hNC
  rw [h00] at hN0
  have HNB := Lib.hid hNB
  have HN0 := Lib.hid hN0
  have HNC := Lib.hid hNC
  have HNH := Lib.hid hNH
  have HHL := Lib.hid hhl
  have HR := Lib.hid hr
  have HNRE := Lib.hid hNRe
  have H00 := Lib.hid h00
  have hsub : (N0 : Int) - (NB : Int) = ((N0 - NB : Nat) : Int) := by omega
  have HSUB := Lib.hid hsub
  obtain ⟨hN0a, hN0b⟩ := hN02
  have hN0c : N0 ≤ 1000 := by omega
  have hNBc : NB ≤ N0 := by omega
  clear hNB hN0 hNC hNH hhl hr hNRe hbo hhL hwi hr0 hn hok h0 hby hk hNR hid hcl h00 hsub hNB2
  go_enter Tryz.func31, Tryz.ntmps31
  go_wp2_with fail
  refine calls_blk2 (fun W0 q1 q2 hb => ?_)
  have HB := Lib.hid hb
  have HQ2 := Lib.hid q2
  have hsz := heap_lt q2
  have hsz1 := ext_lt q1
  obtain ⟨a0, a1, a2, a3, a4, a5, a6, a7, a8, a9, a10⟩ := ext11 q1
  clear hb q1 q2
  refine (extc_same (HBody.out _ (HR.out.below HB.out))).mono ?_
  rintro x _ ⟨e1, rfl, A1, c1, rfl, hrow1⟩
  have HROW1 := Lib.hid hrow1
  clear hrow1
  go_wp2_with fail
  refine (extcB (StuffPut_any _ A1 c1 NB N0 bo HROW1.out.rd HNB.out (by omega) HbB.out HN0.out)).mono ?_
  rintro x _ ⟨e2, rfl, HB2, A2, c2, rfl, hrow2⟩
  rw [← H00.out] at hrow2
  obtain ⟨g2, rfl, hg2, hc2a, hc2b⟩ := row_some (n := N0) hrow2 (by rw [H00.out]; exact HN0.out) (by omega)
  have HROW2 := Lib.hid (hrow2.mono (ext_ge e1))
  clear hrow2
  go_wp2_with fail
  refine (extcB (HHead.out _)).mono ?_
  rintro x _ ⟨e3, rfl, HB3, A3, c3, rfl, hrow3⟩
  have HROW3 := Lib.hid hrow3
  have HROW23 := Lib.hid (HROW2.out.below HB3.out)
  clear hrow3
  go_wp2_with fail
  refine (extcB (StuffPut_any _ A3 c3 16 NH hL HROW3.out.rd HHL.out (by omega) HhB.out HNH.out)).mono ?_
  rintro x _ ⟨e4, rfl, HB4, A4, c4, rfl, hrow4⟩
  have HROW24 := Lib.hid (HROW23.out.below HB4.out)
  clear hrow4
  go_wp2_with fail
  rw [HSUB.out]
  refine (extcB (HCL.out _ _ _ HROW24.out.rd hc2a hc2b)).mono ?_
  rintro x _ ⟨e5, rfl, HB5, A5, c5, rfl, hrow5⟩
  have HROW5 := Lib.hid hrow5
  have HROW25 := Lib.hid (HROW24.out.below HB5.out)
  clear hrow5 a0 a1 a2 a3 a4 a5 a6 a7 a8 a9 a10
  go_wp2_with fail
  refine (repeat_any _ _ (heap_new_at rfl)).mono ?_
  rintro x w8 ⟨⟨A8, c8, rfl, hrow8⟩, hb8⟩
  have hb78 : Below e5.W.heap.size e5.W w8 := below_trans (below_alloc (Below.refl _ _) _) hb8
  obtain ⟨e8, he8⟩ : ∃ e : Ext W0, e.W = w8 := ⟨⟨w8, below_trans e5.below hb78⟩, rfl⟩
  subst he8
  have HROW8 := Lib.hid hrow8
  have HROW28 := Lib.hid (HROW25.out.below hb78)
  have HROW58 := Lib.hid (HROW5.out.below hb78)
  clear hrow8 hb8 hb78
  go_wp2_with fail
  refine calls_name (T := fun W1 => W1.heap[e8.W.heap.size]? = some (.cells #[.slice (some ⟨g2, 0, none⟩) N0 c2, .slice A5 NC c5, .slice A8 10 c8] 22) ∧ Below e8.W.heap.size e8.W W1) ⟨heap_new_at rfl, below_alloc (Below.refl _ _) _⟩ ?_
  rintro W1 ⟨q9, hb9⟩
  have hcat := concatP (N := NR + 10) (n := 3) [(some ⟨g2, 0, none⟩, c2, r0), (A5, c5, cl), (A8, c8, List.replicate 10 1)] _ q9 (by simp [partV, H00.out, HN0.out, HNC.out]) rfl (by
    intro p hp
    simp only [List.mem_cons, List.not_mem_nil, or_false] at hp
    rcases hp with rfl | rfl | rfl
    · exact (HROW28.out.below hb9).part
    · exact (HROW58.out.below hb9).part
    · exact (HROW8.out.below hb9).part) (by simp [partsL, H00.out, HN0.out, HNC.out]; have := HNRE.out; omega) (by omega) (by decide)
  have hpl : partsL [(some ⟨g2, 0, none⟩, c2, r0), (A5, c5, cl), (A8, c8, List.replicate 10 1)] = wi := by rw [HW.out]; simp [partsL]
  rw [hpl] at hcat
  refine hcat.mono ?_
  rintro x w10 ⟨⟨A10, c10, rfl, hrow10⟩, hb10⟩
  have hbw : Below W0.heap.size W0 w10 := below_trans (below_trans e8.below hb9) hb10
  have hq := heap_below hbw HQ2.out
  have r0' := cell_of_heap hq 0 _ rfl
  have r1' := cell_of_heap hq 1 _ rfl
  have r2' := cell_of_heap hq 2 _ rfl
  have z0 : w10.frozen? ⟨w.heap.size + 1, 0, none⟩ = false := by simp [World.frozen?, hq]
  have z1 : w10.frozen? ⟨w.heap.size + 1, 1, none⟩ = false := by simp [World.frozen?, hq]
  have z2 : w10.frozen? ⟨w.heap.size + 1, 2, none⟩ = false := by simp [World.frozen?, hq]
  have hge : W0.heap.size ≤ W1.heap.size := (below_trans e8.below hb9).size
  have HROW10 := Lib.hid (hrow10.mono hge)
  have HBW := Lib.hid hbw
  have HQ10 := Lib.hid hq
  clear hcat hpl q9 hb9 hrow10 hb10 hbw hq
  go_wp2_with fail
  refine bodyPost_ret (v := .tuple #[.agg #[.slice A10 (NR + 10 : Nat) c10, .int .i64 (NH : Nat), .int .i64 (NR + 1 : Nat)], .int .i64 0]) (by simp [results, Tryz.results31, go_sem, r0', r1', r2']) rfl ⟨⟨A10, c10, rfl, ?_⟩, ?_⟩
  · have h7 : ∀ ad, A10 = some ad → ad.block ≠ w.heap.size + 1 := fun ad e => by have := HROW10.out.ge ad e; omega
    exact (((HROW10.out.setCell h7 0 _).setCell h7 1 _).setCell h7 2 _).mono (by omega)
  · have h := below_trans HB.out HBW.out
    exact ((h.setCell (p := ⟨w.heap.size + 1, 0, none⟩) (by show w.heap.size ≤ w.heap.size + 1; omega) _).setCell (p := ⟨w.heap.size + 1, 1, none⟩) (by show w.heap.size ≤ w.heap.size + 1; omega) _).setCell (p := ⟨w.heap.size + 1, 2, none⟩) (by show w.heap.size ≤ w.heap.size + 1; omega) _
end Go.Proofs.YtlmdkmflbhnlgaaGreat
-- WireS: Any frame on the wire, by the program's own: its bits, and where its slot lies. No condition.
namespace Go.Proofs.YtlmdkmflbhnlgaaGreat
open Go.RowKit
/-- How a Wire function answers for a frame that may be. -/
def WireOk (f : Fr) (NR NH : Nat) (W : World) (e : Ending) (w' : World) : Prop := (∃ A' c', e = .returned (.tuple #[.agg #[.slice A' (NR + 10 : Nat) c', .int .i64 (NH : Nat), .int .i64 (NR + 1 : Nat)], .int .i64 0]) ∧ Row w' W.heap.size 5 A' c' (bys (wireB f 1))) ∧ Below W.heap.size W w'
theorem wire_parts (f : Fr) (A : Option Addr) (c : Nat) (hok : okF f = true) (hf : FrN f) :
    ∃ NR NH : Nat, (rawA f).length = NR ∧ (stuffN (hdS f)).length = NH ∧
      ((f.kind = 2 ∧ ∀ W, Rd W A (bys f.data) → Calls Tryz.prog 31 #[frv f (.slice A f.data.length c)] W (WireOk f NR NH W)) ∨
       (f.kind = 3 ∧ ∀ W, Rd W A (bys f.data) → Calls Tryz.prog 32 #[frv f (.slice A f.data.length c)] W (WireOk f NR NH W)) ∨
       (f.kind = 1 ∧ ∀ W, Rd W A (bys f.data) → Calls Tryz.prog 21 #[frv f (.slice A f.data.length c)] W (WireOk f NR NH W))) := by
  have hk := ((okF_iff f).1 hok).kind
  rcases hk with hk | hk | hk
  · have hw : rawA f = stuffN (bodyC f) := by unfold rawA; rw [if_neg (by omega), if_neg (by omega)]
    refine ⟨_, _, rfl, rfl, .inr (.inr ⟨hk, fun W hW => ?_⟩)⟩
    have hw1 : wireB f 1 = wireC f := by unfold wireB wireC; rw [hw]; rfl
    have hh : hdS f = headL f := by unfold hdS; rw [if_neg (by omega), if_neg (by omega)]
    unfold WireOk
    rw [hw, hw1, hh]
    exact Wire_ok f A c _ _ W hk hok hf.id0 hW hf.data rfl rfl
  · have hw : rawA f = rawD f := by unfold rawA; rw [if_pos hk]
    refine ⟨_, _, rfl, rfl, .inl ⟨hk, fun W hW => ?_⟩⟩
    have hw1 : wireB f 1 = wireD f := by unfold wireB wireD; rw [hw]; rfl
    have hh : hdS f = headD f := by unfold hdS; rw [if_pos hk]
    unfold WireOk
    rw [hw, hw1, hh]
    exact FdWire_ok f A c _ _ W hk hok hf.id0 hW hf.data rfl rfl
  · have hw : rawA f = rawX f := by unfold rawA; rw [if_neg (by omega), if_pos hk]
    refine ⟨_, _, rfl, rfl, .inr (.inl ⟨hk, fun W hW => ?_⟩)⟩
    have hw1 : wireB f 1 = wireX f := by unfold wireB wireX; rw [hw]; rfl
    have hh : hdS f = headX f := by unfold hdS; rw [if_neg (by omega), if_pos hk]
    unfold WireOk
    rw [hw, hw1, hh]
    exact XlWire_ok f A c _ _ W hk hok hf.id0 hf.sdt hf.vcid hf.af hW hf.data rfl rfl
set_option maxRecDepth 100000 in
set_option maxHeartbeats 2000000 in
theorem Wire09_ok (f : Fr) (A : Option Addr) (c : Nat) (hok : okF f = true) (hf : FrN f) : ∃ NW NH : Nat, (rawA f).length = NW ∧ (stuffN (hdS f)).length = NH ∧
    ∀ W, Rd W A (bys f.data) → Calls Tryz.prog 17 #[frv f (.slice A f.data.length c)] W (WireOk f NW NH W) := by
  obtain ⟨NW, NH, h1, h2, hk⟩ := wire_parts f A c hok hf
  refine ⟨NW, NH, h1, h2, fun w hr => ?_⟩
  have hW : Hid (∀ W e w', WireOk f NW NH W e w' ↔ ((∃ A' c', e = .returned (.tuple #[.agg #[.slice A' (NW + 10 : Nat) c', .int .i64 (NH : Nat), .int .i64 (NW + 1 : Nat)], .int .i64 0]) ∧ Row w' W.heap.size 5 A' c' (bys (wireB f 1))) ∧ Below W.heap.size W w')) := fun _ _ _ => Iff.rfl
  have hHR := Lib.hid hr
  clear hr
  obtain ⟨R, hR⟩ : ∃ R, WireOk f NW NH = R := ⟨_, rfl⟩
  rw [hR] at hk hW ⊢
  have HK := Lib.hid hk
  have HRR := Lib.hid hR
  clear hk hR h1 h2
  obtain ⟨kind, id, ext, rtr, brs, esi, sec, sdt, vcid, af, data⟩ := f
  dsimp only [frv] at *
  generalize data.length = n at *
  rcases HK.out with ⟨hk, hc⟩ | ⟨hk, hc⟩ | ⟨hk, hc⟩
  all_goals
    have HC := Lib.hid hc
    clear hc HK
    subst hk
    go_enter Tryz.func17, Tryz.ntmps17
    go_wp2_with fail
    refine calls_blk2 (fun W0 q1 q2 hb => ?_)
    have HB := Lib.hid hb
    have HQ2 := Lib.hid q2
    have hsz := heap_lt q2
    clear hb q1 q2
    refine (HC.out _ (hHR.out.below HB.out)).mono ?_
    rintro e w1 hpost
    obtain ⟨⟨A', c', rfl, hrow⟩, hb1⟩ := (hW.out _ _ _).1 hpost
    have hq := heap_below hb1 HQ2.out
    have c0 := cell_of_heap hq 0 _ rfl
    have c1 := cell_of_heap hq 1 _ rfl
    have c2 := cell_of_heap hq 2 _ rfl
    have z0 : w1.frozen? ⟨w.heap.size + 1, 0, none⟩ = false := by simp [World.frozen?, hq]
    have z1 : w1.frozen? ⟨w.heap.size + 1, 1, none⟩ = false := by simp [World.frozen?, hq]
    have z2 : w1.frozen? ⟨w.heap.size + 1, 2, none⟩ = false := by simp [World.frozen?, hq]
    have HB1 := Lib.hid hb1
    have HROW := Lib.hid hrow
    clear hb1 hq hpost hrow
    go_wp2_with fail
    refine bodyPost_ret (v := .tuple #[.agg #[.slice A' (NW + 10 : Nat) c', .int .i64 (NH : Nat), .int .i64 (NW + 1 : Nat)], .int .i64 0]) (by simp [results, Tryz.results17, go_sem, c0, c1, c2]) rfl ((hW.out _ _ _).2 ⟨⟨A', c', rfl, ?_⟩, ?_⟩)
    · have h7 : ∀ ad, A' = some ad → ad.block ≠ w.heap.size + 1 := fun ad e => by have := HROW.out.ge ad e; omega
      exact (((HROW.out.setCell h7 0 _).setCell h7 1 _).setCell h7 2 _).mono (by omega)
    · have h := below_trans HB.out HB1.out
      exact ((h.setCell (p := ⟨w.heap.size + 1, 0, none⟩) (by show w.heap.size ≤ w.heap.size + 1; omega) _).setCell (p := ⟨w.heap.size + 1, 1, none⟩) (by show w.heap.size ≤ w.heap.size + 1; omega) _).setCell (p := ⟨w.heap.size + 1, 2, none⟩) (by show w.heap.size ≤ w.heap.size + 1; omega) _
end Go.Proofs.YtlmdkmflbhnlgaaGreat
