/- fd.Wire: an FD frame on the wire. No condition. -/
import Derived.Test.YtaknddanggdplaaFdBody
import Derived.Test.YtaknddanggdplaaFdClose
import Derived.Test.YtaknddanggdplaaStuffPut
import Derived.Test.YtaknddanggdplaaRepeat
namespace Go.Proofs.Ytaknddanggdplaa
open Go.RowKit
set_option maxRecDepth 100000 in
set_option maxHeartbeats 2000000 in
theorem FdWire_no (f : Fr) (A : Option Addr) (c : Nat) (w : World) (hl : f.data.length ≤ 9223372036854775807) (hno : ¬ (f.kind = 2 ∧ okF f = true)) :
    Calls Try.prog 21 #[frv f (.slice A f.data.length c)] w fun e w' => e = .returned (.tuple #[.agg #[.slice none 0 0, .int .i64 0, .int .i64 0], .int .i64 2]) ∧ Below w.heap.size w w' := by
  have HC := Lib.hid (fun W => FdBody_no f A c W hl hno)
  obtain ⟨kind, id, ext, rtr, brs, esi, sec, sdt, vcid, af, data⟩ := f
  dsimp only [frv] at *
  generalize data.length = n at *
  clear hno
  go_enter Try.func21, Try.ntmps21
  go_wp2_with fail
  refine calls_blk2 (fun W0 q1 q2 hb => ?_)
  have HB := Lib.hid hb
  have HQ2 := Lib.hid q2
  have hsz := heap_lt q2
  clear hb q1 q2
  refine (HC.out _).mono ?_
  rintro e w1 ⟨rfl, hb1⟩
  have hq := heap_below hb1 HQ2.out
  have c0 := cell_of_heap hq 0 _ rfl
  have c1 := cell_of_heap hq 1 _ rfl
  have c2 := cell_of_heap hq 2 _ rfl
  have z0 : w1.frozen? ⟨w.heap.size + 1, 0, none⟩ = false := by simp [World.frozen?, hq]
  have z1 : w1.frozen? ⟨w.heap.size + 1, 1, none⟩ = false := by simp [World.frozen?, hq]
  have z2 : w1.frozen? ⟨w.heap.size + 1, 2, none⟩ = false := by simp [World.frozen?, hq]
  have HB1 := Lib.hid hb1
  have HQ3 := Lib.hid hq
  clear hb1 hq
  go_wp2_with fail
  refine bodyPost_ret (v := .tuple #[.agg #[.slice none 0 0, .int .i64 0, .int .i64 0], .int .i64 2]) (by simp [results, Try.results21, go_sem, c0, c1, c2]) rfl ⟨rfl, ?_⟩
  have h := below_trans HB.out HB1.out
  exact ((h.setCell (p := ⟨w.heap.size + 1, 0, none⟩) (by show w.heap.size ≤ w.heap.size + 1; omega) _).setCell (p := ⟨w.heap.size + 1, 1, none⟩) (by show w.heap.size ≤ w.heap.size + 1; omega) _).setCell (p := ⟨w.heap.size + 1, 2, none⟩) (by show w.heap.size ≤ w.heap.size + 1; omega) _
set_option maxRecDepth 100000 in
set_option maxHeartbeats 4000000 in
theorem FdWire_ok (f : Fr) (A : Option Addr) (c NR NH : Nat) (w : World) (hk : f.kind = 2) (hok : okF f = true) (h0 : 0 ≤ f.id) (hr : Rd w A (bys f.data)) (hby : isBytes f.data) (hNR : (rawD f).length = NR) (hNH : (stuffN (headD f)).length = NH) :
    Calls Try.prog 21 #[frv f (.slice A f.data.length c)] w fun e w' => (∃ A' c', e = .returned (.tuple #[.agg #[.slice A' (NR + 10 : Nat) c', .int .i64 (NH : Nat), .int .i64 (NR + 1 : Nat)], .int .i64 0]) ∧ Row w' w.heap.size 5 A' c' (bys (wireD f))) ∧ Below w.heap.size w w' := by
  obtain ⟨hid, hn64, -⟩ := okD f hk hok
  obtain ⟨hNHR, hNR2, -⟩ := fd_bound f hk hok
  rw [hNR, hNH] at hNHR
  rw [hNR] at hNR2
  obtain ⟨NB, hNB⟩ : ∃ NB, (bodyD f).length = NB := ⟨_, rfl⟩
  have hNB2 : NB = 22 + 8 * f.data.length := by rw [← hNB, bodyD_length]
  obtain ⟨N0, hN0⟩ : ∃ N0, (raw0D f).length = N0 := ⟨_, rfl⟩
  have hN02 := raw0D_len f
  rw [hN0] at hN02
  obtain ⟨NC, hNC⟩ : ∃ NC, (closeD (raw0D f) ((raw0D f).length - (bodyD f).length) f.data.length).length = NC := ⟨_, rfl⟩
  have hNRe : N0 + NC = NR := by rw [← hNR]; unfold rawD; rw [List.length_append, hNC, hN0]
  have HBody := Lib.hid (fun W (hW : Rd W A (bys f.data)) => FdBody_ok f A c NB W hk hok h0 hW hby hNB)
  have HHead := Lib.hid (fun W => headD_any f A f.data.length c W h0 hid)
  have HbB := Lib.hid (bodyD_bits f)
  have HhB := Lib.hid (headD_bits f)
  have H0B := Lib.hid (raw0D_bits f)
  have HW : Hid (wireD f = raw0D f ++ closeD (raw0D f) (N0 - NB) f.data.length ++ List.replicate 10 1) := by show wireD f = _; unfold wireD rawD; rw [hN0, hNB]
  have h00 : raw0D f = stuffN (bodyD f) := rfl
  rw [hN0, hNB] at hNC
  obtain ⟨bo, hbo⟩ : ∃ bo, bodyD f = bo := ⟨_, rfl⟩
  obtain ⟨hL, hhL⟩ : ∃ hL, headD f = hL := ⟨_, rfl⟩
  have hhl : hL.length = 16 := by rw [← hhL]; exact headD_length f
  obtain ⟨wi, hwi⟩ : ∃ wi, wireD f = wi := ⟨_, rfl⟩
  obtain ⟨r0, hr0⟩ : ∃ r0, raw0D f = r0 := ⟨_, rfl⟩
  rw [hbo] at HBody HbB hNB h00
  rw [hhL] at HHead HhB hNH
  rw [hr0] at H0B h00 hN0 hNC
  rw [hwi, hr0] at HW
  rw [hwi]
  obtain ⟨kind, id, ext, rtr, brs, esi, sec, sdt, vcid, af, data⟩ := f
  dsimp only [frv] at *
  obtain ⟨n, hn⟩ : ∃ n, data.length = n := ⟨_, rfl⟩
  rw [hn] at HBody HHead hNB2 hN02 hn64 HW hNC ⊢
  obtain ⟨cl, hcl⟩ : ∃ cl, closeD r0 (N0 - NB) n = cl := ⟨_, rfl⟩
  have HCL := Lib.hid (fun (W : World) (g c2 : Nat) (hW : Rd W (some ⟨g, 0, none⟩) (bys r0)) (h1 : N0 ≤ c2) (h2 : c2 ≤ 9223372036854775807) => fdClose_any g c2 N0 (N0 - NB) n NC r0 W hW hN0 (by omega) (by omega) h1 h2 H0B.out (by omega) (by omega) hNC)
  rw [hcl] at HCL HW hNC
  rw [h00] at hN0
  have HNB := Lib.hid hNB
  have HN0 := Lib.hid hN0
  have HNC := Lib.hid hNC
  have HNH := Lib.hid hNH
  have HHL := Lib.hid hhl
  have HR := Lib.hid hr
  have HNRE := Lib.hid hNRe
  have H00 := Lib.hid h00
  have hsub : (N0 : Int) - (NB : Int) = ((N0 - NB : Nat) : Int) := by omega
  have HSUB := Lib.hid hsub
  obtain ⟨hN0a, hN0b⟩ := hN02
  have hN0c : N0 ≤ 1000 := by omega
  have hNBc : NB ≤ N0 := by omega
  clear hNB hN0 hNC hNH hhl hr hNRe hbo hhL hwi hr0 hn hok h0 hby hk hNR hid hcl h00 hsub hNB2
  go_enter Try.func21, Try.ntmps21
  go_wp2_with fail
  refine calls_blk2 (fun W0 q1 q2 hb => ?_)
  have HB := Lib.hid hb
  have HQ2 := Lib.hid q2
  have hsz := heap_lt q2
  have hsz1 := ext_lt q1
  obtain ⟨a0, a1, a2, a3, a4, a5, a6, a7, a8, a9, a10⟩ := ext11 q1
  clear hb q1 q2
  refine (extc_same (HBody.out _ (HR.out.below HB.out))).mono ?_
  rintro x _ ⟨e1, rfl, A1, c1, rfl, hrow1⟩
  have HROW1 := Lib.hid hrow1
  clear hrow1
  go_wp2_with fail
  refine (extcB (StuffPut_any _ A1 c1 NB N0 bo HROW1.out.rd HNB.out (by omega) HbB.out HN0.out)).mono ?_
  rintro x _ ⟨e2, rfl, HB2, A2, c2, rfl, hrow2⟩
  rw [← H00.out] at hrow2
  obtain ⟨g2, rfl, hg2, hc2a, hc2b⟩ := row_some (n := N0) hrow2 (by rw [H00.out]; exact HN0.out) (by omega)
  have HROW2 := Lib.hid (hrow2.mono (ext_ge e1))
  clear hrow2
  go_wp2_with fail
  refine (extcB (HHead.out _)).mono ?_
  rintro x _ ⟨e3, rfl, HB3, A3, c3, rfl, hrow3⟩
  have HROW3 := Lib.hid hrow3
  have HROW23 := Lib.hid (HROW2.out.below HB3.out)
  clear hrow3
  go_wp2_with fail
  refine (extcB (StuffPut_any _ A3 c3 16 NH hL HROW3.out.rd HHL.out (by omega) HhB.out HNH.out)).mono ?_
  rintro x _ ⟨e4, rfl, HB4, A4, c4, rfl, hrow4⟩
  have HROW24 := Lib.hid (HROW23.out.below HB4.out)
  clear hrow4
  go_wp2_with fail
  rw [HSUB.out]
  refine (extcB (HCL.out _ _ _ HROW24.out.rd hc2a hc2b)).mono ?_
  rintro x _ ⟨e5, rfl, HB5, A5, c5, rfl, hrow5⟩
  have HROW5 := Lib.hid hrow5
  have HROW25 := Lib.hid (HROW24.out.below HB5.out)
  clear hrow5 a0 a1 a2 a3 a4 a5 a6 a7 a8 a9 a10
  go_wp2_with fail
  refine (repeat_any _ _ (heap_new_at rfl)).mono ?_
  rintro x w8 ⟨⟨A8, c8, rfl, hrow8⟩, hb8⟩
  have hb78 : Below e5.W.heap.size e5.W w8 := below_trans (below_alloc (Below.refl _ _) _) hb8
  obtain ⟨e8, he8⟩ : ∃ e : Ext W0, e.W = w8 := ⟨⟨w8, below_trans e5.below hb78⟩, rfl⟩
  subst he8
  have HROW8 := Lib.hid hrow8
  have HROW28 := Lib.hid (HROW25.out.below hb78)
  have HROW58 := Lib.hid (HROW5.out.below hb78)
  clear hrow8 hb8 hb78
  go_wp2_with fail
  refine calls_name (T := fun W1 => W1.heap[e8.W.heap.size]? = some (.cells #[.slice (some ⟨g2, 0, none⟩) N0 c2, .slice A5 NC c5, .slice A8 10 c8] 23) ∧ Below e8.W.heap.size e8.W W1) ⟨heap_new_at rfl, below_alloc (Below.refl _ _) _⟩ ?_
  rintro W1 ⟨q9, hb9⟩
  have hcat := concatP (N := NR + 10) (n := 3) [(some ⟨g2, 0, none⟩, c2, r0), (A5, c5, cl), (A8, c8, List.replicate 10 1)] _ q9 (by simp [partV, H00.out, HN0.out, HNC.out]) rfl (by
    intro p hp
    simp only [List.mem_cons, List.not_mem_nil, or_false] at hp
    rcases hp with rfl | rfl | rfl
    · exact (HROW28.out.below hb9).part
    · exact (HROW58.out.below hb9).part
    · exact (HROW8.out.below hb9).part) (by simp [partsL, H00.out, HN0.out, HNC.out]; have := HNRE.out; omega) (by omega) (by decide)
  have hpl : partsL [(some ⟨g2, 0, none⟩, c2, r0), (A5, c5, cl), (A8, c8, List.replicate 10 1)] = wi := by rw [HW.out]; simp [partsL]
  rw [hpl] at hcat
  refine hcat.mono ?_
  rintro x w10 ⟨⟨A10, c10, rfl, hrow10⟩, hb10⟩
  have hbw : Below W0.heap.size W0 w10 := below_trans (below_trans e8.below hb9) hb10
  have hq := heap_below hbw HQ2.out
  have r0' := cell_of_heap hq 0 _ rfl
  have r1' := cell_of_heap hq 1 _ rfl
  have r2' := cell_of_heap hq 2 _ rfl
  have z0 : w10.frozen? ⟨w.heap.size + 1, 0, none⟩ = false := by simp [World.frozen?, hq]
  have z1 : w10.frozen? ⟨w.heap.size + 1, 1, none⟩ = false := by simp [World.frozen?, hq]
  have z2 : w10.frozen? ⟨w.heap.size + 1, 2, none⟩ = false := by simp [World.frozen?, hq]
  have hge : W0.heap.size ≤ W1.heap.size := (below_trans e8.below hb9).size
  have HROW10 := Lib.hid (hrow10.mono hge)
  have HBW := Lib.hid hbw
  have HQ10 := Lib.hid hq
  clear hcat hpl q9 hb9 hrow10 hb10 hbw hq
  go_wp2_with fail
  refine bodyPost_ret (v := .tuple #[.agg #[.slice A10 (NR + 10 : Nat) c10, .int .i64 (NH : Nat), .int .i64 (NR + 1 : Nat)], .int .i64 0]) (by simp [results, Try.results21, go_sem, r0', r1', r2']) rfl ⟨⟨A10, c10, rfl, ?_⟩, ?_⟩
  · have h7 : ∀ ad, A10 = some ad → ad.block ≠ w.heap.size + 1 := fun ad e => by have := HROW10.out.ge ad e; omega
    exact (((HROW10.out.setCell h7 0 _).setCell h7 1 _).setCell h7 2 _).mono (by omega)
  · have h := below_trans HB.out HBW.out
    exact ((h.setCell (p := ⟨w.heap.size + 1, 0, none⟩) (by show w.heap.size ≤ w.heap.size + 1; omega) _).setCell (p := ⟨w.heap.size + 1, 1, none⟩) (by show w.heap.size ≤ w.heap.size + 1; omega) _).setCell (p := ⟨w.heap.size + 1, 2, none⟩) (by show w.heap.size ≤ w.heap.size + 1; omega) _
end Go.Proofs.Ytaknddanggdplaa
