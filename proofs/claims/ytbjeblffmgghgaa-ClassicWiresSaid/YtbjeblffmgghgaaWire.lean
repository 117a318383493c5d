/- classic.Wire: a Classic frame on the wire. No condition. -/
import Derived.Test.YtbjeblffmgghgaaBody
import Derived.Test.YtbjeblffmgghgaaStuffPut
import Derived.Test.YtbjeblffmgghgaaRepeat
namespace Go.Proofs.Ytbjeblffmgghgaa
open Go.RowKit
/-- A Classic frame on the wire. -/
def wireC (f : Fr) : List Nat := stuffN (bodyC f) ++ List.replicate 10 1
theorem coreC_bitsB (f : Fr) : ∀ x ∈ bodyC f, x ≤ 1 := by
  intro x hx
  simp only [bodyC, addN, List.mem_append] at hx
  rcases hx with hx | hx
  · exact coreC_bits f x hx
  · exact bitsN_bit _ _ x hx
set_option maxRecDepth 100000 in
set_option maxHeartbeats 2000000 in
theorem Wire_no (f : Fr) (A : Option Addr) (c : Nat) (w : World) (hl : f.data.length ≤ 9223372036854775807) (hno : ¬ (f.kind = 1 ∧ okF f = true)) :
    Calls Try.prog 35 #[frv f (.slice A f.data.length c)] w fun e w' => e = .returned (.tuple #[.agg #[.slice none 0 0, .int .i64 0, .int .i64 0], .int .i64 2]) ∧ Below w.heap.size w w' := by
  have HC := Lib.hid (fun W => Body_no f A c W hl hno)
  obtain ⟨kind, id, ext, rtr, brs, esi, sec, sdt, vcid, af, data⟩ := f
  dsimp only [frv] at *
  generalize data.length = n at *
  clear hno
  go_enter Try.func35, Try.ntmps35
  go_wp2_with fail
  refine calls_blk2 (fun W0 q1 q2 hb => ?_)
  have HB := Lib.hid hb
  have HQ2 := Lib.hid q2
  have hsz := heap_lt q2
  clear hb q1 q2
  refine (HC.out _).mono ?_
  rintro e w1 ⟨rfl, hb1⟩
  have hq := heap_below hb1 HQ2.out
  have c0 := cell_of_heap hq 0 _ rfl
  have c1 := cell_of_heap hq 1 _ rfl
  have c2 := cell_of_heap hq 2 _ rfl
  have z0 : w1.frozen? ⟨w.heap.size + 1, 0, none⟩ = false := by simp [World.frozen?, hq]
  have z1 : w1.frozen? ⟨w.heap.size + 1, 1, none⟩ = false := by simp [World.frozen?, hq]
  have z2 : w1.frozen? ⟨w.heap.size + 1, 2, none⟩ = false := by simp [World.frozen?, hq]
  have HB1 := Lib.hid hb1
  have HQ3 := Lib.hid hq
  clear hb1 hq
  go_wp2_with fail
  refine bodyPost_ret (v := .tuple #[.agg #[.slice none 0 0, .int .i64 0, .int .i64 0], .int .i64 2]) (by simp [results, Try.results35, go_sem, c0, c1, c2]) rfl ⟨rfl, ?_⟩
  have h := below_trans HB.out HB1.out
  exact ((h.setCell (p := ⟨w.heap.size + 1, 0, none⟩) (by show w.heap.size ≤ w.heap.size + 1; omega) _).setCell (p := ⟨w.heap.size + 1, 1, none⟩) (by show w.heap.size ≤ w.heap.size + 1; omega) _).setCell (p := ⟨w.heap.size + 1, 2, none⟩) (by show w.heap.size ≤ w.heap.size + 1; omega) _
set_option maxRecDepth 100000 in
set_option maxHeartbeats 4000000 in
theorem Wire_ok (f : Fr) (A : Option Addr) (c NR NH : Nat) (w : World) (hk : f.kind = 1) (hok : okF f = true) (h0 : 0 ≤ f.id) (hr : Rd w A (bys f.data)) (hby : isBytes f.data) (hNR : (stuffN (bodyC f)).length = NR) (hNH : (stuffN (headL f)).length = NH) :
    Calls Try.prog 35 #[frv f (.slice A f.data.length c)] w fun e w' => (∃ A' c', e = .returned (.tuple #[.agg #[.slice A' (NR + 10 : Nat) c', .int .i64 (NH : Nat), .int .i64 (NR + 1 : Nat)], .int .i64 0]) ∧ Row w' w.heap.size 5 A' c' (bys (wireC f))) ∧ Below w.heap.size w w' := by
  obtain ⟨i0, hi, hz0, hz1, hz2⟩ := info_parts info_u8
  have hl8 := okF_len1 f hk hok
  obtain ⟨NB, hNB⟩ : ∃ NB, (bodyC f).length = NB := ⟨_, rfl⟩
  have hNB2 : NB ≤ 118 := by rw [← hNB, bodyC_length]; split <;> omega
  have hNR2 : NR ≤ 150 := by have := stuffN_le (bodyC f); rw [hNR, hNB] at this; omega
  have hhl : (headL f).length ≤ 35 := by rw [headL_length]; split <;> omega
  have HBody := Lib.hid (fun W (hW : Rd W A (bys f.data)) => Body_ok f A c NB W hk hok h0 hW hby hNB)
  have HHead := Lib.hid (fun W => head_any f A f.data.length c W h0 (okF_lim f hok))
  have HbB := Lib.hid (coreC_bitsB f)
  have HhB := Lib.hid (headL_bits f)
  have HW : Hid (wireC f = stuffN (bodyC f) ++ List.replicate 10 1) := rfl
  obtain ⟨bo, hbo⟩ : ∃ bo, bodyC f = bo := ⟨_, rfl⟩
  obtain ⟨hL, hhL⟩ : ∃ hL, headL f = hL := ⟨_, rfl⟩
  obtain ⟨wi, hwi⟩ : ∃ wi, wireC f = wi := ⟨_, rfl⟩
  rw [hbo] at HBody HbB HW hNR hNB
  rw [hhL] at HHead HhB hNH hhl
  rw [hwi] at HW ⊢
  obtain ⟨hn0, hhn⟩ : ∃ hn0, hL.length = hn0 := ⟨_, rfl⟩
  rw [hhn] at hhl
  obtain ⟨kind, id, ext, rtr, brs, esi, sec, sdt, vcid, af, data⟩ := f
  dsimp only [frv] at *
  obtain ⟨n, hn⟩ : ∃ n, data.length = n := ⟨_, rfl⟩
  rw [hn] at HBody HHead ⊢
  have HNR := Lib.hid hNR
  have HNH := Lib.hid hNH
  have HNB := Lib.hid hNB
  have HHN := Lib.hid hhn
  have HR := Lib.hid hr
  clear hNR hNH hNB hhn hr hbo hhL hwi hn hok h0 hby hl8 hk
  go_enter Try.func35, Try.ntmps35
  go_wp2_with fail
  refine calls_blk2 (fun W0 q1 q2 hb => ?_)
  have HB := Lib.hid hb
  have HQ2 := Lib.hid q2
  have hsz := heap_lt q2
  obtain ⟨a0, a1, a2, a3, a4, a5, a6, a7, a8, a9, a10⟩ := ext11 q1
  clear hb q1 q2
  refine (extc_same (HBody.out _ (HR.out.below HB.out))).mono ?_
  rintro x _ ⟨e1, rfl, A1, c1, rfl, hrow1⟩
  have HROW1 := Lib.hid hrow1
  clear hrow1
  go_wp2_with fail
  refine (extc (StuffPut_any _ A1 c1 NB NR bo HROW1.out.rd HNB.out (by omega) HbB.out HNR.out)).mono ?_
  rintro x _ ⟨e2, rfl, A2, c2, rfl, hrow2⟩
  have HROW2 := Lib.hid (hrow2.mono (ext_ge e1))
  clear hrow2
  go_wp2_with fail
  refine (HHead.out _).mono ?_
  rintro x w3 ⟨rfl, ⟨A3, c3, hp3⟩, hb3⟩
  have f0 : w3.cell? ⟨e2.W.heap.size + 1, 0, none⟩ = some (.slice A3 hn0 c3) := by rw [← HHN.out]; exact hp3.cell
  have HP3 := Lib.hid hp3
  have HB3 := Lib.hid hb3
  have HROW23 := Lib.hid (HROW2.out.below hb3)
  have hbw3 : Below W0.heap.size W0 w3 := below_trans e2.below hb3
  have HBW3 := Lib.hid hbw3
  clear hp3 hb3 hbw3
  go_wp2_with fail
  refine (StuffPut_any _ A3 c3 hn0 NH hL HP3.out.rd HHN.out (by omega) HhB.out HNH.out).mono ?_
  rintro x w4 ⟨⟨A4, c4, rfl, hrow4⟩, hb4⟩
  have HROW24 := Lib.hid (HROW23.out.below hb4)
  have HB4 := Lib.hid hb4
  have hbw4 : Below W0.heap.size W0 w4 := below_trans HBW3.out hb4
  have HBW4 := Lib.hid hbw4
  clear hrow4 hb4 hbw4 f0
  go_wp2_with fail
  refine (repeat_any _ _ (heap_new_at rfl)).mono ?_
  rintro x w5 ⟨⟨A5, c5, rfl, hrow5⟩, hb5⟩
  have hbw5 : Below W0.heap.size W0 w5 := below_trans (below_alloc HBW4.out _) hb5
  have hq := heap_below hbw5 HQ2.out
  have HROW5 := Lib.hid hrow5
  have HROW25 := Lib.hid ((HROW24.out.alloc _).below hb5)
  have HBW5 := Lib.hid hbw5
  have HQ5 := Lib.hid hq
  have hs0 : w.heap.size + 1 < W0.heap.size := hsz
  clear hrow5 hb5 hbw5 hq a0 a1 a2 a3 a4 a5 a6 a7 a8 a9 a10
  go_wp2_with (at_builtin; refine wpList_appE (w0 := W0) HBW5.out rfl (.tmp 39) (.tmp 41) 23 rfl W0.heap.size 5 i0 _ 1 Try.underlying23 hi hz0 hz1 hz2 rfl A2 NR c2 (bys (stuffN bo)) rfl (by rw [bys_length]; exact HNR.out) HROW25.out A5 10 c5 (bys (List.replicate 10 1)) rfl rfl HROW5.out.rd (bys_one _) (fun _ e => HROW5.out.none_ e) (NR + 10) rfl (by unfold maxLen; omega) (by omega) (Nat.le_refl _) HBW5.out.size ?_; intro e6 A6 c6 HROW6; have r0 := ext_cell (cell_of_heap HQ2.out 0 _ rfl) e6; have r1 := ext_cell (cell_of_heap HQ2.out 1 _ rfl) e6; have r2 := ext_cell (cell_of_heap HQ2.out 2 _ rfl) e6; have z0 : e6.W.frozen? ⟨w.heap.size + 1, 0, none⟩ = false := (by simp [World.frozen?, ext_heap HQ2.out e6]); have z1 : e6.W.frozen? ⟨w.heap.size + 1, 1, none⟩ = false := (by simp [World.frozen?, ext_heap HQ2.out e6]); have z2 : e6.W.frozen? ⟨w.heap.size + 1, 2, none⟩ = false := (by simp [World.frozen?, ext_heap HQ2.out e6]))
  refine bodyPost_ret (v := .tuple #[.agg #[.slice A6 (NR + 10 : Nat) c6, .int .i64 (NH : Nat), .int .i64 (NR + 1 : Nat)], .int .i64 0]) (by simp [results, Try.results35, go_sem, r0, r1, r2]) rfl ⟨⟨A6, c6, rfl, ?_⟩, ?_⟩
  · have h6 := HROW6.out
    rw [← bys_append, ← HW.out] at h6
    have h7 : ∀ ad, A6 = some ad → ad.block ≠ w.heap.size + 1 := fun ad e => by have := h6.ge ad e; omega
    exact (((h6.setCell h7 0 _).setCell h7 1 _).setCell h7 2 _).mono (by omega)
  · have h := below_trans HB.out e6.below
    exact ((h.setCell (p := ⟨w.heap.size + 1, 0, none⟩) (by show w.heap.size ≤ w.heap.size + 1; omega) _).setCell (p := ⟨w.heap.size + 1, 1, none⟩) (by show w.heap.size ≤ w.heap.size + 1; omega) _).setCell (p := ⟨w.heap.size + 1, 2, none⟩) (by show w.heap.size ≤ w.heap.size + 1; omega) _
end Go.Proofs.Ytbjeblffmgghgaa
