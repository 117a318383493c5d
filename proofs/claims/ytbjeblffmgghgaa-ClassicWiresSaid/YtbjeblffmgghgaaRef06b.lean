/- The document's answer for layer 6: the wire of a Classic frame. No condition. -/
import Derived.Test.YtbjeblffmgghgaaRef06
namespace Go.Proofs.Ytbjeblffmgghgaa
open Go.RowKit
theorem WireR_no (f : Fr) (A : Option Addr) (c : Nat) (w : World) (hno : ¬ (f.kind = 1 ∧ okF f = true)) :
    Calls Try.prog 36 #[frv f (.slice A f.data.length c)] w fun e w' => e = .returned (.tuple #[.agg #[.slice none 0 0, .int .i64 0, .int .i64 0], .int .i64 2]) ∧ Below w.heap.size w w' := by
  have HC := Lib.hid (fun W => BodyR_no f A c W hno)
  obtain ⟨kind, id, ext, rtr, brs, esi, sec, sdt, vcid, af, data⟩ := f
  dsimp only [frv] at *
  generalize data.length = n at *
  clear hno
  go_enter Try.func36, Try.ntmps36
  go_wp2_with fail
  refine calls_blk2 (fun W0 q1 q2 hb => ?_)
  have HB := Lib.hid hb
  have HQ2 := Lib.hid q2
  have hsz := heap_lt q2
  clear hb q1 q2
  refine (HC.out _).mono ?_
  rintro e w1 ⟨rfl, hb1⟩
  have hq := heap_below hb1 HQ2.out
  have c0 := cell_of_heap hq 0 _ rfl
  have c1 := cell_of_heap hq 1 _ rfl
  have c2 := cell_of_heap hq 2 _ rfl
  have z0 : w1.frozen? ⟨w.heap.size + 1, 0, none⟩ = false := by simp [World.frozen?, hq]
  have z1 : w1.frozen? ⟨w.heap.size + 1, 1, none⟩ = false := by simp [World.frozen?, hq]
  have z2 : w1.frozen? ⟨w.heap.size + 1, 2, none⟩ = false := by simp [World.frozen?, hq]
  have HB1 := Lib.hid hb1
  have HQ3 := Lib.hid hq
  clear hb1 hq
  go_wp2_with fail
  refine bodyPost_ret (v := .tuple #[.agg #[.slice none 0 0, .int .i64 0, .int .i64 0], .int .i64 2]) (by simp [results, Try.results36, go_sem, c0, c1, c2]) rfl ⟨rfl, ?_⟩
  have h := below_trans HB.out HB1.out
  exact ((h.setCell (p := ⟨w.heap.size + 1, 0, none⟩) (by show w.heap.size ≤ w.heap.size + 1; omega) _).setCell (p := ⟨w.heap.size + 1, 1, none⟩) (by show w.heap.size ≤ w.heap.size + 1; omega) _).setCell (p := ⟨w.heap.size + 1, 2, none⟩) (by show w.heap.size ≤ w.heap.size + 1; omega) _
theorem TailR_any (w : World) : Calls Try.prog 70 #[] w fun e w' => (∃ A' c', e = .returned (.slice A' 10 c') ∧ Row w' w.heap.size 5 A' c' (bys (List.replicate 10 1))) ∧ Below w.heap.size w w' := by
  have hrow : Row (w.alloc (.cells #[.int .u8 1, .int .u8 1, .int .u8 1, .int .u8 1, .int .u8 1, .int .u8 1, .int .u8 1, .int .u8 1, .int .u8 1, .int .u8 1] 5)) w.heap.size 5 (some ⟨w.heap.size, 0, none⟩) 10 (bys (List.replicate 10 1)) :=
    Row.lit (cs := [.int .u8 1, .int .u8 1, .int .u8 1, .int .u8 1, .int .u8 1, .int .u8 1, .int .u8 1, .int .u8 1, .int .u8 1, .int .u8 1]) (Nat.le_refl _) (by unfold maxLen; simp)
  go_enter Try.func70, Try.ntmps70
  go_wp2
  go_ret
  exact ⟨⟨_, _, rfl, hrow⟩, below_alloc (Below.refl _ _) _⟩
set_option maxRecDepth 100000 in
set_option maxHeartbeats 4000000 in
theorem WireR_ok (f : Fr) (A : Option Addr) (c NR NH : Nat) (w : World) (hk : f.kind = 1) (hok : okF f = true) (h0 : 0 ≤ f.id) (hr : Rd w A (bys f.data)) (hby : isBytes f.data) (hNR : (stuffN (bodyC f)).length = NR) (hNH : (stuffN (headL f)).length = NH) :
    Calls Try.prog 36 #[frv f (.slice A f.data.length c)] w fun e w' => (∃ A' c', e = .returned (.tuple #[.agg #[.slice A' (NR + 10 : Nat) c', .int .i64 (NH : Nat), .int .i64 (NR + 1 : Nat)], .int .i64 0]) ∧ Row w' w.heap.size 5 A' c' (bys (wireC f))) ∧ Below w.heap.size w w' := by
  obtain ⟨i0, hi, hz0, hz1, hz2⟩ := info_parts info_u8
  have hl8 := okF_len1 f hk hok
  obtain ⟨NB, hNB⟩ : ∃ NB, (bodyC f).length = NB := ⟨_, rfl⟩
  have hNB2 : NB ≤ 118 := by rw [← hNB, bodyC_length]; split <;> omega
  have hNR2 : NR ≤ 150 := by have := stuffN_le (bodyC f); rw [hNR, hNB] at this; omega
  obtain ⟨hn0, hhn⟩ : ∃ hn0, (headL f).length = hn0 := ⟨_, rfl⟩
  have hhl : hn0 ≤ 35 := by rw [← hhn, headL_length]; split <;> omega
  have HBody := Lib.hid (fun W (hW : Rd W A (bys f.data)) => BodyR_ok f A c NB W hk hok h0 hW hby hNB)
  have HHead := Lib.hid (fun W => headR_any f A f.data.length c hn0 W h0 (okF_lim f hok) hhn)
  have HbB := Lib.hid (coreC_bitsB f)
  have HhB := Lib.hid (headL_bits f)
  have HW : Hid (wireC f = stuffN (bodyC f) ++ List.replicate 10 1) := rfl
  obtain ⟨bo, hbo⟩ : ∃ bo, bodyC f = bo := ⟨_, rfl⟩
  obtain ⟨hL, hhL⟩ : ∃ hL, headL f = hL := ⟨_, rfl⟩
  obtain ⟨wi, hwi⟩ : ∃ wi, wireC f = wi := ⟨_, rfl⟩
  rw [hbo] at HBody HbB HW hNR hNB
  rw [hhL] at HHead HhB hNH hhn
  rw [hwi] at HW ⊢
  obtain ⟨kind, id, ext, rtr, brs, esi, sec, sdt, vcid, af, data⟩ := f
  dsimp only [frv] at *
  obtain ⟨n, hn⟩ : ∃ n, data.length = n := ⟨_, rfl⟩
  rw [hn] at HBody HHead ⊢
  have HNR := Lib.hid hNR
  have HNH := Lib.hid hNH
  have HNB := Lib.hid hNB
  have HHN := Lib.hid hhn
  have HR := Lib.hid hr
  clear hNR hNH hNB hhn hr hbo hhL hwi hn hok h0 hby hl8 hk
  go_enter Try.func36, Try.ntmps36
  go_wp2_with fail
  refine calls_blk2 (fun W0 q1 q2 hb => ?_)
  have HB := Lib.hid hb
  have HQ2 := Lib.hid q2
  have hsz := heap_lt q2
  obtain ⟨a0, a1, a2, a3, a4, a5, a6, a7, a8, a9, a10⟩ := ext11 q1
  clear hb q1 q2
  refine (extc_same (HBody.out _ (HR.out.below HB.out))).mono ?_
  rintro x _ ⟨e1, rfl, A1, c1, rfl, hrow1⟩
  have HROW1 := Lib.hid hrow1
  clear hrow1
  go_wp2_with fail
  refine (extc (StuffedR_any e1.W A1 c1 NB NR bo HROW1.out.rd HNB.out (by omega) HbB.out HNR.out)).mono ?_
  rintro x _ ⟨e2, rfl, A2, c2, rfl, hrow2⟩
  have HROW2 := Lib.hid (hrow2.mono (ext_ge e1))
  clear hrow2
  go_wp2_with fail
  refine (extcB (TailR_any e2.W)).mono ?_
  rintro x _ ⟨e3, rfl, HB3, A3, c3, rfl, hrow3⟩
  have HROW3 := Lib.hid hrow3
  have HROW23 := Lib.hid (HROW2.out.below HB3.out)
  clear hrow3
  go_wp2_with (at_builtin; refine wpList_appE (w0 := W0) e3.below rfl (.tmp 17) (.tmp 18) 23 rfl W0.heap.size 5 i0 _ 1 Try.underlying23 hi hz0 hz1 hz2 rfl A2 NR c2 (bys (stuffN bo)) rfl (by rw [bys_length]; exact HNR.out) HROW23.out A3 10 c3 (bys (List.replicate 10 1)) rfl rfl HROW3.out.rd (bys_one _) (fun _ e => HROW3.out.none_ e) (NR + 10) rfl (by unfold maxLen; omega) (by omega) (Nat.le_refl _) e3.below.size ?_; intro e4 A4 c4 HROW4)
  refine (extcB (HHead.out e4.W)).mono ?_
  rintro x _ ⟨e5, rfl, HB5, A5, c5, rfl, hrow5⟩
  have HROW45 := Lib.hid (HROW4.out.below HB5.out)
  have HROW5 := Lib.hid hrow5
  clear hrow5
  go_wp2_with fail
  refine (extcB (StuffedR_any e5.W A5 c5 hn0 NH hL HROW5.out.rd HHN.out (by omega) HhB.out HNH.out)).mono ?_
  rintro x _ ⟨e6, rfl, HB6, A6, c6, rfl, -⟩
  have HROW46 := Lib.hid (HROW45.out.below HB6.out)
  have hs0 : w.heap.size + 1 < W0.heap.size := hsz
  have r0 := ext_cell (cell_of_heap HQ2.out 0 _ rfl) e6
  have r1 := ext_cell (cell_of_heap HQ2.out 1 _ rfl) e6
  have r2 := ext_cell (cell_of_heap HQ2.out 2 _ rfl) e6
  have z0 : e6.W.frozen? ⟨w.heap.size + 1, 0, none⟩ = false := by simp [World.frozen?, ext_heap HQ2.out e6]
  have z1 : e6.W.frozen? ⟨w.heap.size + 1, 1, none⟩ = false := by simp [World.frozen?, ext_heap HQ2.out e6]
  have z2 : e6.W.frozen? ⟨w.heap.size + 1, 2, none⟩ = false := by simp [World.frozen?, ext_heap HQ2.out e6]
  clear a0 a1 a2 a3 a4 a5 a6 a7 a8 a9 a10
  go_wp2_with fail
  have hsub : ((NR : Int) + 10 - 9) = ((NR + 1 : Nat) : Int) := by omega
  refine bodyPost_ret (v := .tuple #[.agg #[.slice A4 (NR + 10 : Nat) c4, .int .i64 (NH : Nat), .int .i64 (NR + 1 : Nat)], .int .i64 0]) (by simp [results, Try.results36, go_sem, r0, r1, r2] <;> omega) rfl ⟨⟨A4, c4, rfl, ?_⟩, ?_⟩
  · have h6 := HROW46.out
    rw [← bys_append, ← HW.out] at h6
    have h7 : ∀ ad, A4 = some ad → ad.block ≠ w.heap.size + 1 := fun ad e => by have := h6.ge ad e; omega
    exact (((h6.setCell h7 0 _).setCell h7 1 _).setCell h7 2 _).mono (by omega)
  · have h := below_trans HB.out e6.below
    exact ((h.setCell (p := ⟨w.heap.size + 1, 0, none⟩) (by show w.heap.size ≤ w.heap.size + 1; omega) _).setCell (p := ⟨w.heap.size + 1, 1, none⟩) (by show w.heap.size ≤ w.heap.size + 1; omega) _).setCell (p := ⟨w.heap.size + 1, 2, none⟩) (by show w.heap.size ≤ w.heap.size + 1; omega) _
end Go.Proofs.Ytbjeblffmgghgaa
