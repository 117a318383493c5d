/- The law ScanAliens answers true at every input, and leaves its input as it was. No condition. (With what it needs of its own.) -/
import Derived.Test.YtlmdkmflbhnlgaaGreatZScan11
-- LawScanAliens: The law ScanAliens answers true. No condition.
namespace Go.Proofs.YtlmdkmflbhnlgaaGreat
open Go.RowKit
/-- Who doesn't know XL frames: any other frame is done. -/
theorem alien_not (f : Fr) (hk : f.kind ≠ 3) (hok : okF f = true) (hf : FrN f) : (scanM false (wireB f 1)).kind = 2 ∧ (scanM false (wireB f 1)).sf = f := by
  have hk3 := ((okF_iff f).1 hok).kind
  obtain ⟨S, hS, hS0, hSf⟩ : ∃ S : MS, scanM false (rawA f) = endM { S with fits := true } ∧ S.kind = 0 ∧ S.f = f := by
    rcases hk3 with h | h | h
    · have hw : rawA f = stuffN (bodyC f) := by unfold rawA; rw [if_neg (by omega), if_neg (by omega)]
      rw [hw]
      exact done_c false f h hok hf.id0 hf.data
    · have hw : rawA f = rawD f := by unfold rawA; rw [if_pos h]
      rw [hw]
      exact done_d false f h hok hf.id0 hf.data
    · exact absurd h hk
  obtain ⟨-, -, k3, k4, k5⟩ := kinds_wire false (rawA f) S 1 hS hS0
  have e : wireB f 1 = (rawA f ++ [1, 1, 1, 1, 1, 1, 1, 1, 1]) ++ [1] := by unfold wireB; rw [List.append_assoc]; rfl
  obtain ⟨s1, -, s3⟩ := scanM_stays false (rawA f ++ [1, 1, 1, 1, 1, 1, 1, 1, 1]) [1] (by rw [k3]; omega)
  rw [e]
  exact ⟨s1.trans k3, s3.trans (k5.trans hSf)⟩
theorem stf_tail : ∀ y, y < 2 → ∀ r, r < 6 → (stf y r [0, 1, 1, 0]).length ≤ (stf y r [0, 1]).length + 2 := by decide
/-- And an XL frame is alien just where it is told to be such. -/
theorem alien_xl (f : Fr) (hk : f.kind = 3) (hok : okF f = true) (hf : FrN f) (NH : Nat) (hNH : (stuffN (headX f)).length = NH) :
    (scanM false ((wireB f 1).take (NH - 2))).kind = 0 ∧ (scanM false ((wireB f 1).take NH)).kind = 4 ∧ (scanM false (wireB f 1)).kind = 4 ∧ 17 ≤ NH ∧ NH ≤ (rawA f).length := by
  obtain ⟨hid, -⟩ := okX f hk hok
  have hid0 := hf.id0
  obtain ⟨F, -, h15, h16, -⟩ := head_xl f (by omega)
  have hw : rawA f = rawX f := by unfold rawA; rw [if_neg (by omega), if_pos hk]
  obtain ⟨T, hT⟩ : ∃ T, rawA f = stuffN (headX f) ++ T := by rw [hw]; unfold rawX; exact ⟨_, by rw [List.append_assoc, List.append_assoc]⟩
  obtain ⟨T', hT'⟩ : ∃ T', wireB f 1 = stuffN (headX f) ++ T' := by unfold wireB; rw [hT]; exact ⟨_, by rw [List.append_assoc]⟩
  have hB : headX f = ([0] ++ (bitsN f.id.toNat 11 ++ [0])) ++ [0, 1, 1, 0] := by
    unfold headX
    rw [show bitsN 0 1 = [0] from rfl, show bitsN 6 5 = [0, 0, 1, 1, 0] from rfl]
    simp
  obtain ⟨P, hP⟩ : ∃ P, [0] ++ (bitsN f.id.toNat 11 ++ [0]) = P := ⟨_, rfl⟩
  have hPl : P.length = 13 := by rw [← hP]; simp [bitsN_length]
  rw [hP] at hB
  have hPb : ∀ x ∈ P, x ≤ 1 := fun x hx => headX_bits f x (by rw [hB]; exact List.mem_append_left _ hx)
  have t15 : (headX f).take 15 = P ++ [0, 1] := by rw [hB, show 15 = P.length + 2 by omega, List.take_length_add_append]; rfl
  have t16 : (headX f).take 16 = P ++ [0, 1, 1] := by rw [hB, show 16 = P.length + 3 by omega, List.take_length_add_append]; rfl
  have hrun := stE_le P 0 0 (by omega)
  have hlast : (stE 0 0 P).1 < 2 := by
    have hne : P ≠ [] := by rintro rfl; simp at hPl
    rw [← last_eq P hne]
    have := getD_bit (stuffN P) ((stuffN P).length - 1) (stuffN_bits P hPb)
    omega
  have e15 : stuffN ((headX f).take 15) = stuffN P ++ stf (stE 0 0 P).1 (stE 0 0 P).2 [0, 1] := by rw [t15]; unfold stuffN; rw [stf_append]
  have e17 : stuffN (headX f) = stuffN P ++ stf (stE 0 0 P).1 (stE 0 0 P).2 [0, 1, 1, 0] := by rw [hB]; unfold stuffN; rw [stf_append]
  have hs := stf_tail _ hlast _ (by omega : (stE 0 0 P).2 < 6)
  have hlen : NH ≤ (stuffN ((headX f).take 15)).length + 2 := by
    rw [← hNH, e15, e17, List.length_append, List.length_append]
    omega
  have h17 : 17 ≤ NH := by have := stuffN_ge (headX f); rw [headX_length] at this; omega
  have p15 : ∃ R, stuffN (headX f) = stuffN ((headX f).take 15) ++ R := ⟨stf (stE 0 0 (P ++ [0, 1])).1 (stE 0 0 (P ++ [0, 1])).2 [1, 0], by rw [t15, hB, show P ++ [0, 1, 1, 0] = (P ++ [0, 1]) ++ [1, 0] by simp]; unfold stuffN; rw [stf_append]⟩
  have p16 : ∃ R, stuffN (headX f) = stuffN ((headX f).take 16) ++ R := ⟨stf (stE 0 0 (P ++ [0, 1, 1])).1 (stE 0 0 (P ++ [0, 1, 1])).2 [0], by rw [t16, hB, show P ++ [0, 1, 1, 0] = (P ++ [0, 1, 1]) ++ [0] by simp]; unfold stuffN; rw [stf_append]⟩
  obtain ⟨R, hR⟩ := p15
  obtain ⟨R', hR'⟩ := p16
  have k17 : (scanM false (stuffN (headX f))).kind = 4 := by
    rw [hR', (scanM_stays false (stuffN ((headX f).take 16)) R' (by rw [h16]; omega)).1]
    exact h16
  refine ⟨?_, ?_, ?_, h17, ?_⟩
  · have e : (wireB f 1).take (NH - 2) = (stuffN ((headX f).take 15)).take (NH - 2) := by
      rw [hT', hR, List.append_assoc, List.take_append_of_le_length (by omega)]
    rw [e]
    have h0 : (scanM false (stuffN ((headX f).take 15))).kind = 0 := by rw [h15]; rfl
    have h2 := scanM_less false (stuffN ((headX f).take 15)) (NH - 2) (by omega)
    have h1 := (scanM_k1 false ((stuffN ((headX f).take 15)).take (NH - 2))).1.1
    have hne : (scanM false ((stuffN ((headX f).take 15)).take (NH - 2))).kind ≠ 1 := by
      intro e
      obtain ⟨a1, a2⟩ := h1 e
      have hf := last_fold 1 ((stuffN ((headX f).take 15)).drop (NH - 2)) (S := scanM false ((stuffN ((headX f).take 15)).take (NH - 2))) ⟨a1, by omega⟩
      rw [← scanM_app, List.take_append_drop, h15] at hf
      cases hf.1
    omega
  · rw [hT', ← hNH, List.take_left']
    · exact k17
    · rfl
  · rw [hT', (scanM_stays false (stuffN (headX f)) T' (by rw [k17]; omega)).1]
    exact k17
  · rw [hT, List.length_append]; omega
/-- Wire answers an error for what is no frame. -/
theorem Wire09_no (f : Fr) (A : Option Addr) (c : Nat) (w : World) (hl : f.data.length ≤ 9223372036854775807) (hno : okF f = false) :
    Calls Tryz.prog 17 #[frv f (.slice A f.data.length c)] w fun e w' => e = .returned (.tuple #[.agg #[.slice none 0 0, .int .i64 0, .int .i64 0], .int .i64 2]) ∧ Below w.heap.size w w' := by
  have H2 := Lib.hid (fun W => FdWire_no f A c W hl (by rw [hno]; simp))
  have H3 := Lib.hid (fun W => XlWire_no f A c W hl (by rw [hno]; simp))
  have H1 := Lib.hid (fun W => Wire_no f A c W hl (by rw [hno]; simp))
  clear hno
  obtain ⟨kind, id, ext, rtr, brs, esi, sec, sdt, vcid, af, data⟩ := f
  dsimp only [frv] at *
  generalize data.length = n at *
  have hk : (kind = 2 ∨ kind = 3) ∨ (kind ≠ 2 ∧ kind ≠ 3) := by omega
  rcases hk with (rfl | rfl) | ⟨h2, h3⟩
  · have HC := H2
    clear H1 H2 H3
    go_enter Tryz.func17, Tryz.ntmps17
    go_wp2_with fail
    refine calls_blk2 (fun W0 q1 q2 hb => ?_)
    have HB := Lib.hid hb
    have HQ2 := Lib.hid q2
    have hsz := heap_lt q2
    clear hb q1 q2
    refine (HC.out _).mono ?_
    rintro e w1 ⟨rfl, hb1⟩
    have hq := heap_below hb1 HQ2.out
    have c0 := cell_of_heap hq 0 _ rfl
    have c1 := cell_of_heap hq 1 _ rfl
    have c2 := cell_of_heap hq 2 _ rfl
    have z0 : w1.frozen? ⟨w.heap.size + 1, 0, none⟩ = false := by simp [World.frozen?, hq]
    have z1 : w1.frozen? ⟨w.heap.size + 1, 1, none⟩ = false := by simp [World.frozen?, hq]
    have z2 : w1.frozen? ⟨w.heap.size + 1, 2, none⟩ = false := by simp [World.frozen?, hq]
    have HB1 := Lib.hid hb1
    clear hb1 hq
    go_wp2_with fail
    refine bodyPost_ret (v := .tuple #[.agg #[.slice none 0 0, .int .i64 0, .int .i64 0], .int .i64 2]) (by simp [results, Tryz.results17, go_sem, c0, c1, c2]) rfl ⟨rfl, ?_⟩
    have h := below_trans HB.out HB1.out
    exact ((h.setCell (p := ⟨w.heap.size + 1, 0, none⟩) (by show w.heap.size ≤ w.heap.size + 1; omega) _).setCell (p := ⟨w.heap.size + 1, 1, none⟩) (by show w.heap.size ≤ w.heap.size + 1; omega) _).setCell (p := ⟨w.heap.size + 1, 2, none⟩) (by show w.heap.size ≤ w.heap.size + 1; omega) _
  · have HC := H3
    clear H1 H2 H3
    go_enter Tryz.func17, Tryz.ntmps17
    go_wp2_with fail
    refine calls_blk2 (fun W0 q1 q2 hb => ?_)
    have HB := Lib.hid hb
    have HQ2 := Lib.hid q2
    have hsz := heap_lt q2
    clear hb q1 q2
    refine (HC.out _).mono ?_
    rintro e w1 ⟨rfl, hb1⟩
    have hq := heap_below hb1 HQ2.out
    have c0 := cell_of_heap hq 0 _ rfl
    have c1 := cell_of_heap hq 1 _ rfl
    have c2 := cell_of_heap hq 2 _ rfl
    have z0 : w1.frozen? ⟨w.heap.size + 1, 0, none⟩ = false := by simp [World.frozen?, hq]
    have z1 : w1.frozen? ⟨w.heap.size + 1, 1, none⟩ = false := by simp [World.frozen?, hq]
    have z2 : w1.frozen? ⟨w.heap.size + 1, 2, none⟩ = false := by simp [World.frozen?, hq]
    have HB1 := Lib.hid hb1
    clear hb1 hq
    go_wp2_with fail
    refine bodyPost_ret (v := .tuple #[.agg #[.slice none 0 0, .int .i64 0, .int .i64 0], .int .i64 2]) (by simp [results, Tryz.results17, go_sem, c0, c1, c2]) rfl ⟨rfl, ?_⟩
    have h := below_trans HB.out HB1.out
    exact ((h.setCell (p := ⟨w.heap.size + 1, 0, none⟩) (by show w.heap.size ≤ w.heap.size + 1; omega) _).setCell (p := ⟨w.heap.size + 1, 1, none⟩) (by show w.heap.size ≤ w.heap.size + 1; omega) _).setCell (p := ⟨w.heap.size + 1, 2, none⟩) (by show w.heap.size ≤ w.heap.size + 1; omega) _
  · have HC := H1
    have g2 : (kind == 2) = false := by simp; omega
    have g3 : (kind == 3) = false := by simp; omega
    clear H1 H2 H3 h2 h3
    go_enter Tryz.func17, Tryz.ntmps17
    go_wp2_with fail
    refine calls_blk2 (fun W0 q1 q2 hb => ?_)
    have HB := Lib.hid hb
    have HQ2 := Lib.hid q2
    have hsz := heap_lt q2
    clear hb q1 q2
    refine (HC.out _).mono ?_
    rintro e w1 ⟨rfl, hb1⟩
    have hq := heap_below hb1 HQ2.out
    have c0 := cell_of_heap hq 0 _ rfl
    have c1 := cell_of_heap hq 1 _ rfl
    have c2 := cell_of_heap hq 2 _ rfl
    have z0 : w1.frozen? ⟨w.heap.size + 1, 0, none⟩ = false := by simp [World.frozen?, hq]
    have z1 : w1.frozen? ⟨w.heap.size + 1, 1, none⟩ = false := by simp [World.frozen?, hq]
    have z2 : w1.frozen? ⟨w.heap.size + 1, 2, none⟩ = false := by simp [World.frozen?, hq]
    have HB1 := Lib.hid hb1
    clear hb1 hq
    go_wp2_with fail
    refine bodyPost_ret (v := .tuple #[.agg #[.slice none 0 0, .int .i64 0, .int .i64 0], .int .i64 2]) (by simp [results, Tryz.results17, go_sem, c0, c1, c2]) rfl ⟨rfl, ?_⟩
    have h := below_trans HB.out HB1.out
    exact ((h.setCell (p := ⟨w.heap.size + 1, 0, none⟩) (by show w.heap.size ≤ w.heap.size + 1; omega) _).setCell (p := ⟨w.heap.size + 1, 1, none⟩) (by show w.heap.size ≤ w.heap.size + 1; omega) _).setCell (p := ⟨w.heap.size + 1, 2, none⟩) (by show w.heap.size ≤ w.heap.size + 1; omega) _
/-- What Scan answers, and with which error. -/
def ScanAns (k e : Nat) (F : Fr) (e0 : Nat) (W : World) (x : Ending) (w' : World) : Prop :=
  (∃ A c, x = .returned (.tuple #[.agg #[.int .i64 k, .int .i64 e, .int .i64 F.kind, .int .u32 F.id, .bool F.ext, .bool F.rtr, .bool F.brs, .bool F.esi, .bool F.sec, .int .u8 F.sdt, .int .u8 F.vcid, .int .u32 F.af, .slice A F.data.length c], .int .i64 e0]) ∧ Rd w' A (bys F.data)) ∧ Below W.heap.size W w'
/-- The two answers of Scan for a row: the same, or alien to one. -/
theorem raw_pair (A0 : Option Addr) (c0 n0 : Nat) (l0 : List Nat) (hn0 : l0.length = n0) (h400 : n0 ≤ 400) : ∃ (ka ea kb eb e0 : Nat) (Fa Fb : Fr),
    (∀ W, Rd W A0 (bys l0) → Calls Tryz.prog 10 #[.slice A0 n0 c0, .bool true] W (ScanAns ka ea Fa e0 W)) ∧
    (∀ W, Rd W A0 (bys l0) → Calls Tryz.prog 10 #[.slice A0 n0 c0, .bool false] W (ScanAns kb eb Fb e0 W)) ∧
    ka ≠ 4 ∧ (kb = 4 ∨ (ka = kb ∧ ea = eb ∧ Fa = Fb)) ∧ Fa.data.length ≤ 20000 := by
  cases hb : bitsOk l0
  · refine ⟨0, 0, 0, 0, 2, zFr, zFr, fun W hW => ?_, fun W hW => ?_, by decide, .inr ⟨rfl, rfl, rfl⟩, by decide⟩
    · refine (scan_arg W A0 c0 n0 l0 true hb hW hn0 (by omega)).mono ?_
      rintro e w' ⟨rfl, hbl⟩
      exact ⟨⟨none, 0, rfl, Rd.nil _ _⟩, hbl⟩
    · refine (scan_arg W A0 c0 n0 l0 false hb hW hn0 (by omega)).mono ?_
      rintro e w' ⟨rfl, hbl⟩
      exact ⟨⟨none, 0, rfl, Rd.nil _ _⟩, hbl⟩
  · refine ⟨(scanM true l0).kind, (scanM true l0).err, (scanM false l0).kind, (scanM false l0).err, 0, (scanM true l0).sf, (scanM false l0).sf, fun W hW => ?_, fun W hW => ?_, scanM_true l0, ?_, (scanM_ok true l0 (bitsOk_mem hb)).sfd⟩
    · refine (scan_bits W A0 c0 n0 l0 true _ rfl hb hW hn0 (by omega)).mono ?_
      rintro e w' ⟨⟨A, c, rfl, hrow⟩, hbl⟩
      exact ⟨⟨A, c, rfl, hrow.rd⟩, hbl⟩
    · refine (scan_bits W A0 c0 n0 l0 false _ rfl hb hW hn0 (by omega)).mono ?_
      rintro e w' ⟨⟨A, c, rfl, hrow⟩, hbl⟩
      exact ⟨⟨A, c, rfl, hrow.rd⟩, hbl⟩
    · rcases scanM_alien l0 with h | h
      · exact .inl h
      · exact .inr (by rw [h]; exact ⟨rfl, rfl, rfl⟩)
set_option maxRecDepth 100000 in
set_option maxHeartbeats 16000000 in
theorem scanAliens_main (w : World) (f : Fr) (A0 A1 : Option Addr) (c0 c1 n0 : Nat) (l0 : List Nat) (hr0 : Rd w A0 (bys l0)) (hn0 : l0.length = n0) (h400 : n0 ≤ 400) (hr1 : Rd w A1 (bys f.data)) (hfn : FrN f) (hl : f.data.length ≤ 100) :
    Calls Tryz.prog 7 #[.slice A0 n0 c0, frv f (.slice A1 f.data.length c1)] w fun e w' => e = .returned (.bool true) ∧ Below w.heap.size w w' := by
  have HAL := Lib.hid (fun W => alive09 W)
  obtain ⟨ka, ea, kb, eb, e0, Fa, Fb, hsa, hsb, hka, hpair, hfa⟩ := raw_pair A0 c0 n0 l0 hn0 h400
  have HSA := Lib.hid hsa
  have HSB := Lib.hid hsb
  have HFA := Lib.hid hfa
  have g400 : decide ((400 : Int) < (n0 : Int)) = false := by simp; omega
  have gka : ((ka : Int) == 4) = false := by simp; omega
  have HWIRE : Hid ((okF f = false ∧ ∀ W, Calls Tryz.prog 17 #[frv f (.slice A1 f.data.length c1)] W fun e w' => e = .returned (.tuple #[.agg #[.slice none 0 0, .int .i64 0, .int .i64 0], .int .i64 2]) ∧ Below W.heap.size W w') ∨
      (okF f = true ∧ ∃ NR NH : Nat, (rawA f).length = NR ∧ (stuffN (hdS f)).length = NH ∧ ∀ W, Rd W A1 (bys f.data) → Calls Tryz.prog 17 #[frv f (.slice A1 f.data.length c1)] W (WireOk f NR NH W))) := by
    show _ ∨ _
    cases h : okF f
    · exact .inl ⟨rfl, fun W => Wire09_no f A1 c1 W (by omega) h⟩
    · exact .inr ⟨rfl, Wire09_ok f A1 c1 h hfn⟩
  have HFN := Lib.hid hfn
  have HSAME := Lib.hid (fun W A c hW1 hW2 => Same_any f f A A1 c c1 W hW1 hW2 hfn.data hfn.data)
  have hsame : sameF f f = true := by unfold sameF; simp
  rw [hsame] at HSAME
  have HR0 := Lib.hid hr0
  have HR1 := Lib.hid hr1
  have HLL := Lib.hid hl
  clear hr0 hr1 hn0 hsa hsb hfa hsame hfn
  obtain ⟨f0, hf0⟩ : ∃ f0, f = f0 := ⟨_, rfl⟩
  have HF0 := Lib.hid hf0
  rw [hf0] at HWIRE HFN HLL
  obtain ⟨fk, fi, fe, fr, f4, f5, f6, f7, f8, f9, fd⟩ := f
  dsimp only [frv] at HSAME HR1 hl ⊢
  obtain ⟨n, hn⟩ : ∃ n, fd.length = n := ⟨_, rfl⟩
  have HN := Lib.hid hn
  rw [hn] at HSAME hl ⊢
  have g100 : decide ((100 : Int) < (n : Int)) = false := by simp; omega
  clear hn hf0
  rcases hpair with rfl | ⟨rfl, rfl, rfl⟩
  all_goals
    go_enter Tryz.func7, Tryz.ntmps7
    go_wp2_with fail
    refine calls_blk1 (fun W0 q0 hb0 => ?_)
    refine (HAL.out _).mono ?_
    rintro e w1 ⟨rfl, hb1⟩
    have Q1 := Lib.hid (heap_below hb1 q0)
    have HB1 := Lib.hid (below_trans hb0 hb1)
    have hp1 := heap_lt Q1.out
    obtain ⟨a0, a1, a2, a3, a4, a5, a6, a7, a8, a9, a10⟩ := cells11 Q1.out
    clear q0 hb0 hb1
    go_wp2_with fail
    refine (HSA.out _ (HR0.out.below HB1.out)).mono ?_
    rintro e w2 ⟨⟨A2, c2, rfl, hrd2⟩, hb2⟩
    have HRD2 := Lib.hid hrd2
    have HB2 := Lib.hid hb2
    clear hb2 hrd2 a0 a1 a2 a3 a4 a5 a6 a7 a8 a9 a10
    go_upto_region 6 with (fail)
    obtain ⟨W3, hW3, q3, hb3⟩ : ∃ W3, w2.alloc (.cells #[.int .i64 ka, .int .i64 ea, .int .i64 Fa.kind, .int .u32 Fa.id, .bool Fa.ext, .bool Fa.rtr, .bool Fa.brs, .bool Fa.esi, .bool Fa.sec, .int .u8 Fa.sdt, .int .u8 Fa.vcid, .int .u32 Fa.af, .slice A2 Fa.data.length c2] 30) = W3 ∧ W3.heap[w2.heap.size]? = some (.cells #[.int .i64 ka, .int .i64 ea, .int .i64 Fa.kind, .int .u32 Fa.id, .bool Fa.ext, .bool Fa.rtr, .bool Fa.brs, .bool Fa.esi, .bool Fa.sec, .int .u8 Fa.sdt, .int .u8 Fa.vcid, .int .u32 Fa.af, .slice A2 Fa.data.length c2] 30 (0, 0)) ∧ Below w2.heap.size w2 W3 := ⟨_, rfl, heap_new_at rfl, below_alloc (Below.refl _ _) _⟩
    rw [hW3]
    have Q3 := Lib.hid q3
    have hp3 := heap_lt q3
    have HRD3 := Lib.hid (HRD2.out.below hb3)
    have HB13 := Lib.hid (below_trans HB2.out hb3)
    clear hW3 q3 hb3 HRD2 HB2
    generalize w2.heap.size = p5 at *
    go_wp2_with fail
    refine (HSB.out _ ((HR0.out.below HB1.out).below HB13.out)).mono ?_
    rintro e w4 ⟨⟨A4, c4, rfl, hrd4⟩, hb4⟩
    have HRD4 := Lib.hid hrd4
    have HB4 := Lib.hid hb4
    clear hb4 hrd4
    go_upto_region 7 with (fail)
  · obtain ⟨W5, hW5, q5, hb5⟩ : ∃ W5, w4.alloc (.cells #[.int .i64 4, .int .i64 eb, .int .i64 Fb.kind, .int .u32 Fb.id, .bool Fb.ext, .bool Fb.rtr, .bool Fb.brs, .bool Fb.esi, .bool Fb.sec, .int .u8 Fb.sdt, .int .u8 Fb.vcid, .int .u32 Fb.af, .slice A4 Fb.data.length c4] 30) = W5 ∧ W5.heap[w4.heap.size]? = some (.cells #[.int .i64 4, .int .i64 eb, .int .i64 Fb.kind, .int .u32 Fb.id, .bool Fb.ext, .bool Fb.rtr, .bool Fb.brs, .bool Fb.esi, .bool Fb.sec, .int .u8 Fb.sdt, .int .u8 Fb.vcid, .int .u32 Fb.af, .slice A4 Fb.data.length c4] 30 (0, 0)) ∧ Below w4.heap.size w4 W5 := ⟨_, rfl, heap_new_at rfl, below_alloc (Below.refl _ _) _⟩
    rw [hW5]
    have Q5 := Lib.hid q5
    have hb35 := below_trans HB4.out hb5
    have HB05 := Lib.hid (below_trans HB1.out (below_trans HB13.out hb35))
    have HRD5 := Lib.hid (HRD4.out.below hb5)
    have HRD35 := Lib.hid (HRD3.out.below hb35)
    have Q35 := Lib.hid (heap_below hb35 Q3.out)
    have Q05 := Lib.hid (heap_below (below_trans HB13.out hb35) Q1.out)
    clear hW5 q5 hb5 hb35 HRD4 HB4 HB13 HRD3 Q3 Q1
    generalize w4.heap.size = p7 at *
    obtain ⟨y0, y1, y2, y3, y4, y5, y6, y7, y8, y9, y10, y11, y12⟩ := cells13 Q35.out
    obtain ⟨z0, z1, z2, z3, z4, z5, z6, z7, z8, z9, z10, z11, z12⟩ := cells13 Q5.out
    obtain ⟨a0, a1, a2, a3, a4, a5, a6, a7, a8, a9, a10⟩ := cells11 Q05.out
    go_wp2_with fail
    have HV := Lib.hid HB05.out
    have QV := Lib.hid Q05.out
    rcases HWIRE.out with ⟨-, hw⟩ | ⟨hok, NR, NH, hNR, hNH, hw⟩
    · rw [← HF0.out] at hw
      dsimp only [frv] at hw
      rw [HN.out] at hw
      have HW := Lib.hid hw
      clear hw
      refine (HW.out _).mono ?_
      rintro e w10 ⟨rfl, hb10⟩
      have HB10 := Lib.hid (below_trans HV.out hb10)
      clear hb10 a0 a1 a2 a3 a4 a5 a6 a7 a8 a9 a10
      go_wp2_with fail
      go_ret
      exact ⟨rfl, below_alloc HB10.out _⟩
    · have hNR2 : NR ≤ 4000 := by rw [← hNR]; exact rawA_len f0 hok (by have := HLL.out; omega)
      have hlen : (wireB f0 1).length = NR + 10 := by rw [wireB_len, hNR]
      have hbits : bitsOk (wireB f0 1) = true := by
        unfold bitsOk
        rw [Bool.and_eq_true, decide_eq_true_eq, decide_eq_true_eq, hlen]
        exact ⟨by omega, wireB_bits f0 1 (by omega)⟩
      obtain ⟨WL, hWL⟩ : ∃ l, wireB f0 1 = l := ⟨_, rfl⟩
      unfold WireOk at hw
      simp only [hWL] at hw
      by_cases hk3 : f0.kind = 3
      · obtain ⟨x0, x1, x2, x17, xle⟩ := alien_xl f0 hk3 hok HFN.out NH (by rw [← hNH]; unfold hdS; rw [if_neg (by omega), if_pos hk3])
        rw [hNR] at xle
        rw [hWL] at x0 x1 x2 hlen hbits
        obtain ⟨M, rfl⟩ : ∃ M, NH = M + 2 := ⟨NH - 2, by omega⟩
        rw [show M + 2 - 2 = M by omega] at x0
        obtain ⟨Sc, hSc⟩ : ∃ S, scanM false WL = S := ⟨_, rfl⟩
        obtain ⟨Sd, hSd⟩ : ∃ S, scanM false (WL.take M) = S := ⟨_, rfl⟩
        obtain ⟨Sx, hSx⟩ : ∃ S, scanM false (WL.take (M + 2)) = S := ⟨_, rfl⟩
        have HSC := Lib.hid (fun W A c (hW : Rd W A (bys WL)) => scan_bits W A c (NR + 10) WL false Sc hSc hbits hW hlen (by omega))
        have HSD := Lib.hid (fun W A c (hW : Rd W A (bys WL)) => scan_bits W A c M (WL.take M) false Sd hSd (bitsOk_take hbits M) (rd_take hW M) (by rw [List.length_take]; omega) (by omega))
        have HSX := Lib.hid (fun W A c (hW : Rd W A (bys WL)) => scan_bits W A c (M + 2) (WL.take (M + 2)) false Sx hSx (bitsOk_take hbits (M + 2)) (rd_take hW (M + 2)) (by rw [List.length_take]; omega) (by omega))
        rw [hSc] at x2
        rw [hSd] at x0
        rw [hSx] at x1
        rw [x2] at HSC
        rw [x0] at HSD
        rw [x1] at HSX
        generalize Sc.err = ec at *
        generalize Sd.err = ed at *
        generalize Sx.err = ex at *
        generalize Sc.sf = Fc at *
        generalize Sd.sf = Fd at *
        generalize Sx.sf = Fx at *
        have HLEN := Lib.hid hlen
        clear hSc hSd hSx x0 x1 x2 hlen hbits hNR hNH hok hWL
        rw [← HF0.out] at hw hk3
        dsimp only [frv] at hw hk3
        rw [HN.out] at hw
        have gk3 : (fk == 3) = true := by simp; omega
        have HW := Lib.hid hw
        clear hw hk3
        refine (HW.out _ (HR1.out.below HV.out)).mono ?_
        rintro e w10 ⟨⟨A10, c10, rfl, hrow10⟩, hb10⟩
        have hc10 := hrow10.cap
        rw [bys_length, HLEN.out] at hc10
        have HRW10 := Lib.hid hrow10.rd
        have HB10 := Lib.hid (below_trans HV.out hb10)
        have Q10 := Lib.hid (heap_below hb10 QV.out)
        clear hrow10 hb10 a0 a1 a2 a3 a4 a5 a6 a7 a8 a9 a10
        go_upto_region 10 with (fail)
        obtain ⟨W11, hW11, q11, hb11⟩ : ∃ W11, w10.alloc (.cells #[.slice A10 (NR + 10) c10, .int .i64 ((M : Int) + 2), .int .i64 ((NR : Int) + 1)] 44) = W11 ∧ W11.heap[w10.heap.size]? = some (.cells #[.slice A10 (NR + 10) c10, .int .i64 ((M : Int) + 2), .int .i64 ((NR : Int) + 1)] 44 (0, 0)) ∧ Below w10.heap.size w10 W11 := ⟨_, rfl, heap_new_at rfl, below_alloc (Below.refl _ _) _⟩
        rw [hW11]
        have t0 : W11.cell? ⟨w10.heap.size, 0, none⟩ = some (.slice A10 (NR + 10) c10) := cell_of_heap q11 0 _ rfl
        have P11 := Lib.hid q11
        have HRW11 := Lib.hid (HRW10.out.below hb11)
        have HB11 := Lib.hid (below_trans HB10.out hb11)
        have Q11 := Lib.hid (heap_below hb11 Q10.out)
        clear hW11 q11 hb11 HRW10 HB10 Q10
        obtain ⟨ad, rfl, -⟩ := HRW11.out.at_ 0 (by rw [HLEN.out]; omega)
        generalize w10.heap.size = p9 at *
        go_wp2_with fail
        refine (HSC.out _ _ _ HRW11.out).mono ?_
        rintro e w12 ⟨⟨A12, c12, rfl, -⟩, hb12⟩
        have HRW12 := Lib.hid (HRW11.out.below hb12)
        have P12 := Lib.hid (heap_below hb12 P11.out)
        have HB12 := Lib.hid (below_trans HB11.out hb12)
        have Q12 := Lib.hid (heap_below hb12 Q11.out)
        clear hb12 t0 HB11 Q11 HRW11 P11
        go_upto_region 13 with (fail)
        obtain ⟨W13, hW13, q13, hb13⟩ : ∃ W13, w12.alloc (.cells #[.int .i64 4, .int .i64 ec, .int .i64 Fc.kind, .int .u32 Fc.id, .bool Fc.ext, .bool Fc.rtr, .bool Fc.brs, .bool Fc.esi, .bool Fc.sec, .int .u8 Fc.sdt, .int .u8 Fc.vcid, .int .u32 Fc.af, .slice A12 Fc.data.length c12] 30) = W13 ∧ W13.heap[w12.heap.size]? = some (.cells #[.int .i64 4, .int .i64 ec, .int .i64 Fc.kind, .int .u32 Fc.id, .bool Fc.ext, .bool Fc.rtr, .bool Fc.brs, .bool Fc.esi, .bool Fc.sec, .int .u8 Fc.sdt, .int .u8 Fc.vcid, .int .u32 Fc.af, .slice A12 Fc.data.length c12] 30 (0, 0)) ∧ Below w12.heap.size w12 W13 := ⟨_, rfl, heap_new_at rfl, below_alloc (Below.refl _ _) _⟩
        rw [hW13]
        have HRW13 := Lib.hid (HRW12.out.below hb13)
        have P13 := Lib.hid (heap_below hb13 P12.out)
        have HB13 := Lib.hid (below_trans HB12.out hb13)
        have R13 := Lib.hid q13
        have Q13 := heap_below hb13 Q12.out
        have a0 : W13.cell? ⟨w.heap.size, 0, none⟩ = some (.int .i64 fk) := cell_of_heap Q13 0 _ rfl
        have t0 : W13.cell? ⟨p9, 0, none⟩ = some (.slice (some ad) (NR + 10) c10) := cell_of_heap P13.out 0 _ rfl
        have t1 : W13.cell? ⟨p9, 1, none⟩ = some (.int .i64 ((M : Int) + 2)) := cell_of_heap P13.out 1 _ rfl
        clear hW13 q13 hb13 HRW12 HB12 Q12 Q13 P12
        generalize w12.heap.size = p11 at *
        go_wp2_with fail
        refine (HSD.out _ _ _ HRW13.out).mono ?_
        rintro e w14 ⟨⟨A14, c14, rfl, -⟩, hb14⟩
        have HRW14 := Lib.hid (HRW13.out.below hb14)
        have P14 := Lib.hid (heap_below hb14 P13.out)
        have R14 := Lib.hid (heap_below hb14 R13.out)
        have HB14 := Lib.hid (below_trans HB13.out hb14)
        clear hb14 t0 t1 a0 HB13 HRW13 P13 R13
        go_upto_region 16 with (fail)
        obtain ⟨W15, hW15, q15, hb15⟩ : ∃ W15, w14.alloc (.cells #[.int .i64 0, .int .i64 ed, .int .i64 Fd.kind, .int .u32 Fd.id, .bool Fd.ext, .bool Fd.rtr, .bool Fd.brs, .bool Fd.esi, .bool Fd.sec, .int .u8 Fd.sdt, .int .u8 Fd.vcid, .int .u32 Fd.af, .slice A14 Fd.data.length c14] 30) = W15 ∧ W15.heap[w14.heap.size]? = some (.cells #[.int .i64 0, .int .i64 ed, .int .i64 Fd.kind, .int .u32 Fd.id, .bool Fd.ext, .bool Fd.rtr, .bool Fd.brs, .bool Fd.esi, .bool Fd.sec, .int .u8 Fd.sdt, .int .u8 Fd.vcid, .int .u32 Fd.af, .slice A14 Fd.data.length c14] 30 (0, 0)) ∧ Below w14.heap.size w14 W15 := ⟨_, rfl, heap_new_at rfl, below_alloc (Below.refl _ _) _⟩
        rw [hW15]
        have HRW15 := Lib.hid (HRW14.out.below hb15)
        have P15 := heap_below hb15 P14.out
        have R15 := Lib.hid (heap_below hb15 R14.out)
        have HB15 := Lib.hid (below_trans HB14.out hb15)
        have S15 := Lib.hid q15
        have t0 : W15.cell? ⟨p9, 0, none⟩ = some (.slice (some ad) (NR + 10) c10) := cell_of_heap P15 0 _ rfl
        have t1 : W15.cell? ⟨p9, 1, none⟩ = some (.int .i64 ((M : Int) + 2)) := cell_of_heap P15 1 _ rfl
        clear hW15 q15 hb15 HRW14 HB14 P14 P15 R14
        generalize w14.heap.size = p13 at *
        go_wp2_with fail
        refine (HSX.out _ _ _ HRW15.out).mono ?_
        rintro e w16 ⟨⟨A16, c16, rfl, -⟩, hb16⟩
        have R16 := Lib.hid (heap_below hb16 R15.out)
        have S16 := Lib.hid (heap_below hb16 S15.out)
        have HB16 := Lib.hid (below_trans HB15.out hb16)
        clear hb16 t0 t1 HB15 HRW15 R15 S15
        go_upto_region 17 with (fail)
        obtain ⟨W17, hW17, q17, hb17⟩ : ∃ W17, w16.alloc (.cells #[.int .i64 4, .int .i64 ex, .int .i64 Fx.kind, .int .u32 Fx.id, .bool Fx.ext, .bool Fx.rtr, .bool Fx.brs, .bool Fx.esi, .bool Fx.sec, .int .u8 Fx.sdt, .int .u8 Fx.vcid, .int .u32 Fx.af, .slice A16 Fx.data.length c16] 30) = W17 ∧ W17.heap[w16.heap.size]? = some (.cells #[.int .i64 4, .int .i64 ex, .int .i64 Fx.kind, .int .u32 Fx.id, .bool Fx.ext, .bool Fx.rtr, .bool Fx.brs, .bool Fx.esi, .bool Fx.sec, .int .u8 Fx.sdt, .int .u8 Fx.vcid, .int .u32 Fx.af, .slice A16 Fx.data.length c16] 30 (0, 0)) ∧ Below w16.heap.size w16 W17 := ⟨_, rfl, heap_new_at rfl, below_alloc (Below.refl _ _) _⟩
        rw [hW17]
        have HB17 := Lib.hid (below_trans HB16.out hb17)
        have u0 : W17.cell? ⟨p11, 0, none⟩ = some (.int .i64 4) := cell_of_heap (heap_below hb17 R16.out) 0 _ rfl
        have u1 : W17.cell? ⟨p13, 0, none⟩ = some (.int .i64 0) := cell_of_heap (heap_below hb17 S16.out) 0 _ rfl
        have u2 : W17.cell? ⟨w16.heap.size, 0, none⟩ = some (.int .i64 4) := cell_of_heap q17 0 _ rfl
        clear hW17 q17 hb17 R16 S16 HB16
        generalize w16.heap.size = p15 at *
        go_wp2_with fail
        go_ret
        exact ⟨by first | rfl | simp, HB17.out⟩
      · obtain ⟨x0, x1⟩ := alien_not f0 hk3 hok HFN.out
        rw [hWL] at x0 x1 hlen hbits
        obtain ⟨Sc, hSc⟩ : ∃ S, scanM false WL = S := ⟨_, rfl⟩
        have HSC := Lib.hid (fun W A c (hW : Rd W A (bys WL)) => scan_bits W A c (NR + 10) WL false Sc hSc hbits hW hlen (by omega))
        rw [hSc] at x0 x1
        rw [x0, x1, ← HF0.out] at HSC
        dsimp only at HSC
        rw [HN.out] at HSC
        generalize Sc.err = ec at *
        clear hSc x0 x1 hlen hbits hNR hNH hok hWL
        rw [← HF0.out] at hw hk3
        dsimp only [frv] at hw hk3
        rw [HN.out] at hw
        have gk3 : (fk == 3) = false := by simp; omega
        have HW := Lib.hid hw
        clear hw hk3
        refine (HW.out _ (HR1.out.below HV.out)).mono ?_
        rintro e w10 ⟨⟨A10, c10, rfl, hrow10⟩, hb10⟩
        have HRW10 := Lib.hid hrow10.rd
        have HB10 := Lib.hid (below_trans HV.out hb10)
        have Q10 := Lib.hid (heap_below hb10 QV.out)
        clear hrow10 hb10 a0 a1 a2 a3 a4 a5 a6 a7 a8 a9 a10
        go_upto_region 10 with (fail)
        obtain ⟨W11, hW11, q11, hb11⟩ : ∃ W11, w10.alloc (.cells #[.slice A10 (NR + 10) c10, .int .i64 NH, .int .i64 ((NR : Int) + 1)] 44) = W11 ∧ W11.heap[w10.heap.size]? = some (.cells #[.slice A10 (NR + 10) c10, .int .i64 NH, .int .i64 ((NR : Int) + 1)] 44 (0, 0)) ∧ Below w10.heap.size w10 W11 := ⟨_, rfl, heap_new_at rfl, below_alloc (Below.refl _ _) _⟩
        rw [hW11]
        have t0 : W11.cell? ⟨w10.heap.size, 0, none⟩ = some (.slice A10 (NR + 10) c10) := cell_of_heap q11 0 _ rfl
        have HRW11 := Lib.hid (HRW10.out.below hb11)
        have HB11 := Lib.hid (below_trans HB10.out hb11)
        have Q11 := Lib.hid (heap_below hb11 Q10.out)
        clear hW11 q11 hb11 HRW10 HB10 Q10
        generalize w10.heap.size = p9 at *
        go_wp2_with fail
        refine (HSC.out _ _ _ HRW11.out).mono ?_
        rintro e w12 ⟨⟨A12, c12, rfl, hrow12⟩, hb12⟩
        have HRD12 := Lib.hid hrow12.rd
        have HB12 := Lib.hid (below_trans HB11.out hb12)
        have Q12 := Lib.hid (heap_below hb12 Q11.out)
        clear hrow12 hb12 t0 HB11 Q11 HRW11
        go_upto_region 13 with (fail)
        obtain ⟨W13, hW13, q13, hb13⟩ : ∃ W13, w12.alloc (.cells #[.int .i64 2, .int .i64 ec, .int .i64 fk, .int .u32 fi, .bool fe, .bool fr, .bool f4, .bool f5, .bool f6, .int .u8 f7, .int .u8 f8, .int .u32 f9, .slice A12 n c12] 30) = W13 ∧ W13.heap[w12.heap.size]? = some (.cells #[.int .i64 2, .int .i64 ec, .int .i64 fk, .int .u32 fi, .bool fe, .bool fr, .bool f4, .bool f5, .bool f6, .int .u8 f7, .int .u8 f8, .int .u32 f9, .slice A12 n c12] 30 (0, 0)) ∧ Below w12.heap.size w12 W13 := ⟨_, rfl, heap_new_at rfl, below_alloc (Below.refl _ _) _⟩
        rw [hW13]
        have HRD13 := Lib.hid (HRD12.out.below hb13)
        have HB13 := Lib.hid (below_trans HB12.out hb13)
        have Q13 := Lib.hid (heap_below hb13 Q12.out)
        obtain ⟨z0, z1, z2, z3, z4, z5, z6, z7, z8, z9, z10, z11, z12⟩ := cells13 q13
        obtain ⟨a0, a1, a2, a3, a4, a5, a6, a7, a8, a9, a10⟩ := cells11 Q13.out
        clear hW13 q13 hb13 HRD12 HB12 Q12
        generalize w12.heap.size = p11 at *
        have HSM2 := Lib.hid (HSAME.out W13 A12 c12 HRD13.out (HR1.out.below HB13.out))
        go_wp2_with fail
        refine HSM2.out.mono ?_
        rintro e w14 ⟨rfl, hb14⟩
        have HB14 := Lib.hid (below_trans HB13.out hb14)
        clear hb14
        go_wp2_with fail
        go_ret
        exact ⟨by first | rfl | simp, HB14.out⟩
  · obtain ⟨W5, hW5, q5, hb5⟩ : ∃ W5, w4.alloc (.cells #[.int .i64 ka, .int .i64 ea, .int .i64 Fa.kind, .int .u32 Fa.id, .bool Fa.ext, .bool Fa.rtr, .bool Fa.brs, .bool Fa.esi, .bool Fa.sec, .int .u8 Fa.sdt, .int .u8 Fa.vcid, .int .u32 Fa.af, .slice A4 Fa.data.length c4] 30) = W5 ∧ W5.heap[w4.heap.size]? = some (.cells #[.int .i64 ka, .int .i64 ea, .int .i64 Fa.kind, .int .u32 Fa.id, .bool Fa.ext, .bool Fa.rtr, .bool Fa.brs, .bool Fa.esi, .bool Fa.sec, .int .u8 Fa.sdt, .int .u8 Fa.vcid, .int .u32 Fa.af, .slice A4 Fa.data.length c4] 30 (0, 0)) ∧ Below w4.heap.size w4 W5 := ⟨_, rfl, heap_new_at rfl, below_alloc (Below.refl _ _) _⟩
    rw [hW5]
    have Q5 := Lib.hid q5
    have hb35 := below_trans HB4.out hb5
    have HB05 := Lib.hid (below_trans HB1.out (below_trans HB13.out hb35))
    have HRD5 := Lib.hid (HRD4.out.below hb5)
    have HRD35 := Lib.hid (HRD3.out.below hb35)
    have Q35 := Lib.hid (heap_below hb35 Q3.out)
    have Q05 := Lib.hid (heap_below (below_trans HB13.out hb35) Q1.out)
    clear hW5 q5 hb5 hb35 HRD4 HB4 HB13 HRD3 Q3 Q1
    generalize w4.heap.size = p7 at *
    obtain ⟨y0, y1, y2, y3, y4, y5, y6, y7, y8, y9, y10, y11, y12⟩ := cells13 Q35.out
    obtain ⟨z0, z1, z2, z3, z4, z5, z6, z7, z8, z9, z10, z11, z12⟩ := cells13 Q5.out
    have HSM := Lib.hid (Same09_any ka ea Fa A2 A4 c2 c4 W5 HRD35.out HRD5.out (by have := HFA.out; omega))
    go_wp2_with fail
    refine HSM.out.mono ?_
    rintro e w6 ⟨rfl, hb6⟩
    clear y0 y1 y2 y3 y4 y5 y6 y7 y8 y9 y10 y11 y12 z0 z1 z2 z3 z4 z5 z6 z7 z8 z9 z10 z11 z12
    have HB06 := Lib.hid (below_trans HB05.out hb6)
    have Q06 := Lib.hid (heap_below hb6 Q05.out)
    obtain ⟨y0, -⟩ := cells13 (heap_below hb6 Q35.out)
    obtain ⟨a0, a1, a2, a3, a4, a5, a6, a7, a8, a9, a10⟩ := cells11 Q06.out
    clear hb6 HSM Q35 Q5 Q05 HB05
    go_wp2_with fail
    have HV := Lib.hid HB06.out
    have QV := Lib.hid Q06.out
    rcases HWIRE.out with ⟨-, hw⟩ | ⟨hok, NR, NH, hNR, hNH, hw⟩
    · rw [← HF0.out] at hw
      dsimp only [frv] at hw
      rw [HN.out] at hw
      have HW := Lib.hid hw
      clear hw
      refine (HW.out _).mono ?_
      rintro e w10 ⟨rfl, hb10⟩
      have HB10 := Lib.hid (below_trans HV.out hb10)
      clear hb10 a0 a1 a2 a3 a4 a5 a6 a7 a8 a9 a10
      go_wp2_with fail
      go_ret
      exact ⟨rfl, below_alloc HB10.out _⟩
    · have hNR2 : NR ≤ 4000 := by rw [← hNR]; exact rawA_len f0 hok (by have := HLL.out; omega)
      have hlen : (wireB f0 1).length = NR + 10 := by rw [wireB_len, hNR]
      have hbits : bitsOk (wireB f0 1) = true := by
        unfold bitsOk
        rw [Bool.and_eq_true, decide_eq_true_eq, decide_eq_true_eq, hlen]
        exact ⟨by omega, wireB_bits f0 1 (by omega)⟩
      obtain ⟨WL, hWL⟩ : ∃ l, wireB f0 1 = l := ⟨_, rfl⟩
      unfold WireOk at hw
      simp only [hWL] at hw
      by_cases hk3 : f0.kind = 3
      · obtain ⟨x0, x1, x2, x17, xle⟩ := alien_xl f0 hk3 hok HFN.out NH (by rw [← hNH]; unfold hdS; rw [if_neg (by omega), if_pos hk3])
        rw [hNR] at xle
        rw [hWL] at x0 x1 x2 hlen hbits
        obtain ⟨M, rfl⟩ : ∃ M, NH = M + 2 := ⟨NH - 2, by omega⟩
        rw [show M + 2 - 2 = M by omega] at x0
        obtain ⟨Sc, hSc⟩ : ∃ S, scanM false WL = S := ⟨_, rfl⟩
        obtain ⟨Sd, hSd⟩ : ∃ S, scanM false (WL.take M) = S := ⟨_, rfl⟩
        obtain ⟨Sx, hSx⟩ : ∃ S, scanM false (WL.take (M + 2)) = S := ⟨_, rfl⟩
        have HSC := Lib.hid (fun W A c (hW : Rd W A (bys WL)) => scan_bits W A c (NR + 10) WL false Sc hSc hbits hW hlen (by omega))
        have HSD := Lib.hid (fun W A c (hW : Rd W A (bys WL)) => scan_bits W A c M (WL.take M) false Sd hSd (bitsOk_take hbits M) (rd_take hW M) (by rw [List.length_take]; omega) (by omega))
        have HSX := Lib.hid (fun W A c (hW : Rd W A (bys WL)) => scan_bits W A c (M + 2) (WL.take (M + 2)) false Sx hSx (bitsOk_take hbits (M + 2)) (rd_take hW (M + 2)) (by rw [List.length_take]; omega) (by omega))
        rw [hSc] at x2
        rw [hSd] at x0
        rw [hSx] at x1
        rw [x2] at HSC
        rw [x0] at HSD
        rw [x1] at HSX
        generalize Sc.err = ec at *
        generalize Sd.err = ed at *
        generalize Sx.err = ex at *
        generalize Sc.sf = Fc at *
        generalize Sd.sf = Fd at *
        generalize Sx.sf = Fx at *
        have HLEN := Lib.hid hlen
        clear hSc hSd hSx x0 x1 x2 hlen hbits hNR hNH hok hWL
        rw [← HF0.out] at hw hk3
        dsimp only [frv] at hw hk3
        rw [HN.out] at hw
        have gk3 : (fk == 3) = true := by simp; omega
        have HW := Lib.hid hw
        clear hw hk3
        refine (HW.out _ (HR1.out.below HV.out)).mono ?_
        rintro e w10 ⟨⟨A10, c10, rfl, hrow10⟩, hb10⟩
        have hc10 := hrow10.cap
        rw [bys_length, HLEN.out] at hc10
        have HRW10 := Lib.hid hrow10.rd
        have HB10 := Lib.hid (below_trans HV.out hb10)
        have Q10 := Lib.hid (heap_below hb10 QV.out)
        clear hrow10 hb10 a0 a1 a2 a3 a4 a5 a6 a7 a8 a9 a10
        go_upto_region 10 with (fail)
        obtain ⟨W11, hW11, q11, hb11⟩ : ∃ W11, w10.alloc (.cells #[.slice A10 (NR + 10) c10, .int .i64 ((M : Int) + 2), .int .i64 ((NR : Int) + 1)] 44) = W11 ∧ W11.heap[w10.heap.size]? = some (.cells #[.slice A10 (NR + 10) c10, .int .i64 ((M : Int) + 2), .int .i64 ((NR : Int) + 1)] 44 (0, 0)) ∧ Below w10.heap.size w10 W11 := ⟨_, rfl, heap_new_at rfl, below_alloc (Below.refl _ _) _⟩
        rw [hW11]
        have t0 : W11.cell? ⟨w10.heap.size, 0, none⟩ = some (.slice A10 (NR + 10) c10) := cell_of_heap q11 0 _ rfl
        have P11 := Lib.hid q11
        have HRW11 := Lib.hid (HRW10.out.below hb11)
        have HB11 := Lib.hid (below_trans HB10.out hb11)
        have Q11 := Lib.hid (heap_below hb11 Q10.out)
        clear hW11 q11 hb11 HRW10 HB10 Q10
        obtain ⟨ad, rfl, -⟩ := HRW11.out.at_ 0 (by rw [HLEN.out]; omega)
        generalize w10.heap.size = p9 at *
        go_wp2_with fail
        refine (HSC.out _ _ _ HRW11.out).mono ?_
        rintro e w12 ⟨⟨A12, c12, rfl, -⟩, hb12⟩
        have HRW12 := Lib.hid (HRW11.out.below hb12)
        have P12 := Lib.hid (heap_below hb12 P11.out)
        have HB12 := Lib.hid (below_trans HB11.out hb12)
        have Q12 := Lib.hid (heap_below hb12 Q11.out)
        clear hb12 t0 HB11 Q11 HRW11 P11
        go_upto_region 13 with (fail)
        obtain ⟨W13, hW13, q13, hb13⟩ : ∃ W13, w12.alloc (.cells #[.int .i64 4, .int .i64 ec, .int .i64 Fc.kind, .int .u32 Fc.id, .bool Fc.ext, .bool Fc.rtr, .bool Fc.brs, .bool Fc.esi, .bool Fc.sec, .int .u8 Fc.sdt, .int .u8 Fc.vcid, .int .u32 Fc.af, .slice A12 Fc.data.length c12] 30) = W13 ∧ W13.heap[w12.heap.size]? = some (.cells #[.int .i64 4, .int .i64 ec, .int .i64 Fc.kind, .int .u32 Fc.id, .bool Fc.ext, .bool Fc.rtr, .bool Fc.brs, .bool Fc.esi, .bool Fc.sec, .int .u8 Fc.sdt, .int .u8 Fc.vcid, .int .u32 Fc.af, .slice A12 Fc.data.length c12] 30 (0, 0)) ∧ Below w12.heap.size w12 W13 := ⟨_, rfl, heap_new_at rfl, below_alloc (Below.refl _ _) _⟩
        rw [hW13]
        have HRW13 := Lib.hid (HRW12.out.below hb13)
        have P13 := Lib.hid (heap_below hb13 P12.out)
        have HB13 := Lib.hid (below_trans HB12.out hb13)
        have R13 := Lib.hid q13
        have Q13 := heap_below hb13 Q12.out
        have a0 : W13.cell? ⟨w.heap.size, 0, none⟩ = some (.int .i64 fk) := cell_of_heap Q13 0 _ rfl
        have t0 : W13.cell? ⟨p9, 0, none⟩ = some (.slice (some ad) (NR + 10) c10) := cell_of_heap P13.out 0 _ rfl
        have t1 : W13.cell? ⟨p9, 1, none⟩ = some (.int .i64 ((M : Int) + 2)) := cell_of_heap P13.out 1 _ rfl
        clear hW13 q13 hb13 HRW12 HB12 Q12 Q13 P12
        generalize w12.heap.size = p11 at *
        go_wp2_with fail
        refine (HSD.out _ _ _ HRW13.out).mono ?_
        rintro e w14 ⟨⟨A14, c14, rfl, -⟩, hb14⟩
        have HRW14 := Lib.hid (HRW13.out.below hb14)
        have P14 := Lib.hid (heap_below hb14 P13.out)
        have R14 := Lib.hid (heap_below hb14 R13.out)
        have HB14 := Lib.hid (below_trans HB13.out hb14)
        clear hb14 t0 t1 a0 HB13 HRW13 P13 R13
        go_upto_region 16 with (fail)
        obtain ⟨W15, hW15, q15, hb15⟩ : ∃ W15, w14.alloc (.cells #[.int .i64 0, .int .i64 ed, .int .i64 Fd.kind, .int .u32 Fd.id, .bool Fd.ext, .bool Fd.rtr, .bool Fd.brs, .bool Fd.esi, .bool Fd.sec, .int .u8 Fd.sdt, .int .u8 Fd.vcid, .int .u32 Fd.af, .slice A14 Fd.data.length c14] 30) = W15 ∧ W15.heap[w14.heap.size]? = some (.cells #[.int .i64 0, .int .i64 ed, .int .i64 Fd.kind, .int .u32 Fd.id, .bool Fd.ext, .bool Fd.rtr, .bool Fd.brs, .bool Fd.esi, .bool Fd.sec, .int .u8 Fd.sdt, .int .u8 Fd.vcid, .int .u32 Fd.af, .slice A14 Fd.data.length c14] 30 (0, 0)) ∧ Below w14.heap.size w14 W15 := ⟨_, rfl, heap_new_at rfl, below_alloc (Below.refl _ _) _⟩
        rw [hW15]
        have HRW15 := Lib.hid (HRW14.out.below hb15)
        have P15 := heap_below hb15 P14.out
        have R15 := Lib.hid (heap_below hb15 R14.out)
        have HB15 := Lib.hid (below_trans HB14.out hb15)
        have S15 := Lib.hid q15
        have t0 : W15.cell? ⟨p9, 0, none⟩ = some (.slice (some ad) (NR + 10) c10) := cell_of_heap P15 0 _ rfl
        have t1 : W15.cell? ⟨p9, 1, none⟩ = some (.int .i64 ((M : Int) + 2)) := cell_of_heap P15 1 _ rfl
        clear hW15 q15 hb15 HRW14 HB14 P14 P15 R14
        generalize w14.heap.size = p13 at *
        go_wp2_with fail
        refine (HSX.out _ _ _ HRW15.out).mono ?_
        rintro e w16 ⟨⟨A16, c16, rfl, -⟩, hb16⟩
        have R16 := Lib.hid (heap_below hb16 R15.out)
        have S16 := Lib.hid (heap_below hb16 S15.out)
        have HB16 := Lib.hid (below_trans HB15.out hb16)
        clear hb16 t0 t1 HB15 HRW15 R15 S15
        go_upto_region 17 with (fail)
        obtain ⟨W17, hW17, q17, hb17⟩ : ∃ W17, w16.alloc (.cells #[.int .i64 4, .int .i64 ex, .int .i64 Fx.kind, .int .u32 Fx.id, .bool Fx.ext, .bool Fx.rtr, .bool Fx.brs, .bool Fx.esi, .bool Fx.sec, .int .u8 Fx.sdt, .int .u8 Fx.vcid, .int .u32 Fx.af, .slice A16 Fx.data.length c16] 30) = W17 ∧ W17.heap[w16.heap.size]? = some (.cells #[.int .i64 4, .int .i64 ex, .int .i64 Fx.kind, .int .u32 Fx.id, .bool Fx.ext, .bool Fx.rtr, .bool Fx.brs, .bool Fx.esi, .bool Fx.sec, .int .u8 Fx.sdt, .int .u8 Fx.vcid, .int .u32 Fx.af, .slice A16 Fx.data.length c16] 30 (0, 0)) ∧ Below w16.heap.size w16 W17 := ⟨_, rfl, heap_new_at rfl, below_alloc (Below.refl _ _) _⟩
        rw [hW17]
        have HB17 := Lib.hid (below_trans HB16.out hb17)
        have u0 : W17.cell? ⟨p11, 0, none⟩ = some (.int .i64 4) := cell_of_heap (heap_below hb17 R16.out) 0 _ rfl
        have u1 : W17.cell? ⟨p13, 0, none⟩ = some (.int .i64 0) := cell_of_heap (heap_below hb17 S16.out) 0 _ rfl
        have u2 : W17.cell? ⟨w16.heap.size, 0, none⟩ = some (.int .i64 4) := cell_of_heap q17 0 _ rfl
        clear hW17 q17 hb17 R16 S16 HB16
        generalize w16.heap.size = p15 at *
        go_wp2_with fail
        go_ret
        exact ⟨by first | rfl | simp, HB17.out⟩
      · obtain ⟨x0, x1⟩ := alien_not f0 hk3 hok HFN.out
        rw [hWL] at x0 x1 hlen hbits
        obtain ⟨Sc, hSc⟩ : ∃ S, scanM false WL = S := ⟨_, rfl⟩
        have HSC := Lib.hid (fun W A c (hW : Rd W A (bys WL)) => scan_bits W A c (NR + 10) WL false Sc hSc hbits hW hlen (by omega))
        rw [hSc] at x0 x1
        rw [x0, x1, ← HF0.out] at HSC
        dsimp only at HSC
        rw [HN.out] at HSC
        generalize Sc.err = ec at *
        clear hSc x0 x1 hlen hbits hNR hNH hok hWL
        rw [← HF0.out] at hw hk3
        dsimp only [frv] at hw hk3
        rw [HN.out] at hw
        have gk3 : (fk == 3) = false := by simp; omega
        have HW := Lib.hid hw
        clear hw hk3
        refine (HW.out _ (HR1.out.below HV.out)).mono ?_
        rintro e w10 ⟨⟨A10, c10, rfl, hrow10⟩, hb10⟩
        have HRW10 := Lib.hid hrow10.rd
        have HB10 := Lib.hid (below_trans HV.out hb10)
        have Q10 := Lib.hid (heap_below hb10 QV.out)
        clear hrow10 hb10 a0 a1 a2 a3 a4 a5 a6 a7 a8 a9 a10
        go_upto_region 10 with (fail)
        obtain ⟨W11, hW11, q11, hb11⟩ : ∃ W11, w10.alloc (.cells #[.slice A10 (NR + 10) c10, .int .i64 NH, .int .i64 ((NR : Int) + 1)] 44) = W11 ∧ W11.heap[w10.heap.size]? = some (.cells #[.slice A10 (NR + 10) c10, .int .i64 NH, .int .i64 ((NR : Int) + 1)] 44 (0, 0)) ∧ Below w10.heap.size w10 W11 := ⟨_, rfl, heap_new_at rfl, below_alloc (Below.refl _ _) _⟩
        rw [hW11]
        have t0 : W11.cell? ⟨w10.heap.size, 0, none⟩ = some (.slice A10 (NR + 10) c10) := cell_of_heap q11 0 _ rfl
        have HRW11 := Lib.hid (HRW10.out.below hb11)
        have HB11 := Lib.hid (below_trans HB10.out hb11)
        have Q11 := Lib.hid (heap_below hb11 Q10.out)
        clear hW11 q11 hb11 HRW10 HB10 Q10
        generalize w10.heap.size = p9 at *
        go_wp2_with fail
        refine (HSC.out _ _ _ HRW11.out).mono ?_
        rintro e w12 ⟨⟨A12, c12, rfl, hrow12⟩, hb12⟩
        have HRD12 := Lib.hid hrow12.rd
        have HB12 := Lib.hid (below_trans HB11.out hb12)
        have Q12 := Lib.hid (heap_below hb12 Q11.out)
        clear hrow12 hb12 t0 HB11 Q11 HRW11
        go_upto_region 13 with (fail)
        obtain ⟨W13, hW13, q13, hb13⟩ : ∃ W13, w12.alloc (.cells #[.int .i64 2, .int .i64 ec, .int .i64 fk, .int .u32 fi, .bool fe, .bool fr, .bool f4, .bool f5, .bool f6, .int .u8 f7, .int .u8 f8, .int .u32 f9, .slice A12 n c12] 30) = W13 ∧ W13.heap[w12.heap.size]? = some (.cells #[.int .i64 2, .int .i64 ec, .int .i64 fk, .int .u32 fi, .bool fe, .bool fr, .bool f4, .bool f5, .bool f6, .int .u8 f7, .int .u8 f8, .int .u32 f9, .slice A12 n c12] 30 (0, 0)) ∧ Below w12.heap.size w12 W13 := ⟨_, rfl, heap_new_at rfl, below_alloc (Below.refl _ _) _⟩
        rw [hW13]
        have HRD13 := Lib.hid (HRD12.out.below hb13)
        have HB13 := Lib.hid (below_trans HB12.out hb13)
        have Q13 := Lib.hid (heap_below hb13 Q12.out)
        obtain ⟨z0, z1, z2, z3, z4, z5, z6, z7, z8, z9, z10, z11, z12⟩ := cells13 q13
        obtain ⟨a0, a1, a2, a3, a4, a5, a6, a7, a8, a9, a10⟩ := cells11 Q13.out
        clear hW13 q13 hb13 HRD12 HB12 Q12
        generalize w12.heap.size = p11 at *
        have HSM2 := Lib.hid (HSAME.out W13 A12 c12 HRD13.out (HR1.out.below HB13.out))
        go_wp2_with fail
        refine HSM2.out.mono ?_
        rintro e w14 ⟨rfl, hb14⟩
        have HB14 := Lib.hid (below_trans HB13.out hb14)
        clear hb14
        go_wp2_with fail
        go_ret
        exact ⟨by first | rfl | simp, HB14.out⟩
set_option maxRecDepth 100000 in
set_option maxHeartbeats 4000000 in
theorem scanAliens_triv (w : World) (f : Fr) (A0 A1 : Option Addr) (c0 c1 n0 : Nat) (h : 400 < n0 ∨ (n0 ≤ 400 ∧ 100 < f.data.length)) :
    Calls Tryz.prog 7 #[.slice A0 n0 c0, frv f (.slice A1 f.data.length c1)] w fun e w' => e = .returned (.bool true) ∧ Below w.heap.size w w' := by
  have HAL := Lib.hid (fun W => alive09 W)
  obtain ⟨fk, fi, fe, fr, f4, f5, f6, f7, f8, f9, fd⟩ := f
  dsimp only [frv] at *
  generalize fd.length = n at *
  rcases h with h | ⟨h, h2⟩
  · have g4 : decide ((400 : Int) < (n0 : Int)) = true := by simp; omega
    go_enter Tryz.func7, Tryz.ntmps7
    go_wp2_with fail
    refine calls_blk1 (fun W0 q0 hb0 => ?_)
    refine (HAL.out _).mono ?_
    rintro e w1 ⟨rfl, hb1⟩
    have HB1 := Lib.hid (below_trans hb0 hb1)
    clear q0 hb0 hb1
    go_wp2_with fail
    go_ret
    exact ⟨rfl, HB1.out⟩
  · have g4 : decide ((400 : Int) < (n0 : Int)) = false := by simp; omega
    have g1 : decide ((100 : Int) < (n : Int)) = true := by simp; omega
    go_enter Tryz.func7, Tryz.ntmps7
    go_wp2_with fail
    refine calls_blk1 (fun W0 q0 hb0 => ?_)
    refine (HAL.out _).mono ?_
    rintro e w1 ⟨rfl, hb1⟩
    have HB1 := Lib.hid (below_trans hb0 hb1)
    have a10 : w1.cell? ⟨w.heap.size, 10, none⟩ = some (.slice A1 n c1) := cell_of_heap (heap_below hb1 q0) 10 _ rfl
    clear q0 hb0 hb1
    go_wp2_with fail
    go_ret
    exact ⟨rfl, HB1.out⟩
theorem scanAliens_walk (w : World) (f : Fr) (A0 A1 : Option Addr) (c0 c1 n0 : Nat) (l0 : List Nat) (hr0 : Rd w A0 (bys l0)) (hn0 : l0.length = n0) (hr1 : Rd w A1 (bys f.data)) (hfn : FrN f) :
    Calls Tryz.prog 7 #[.slice A0 n0 c0, frv f (.slice A1 f.data.length c1)] w fun e w' => e = .returned (.bool true) ∧ Below w.heap.size w w' := by
  by_cases h1 : n0 ≤ 400
  · by_cases h2 : f.data.length ≤ 100
    · exact scanAliens_main w f A0 A1 c0 c1 n0 l0 hr0 hn0 h1 hr1 hfn h2
    · exact scanAliens_triv w f A0 A1 c0 c1 n0 (.inr ⟨h1, by omega⟩)
  · exact scanAliens_triv w f A0 A1 c0 c1 n0 (.inl (by omega))
end Go.Proofs.YtlmdkmflbhnlgaaGreat
-- RowScanAliens: The law ScanAliens answers true at every input, and leaves its input as it was. No condition.
namespace Go.Proofs.YtlmdkmflbhnlgaaGreat
open Go.ChangeShapes Go.WideShapes Go.ChangeAt Go.RowKit
set_option maxRecDepth 100000 in
theorem scanAliens_lifted (os : Os) (started : os.Started) (H : Type) (enc : TypeId × Value → H) :
    ReturnsInHanded {} Tryz.checked os 7 .any (Rows.scanAliensSpec.pre6 enc Tryz.prog Tryz.f7 Rows.scanAliensRow.domain false) (Rows.scanAliensSpec.post enc Tryz.prog Tryz.f7 false true false false) := by
  refine returnsInHanded_of_change (C := Tryz.checked) own started (by kernel_rfl) Tryz.func7
    (ChangeSpec.witness6 (enc := enc) (C := Tryz.checked) false ⟨#[], #[.slice none 0 0, zeroV], []⟩ 8 (by kernel_rfl) (by kernel_rfl) (by kernel_rfl) (by kernel_rfl)) ?_
  intro W base args ds gs before hval0 hW hcnd _
  have hval : ∀ (j : Nat) t v, Tryz.f7.params[j]? = some t → args[j]? = some v → Value.okWide Tryz.prog W .any base t v := hval0
  have hW' := hW
  obtain ⟨p, q, hA0, hV, rfl, hfz, hnd⟩ := hW
  have hA : DataW.TrodAll enc Tryz.prog W 0 (fun _ => true) true Tryz.f7.params.toList args.toList ds p := hA0
  rw [Tryz.params7] at hA hval
  obtain ⟨v0, vs0, d0, ds0, p0, q0, hargs, rfl, rfl, h0, r0⟩ := trodAll_cons hA
  obtain ⟨v1, vs1, d1, ds1, p1, q1, rfl, rfl, rfl, h1, r1⟩ := trodAll_cons r0
  obtain ⟨rfl, rfl, rfl⟩ := trodAll_nil r1
  obtain rfl : args = #[v0, v1] := by cases args; simp_all
  obtain ⟨rfl, rfl⟩ := trodVars_none hV
  have k0 := h0
  have lt0 : ∀ x ∈ p0, x.block < W.heap.size := by obtain ⟨m, hm⟩ := k0; exact DataW.trod_lt m _ _ _ hm
  obtain ⟨A0, l0, c0, rfl, rd0, by0, lc0, cm0, nz0⟩ := open_bytesZ (hval 0 22 v0 rfl rfl) h0
  have k1 := h1
  have lt1 : ∀ x ∈ p1, x.block < W.heap.size := by obtain ⟨m, hm⟩ := k1; exact DataW.trod_lt m _ _ _ hm
  obtain ⟨f1, A1, c1, rfl, rd1, wf1, hc1⟩ := open_frame (hval 1 28 v1 rfl rfl) h1
  clear hA0 hval0
  refine (scanAliens_walk W f1 A0 A1 c0 c1 _ l0 rd0 rfl rd1 ⟨wf1.id0, ⟨wf1.sdt0, wf1.sdt1⟩, ⟨wf1.vcid0, wf1.vcid1⟩, ⟨wf1.af0, wf1.af1⟩, wf1.data⟩).mono fun e W' ⟨he, bel⟩ => ?_
  subst he
  exact ⟨_, rfl, _, _, _, [], _, [], hW', trodAll_mk1 (shut_bool Tryz.underlying4 _), (trodAll_cons_mk (Below.trod laidOut (by kernel_rfl) (of_decide_eq_true (by kernel_rfl)) k0 bel lt0) (trodAll_cons_mk (Below.trod laidOut (by kernel_rfl) (of_decide_eq_true (by kernel_rfl)) k1 bel lt1) trodAll_mk0)), rfl, bel.frame _, fun h => by cases h⟩
theorem scanAliens_holds : Rows.ScanAliensSaid :=
  OpenClaim.holds_of_wide 7 Tryz.f7 rfl rfl rfl rfl rfl rfl rfl ⟨rfl, rfl, rfl, rfl, rfl⟩ rfl rfl rfl rfl rfl (by kernel_rfl) Tryz.func7 (by kernel_rfl)
    (of_decide_eq_true (by kernel_rfl)) (by unfold Func.isWrapper; rw [if_neg (of_decide_eq_false (by kernel_rfl))]; exact ⟨rfl, rfl⟩)
    (fun os started H enc _ => scanAliens_lifted os started H enc)
end Go.Proofs.YtlmdkmflbhnlgaaGreat
