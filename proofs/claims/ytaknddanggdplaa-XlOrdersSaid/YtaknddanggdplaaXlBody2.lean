/- xl.Body: an XL frame's data part, where the frame may be. No condition. -/
import Derived.Test.YtaknddanggdplaaXlBody
import Derived.Test.YtaknddanggdplaaRowAt
import Derived.Test.YtaknddanggdplaaMix
namespace Go.Proofs.Ytaknddanggdplaa
open Go.RowKit
theorem Tally_row (x : Int) (n : Nat) (w : World) (ex : x = (n : Int)) (hn : n ≤ 1000000) :
    Calls Try.prog 55 #[.int .i64 x] w fun e w' => (∃ A' c', e = .returned (.tuple #[.slice A' 4 c', .int .i64 0]) ∧ Row w' w.heap.size 5 A' c' (bys (tallyN n))) ∧ Below w.heap.size w w' := by subst ex; exact Tally_any n w hn
set_option maxRecDepth 100000 in
set_option maxHeartbeats 4000000 in
theorem XlBody_ok (f : Fr) (A : Option Addr) (c : Nat) (w : World) (hk : f.kind = 3) (hok : okF f = true) (h0 : 0 ≤ f.id) (hs : 0 ≤ f.sdt ∧ f.sdt < 256) (hv : 0 ≤ f.vcid ∧ f.vcid < 256) (ha : 0 ≤ f.af ∧ f.af < 4294967296) (hr : Rd w A (bys f.data)) (hby : isBytes f.data) :
    Calls Try.prog 23 #[frv f (.slice A f.data.length c)] w fun e w' => (∃ A' c', e = .returned (.tuple #[.slice A' (109 + 8 * f.data.length : Nat) c', .int .i64 0]) ∧ Row w' w.heap.size 5 A' c' (bys (bodyX f))) ∧ Below w.heap.size w w' := by
  obtain ⟨i0, hi, hz0, hz1, hz2⟩ := info_parts info_u8
  obtain ⟨hid, hn1, hn2, hcode⟩ := okX f hk hok
  have HC := Lib.hid (fun W => Check_any f A c W (by omega))
  rw [hok] at HC
  have he : errV true = .int .i64 0 := rfl
  rw [he] at HC
  have HH := Lib.hid (fun W => headX_any f A f.data.length c W h0 hid)
  obtain ⟨NR, hNR⟩ : ∃ NR, (stuffN (headX f)).length = NR := ⟨_, rfl⟩
  have hNR2 : 17 ≤ NR ∧ NR ≤ 22 := by
    have a := stuffN_ge (headX f); have b := stuffN_le (headX f); rw [headX_length] at a b; omega
  have HST := Lib.hid (fun (W : World) (A2 : Option Addr) (c2 : Nat) (hW : Rd W A2 (bys (headX f))) => StuffPut_any W A2 c2 17 NR (headX f) hW (headX_length f) (by omega) (headX_bits f) hNR)
  have HCO := Lib.hid (fun W => Code_any f.kind f.data.length W (by omega) (by omega))
  rw [hcode] at HCO
  have hcv : codeV (some ((f.data.length : Int) - 1)) = .tuple #[.int .i64 ((f.data.length : Int) - 1), .int .i64 0] := rfl
  rw [hcv] at HCO
  have hp1 : part1X f = bitsN f.sdt.toNat 8 ++ bitsN (bitB f.sec) 1 ++ bitsN (f.data.length - 1) 11 ++ tallyN (NR - 17) := by
    unfold part1X codeX; rw [hcode, hNR]
    have : ((some ((f.data.length : Int) - 1)).getD 0).toNat = f.data.length - 1 := by simp
    rw [this]
  have HP1 := Lib.hid hp1
  have HR := Lib.hid hr
  have HBY := Lib.hid hby
  obtain ⟨sdtN, hsdt⟩ := Int.eq_ofNat_of_zero_le hs.1
  obtain ⟨vcN, hvc⟩ := Int.eq_ofNat_of_zero_le hv.1
  obtain ⟨afN, haf⟩ := Int.eq_ofNat_of_zero_le ha.1
  have hs2 : sdtN < 256 := by omega
  have hv2 : vcN < 256 := by omega
  have ha2 : afN < 4294967296 := by omega
  have hb1 := part1X_bits f
  have hb3 := part3X_bits f
  have hbh := headX_bits f
  have hlh := headX_length f
  have hq1 := part1X_length f
  have hq2 := part2X_length f
  have hq3 := part3X_length f
  have hd2 : part2X f = part1X f ++ bitsN (crcN 13 6631 1 (headX f ++ part1X f)) 13 := rfl
  have hd3 : part3X f = part2X f ++ bitsN f.vcid.toNat 8 ++ bitsN f.af.toNat 32 ++ bytesN f.data := rfl
  have hd4 : bodyX f = part3X f ++ bitsN (crcN 32 4104977171 1 ([] ++ part3X f)) 32 := rfl
  obtain ⟨hX, hhX⟩ : ∃ hX, headX f = hX := ⟨_, rfl⟩
  obtain ⟨P1, hP1⟩ : ∃ P1, part1X f = P1 := ⟨_, rfl⟩
  obtain ⟨P2, hP2⟩ : ∃ P2, part2X f = P2 := ⟨_, rfl⟩
  obtain ⟨P3, hP3⟩ : ∃ P3, part3X f = P3 := ⟨_, rfl⟩
  obtain ⟨BX, hBX⟩ : ∃ BX, bodyX f = BX := ⟨_, rfl⟩
  rw [hP1] at HP1 hb1 hd2 hq1
  rw [hP2] at hd2 hd3 hq2
  rw [hP3] at hd3 hd4 hb3 hq3
  rw [hBX] at hd4 ⊢
  rw [hhX] at HH HST hbh hlh hd2
  have HBIT1 := Lib.hid hb1
  have HBIT3 := Lib.hid hb3
  have HBITH := Lib.hid hbh
  have HLH := Lib.hid hlh
  have HQ1 := Lib.hid hq1
  have HQ2 := Lib.hid hq2
  have HQ3' := Lib.hid hq3
  have HD2 := Lib.hid hd2
  have HD3 := Lib.hid hd3
  have HD4 := Lib.hid hd4
  clear hb1 hb3 hbh hlh hq1 hq2 hq3 hd2 hd3 hd4 hP1 hP2 hP3 hBX
  obtain ⟨kind, id, ext, rtr, brs, esi, sec, sdt, vcid, af, data⟩ := f
  dsimp only [frv] at *
  subst hk hsdt hvc haf
  obtain ⟨n, hn⟩ : ∃ n, data.length = n := ⟨_, rfl⟩
  have HN := Lib.hid hn
  rw [hn] at HC HH HCO HP1 ⊢
  rw [hn] at hn1 hn2
  clear hr hby hs hv ha hok he h0 hid hNR hcode hcv hp1
  go_enter Try.func23, Try.ntmps23
  go_wp2_with fail
  refine calls_blk1 (fun W0 q1 hb => ?_)
  have HB := Lib.hid hb
  obtain ⟨a0, a1, a2, a3, a4, a5, a6, a7, a8, a9, a10⟩ := ext11 q1
  have hsz := ext_lt q1
  clear hb q1
  refine (extc_same (HC.out _)).mono ?_
  rintro x _ ⟨e1, rfl, rfl⟩
  go_wp2_with fail
  refine (extcB (HH.out e1.W)).mono ?_
  rintro x _ ⟨e2, rfl, -, A2, c2, rfl, hrow2⟩
  have HROW2 := Lib.hid hrow2
  clear hrow2
  go_wp2_with fail
  refine (extcB (HST.out e2.W A2 c2 HROW2.out.rd)).mono ?_
  rintro x _ ⟨e3, rfl, HB3, A3, c3, rfl, -⟩
  go_wp2_with fail
  refine (extcB (HCO.out e3.W)).mono ?_
  rintro x _ ⟨e4, rfl, HB4, rfl⟩
  go_wp2_with fail
  refine (extcB (Tally_row _ (NR - 17) e4.W ?c1 (by omega))).mono ?_
  case c1 => omega
  rintro x _ ⟨e5, rfl, HB5, A5, c5, rfl, hrow5⟩
  have HROW5 := Lib.hid hrow5
  have HROW25 := Lib.hid (((HROW2.out.below HB3.out).below HB4.out).below HB5.out)
  clear hrow5
  go_wp2_with fail
  obtain ⟨p, hp⟩ : ∃ p, e5.W.heap.size = p := ⟨_, rfl⟩
  have hwp : w.heap.size < p := by rw [← hp]; exact hsz e5
  have l2 := HROW25.out.rd.lt
  have l5 := HROW5.out.rd.lt
  rw [hp] at l2 l5
  rw [hp]
  refine calls_name (T := fun W1 => W1.heap[p]? = some (.cells #[.slice none 0 0] 65) ∧ Below W0.heap.size W0 W1 ∧ Rd W1 A2 (bys hX) ∧ Rd W1 A5 (bys (tallyN (NR - 17)))) ⟨heap_new_at hp.symm, below_alloc e5.below _, HROW25.out.rd.alloc _, HROW5.out.rd.alloc _⟩ ?_
  rintro W1 ⟨q2, hb1, hr2, hr5⟩
  have hpot : Pot W1 (p + 1) p 65 none 0 [] := ⟨q2, fun _ e => (by cases e), heap_lt q2, Row.nil _ _ _⟩
  have g6 : W1.cell? ⟨w.heap.size, 6, none⟩ = some (.bool sec) := a6 ⟨W1, hb1⟩
  have g8 : W1.cell? ⟨w.heap.size, 8, none⟩ = some (.int .u8 (vcN : Int)) := a8 ⟨W1, hb1⟩
  have g9 : W1.cell? ⟨w.heap.size, 9, none⟩ = some (.int .u32 (afN : Int)) := a9 ⟨W1, hb1⟩
  have g10 : W1.cell? ⟨w.heap.size, 10, none⟩ = some (.slice A n c) := a10 ⟨W1, hb1⟩
  have b6 := fun e : KE (p + 1) p W1 => ke_cell g6 (by show w.heap.size < _; omega) (by show w.heap.size ≠ _; omega) e
  have b8 := fun e : KE (p + 1) p W1 => ke_cell g8 (by show w.heap.size < _; omega) (by show w.heap.size ≠ _; omega) e
  have b9 := fun e : KE (p + 1) p W1 => ke_cell g9 (by show w.heap.size < _; omega) (by show w.heap.size ≠ _; omega) e
  have b10 := fun e : KE (p + 1) p W1 => ke_cell g10 (by show w.heap.size < _; omega) (by show w.heap.size ≠ _; omega) e
  have HR2 := Lib.hid (fun e : KE (p + 1) p W1 => hr2.keep e.keep (fun ad h1 h2 => by have := l2 ad h1 h2; omega))
  have HR5 := Lib.hid (fun e : KE (p + 1) p W1 => hr5.keep e.keep (fun ad h1 h2 => by have := l5 ad h1 h2; omega))
  have HPOT := Lib.hid hpot
  have HBW1 := Lib.hid hb1
  clear a0 a1 a2 a3 a4 a5 a6 a7 a8 a9 a10 hsz hp q2 hb1 hr2 hr5 hpot l2 l5 HC HH HST HCO g6 g8 g9 g10
  refine (kec_same (xlPut_row _ _ _ _ _ _ _ _ sdtN 8 _ ?d1 rfl HPOT.out (by omega) (by omega) (by omega) (by simp))).mono ?_
  case d1 => first | rfl | omega
  rintro x _ ⟨k1, rfl, rfl, B1, d1, hp1⟩
  have HP1' := Lib.hid hp1
  clear hp1
  obtain ⟨sb, hsb⟩ : ∃ sb, bitB sec = sb := ⟨_, rfl⟩
  have hsb2 : sb < 2 := by rw [← hsb]; cases sec <;> decide
  have HSB := Lib.hid hsb
  rw [hsb] at HP1
  clear hsb
  cases sec
  all_goals
    go_wp2_with fail
    refine (kec (xlPut_row _ _ _ _ _ _ _ _ sb 1 _ (by rw [← HSB.out]; rfl) rfl HP1'.out (by omega) (by omega) (by omega) (by simp [bitsN_length]))).mono ?_
    rintro x _ ⟨k2, rfl, rfl, B2, d2, hp2⟩
    have HP2' := Lib.hid hp2
    clear hp2
    go_wp2_with fail
    refine (kec (xlPut_row _ _ _ _ _ _ _ _ (n - 1) 11 _ ?d3 rfl HP2'.out (by omega) (by omega) (by omega) (by simp [bitsN_length]))).mono ?_
    case d3 => first | rfl | omega
    rintro x _ ⟨k3, rfl, rfl, B3, d3, hp3⟩
    have HP3' := Lib.hid hp3
    clear hp3
    obtain ⟨L3, hL3⟩ : ∃ L, L = [] ++ bitsN sdtN 8 ++ bitsN (sb) 1 ++ bitsN (n - 1) 11 := ⟨_, rfl⟩
    have hq3 : Pot k3.W (p + 1) p 65 B3 d3 L3 := by rw [hL3]; exact HP3'.out
    have hl3 : L3.length = 20 := by rw [hL3]; simp [bitsN_length]
    have c03 : k3.W.cell? ⟨p, 0, none⟩ = some (.slice B3 20 d3) := by rw [← hl3]; exact hq3.cell
    have z03 : k3.W.frozen? ⟨p, 0, none⟩ = false := hq3.frozen
    have sp : p < k3.W.heap.size := heap_lt hq3.box
    have HQ3 := Lib.hid hq3
    have HL3 := Lib.hid hl3
    have HE3 := Lib.hid hL3
    clear hq3 hl3 hL3
    go_wp2_with (at_builtin; refine wpList_pot (W0 := k3.W) HQ3.out (Keep.refl _ _ _) rfl (.tmp 61) (.tmp 62) 23 rfl i0 _ 1 Try.underlying23 hi hz0 hz1 hz2 rfl 20 HL3.out rfl A5 4 c5 (tallyN (NR - 17)) rfl (tallyN_length _) (HR5.out k3) (fun h => absurd (congrArg List.length h) (by rw [tallyN_length]; decide)) 24 rfl (by unfold maxLen; omega) (by omega) ?_; intro w4 A4 c4 HP4 c04 z04)
    obtain ⟨p4, kp4⟩ := HP4.out.store (n := 24) (by rw [List.length_append, HL3.out, tallyN_length])
    obtain ⟨k4, hk4⟩ : ∃ k4 : KE (p + 1) p W1, k4.W = w4.setCell ⟨p, 0, none⟩ (.slice A4 24 c4) := ⟨⟨_, k3.keep.trans kp4⟩, rfl⟩
    have e4 : L3 ++ tallyN (NR - 17) = P1 := by rw [HP1.out, HE3.out]; simp
    rw [e4, ← hk4] at p4
    rw [← hk4]
    refine (kec (xlSeal_any of_4 k4.W (p + 1) p 65 A4 A2 c4 c2 17 P1 hX p4 ⟨HR2.out k4, fun h => absurd (congrArg List.length h) (by rw [HLH.out]; decide)⟩ HLH.out (by rw [HQ1.out]; decide) (fun x hx => by rcases List.mem_append.1 hx with h | h; exact HBITH.out x h; exact HBIT1.out x h))).mono ?_
    rintro x _ ⟨k5, rfl, rfl, B5, d5, hp5⟩
    rw [← HD2.out] at hp5
    have HP5' := Lib.hid hp5
    clear hp5
    go_wp2_with fail
    refine (kec (xlPut_row _ _ _ _ _ _ _ _ vcN 8 _ ?d6 rfl HP5'.out (by omega) (by omega) (by omega) (by rw [HQ2.out]; decide))).mono ?_
    case d6 => first | rfl | omega
    rintro x _ ⟨k6, rfl, rfl, B6, d6, hp6⟩
    have HP6' := Lib.hid hp6
    clear hp6
    go_wp2_with fail
    refine (kec (xlPut_row _ _ _ _ _ _ _ _ afN 32 _ ?d7 rfl HP6'.out (by omega) (by omega) (by omega) (by rw [List.length_append, HQ2.out, bitsN_length]; decide))).mono ?_
    case d7 => first | rfl | omega
    rintro x _ ⟨k7, rfl, rfl, B7, d7, hp7⟩
    obtain ⟨L7, hL7⟩ : ∃ L, P2 ++ bitsN vcN 8 ++ bitsN afN 32 = L := ⟨_, rfl⟩
    rw [hL7] at hp7
    have hl7 : L7.length = 77 := by rw [← hL7]; simp [bitsN_length, HQ2.out]
    have c07 : k7.W.cell? ⟨p, 0, none⟩ = some (.slice B7 77 d7) := by rw [← hl7]; exact hp7.cell
    have g10 := b10 k7
    have HP7' := Lib.hid hp7
    have HL7 := Lib.hid hl7
    have HE7 := Lib.hid hL7
    have hrdA : Rd k7.W A (bys data) := ((HR.out.below HB.out).below HBW1.out).keep k7.keep (fun ad h1 h2 => by have := HR.out.lt ad h1 h2; omega)
    have HRA := Lib.hid hrdA
    clear hp7 hl7 hL7 hrdA
    have x07 := fun e : Ext k7.W => ext_cell c07 e
    have x10 := fun e : Ext k7.W => ext_cell g10 e
    clear c07 g10
    go_wp2_with fail
    refine wp_region_mix (fun w' => ∃ e : Ext k7.W, w' = e.W) [(true, 0), (true, 1), (true, 2), (true, 3), (false, 4)] [5, 6, 7] (by kernel_rfl) (by kernel_rfl) (by intro _ _ d _ _ h; cases d <;> exact h) ⟨⟨k7.W.drew, (Below.refl _ _).drew⟩, rfl⟩ ?_
    simp only [pickM, pickL, List.drop_succ_cons, List.drop_zero]
    repeat (refine mix_pure (by rfl) (by rfl) ?_; intro K hK; go_big_quiet_op; go_big_quiet_on)
    refine mix_eff (by rfl) ?_
    intro K hK
    go_simp
    refine (Bytes_any _ A c n data HRA.out.drew HN.out (by omega) HBY.out).mono ?_
    rintro x w8 ⟨⟨A8, c8, rfl, hrow8⟩, hb8⟩
    have hb78 : Below k7.W.heap.size k7.W w8 := below_trans (Below.refl _ _).drew hb8
    refine hK _ _ ⟨⟨w8, hb78⟩, rfl⟩ ?_
    clear hK K x07 x10
    refine mix_nil ?_
    have HROW8 := Lib.hid hrow8
    have HP8 := Lib.hid (HP7'.out.below hb78)
    have HK8 := Lib.hid (Keep.of (B := p + 1) (b := p) hb78 HP7'.out.size)
    clear hrow8 hb8 hb78
    go_wp2_with (at_builtin; refine wpList_pot (W0 := k7.W) HP8.out HK8.out rfl (.tmp 76) (.tmp 79) 23 rfl i0 _ 1 Try.underlying23 hi hz0 hz1 hz2 rfl 77 HL7.out rfl A8 (8 * n) c8 (bytesN data) rfl (by rw [bytesN_length, HN.out]) HROW8.out.rd (fun _ e => HROW8.out.none_ e) (77 + 8 * n) rfl (by unfold maxLen; omega) (by omega) ?_; intro w9 A9 c9 HP9 c09 z09)
    obtain ⟨p9, kp9⟩ := HP9.out.store (n := 77 + 8 * n) (by rw [List.length_append, HL7.out, bytesN_length, HN.out])
    obtain ⟨k9, hk9⟩ : ∃ k9 : KE (p + 1) p W1, k9.W = w9.setCell ⟨p, 0, none⟩ (.slice A9 (77 + 8 * n) c9) := ⟨⟨_, k7.keep.trans kp9⟩, rfl⟩
    have e9 : L7 ++ bytesN data = P3 := by rw [HD3.out, ← HE7.out]; simp
    rw [e9, ← hk9] at p9
    rw [← hk9]
    refine (kec (xlSeal_any of_5 k9.W (p + 1) p 65 A9 none c9 0 0 P3 [] p9 ⟨Rd.nil _ _, fun _ _ => rfl⟩ rfl (by rw [HQ3'.out]; omega) (fun x hx => by rw [List.nil_append] at hx; exact HBIT3.out x hx))).mono ?_
    rintro x _ ⟨k10, rfl, rfl, B10, d10, hp10⟩
    rw [← HD4.out] at hp10
    have hlb : BX.length = 109 + 8 * n := by rw [HD4.out, List.length_append, bitsN_length, HQ3'.out, HN.out]; omega
    have c10 : k10.W.cell? ⟨p, 0, none⟩ = some (.slice B10 (109 + 8 * n : Nat) d10) := by rw [← hlb]; exact hp10.cell
    have HP10 := Lib.hid hp10
    have HLB := Lib.hid hlb
    clear hp10 hlb
    go_wp2_with fail
    go_ret2
    exact ⟨⟨B10, d10, rfl, HP10.out.row.mono (by omega)⟩, below_trans HB.out (HBW1.out) |>.trans (k10.keep.below (by omega) (by omega))⟩
end Go.Proofs.Ytaknddanggdplaa
