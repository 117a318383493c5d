/- What the law XlWires needs, part 3: words, walks and plain facts, each with its own head. No condition. -/
import Derived.Test.YtaknddanggdplaaZXlWires2
import Derived.Laws.CopyOwn
import Derived.StillTailTactics
import Derived.Deep.DeepFit
-- XlBody2: xl.Body: an XL frame's data part, where the frame may be. No condition.
namespace Go.Proofs.Ytaknddanggdplaa
open Go.RowKit
theorem Tally_row (x : Int) (n : Nat) (w : World) (ex : x = (n : Int)) (hn : n ≤ 1000000) :
    Calls Try.prog 55 #[.int .i64 x] w fun e w' => (∃ A' c', e = .returned (.tuple #[.slice A' 4 c', .int .i64 0]) ∧ Row w' w.heap.size 5 A' c' (bys (tallyN n))) ∧ Below w.heap.size w w' := by subst ex; exact Tally_any n w hn
set_option maxRecDepth 100000 in
set_option maxHeartbeats 4000000 in
theorem XlBody_ok (f : Fr) (A : Option Addr) (c : Nat) (w : World) (hk : f.kind = 3) (hok : okF f = true) (h0 : 0 ≤ f.id) (hs : 0 ≤ f.sdt ∧ f.sdt < 256) (hv : 0 ≤ f.vcid ∧ f.vcid < 256) (ha : 0 ≤ f.af ∧ f.af < 4294967296) (hr : Rd w A (bys f.data)) (hby : isBytes f.data) :
    Calls Try.prog 23 #[frv f (.slice A f.data.length c)] w fun e w' => (∃ A' c', e = .returned (.tuple #[.slice A' (109 + 8 * f.data.length : Nat) c', .int .i64 0]) ∧ Row w' w.heap.size 5 A' c' (bys (bodyX f))) ∧ Below w.heap.size w w' := by
  obtain ⟨i0, hi, hz0, hz1, hz2⟩ := info_parts info_u8
  obtain ⟨hid, hn1, hn2, hcode⟩ := okX f hk hok
  have HC := Lib.hid (fun W => Check_any f A c W (by omega))
  rw [hok] at HC
  have he : errV true = .int .i64 0 := rfl
  rw [he] at HC
  have HH := Lib.hid (fun W => headX_any f A f.data.length c W h0 hid)
  obtain ⟨NR, hNR⟩ : ∃ NR, (stuffN (headX f)).length = NR := ⟨_, rfl⟩
  have hNR2 : 17 ≤ NR ∧ NR ≤ 22 := by
    have a := stuffN_ge (headX f); have b := stuffN_le (headX f); rw [headX_length] at a b; omega
  have HST := Lib.hid (fun (W : World) (A2 : Option Addr) (c2 : Nat) (hW : Rd W A2 (bys (headX f))) => StuffPut_any W A2 c2 17 NR (headX f) hW (headX_length f) (by omega) (headX_bits f) hNR)
  have HCO := Lib.hid (fun W => Code_any f.kind f.data.length W (by omega) (by omega))
  rw [hcode] at HCO
  have hcv : codeV (some ((f.data.length : Int) - 1)) = .tuple #[.int .i64 ((f.data.length : Int) - 1), .int .i64 0] := rfl
  rw [hcv] at HCO
  have hp1 : part1X f = bitsN f.sdt.toNat 8 ++ bitsN (bitB f.sec) 1 ++ bitsN (f.data.length - 1) 11 ++ tallyN (NR - 17) := by
    unfold part1X codeX; rw [hcode, hNR]
    have : ((some ((f.data.length : Int) - 1)).getD 0).toNat = f.data.length - 1 := by simp
    rw [this]
  have HP1 := Lib.hid hp1
  have HR := Lib.hid hr
  have HBY := Lib.hid hby
  obtain ⟨sdtN, hsdt⟩ := Int.eq_ofNat_of_zero_le hs.1
  obtain ⟨vcN, hvc⟩ := Int.eq_ofNat_of_zero_le hv.1
  obtain ⟨afN, haf⟩ := Int.eq_ofNat_of_zero_le ha.1
  have hs2 : sdtN < 256 := by omega
  have hv2 : vcN < 256 := by omega
  have ha2 : afN < 4294967296 := by omega
  have hb1 := part1X_bits f
  have hb3 := part3X_bits f
  have hbh := headX_bits f
  have hlh := headX_length f
  have hq1 := part1X_length f
  have hq2 := part2X_length f
  have hq3 := part3X_length f
  have hd2 : part2X f = part1X f ++ bitsN (crcN 13 6631 1 (headX f ++ part1X f)) 13 := rfl
  have hd3 : part3X f = part2X f ++ bitsN f.vcid.toNat 8 ++ bitsN f.af.toNat 32 ++ bytesN f.data := rfl
  have hd4 : bodyX f = part3X f ++ bitsN (crcN 32 4104977171 1 ([] ++ part3X f)) 32 := rfl
  obtain ⟨hX, hhX⟩ : ∃ hX, headX f = hX := ⟨_, rfl⟩
  obtain ⟨P1, hP1⟩ : ∃ P1, part1X f = P1 := ⟨_, rfl⟩
  obtain ⟨P2, hP2⟩ : ∃ P2, part2X f = P2 := ⟨_, rfl⟩
  obtain ⟨P3, hP3⟩ : ∃ P3, part3X f = P3 := ⟨_, rfl⟩
  obtain ⟨BX, hBX⟩ : ∃ BX, bodyX f = BX := ⟨_, rfl⟩
  rw [hP1] at HP1 hb1 hd2 hq1
  rw [hP2] at hd2 hd3 hq2
  rw [hP3] at hd3 hd4 hb3 hq3
  rw [hBX] at hd4 ⊢
  rw [hhX] at HH HST hbh hlh hd2
  have HBIT1 := Lib.hid hb1
  have HBIT3 := Lib.hid hb3
  have HBITH := Lib.hid hbh
  have HLH := Lib.hid hlh
  have HQ1 := Lib.hid hq1
  have HQ2 := Lib.hid hq2
  have HQ3' := Lib.hid hq3
  have HD2 := Lib.hid hd2
  have HD3 := Lib.hid hd3
  have HD4 := Lib.hid hd4
  clear hb1 hb3 hbh hlh hq1 hq2 hq3 hd2 hd3 hd4 hP1 hP2 hP3 hBX
  obtain ⟨kind, id, ext, rtr, brs, esi, sec, sdt, vcid, af, data⟩ := f
  dsimp only [frv] at *
  subst hk hsdt hvc haf
  obtain ⟨n, hn⟩ : ∃ n, data.length = n := ⟨_, rfl⟩
  have HN := Lib.hid hn
  rw [hn] at HC HH HCO HP1 ⊢
  rw [hn] at hn1 hn2
  clear hr hby hs hv ha hok he h0 hid hNR hcode hcv hp1
  go_enter Try.func23, Try.ntmps23
  go_wp2_with fail
  refine calls_blk1 (fun W0 q1 hb => ?_)
  have HB := Lib.hid hb
  obtain ⟨a0, a1, a2, a3, a4, a5, a6, a7, a8, a9, a10⟩ := ext11 q1
  have hsz := ext_lt q1
  clear hb q1
  refine (extc_same (HC.out _)).mono ?_
  rintro x _ ⟨e1, rfl, rfl⟩
  go_wp2_with fail
  refine (extcB (HH.out e1.W)).mono ?_
  rintro x _ ⟨e2, rfl, -, A2, c2, rfl, hrow2⟩
  have HROW2 := Lib.hid hrow2
  clear hrow2
  go_wp2_with fail
  refine (extcB (HST.out e2.W A2 c2 HROW2.out.rd)).mono ?_
  rintro x _ ⟨e3, rfl, HB3, A3, c3, rfl, -⟩
  go_wp2_with fail
  refine (extcB (HCO.out e3.W)).mono ?_
  rintro x _ ⟨e4, rfl, HB4, rfl⟩
  go_wp2_with fail
  refine (extcB (Tally_row _ (NR - 17) e4.W ?c1 (by omega))).mono ?_
  case c1 => omega
  rintro x _ ⟨e5, rfl, HB5, A5, c5, rfl, hrow5⟩
  have HROW5 := Lib.hid hrow5
  have HROW25 := Lib.hid (((HROW2.out.below HB3.out).below HB4.out).below HB5.out)
  clear hrow5
  go_wp2_with fail
  obtain ⟨p, hp⟩ : ∃ p, e5.W.heap.size = p := ⟨_, rfl⟩
  have hwp : w.heap.size < p := by rw [← hp]; exact hsz e5
  have l2 := HROW25.out.rd.lt
  have l5 := HROW5.out.rd.lt
  rw [hp] at l2 l5
  rw [hp]
  refine calls_name (T := fun W1 => W1.heap[p]? = some (.cells #[.slice none 0 0] 65) ∧ Below W0.heap.size W0 W1 ∧ Rd W1 A2 (bys hX) ∧ Rd W1 A5 (bys (tallyN (NR - 17)))) ⟨heap_new_at hp.symm, below_alloc e5.below _, HROW25.out.rd.alloc _, HROW5.out.rd.alloc _⟩ ?_
  rintro W1 ⟨q2, hb1, hr2, hr5⟩
  have hpot : Pot W1 (p + 1) p 65 none 0 [] := ⟨q2, fun _ e => (by cases e), heap_lt q2, Row.nil _ _ _⟩
  have g6 : W1.cell? ⟨w.heap.size, 6, none⟩ = some (.bool sec) := a6 ⟨W1, hb1⟩
  have g8 : W1.cell? ⟨w.heap.size, 8, none⟩ = some (.int .u8 (vcN : Int)) := a8 ⟨W1, hb1⟩
  have g9 : W1.cell? ⟨w.heap.size, 9, none⟩ = some (.int .u32 (afN : Int)) := a9 ⟨W1, hb1⟩
  have g10 : W1.cell? ⟨w.heap.size, 10, none⟩ = some (.slice A n c) := a10 ⟨W1, hb1⟩
  have b6 := fun e : KE (p + 1) p W1 => ke_cell g6 (by show w.heap.size < _; omega) (by show w.heap.size ≠ _; omega) e
  have b8 := fun e : KE (p + 1) p W1 => ke_cell g8 (by show w.heap.size < _; omega) (by show w.heap.size ≠ _; omega) e
  have b9 := fun e : KE (p + 1) p W1 => ke_cell g9 (by show w.heap.size < _; omega) (by show w.heap.size ≠ _; omega) e
  have b10 := fun e : KE (p + 1) p W1 => ke_cell g10 (by show w.heap.size < _; omega) (by show w.heap.size ≠ _; omega) e
  have HR2 := Lib.hid (fun e : KE (p + 1) p W1 => hr2.keep e.keep (fun ad h1 h2 => by have := l2 ad h1 h2; omega))
  have HR5 := Lib.hid (fun e : KE (p + 1) p W1 => hr5.keep e.keep (fun ad h1 h2 => by have := l5 ad h1 h2; omega))
  have HPOT := Lib.hid hpot
  have HBW1 := Lib.hid hb1
  clear a0 a1 a2 a3 a4 a5 a6 a7 a8 a9 a10 hsz hp q2 hb1 hr2 hr5 hpot l2 l5 HC HH HST HCO g6 g8 g9 g10
  refine (kec_same (xlPut_row _ _ _ _ _ _ _ _ sdtN 8 _ ?d1 rfl HPOT.out (by omega) (by omega) (by omega) (by simp))).mono ?_
  case d1 => first | rfl | omega
  rintro x _ ⟨k1, rfl, rfl, B1, d1, hp1⟩
  have HP1' := Lib.hid hp1
  clear hp1
  obtain ⟨sb, hsb⟩ : ∃ sb, bitB sec = sb := ⟨_, rfl⟩
  have hsb2 : sb < 2 := by rw [← hsb]; cases sec <;> decide
  have HSB := Lib.hid hsb
  rw [hsb] at HP1
  clear hsb
  cases sec
  all_goals
    go_wp2_with fail
    refine (kec (xlPut_row _ _ _ _ _ _ _ _ sb 1 _ (by rw [← HSB.out]; rfl) rfl HP1'.out (by omega) (by omega) (by omega) (by simp [bitsN_length]))).mono ?_
    rintro x _ ⟨k2, rfl, rfl, B2, d2, hp2⟩
    have HP2' := Lib.hid hp2
    clear hp2
    go_wp2_with fail
    refine (kec (xlPut_row _ _ _ _ _ _ _ _ (n - 1) 11 _ ?d3 rfl HP2'.out (by omega) (by omega) (by omega) (by simp [bitsN_length]))).mono ?_
    case d3 => first | rfl | omega
    rintro x _ ⟨k3, rfl, rfl, B3, d3, hp3⟩
    have HP3' := Lib.hid hp3
    clear hp3
    obtain ⟨L3, hL3⟩ : ∃ L, L = [] ++ bitsN sdtN 8 ++ bitsN (sb) 1 ++ bitsN (n - 1) 11 := ⟨_, rfl⟩
    have hq3 : Pot k3.W (p + 1) p 65 B3 d3 L3 := by rw [hL3]; exact HP3'.out
    have hl3 : L3.length = 20 := by rw [hL3]; simp [bitsN_length]
    have c03 : k3.W.cell? ⟨p, 0, none⟩ = some (.slice B3 20 d3) := by rw [← hl3]; exact hq3.cell
    have z03 : k3.W.frozen? ⟨p, 0, none⟩ = false := hq3.frozen
    have sp : p < k3.W.heap.size := heap_lt hq3.box
    have HQ3 := Lib.hid hq3
    have HL3 := Lib.hid hl3
    have HE3 := Lib.hid hL3
    clear hq3 hl3 hL3
    go_wp2_with (at_builtin; refine wpList_pot (W0 := k3.W) HQ3.out (Keep.refl _ _ _) rfl (.tmp 61) (.tmp 62) 23 rfl i0 _ 1 Try.underlying23 hi hz0 hz1 hz2 rfl 20 HL3.out rfl A5 4 c5 (tallyN (NR - 17)) rfl (tallyN_length _) (HR5.out k3) (fun h => absurd (congrArg List.length h) (by rw [tallyN_length]; decide)) 24 rfl (by unfold maxLen; omega) (by omega) ?_; intro w4 A4 c4 HP4 c04 z04)
    obtain ⟨p4, kp4⟩ := HP4.out.store (n := 24) (by rw [List.length_append, HL3.out, tallyN_length])
    obtain ⟨k4, hk4⟩ : ∃ k4 : KE (p + 1) p W1, k4.W = w4.setCell ⟨p, 0, none⟩ (.slice A4 24 c4) := ⟨⟨_, k3.keep.trans kp4⟩, rfl⟩
    have e4 : L3 ++ tallyN (NR - 17) = P1 := by rw [HP1.out, HE3.out]; simp
    rw [e4, ← hk4] at p4
    rw [← hk4]
    refine (kec (xlSeal_any of_4 k4.W (p + 1) p 65 A4 A2 c4 c2 17 P1 hX p4 ⟨HR2.out k4, fun h => absurd (congrArg List.length h) (by rw [HLH.out]; decide)⟩ HLH.out (by rw [HQ1.out]; decide) (fun x hx => by rcases List.mem_append.1 hx with h | h; exact HBITH.out x h; exact HBIT1.out x h))).mono ?_
    rintro x _ ⟨k5, rfl, rfl, B5, d5, hp5⟩
    rw [← HD2.out] at hp5
    have HP5' := Lib.hid hp5
    clear hp5
    go_wp2_with fail
    refine (kec (xlPut_row _ _ _ _ _ _ _ _ vcN 8 _ ?d6 rfl HP5'.out (by omega) (by omega) (by omega) (by rw [HQ2.out]; decide))).mono ?_
    case d6 => first | rfl | omega
    rintro x _ ⟨k6, rfl, rfl, B6, d6, hp6⟩
    have HP6' := Lib.hid hp6
    clear hp6
    go_wp2_with fail
    refine (kec (xlPut_row _ _ _ _ _ _ _ _ afN 32 _ ?d7 rfl HP6'.out (by omega) (by omega) (by omega) (by rw [List.length_append, HQ2.out, bitsN_length]; decide))).mono ?_
    case d7 => first | rfl | omega
    rintro x _ ⟨k7, rfl, rfl, B7, d7, hp7⟩
    obtain ⟨L7, hL7⟩ : ∃ L, P2 ++ bitsN vcN 8 ++ bitsN afN 32 = L := ⟨_, rfl⟩
    rw [hL7] at hp7
    have hl7 : L7.length = 77 := by rw [← hL7]; simp [bitsN_length, HQ2.out]
    have c07 : k7.W.cell? ⟨p, 0, none⟩ = some (.slice B7 77 d7) := by rw [← hl7]; exact hp7.cell
    have g10 := b10 k7
    have HP7' := Lib.hid hp7
    have HL7 := Lib.hid hl7
    have HE7 := Lib.hid hL7
    have hrdA : Rd k7.W A (bys data) := ((HR.out.below HB.out).below HBW1.out).keep k7.keep (fun ad h1 h2 => by have := HR.out.lt ad h1 h2; omega)
    have HRA := Lib.hid hrdA
    clear hp7 hl7 hL7 hrdA
    have x07 := fun e : Ext k7.W => ext_cell c07 e
    have x10 := fun e : Ext k7.W => ext_cell g10 e
    clear c07 g10
    go_wp2_with fail
    refine wp_region_mix (fun w' => ∃ e : Ext k7.W, w' = e.W) [(true, 0), (true, 1), (true, 2), (true, 3), (false, 4)] [5, 6, 7] (by kernel_rfl) (by kernel_rfl) (by intro _ _ d _ _ h; cases d <;> exact h) ⟨⟨k7.W.drew, (Below.refl _ _).drew⟩, rfl⟩ ?_
    simp only [pickM, pickL, List.drop_succ_cons, List.drop_zero]
    repeat (refine mix_pure (by rfl) (by rfl) ?_; intro K hK; go_big_quiet_op; go_big_quiet_on)
    refine mix_eff (by rfl) ?_
    intro K hK
    go_simp
    refine (Bytes_any _ A c n data HRA.out.drew HN.out (by omega) HBY.out).mono ?_
    rintro x w8 ⟨⟨A8, c8, rfl, hrow8⟩, hb8⟩
    have hb78 : Below k7.W.heap.size k7.W w8 := below_trans (Below.refl _ _).drew hb8
    refine hK _ _ ⟨⟨w8, hb78⟩, rfl⟩ ?_
    clear hK K x07 x10
    refine mix_nil ?_
    have HROW8 := Lib.hid hrow8
    have HP8 := Lib.hid (HP7'.out.below hb78)
    have HK8 := Lib.hid (Keep.of (B := p + 1) (b := p) hb78 HP7'.out.size)
    clear hrow8 hb8 hb78
    go_wp2_with (at_builtin; refine wpList_pot (W0 := k7.W) HP8.out HK8.out rfl (.tmp 76) (.tmp 79) 23 rfl i0 _ 1 Try.underlying23 hi hz0 hz1 hz2 rfl 77 HL7.out rfl A8 (8 * n) c8 (bytesN data) rfl (by rw [bytesN_length, HN.out]) HROW8.out.rd (fun _ e => HROW8.out.none_ e) (77 + 8 * n) rfl (by unfold maxLen; omega) (by omega) ?_; intro w9 A9 c9 HP9 c09 z09)
    obtain ⟨p9, kp9⟩ := HP9.out.store (n := 77 + 8 * n) (by rw [List.length_append, HL7.out, bytesN_length, HN.out])
    obtain ⟨k9, hk9⟩ : ∃ k9 : KE (p + 1) p W1, k9.W = w9.setCell ⟨p, 0, none⟩ (.slice A9 (77 + 8 * n) c9) := ⟨⟨_, k7.keep.trans kp9⟩, rfl⟩
    have e9 : L7 ++ bytesN data = P3 := by rw [HD3.out, ← HE7.out]; simp
    rw [e9, ← hk9] at p9
    rw [← hk9]
    refine (kec (xlSeal_any of_5 k9.W (p + 1) p 65 A9 none c9 0 0 P3 [] p9 ⟨Rd.nil _ _, fun _ _ => rfl⟩ rfl (by rw [HQ3'.out]; omega) (fun x hx => by rw [List.nil_append] at hx; exact HBIT3.out x hx))).mono ?_
    rintro x _ ⟨k10, rfl, rfl, B10, d10, hp10⟩
    rw [← HD4.out] at hp10
    have hlb : BX.length = 109 + 8 * n := by rw [HD4.out, List.length_append, bitsN_length, HQ3'.out, HN.out]; omega
    have c10 : k10.W.cell? ⟨p, 0, none⟩ = some (.slice B10 (109 + 8 * n : Nat) d10) := by rw [← hlb]; exact hp10.cell
    have HP10 := Lib.hid hp10
    have HLB := Lib.hid hlb
    clear hp10 hlb
    go_wp2_with fail
    go_ret2
    exact ⟨⟨B10, d10, rfl, HP10.out.row.mono (by omega)⟩, below_trans HB.out (HBW1.out) |>.trans (k10.keep.below (by omega) (by omega))⟩
end Go.Proofs.Ytaknddanggdplaa
-- PFixed: Fixed stuffing, by definition: a stuff bit behind every so many bits (and ahead of all, where the way says so). No condition.
namespace Go.Proofs.Ytaknddanggdplaa
open Go.RowKit
/-- Bits with stuff bits; every: how many bits lie between two; left: how many are left ahead of the next. -/
def fixE (every : Nat) : Nat → Nat → List Nat → List Nat
  | _, _, [] => []
  | last, left, x :: l => if left = 0 then (1 - last) :: x :: fixE every x (every - 1) l else x :: fixE every x (left - 1) l
def fixN (every : Nat) (ahead : Bool) (prev : Nat) (l : List Nat) : List Nat := fixE every prev (if ahead then 0 else every) l
theorem fixE_bits (every : Nat) (l : List Nat) (h : ∀ x ∈ l, x ≤ 1) : ∀ last left, ∀ x ∈ fixE every last left l, x ≤ 1 := by
  induction l with
  | nil => intro last left x hx; simp [fixE] at hx
  | cons y l ih =>
    intro last left x hx
    have hy := h y (by simp)
    have hl := fun z hz => h z (List.mem_cons_of_mem y hz)
    unfold fixE at hx
    split at hx
    · rcases List.mem_cons.1 hx with rfl | hx
      · omega
      · rcases List.mem_cons.1 hx with rfl | hx
        · exact hy
        · exact ih hl _ _ x hx
    · rcases List.mem_cons.1 hx with rfl | hx
      · exact hy
      · exact ih hl _ _ x hx
/-- Of (left) bits none, then one behind each (every): how long it gets. -/
theorem fixE_length (every : Nat) (he : 1 ≤ every) (l : List Nat) : ∀ last left, left ≤ every → (fixE every last left l).length = l.length + (l.length + (every - left) - 1) / every - (if left = every then 0 else 0) + (if l.length = 0 then 0 else 0) ∨ l = [] := by
  induction l with
  | nil => intro last left _; exact .inr rfl
  | cons x l ih =>
    intro last left hle
    refine .inl ?_
    simp only [ite_self, Nat.sub_zero, Nat.add_zero]
    unfold fixE
    split
    · rename_i h0
      subst h0
      rcases ih x (every - 1) (by omega) with h | rfl
      · simp only [ite_self, Nat.sub_zero, Nat.add_zero] at h
        simp only [List.length_cons, h]
        have e1 : l.length + 1 + (every - 0) - 1 = l.length + every := by omega
        have e2 : l.length + (every - (every - 1)) - 1 = l.length := by omega
        rw [e1, e2, Nat.add_div_right _ (by omega)]
        omega
      · have e : 1 + (every - 0) - 1 = every := by omega
        simp [fixE, Nat.div_self (show 0 < every by omega)]
    · rename_i h0
      rcases ih x (left - 1) (by omega) with h | rfl
      · simp only [ite_self, Nat.sub_zero, Nat.add_zero] at h
        simp only [List.length_cons, h]
        have e1 : l.length + (every - (left - 1)) - 1 = l.length + 1 + (every - left) - 1 := by omega
        rw [e1]
        omega
      · have e : 1 + (every - left) - 1 = every - left := by omega
        simp [fixE, e, Nat.div_eq_of_lt (show every - left < every by omega)]
theorem fixN_length (every : Nat) (ahead : Bool) (prev : Nat) (l : List Nat) (he : 1 ≤ every) : (fixN every ahead prev l).length = if l.length = 0 then 0 else l.length + (l.length - 1) / every + (if ahead then 1 else 0) := by
  by_cases h0 : l = []
  · subst h0; simp [fixN, fixE]
  · have hl : l.length ≠ 0 := fun h => h0 (List.eq_nil_of_length_eq_zero h)
    rw [if_neg hl]
    unfold fixN
    rcases fixE_length every he l prev (if ahead then 0 else every) (by split <;> omega) with h | h
    · rw [h]
      cases ahead
      · simp
      · have e : l.length + every - 1 = (l.length - 1) + every := by omega
        simp [e, Nat.add_div_right _ (show 0 < every by omega)]
        omega
    · exact absurd h h0
end Go.Proofs.Ytaknddanggdplaa
-- Fixed0: fixed's line: how a row of raw bits is gone through. No condition.
namespace Go.Proofs.Ytaknddanggdplaa
open Go.RowKit
abbrev lineC (ev : Nat) (ah : Bool) (last left : Nat) : Obj := .cells #[.int .i64 ev, .bool ah, .int .u8 last, .int .i64 left] 124
theorem due_any (b ev last left : Nat) (ah : Bool) (w : World) (h : w.heap[b]? = some (lineC ev ah last left)) :
    Calls Try.prog 86 #[.pointer (some ⟨b, 0, none⟩)] w fun e w' => e = .returned (.bool (decide (left = 0))) ∧ w = w' := by
  have c3 : w.cell? ⟨b, 3, none⟩ = some (.int .i64 left) := cell_of_heap h 3 _ rfl
  go_enter Try.func86, Try.ntmps86
  go_wp2
  go_ret
  exact ⟨ret_bool (by rw [Bool.eq_iff_iff]; simp), rfl⟩
set_option maxHeartbeats 1000000 in
theorem lineSee_any (b ev last left x : Nat) (ah : Bool) (w : World) (h : w.heap[b]? = some (lineC ev ah last left)) (hl : 1 ≤ left) (hl2 : left ≤ 1000) :
    Calls Try.prog 88 #[.pointer (some ⟨b, 0, none⟩), .int .u8 x] w fun e w' => e = .returned (.tuple #[]) ∧ w'.heap[b]? = some (lineC ev ah x (left - 1)) ∧ Touch b b w w' := by
  have c2 : w.cell? ⟨b, 2, none⟩ = some (.int .u8 last) := cell_of_heap h 2 _ rfl
  have c3 : w.cell? ⟨b, 3, none⟩ = some (.int .i64 left) := cell_of_heap h 3 _ rfl
  have z2 : w.frozen? ⟨b, 2, none⟩ = false := by simp [World.frozen?, h]
  have z3 : w.frozen? ⟨b, 3, none⟩ = false := by simp [World.frozen?, h]
  have HH := Lib.hid h
  clear h
  go_enter Try.func88, Try.ntmps88
  go_wp2
  go_end0
  refine ⟨rfl, ?_, ((Touch.refl b b w).setCell (p := ⟨b, 2, none⟩) (.inl rfl) _).setCell (p := ⟨b, 3, none⟩) (.inl rfl) _⟩
  rw [heap_setCell (heap_setCell HH.out 2 _) 3 _]
  simp
  omega
set_option maxHeartbeats 1000000 in
theorem lineStuff_any (b ev last left : Nat) (ah : Bool) (w : World) (h : w.heap[b]? = some (lineC ev ah last left)) (hl : last ≤ 1) :
    Calls Try.prog 87 #[.pointer (some ⟨b, 0, none⟩)] w fun e w' => e = .returned (.int .u8 (1 - last : Nat)) ∧ w'.heap[b]? = some (lineC ev ah (1 - last) ev) ∧ Touch b b w w' := by
  have c0 : w.cell? ⟨b, 0, none⟩ = some (.int .i64 ev) := cell_of_heap h 0 _ rfl
  have c2 : w.cell? ⟨b, 2, none⟩ = some (.int .u8 last) := cell_of_heap h 2 _ rfl
  have c3 : w.cell? ⟨b, 3, none⟩ = some (.int .i64 left) := cell_of_heap h 3 _ rfl
  have z2 : w.frozen? ⟨b, 2, none⟩ = false := by simp [World.frozen?, h]
  have z3 : w.frozen? ⟨b, 3, none⟩ = false := by simp [World.frozen?, h]
  have HH := Lib.hid h
  clear h
  go_enter Try.func87, Try.ntmps87
  go_wp2
  go_region
  go_wp2
  have e1 : (1 : Int) - (last : Int) = ((1 - last : Nat) : Int) := by omega
  go_ret
  refine ⟨ret_int (by omega), ?_, (((Touch.refl b b w).setCell (p := ⟨b, 2, none⟩) (.inl rfl) _).setCell (p := ⟨b, 3, none⟩) (.inl rfl) _).drew⟩
  show ((w.setCell _ _).setCell _ _).heap[b]? = _
  rw [heap_setCell (heap_setCell HH.out 2 _) 3 _, e1]
  simp
abbrev wayV (ev : Nat) (ah : Bool) : Value := .agg #[.int .i64 ev, .bool ah]
theorem may_any (ev : Nat) (ah : Bool) (w : World) (h1 : 1 ≤ ev) (h2 : ev ≤ 64) :
    Calls Try.prog 101 #[wayV ev ah] w fun e w' => e = .returned (.bool true) ∧ Below w.heap.size w w' := by
  have a1 : (1 : Int) ≤ (ev : Int) := by omega
  have a2 : (ev : Int) ≤ 64 := by omega
  go_enter Try.func101, Try.ntmps101
  go_wp2
  go_ret
  exact ⟨by first | rfl | simp, below_alloc (Below.refl _ _) _⟩
theorem begin_any (ev prev : Nat) (ah : Bool) (w : World) :
    Calls Try.prog 85 #[wayV ev ah, .int .u8 prev] w fun e w' => e = .returned (.pointer (some ⟨w.heap.size + 1, 0, none⟩)) ∧ w'.heap[w.heap.size + 1]? = some (lineC ev ah prev (if ah then 0 else ev)) ∧ w'.heap.size = w.heap.size + 1 + 1 ∧ Below w.heap.size w w' := by
  have hb := below_alloc (below_alloc (Below.refl w.heap.size w) (.cells #[.int .i64 ev, .bool ah] 49)) (.cells #[.int .i64 ev, .bool ah, .int .u8 prev, .int .i64 ev] 124)
  cases ah
  · go_enter Try.func85, Try.ntmps85
    go_wp2
    go_ret
    exact ⟨rfl, heap_new_at (by simp), by simp, hb⟩
  · go_enter Try.func85, Try.ntmps85
    go_wp2
    go_ret
    exact ⟨rfl, heap_new_at (by simp), by simp, below_alloc (below_alloc (Below.refl _ _) _) _⟩
def fsize (n ev : Nat) (ah : Bool) : Nat := if n = 0 then 0 else n + (n - 1) / ev + (if ah then 1 else 0)
theorem FSize_any (n ev : Nat) (ah : Bool) (w : World) (h1 : 1 ≤ ev) (h2 : ev ≤ 64) (hn : n ≤ 65536) :
    Calls Try.prog 65 #[.int .i64 n, wayV ev ah] w fun e w' => e = .returned (.tuple #[.int .i64 (fsize n ev ah : Nat), .int .i64 0]) ∧ Below w.heap.size w w' := by
  have HM := Lib.hid (fun W => may_any ev ah W h1 h2)
  have a0 : ¬ (n : Int) < 0 := by omega
  have a1 : ¬ (65536 : Int) < (n : Int) := by omega
  have hev : ¬ (ev : Int) = 0 := by omega
  obtain ⟨q, hq⟩ : ∃ q, (n - 1) / ev = q := ⟨_, rfl⟩
  have hqle : q ≤ n := by rw [← hq]; exact Nat.le_trans (Nat.div_le_self _ _) (by omega)
  by_cases hn0 : n = 0
  · subst hn0
    clear hq hqle
    go_enter Try.func65, Try.ntmps65
    go_wp2_with fail
    refine (HM.out _).mono ?_
    rintro e w1 ⟨rfl, hb⟩
    have HB := Lib.hid (below_trans (below_alloc (Below.refl _ w) _) hb)
    clear hb
    go_wp2_with fail
    go_ret2
    exact ⟨rfl, HB.out⟩
  · have hnz : ((n : Int) == 0) = false := by rw [beq_eq_false_iff_ne]; omega
    have hdiv : ((n : Int) - 1).tdiv (ev : Int) = (q : Int) := by
      rw [Int.tdiv_eq_ediv_of_nonneg (by omega), ← hq]
      have : (n : Int) - 1 = ((n - 1 : Nat) : Int) := by omega
      rw [this]; simp
    have hfs : (fsize n ev ah : Int) = (n : Int) + (q : Int) + (if ah then 1 else 0) := by
      unfold fsize; rw [if_neg hn0, hq]; cases ah <;> simp
    have HFS := Lib.hid hfs
    clear hq hfs
    go_enter Try.func65, Try.ntmps65
    go_wp2_with fail
    refine calls_name (T := fun W1 => W1.heap[w.heap.size]? = some (.cells #[.int .i64 ev, .bool ah] 49) ∧ Below w.heap.size w W1) ⟨heap_new_at rfl, below_alloc (Below.refl _ _) _⟩ ?_
    rintro W1 ⟨q1, hb1⟩
    refine (HM.out _).mono ?_
    rintro e w1 ⟨rfl, hb⟩
    have c0 := cell_of_heap (heap_below hb q1) 0 _ rfl
    have c1 : w1.cell? ⟨w.heap.size, 1, none⟩ = some (.bool ah) := cell_of_heap (heap_below hb q1) 1 _ rfl
    have HB := Lib.hid (below_trans hb1 hb)
    clear hb q1 hb1
    cases ah
    · go_wp2_with fail
      go_ret2
      exact ⟨ret_fst (by have := HFS.out; simp at this; omega), HB.out⟩
    · go_wp2_with fail
      go_ret2
      exact ⟨ret_fst (by have := HFS.out; simp at this; omega), HB.out⟩
theorem fcheck_any (prev ev n c : Nat) (ah : Bool) (A : Option Addr) (l : List Nat) (w : World) (h1 : 1 ≤ ev) (h2 : ev ≤ 64) (hp : prev ≤ 1) (hr : Rd w A (bys l)) (hn : l.length = n) (hn2 : n ≤ 65536) (h01 : ∀ x ∈ l, x ≤ 1) :
    Calls Try.prog 84 #[.int .u8 prev, .slice A n c, wayV ev ah] w fun e w' => e = .returned (.bool true) ∧ Below w.heap.size w w' := by
  have hok : bitsOk l = true := by unfold bitsOk; rw [decide_eq_true (by omega : l.length ≤ 65536), decide_eq_true h01]; rfl
  have hC := fun W (hW : Rd W A (bys l)) => BitsCheck_any A n c l W hW hn (by omega)
  rw [hok, if_pos rfl] at hC
  have HC := Lib.hid hC
  have HM := Lib.hid (fun W => may_any ev ah W h1 h2)
  have HR := Lib.hid hr
  have hp1 : (prev : Int) ≤ 1 := by omega
  clear hok hC hr h01
  go_enter Try.func84, Try.ntmps84
  go_wp2_with fail
  refine (HC.out _ (HR.out.alloc _)).mono ?_
  rintro e _ ⟨rfl, rfl⟩
  go_wp2_with fail
  refine (HM.out _).mono ?_
  rintro e w1 ⟨rfl, hb⟩
  have HB := Lib.hid (below_trans (below_alloc (Below.refl _ w) _) hb)
  clear hb
  go_wp2_with fail
  go_ret
  exact ⟨by first | rfl | simp, HB.out⟩
end Go.Proofs.Ytaknddanggdplaa
-- FixedPut: fixed.Put: bits with fixed stuff bits. No condition.
namespace Go.Proofs.Ytaknddanggdplaa
open Go.RowKit
/-- append to a row of the call's own: below the row's base nothing is turned. -/
theorem wpList_appB {P : Program} {W : World} {ops : Array Oper} {rest : List Oper} {o : Oper} {a : Act} {Q : Exit → Act → World → Prop} (hgd : o.guard = none) (s x : Operand) (t : TypeId)
    (ho : o.op = .call { callee := .builtin .append, args := #[s, x], argTypes := #[t, t] })
    (base : Nat) (e : TypeId) (i : TypeInfo) (z : Value) (bytes : Nat) (ht : P.underlying t = some (.slice e)) (hi : P.info? e = some i) (hz : i.zero = some z)
    (hsize : i.size = 1) (hby : i.bytes = bytes) (hzs : z.cells.size = 1)
    (A : Option Addr) (n c : Nat) (xs : List Value) (hs : a.eval s = .slice A n c) (hn : xs.length = n) (hown : Row W base e A c xs)
    (B : Option Addr) (m d : Nat) (news : List Value) (hx : a.eval x = .slice B m d) (hm : news.length = m) (hr : Rd W B news) (h1 : ∀ u ∈ news, u.oneCell' = true) (hd : news = [] → B = none → d = 0)
    (N : Nat) (hN : n + m = N) (h63 : N ≤ maxLen) (hbytes : N * bytes ≤ 140737488355328) (hbase : base ≤ W.heap.size)
    (h : ∀ (w3 : World) (A3 : Option Addr) (c3 : Nat), Hid (Row w3 base e A3 c3 (xs ++ news)) → Hid (Below base W w3) → wpList P ops Q rest (a.put o.dst (.slice A3 N c3)) w3) : wpList P ops Q (o :: rest) a W := by
  subst hN hm hn
  refine wpList_app W hgd s x t ho base e i z bytes ht hi hz hsize hby hzs (.slice A xs.length c) xs.length xs hs hown B news.length d news hx rfl hr h1 hd h63 hbytes hbase fun v' w' h2 h3 _ => ?_
  obtain ⟨A3, c3, rfl, hrow⟩ := Row.of h2 (by simp)
  have := h w' A3 c3 hrow (own_grown hown (Below.refl base W) (Nat.le_refl _) hbase h3)
  simpa using this
theorem below_heap {B g : Nat} {w w' : World} {o : Obj} (h : Below B w w') (hg : g < B) (ho : w.heap[g]? = some o) : w'.heap[g]? = some o := (h.block g hg).trans ho
theorem fixE_step {every last left x : Nat} {l out full : List Nat} (h : out ++ fixE every last left (x :: l) = full) :
    (left = 0 → (out ++ [1 - last] ++ [x]) ++ fixE every x (every - 1) l = full) ∧ (left ≠ 0 → (out ++ [x]) ++ fixE every x (left - 1) l = full) := by
  constructor
  · intro h0
    rw [← h, fixE, if_pos h0]; simp
  · intro h0
    rw [← h, fixE, if_neg h0]; simp
set_option maxRecDepth 100000 in
set_option maxHeartbeats 4000000 in
theorem FixedPut_any (w : World) (A : Option Addr) (prev ev c n N : Nat) (ah : Bool) (l : List Nat) (h1 : 1 ≤ ev) (h2 : ev ≤ 64) (hp : prev ≤ 1) (hr : Rd w A (bys l)) (hn : l.length = n) (hn1 : 1 ≤ n) (hn2 : n ≤ 30000) (h01 : ∀ x ∈ l, x ≤ 1) (hN : (fixN ev ah prev l).length = N) :
    Calls Try.prog 39 #[.int .u8 prev, .slice A n c, wayV ev ah] w fun e w' => (∃ A' c', e = .returned (.tuple #[.slice A' N c', .int .i64 0]) ∧ Row w' w.heap.size 5 A' c' (bys (fixN ev ah prev l))) ∧ Below w.heap.size w w' := by
  obtain ⟨i0, hi, hz0, hz1, hz2⟩ := info_parts info_u8
  have hNf : N = fsize n ev ah := by
    rw [← hN, fixN_length ev ah prev l h1, hn]; rfl
  have hN2 : N ≤ 65536 ∧ 1 ≤ N := by
    rw [hNf]; unfold fsize; rw [if_neg (by omega)]
    have h3 : (n - 1) / ev ≤ n - 1 := Nat.div_le_self _ _
    generalize (n - 1) / ev = q at h3 ⊢
    split <;> omega
  have hS := fun W => FSize_any n ev ah W h1 h2 (by omega)
  rw [← hNf] at hS
  have HS := Lib.hid hS
  have HC := Lib.hid (fun W (hW : Rd W A (bys l)) => fcheck_any prev ev n c ah A l W h1 h2 hp hW hn (by omega) h01)
  have HR := Lib.hid hr
  have HN := Lib.hid hn
  have H01 := Lib.hid h01
  have HNN := Lib.hid hN
  have hN3 : ¬ (65536 : Int) < (N : Int) := by omega
  have hN4 : (0 : Int) ≤ (N : Int) := by omega
  clear hS hr hn h01 hN hNf
  go_enter Try.func39, Try.ntmps39
  go_wp2_with fail
  refine calls_name (T := fun W1 => W1.heap[w.heap.size]? = some (.cells #[.int .i64 ev, .bool ah] 49) ∧ Below w.heap.size w W1) ⟨heap_new_at rfl, below_alloc (Below.refl _ _) _⟩ ?_
  rintro W1 ⟨q1, hb1⟩
  have a0 := fun e : Ext W1 => ext_cell (cell_of_heap q1 0 _ rfl) e
  have a1 : ∀ e : Ext W1, e.W.cell? ⟨w.heap.size, 1, none⟩ = some (.bool ah) := fun e => ext_cell (cell_of_heap q1 1 _ rfl) e
  have hsz := ext_lt q1
  have HB1 := Lib.hid hb1
  clear q1 hb1
  refine (extc_same (HS.out _)).mono ?_
  rintro x _ ⟨e1, rfl, rfl⟩
  go_wp2_with fail
  refine (extc (HC.out e1.W ((HR.out.below HB1.out).ext e1))).mono ?_
  rintro x _ ⟨e2, rfl, rfl⟩
  go_wp2_with fail
  refine (begin_any ev prev ah e2.W).mono ?_
  rintro x W2 ⟨rfl, hline, hsz2, hb2⟩
  obtain ⟨g, hg⟩ : ∃ g, e2.W.heap.size + 1 = g := ⟨_, rfl⟩
  rw [hg] at hline hsz2
  rw [hg]
  have hwg : w.heap.size ≤ g := by have := hsz e2; omega
  have HLINE := Lib.hid hline
  have HB2 := Lib.hid (HB1.out.trans ((e2.below.mono (by exact HB1.out.size)).trans (hb2.mono (by have := hsz e2; omega))))
  clear hline hb2 a0 a1 hsz hg
  go_wp2_with (refine wpList_make_own _ rfl _ (.tmp 33) 23 rfl W2.heap.size 5 i0 (.int .u8 0) 1 Try.underlying23 hi hz0 hz1 .i64 .i64 _ N rfl rfl (by omega) (by rw [hz2]; omega) (by unfold maxLen; omega) (by simp) ?_; intro w3 hown hgr)
  have hb3 := below_of_grown hgr
  have hline3 : w3.heap[g]? = some (lineC ev ah prev (if ah then 0 else ev)) := below_heap hb3 (by omega) HLINE.out
  have hrow3 : Row w3 (g + 1) 5 (some ⟨g + 1, 0, none⟩) N (bys []) := by rw [hsz2] at hown; exact hown
  have hbel3 : Below w.heap.size w w3 := HB2.out.trans (hb3.mono (by omega))
  have HL3 := Lib.hid hline3
  have HR3 := Lib.hid hrow3
  have HB3 := Lib.hid hbel3
  have hleft : (if ah then 0 else ev) ≤ ev := by split <;> omega
  clear hown hgr hb3 hline3 hrow3 hbel3 HB2 HLINE
  go_loopw [11, 37] (fun v iv wr => ∃ (k last left q : Nat) (A' : Option Addr) (c' : Nat) (out : List Nat), k ≤ n ∧ iv = .int .i64 k ∧ v = .slice A' q c' ∧ Hid (out.length = q) ∧ left ≤ ev ∧ last ≤ 1 ∧ q ≤ N ∧ Hid (out ++ fixE ev last left (l.drop k) = fixN ev ah prev l) ∧ Hid (Row wr (g + 1) 5 A' c' (bys out)) ∧ Hid (wr.heap[g]? = some (lineC ev ah last left)) ∧ Hid (Below w.heap.size w wr)) (fun _ iv _ => n - (intOf iv).toNat)
  case atStart => exact ⟨0, prev, (if ah then 0 else ev), 0, _, _, [], by omega, rfl, rfl, rfl, hleft, hp, by omega, rfl, HR3, HL3, HB3⟩
  case round =>
    obtain ⟨k, last, left, q, A', c', out, hk, rfl, rfl, HQL, hlev, hl1, hqN, HM, HQ, HL, HW⟩ := hrel
    by_cases hkn : k < n
    · have hkl : k < l.length := by rw [HN.out]; exact hkn
      obtain ⟨ad, rfl, ca⟩ := (HR.out.below HW.out).at_ k hkl
      have hx := H01.out l[k] (List.getElem_mem hkl)
      have hd : l.drop k = l[k] :: l.drop (k + 1) := List.drop_eq_getElem_cons hkl
      obtain ⟨x, hxe⟩ : ∃ x, l[k] = x := ⟨_, rfl⟩
      rw [hxe] at ca hx hd
      have hm := HM.out
      rw [hd] at hm
      have hstep := fixE_step hm
      have hbnd := congrArg List.length hm
      rw [HNN.out] at hbnd
      have hgw : g < wr.heap.size := heap_lt HL.out
      have hge : ∀ ad, A' = some ad → ad.block ≠ g := fun ad e => by have := HQ.out.ge ad e; omega
      have HST := Lib.hid hstep
      have HDUE := Lib.hid (due_any g ev last left ah wr HL.out)
      clear hd hxe hm hstep
      by_cases h0 : left = 0
      · subst h0
        have hq2 : q + 2 ≤ N := by
          rw [fixE, if_pos rfl, List.length_append, HQL.out] at hbnd
          simp only [List.length_cons] at hbnd
          omega
        have HSTF := Lib.hid (lineStuff_any g ev last 0 ah wr HL.out hl1)
        clear hbnd
        go_wp2_with fail
        refine HDUE.out.mono ?_
        rintro e _ ⟨rfl, rfl⟩
        go_wp2_with fail
        refine HSTF.out.mono ?_
        rintro e w4 ⟨rfl, hl4, ht4⟩
        obtain ⟨y, hy⟩ : ∃ y, 1 - last = y := ⟨_, rfl⟩
        rw [hy] at hl4 HST
        rw [hy]
        have HL4 := Lib.hid hl4
        have HQ4 := Lib.hid (HQ.out.touch ht4 hge)
        have HW4 := Lib.hid (HW.out.trans (ht4.below hwg hwg (by omega)))
        have hgw4 : g < w4.heap.size := heap_lt hl4
        clear hl4 ht4
        go_wp2_with (at_builtin; refine wpList_appB (W := _) rfl (.tmp 43) (.tmp 46) 23 rfl (g + 1) 5 i0 _ 1 Try.underlying23 hi hz0 hz1 hz2 rfl A' q c' (bys out) rfl (by rw [bys_length]; exact HQL.out) (HQ4.out.alloc _) _ 1 1 (bys [y]) rfl rfl (Rd.blk (heap_new_at rfl)) (bys_one _) (by intro h; cases h) (q + 1) (by omega) (by unfold maxLen; omega) (by omega) (by simp; omega) ?_; intro w5 A5 c5 HO5 HB5)
        have hl5 : w5.heap[g]? = some (lineC ev ah y ev) := below_heap HB5.out (by omega) (heap_push HL4.out)
        have HW5 := Lib.hid ((below_alloc HW4.out _).trans (HB5.out.mono (by omega)))
        refine (lineSee_any g ev y ev x ah w5 hl5 h1 (by omega)).mono ?_
        rintro e w6 ⟨rfl, hl6, ht6⟩
        have ho5 := HO5.out
        rw [← bys_append] at ho5
        have HL6 := Lib.hid hl6
        have HQ6 := Lib.hid (ho5.touch ht6 (fun ad e => by have := ho5.ge ad e; omega))
        have HW6 := Lib.hid (HW5.out.trans (ht6.below hwg hwg (by have := heap_lt hl5; omega)))
        have hgw6 : g < w6.heap.size := heap_lt hl6
        clear hl6 ht6 hl5 ho5
        go_wp2_with (at_builtin; refine wpList_appB (W := _) rfl (.tmp 51) (.tmp 53) 23 rfl (g + 1) 5 i0 _ 1 Try.underlying23 hi hz0 hz1 hz2 rfl A5 (q + 1) c5 (bys (out ++ [y])) rfl (by rw [bys_length, List.length_append, HQL.out]; rfl) (HQ6.out.alloc _) _ 1 1 (bys [x]) rfl rfl (Rd.blk (heap_new_at rfl)) (bys_one _) (by intro h; cases h) (q + 1 + 1) (by omega) (by unfold maxLen; omega) (by omega) (by simp; omega) ?_; intro w7 A7 c7 HO7 HB7)
        go_roundw
        case rel =>
          have ho7 := HO7.out
          rw [← bys_append] at ho7
          refine ⟨k + 1, x, ev - 1, q + 1 + 1, A7, c7, out ++ [y] ++ [x], by omega, by go_num, rfl, by show _ = _; rw [List.length_append, List.length_append, HQL.out]; rfl, by omega, hx, by omega, HST.out.1 (by first | trivial | rfl), ho7, below_heap HB7.out (by omega) (heap_push HL6.out), (below_alloc HW6.out _).trans (HB7.out.mono (by omega))⟩
        case measure => simp [intOf]; omega
      · have hq2 : q + 1 ≤ N := by
          rw [fixE, if_neg h0, List.length_append, HQL.out] at hbnd
          simp only [List.length_cons] at hbnd
          omega
        have HSEE := Lib.hid (lineSee_any g ev last left x ah wr HL.out (by omega) (by omega))
        have hdue := HDUE.out
        rw [decide_eq_false h0] at hdue
        have HDU2 := Lib.hid hdue
        clear hbnd hdue
        go_wp2_with fail
        refine HDU2.out.mono ?_
        rintro e _ ⟨rfl, rfl⟩
        go_wp2_with fail
        refine HSEE.out.mono ?_
        rintro e w6 ⟨rfl, hl6, ht6⟩
        have HL6 := Lib.hid hl6
        have HQ6 := Lib.hid (HQ.out.touch ht6 hge)
        have HW6 := Lib.hid (HW.out.trans (ht6.below hwg hwg (by omega)))
        have hgw6 : g < w6.heap.size := heap_lt hl6
        clear hl6 ht6
        go_wp2_with (at_builtin; refine wpList_appB (W := _) rfl (.tmp 51) (.tmp 53) 23 rfl (g + 1) 5 i0 _ 1 Try.underlying23 hi hz0 hz1 hz2 rfl A' q c' (bys out) rfl (by rw [bys_length]; exact HQL.out) (HQ6.out.alloc _) _ 1 1 (bys [x]) rfl rfl (Rd.blk (heap_new_at rfl)) (bys_one _) (by intro h; cases h) (q + 1) (by omega) (by unfold maxLen; omega) (by omega) (by simp; omega) ?_; intro w7 A7 c7 HO7 HB7)
        go_roundw
        case rel =>
          have ho7 := HO7.out
          rw [← bys_append] at ho7
          refine ⟨k + 1, x, left - 1, q + 1, A7, c7, out ++ [x], by omega, by go_num, rfl, by show _ = _; rw [List.length_append, HQL.out]; rfl, by omega, hx, by omega, HST.out.2 h0, ho7, below_heap HB7.out (by omega) (heap_push HL6.out), (below_alloc HW6.out _).trans (HB7.out.mono (by omega))⟩
        case measure => simp [intOf]; omega
    · obtain rfl : n = k := by omega
      have hm := HM.out
      rw [← HN.out, List.drop_length, fixE, List.append_nil] at hm
      go_wp2_with fail
      go_ret2
      have hq := HQ.out
      rw [hm] at hq
      have hqn : q = N := by rw [← HQL.out, hm]; exact HNN.out
      subst hqn
      exact ⟨⟨A', c', rfl, hq.mono (by omega)⟩, HW.out⟩
end Go.Proofs.Ytaknddanggdplaa
-- ConcatP: slices.Concat over a row of rows that has just been laid. No condition.
namespace Go.Proofs.Ytaknddanggdplaa
open Go.RowKit
theorem concatP {W : World} {vs : Array Value} {t n N : Nat} (ps : List Part) (g : Nat) (hg : W.heap[g]? = some (.cells vs t)) (hv : vs.toList = ps.map partV) (hn : ps.length = n) (hps : ∀ p ∈ ps, PartOk W p) (hN : (partsL ps).length = N) (hN2 : N ≤ 1000000) (hn2 : n ≤ 1000) :
    Calls Try.prog 41 #[.slice (some ⟨g, 0, none⟩) n n] W fun e w' => (∃ A' c', e = .returned (.slice A' N c') ∧ Row w' W.heap.size 5 A' c' (bys (partsL ps))) ∧ Below W.heap.size W w' :=
  concat_any _ n n N ps W (by rw [← hv]; exact Rd.blk hg) hn hps hN hN2 hn2
theorem lit_row {w : World} {l : List Nat} {n : Nat} (hn : l.length = n) (h : n ≤ 1000) : Row (w.alloc (.cells (bys l).toArray 5)) w.heap.size 5 (some ⟨w.heap.size, 0, none⟩) n (bys l) := by
  have := own_lit (w := w) (cs := bys l) (n := n) (e := 5) (Nat.le_refl _) (by rw [bys_length]; exact hn) (by unfold maxLen; omega)
  unfold Row
  rw [bys_length, hn]
  exact this
end Go.Proofs.Ytaknddanggdplaa
-- Repeat: slices.Repeat of one byte, ten times. No condition.
namespace Go.Proofs.Ytaknddanggdplaa
open Go.RowKit
set_option maxRecDepth 100000 in
set_option maxHeartbeats 1000000 in
theorem mul64_lit (w : World) : Calls Try.prog 108 #[.int .u64 1, .int .u64 10] w fun e w' => e = .returned (.tuple #[.int .u64 0, .int .u64 10]) ∧ w = w' := by
  go_enter Try.func108, Try.ntmps108
  go_wp2
  go_ret2
  exact ⟨by kernel_rfl, rfl⟩
set_option maxHeartbeats 1000000 in
theorem mul_lit (w : World) : Calls Try.prog 90 #[.int .u64 1, .int .u64 10] w fun e w' => e = .returned (.tuple #[.int .u64 0, .int .u64 10]) ∧ w = w' := by
  have HM := Lib.hid mul64_lit
  go_enter Try.func90, Try.ntmps90
  go_wp2_with (go_at_call 108; refine (HM.out _).mono ?_; rintro e _ ⟨rfl, rfl⟩)
  go_ret2
  exact ⟨rfl, rfl⟩
def onesL (k n : Nat) : List Value := List.replicate k (.int .u8 1) ++ List.replicate (n - k) (.int .u8 0)
theorem onesL_length (k n : Nat) (h : k ≤ n) : (onesL k n).length = n := by simp [onesL]; omega
theorem onesL_splice (k m n : Nat) (h : k + m ≤ n) : splice (onesL k n) k (List.replicate m (.int .u8 1)) = onesL (k + m) n := by
  unfold splice onesL
  rw [List.take_left' (by simp), List.length_replicate, List.drop_append, List.drop_eq_nil_of_le (by simp), List.nil_append, List.length_replicate, List.drop_replicate, ← List.append_assoc, List.replicate_append_replicate]
  congr 2
  omega
set_option maxRecDepth 100000 in
set_option maxHeartbeats 2000000 in
theorem repeat_any (w : World) (h : Nat) (hh : w.heap[h]? = some (.cells #[.int .u8 1] 5)) :
    Calls Try.prog 43 #[.slice (some ⟨h, 0, none⟩) 1 1, .int .i64 10] w fun e w' => (∃ A c, e = .returned (.slice A 10 c) ∧ Row w' w.heap.size 5 A c (bys (List.replicate 10 1))) ∧ Below w.heap.size w w' := by
  obtain ⟨i0, hi, hz0, hz1, hz2⟩ := info_parts info_u8
  have hsz : (Try.prog.info? 5).map (·.size) = some 1 := by rw [hi]; simp [hz1]
  have HM := Lib.hid mul_lit
  have hone1 : ∀ v ∈ [Value.int .u8 1], v.oneCell' = true := by intro v hv; simp at hv; subst hv; rfl
  have HH := Lib.hid hh
  have hmk : ∀ W : World, Sem.run Try.prog (Instr.makeSlice 23 (.int .i64 10) (.int .i64 10)) W = .ok (.slice (some ⟨W.heap.size, 0, none⟩) 10 10) (W.alloc (.cells #[.int .u8 0, .int .u8 0, .int .u8 0, .int .u8 0, .int .u8 0, .int .u8 0, .int .u8 0, .int .u8 0, .int .u8 0, .int .u8 0] 5)) := fun _ => by kernel_rfl
  clear hh
  go_enter Try.func43, Try.ntmps43
  go_wp2_with (first
    | (go_at_call 90; refine (HM.out _).mono ?_; rintro e _ ⟨rfl, rfl⟩)
    | (with_reducible refine wpList_copy_splice rfl (.tmp 31) (.tmp 32) 23 23 rfl 5 Try.underlying23 hsz _ _ 10 10 1 1 rfl rfl w.heap.size 0 (List.replicate 10 (.int .u8 0)) 5 (heap_new_at rfl) [.int .u8 1] rfl (fun _ => ⟨rfl, _, rfl, World.news_of_block (heap_push HH.out)⟩) (by simp) hone1 w.heap.size w (below_alloc (Below.refl _ _) _) (Nat.le_refl _) ?_; intro w1 hs1 hb1))
  obtain ⟨g, hg⟩ : ∃ g, w.heap.size = g := ⟨_, rfl⟩
  have hs1' : Hid (w1.heap[g]? = some (.cells (onesL 1 10).toArray 5)) := by rw [← hg]; exact hs1
  have HB1 : Hid (Below g w w1) := by rw [← hg]; exact Lib.hid hb1
  have HG := Lib.hid hg
  rw [hg]
  clear hs1 hb1 hg hmk
  go_loopw [8] (fun v wr => ∃ k : Nat, 1 ≤ k ∧ k ≤ 10 ∧ v = .int .i64 k ∧ Hid (wr.heap[g]? = some (.cells (onesL k 10).toArray 5)) ∧ Hid (Below g w wr)) (fun v _ => 10 - (intOf v).toNat)
  case atStart => exact ⟨1, by omega, by omega, rfl, hs1', HB1⟩
  case round =>
    obtain ⟨k, hk1, hk2, rfl, HS, HB⟩ := hrel
    by_cases hlt : k < 10
    · obtain ⟨m, hm⟩ : ∃ m, Nat.min k (10 - k) = m := ⟨_, rfl⟩
      have hm1 : 1 ≤ m ∧ k + m ≤ 10 := by rw [← hm]; show 1 ≤ min k (10 - k) ∧ k + min k (10 - k) ≤ 10; omega
      have hi1 : (k : Int) ≤ 10 := by omega
      have hi0 : (0 : Int) ≤ k := by omega
      have HM1 := Lib.hid hm1
      have hsum : IntKind.i64.wrap ((k : Int) + (m : Int)) = (k : Int) + (m : Int) := IntWalk.i64_in _ (by omega)
      have hne10 : ¬ (10 : Nat) = k := by omega
      obtain ⟨d, hd⟩ : ∃ d, 10 - k = d := ⟨_, rfl⟩
      rw [hd] at hm
      obtain ⟨cs, hcs⟩ : ∃ cs, List.replicate m (Value.int .u8 1) = cs := ⟨_, rfl⟩
      obtain ⟨cur, hcur⟩ : ∃ cur, onesL k 10 = cur := ⟨_, rfl⟩
      have hcl : cs.length = m := by rw [← hcs]; simp
      have HC1 := Lib.hid (show cs.length = Nat.min k d by rw [hcl]; exact hm.symm)
      have hmk' : m ≤ k := by rw [← hm]; exact Nat.min_le_left _ _
      have HC2 := Lib.hid (show ∀ j v, cs[j]? = some v → wr.drew.cell? ((⟨g, 0, none⟩ : Addr).add j) = some v by
        intro j v hj
        have hjm : j < m := by have := (List.getElem?_eq_some_iff.1 hj).1; rw [hcl] at this; exact this
        refine World.news_of_block (w := wr.drew) HS.out j v ?_
        show (onesL k 10)[j]? = some v
        unfold onesL
        rw [List.getElem?_append_left (by simp; omega), ← hj, ← hcs]
        simp [hjm, show j < k by omega])
      have HC3 := Lib.hid (show k + cs.length ≤ cur.length by rw [hcl, ← hcur, onesL_length _ _ hk2]; exact hm1.2)
      have HC4 := Lib.hid (show ∀ v ∈ cs, v.oneCell' = true by intro v hv; rw [← hcs] at hv; rw [List.eq_of_mem_replicate hv]; rfl)
      have HS2 := Lib.hid (show wr.drew.heap[g]? = some (.cells cur.toArray 5) by rw [← hcur]; exact HS.out)
      have HSP := Lib.hid (show splice cur k cs = onesL (k + m) 10 by rw [← hcur, ← hcs]; exact onesL_splice k m 10 hm1.2)
      clear hcs hcur
      clear hm
      go_wp2_with fail
      go_region_law (first
        | (refine step_copy_splice rfl (.tmp 41) (.tmp 44) 23 23 rfl 5 Try.underlying23 hsz (some ⟨g, k, none⟩) (some ⟨g, 0, none⟩) d d k 10 (by kernel_rfl) (by kernel_rfl) g k cur 5 HS2.out cs HC1.out (fun _ => ⟨rfl, _, rfl, HC2.out⟩) HC3.out HC4.out g w HB.out.drew (Nat.le_refl _) ?_; intro w3 hs3 hb3))
      all_goals
        go_frame
        go_roundw
        case rel => ((repeat apply Exists.intro); exact ⟨⟨k + m, by omega, HM1.out.2, by go_num, by show _ = _; rw [← HSP.out]; exact hs3.out, hb3⟩, rfl⟩)
        case measure => simp [intOf]; have := HM1.out.1; omega
    · obtain rfl : k = 10 := by omega
      go_wp2_with fail
      go_ret
      have e : onesL 10 10 = bys (List.replicate 10 1) := rfl
      have hs := HS.out
      rw [e] at hs
      rw [HG.out]
      exact ⟨⟨_, _, rfl, ⟨by simp [bys_length], .inr ⟨g, 10, _, by rw [bys_length, List.length_replicate], Nat.le_refl _, hs, by simp [bys_length], by decide, by simp [bys_length], by simp [bys]⟩⟩⟩, HB.out⟩
end Go.Proofs.Ytaknddanggdplaa
-- XlWire: xl.Wire: an XL frame on the wire. No condition.
namespace Go.Proofs.Ytaknddanggdplaa
open Go.RowKit
theorem xlStart_any (w : World) : Calls Try.prog 38 #[] w fun e w' => (∃ A' c', e = .returned (.slice A' 4 c') ∧ Row w' w.heap.size 5 A' c' (bys [1, 0, 0, 1])) ∧ Below w.heap.size w w' := by
  have hr := lit_row (w := w) (l := [1, 0, 0, 1]) rfl (by decide)
  have HR := Lib.hid hr
  clear hr
  go_enter Try.func38, Try.ntmps38
  go_wp2
  go_ret
  exact ⟨⟨_, 4, rfl, HR.out⟩, below_alloc (Below.refl _ _) _⟩
theorem xlStop_any (w : World) : Calls Try.prog 42 #[] w fun e w' => (∃ A' c', e = .returned (.slice A' 4 c') ∧ Row w' w.heap.size 5 A' c' (bys [0, 1, 1, 0])) ∧ Below w.heap.size w w' := by
  have hr := lit_row (w := w) (l := [0, 1, 1, 0]) rfl (by decide)
  have HR := Lib.hid hr
  clear hr
  go_enter Try.func42, Try.ntmps42
  go_wp2
  go_ret
  exact ⟨⟨_, 4, rfl, HR.out⟩, below_alloc (Below.refl _ _) _⟩
theorem xlWay_any (w : World) : Calls Try.prog 40 #[] w fun e w' => e = .returned (wayV 8 false) ∧ Below w.heap.size w w' := by
  go_enter Try.func40, Try.ntmps40
  go_wp2
  exact bodyPost_ret (v := wayV 8 false) (by simp [results, Try.results40, go_sem]) rfl ⟨rfl, below_alloc (Below.refl _ _) _⟩
/-- An XL frame ahead of its delimiter's recessive bits. -/
def rawX (f : Fr) : List Nat := stuffN (headX f) ++ [1, 0, 0, 1] ++ fixN 8 false 1 (bodyX f) ++ [0, 1, 1, 0]
def wireX (f : Fr) : List Nat := rawX f ++ List.replicate 10 1
set_option maxRecDepth 100000 in
set_option maxHeartbeats 2000000 in
theorem XlWire_no (f : Fr) (A : Option Addr) (c : Nat) (w : World) (hl : f.data.length ≤ 9223372036854775807) (hno : ¬ (f.kind = 3 ∧ okF f = true)) :
    Calls Try.prog 17 #[frv f (.slice A f.data.length c)] w fun e w' => e = .returned (.tuple #[.agg #[.slice none 0 0, .int .i64 0, .int .i64 0], .int .i64 2]) ∧ Below w.heap.size w w' := by
  have HC := Lib.hid (fun W => XlBody_no f A c W hl hno)
  obtain ⟨kind, id, ext, rtr, brs, esi, sec, sdt, vcid, af, data⟩ := f
  dsimp only [frv] at *
  generalize data.length = n at *
  clear hno
  go_enter Try.func17, Try.ntmps17
  go_wp2_with fail
  refine calls_blk2 (fun W0 q1 q2 hb => ?_)
  have HB := Lib.hid hb
  have HQ2 := Lib.hid q2
  have hsz := heap_lt q2
  clear hb q1 q2
  refine (HC.out _).mono ?_
  rintro e w1 ⟨rfl, hb1⟩
  have hq := heap_below hb1 HQ2.out
  have c0 := cell_of_heap hq 0 _ rfl
  have c1 := cell_of_heap hq 1 _ rfl
  have c2 := cell_of_heap hq 2 _ rfl
  have z0 : w1.frozen? ⟨w.heap.size + 1, 0, none⟩ = false := by simp [World.frozen?, hq]
  have z1 : w1.frozen? ⟨w.heap.size + 1, 1, none⟩ = false := by simp [World.frozen?, hq]
  have z2 : w1.frozen? ⟨w.heap.size + 1, 2, none⟩ = false := by simp [World.frozen?, hq]
  have HB1 := Lib.hid hb1
  have HQ3 := Lib.hid hq
  clear hb1 hq
  go_wp2_with fail
  refine bodyPost_ret (v := .tuple #[.agg #[.slice none 0 0, .int .i64 0, .int .i64 0], .int .i64 2]) (by simp [results, Try.results17, go_sem, c0, c1, c2]) rfl ⟨rfl, ?_⟩
  have h := below_trans HB.out HB1.out
  exact ((h.setCell (p := ⟨w.heap.size + 1, 0, none⟩) (by show w.heap.size ≤ w.heap.size + 1; omega) _).setCell (p := ⟨w.heap.size + 1, 1, none⟩) (by show w.heap.size ≤ w.heap.size + 1; omega) _).setCell (p := ⟨w.heap.size + 1, 2, none⟩) (by show w.heap.size ≤ w.heap.size + 1; omega) _
set_option maxRecDepth 100000 in
set_option maxHeartbeats 4000000 in
theorem XlWire_ok (f : Fr) (A : Option Addr) (c NR NH : Nat) (w : World) (hk : f.kind = 3) (hok : okF f = true) (h0 : 0 ≤ f.id) (hs : 0 ≤ f.sdt ∧ f.sdt < 256) (hv : 0 ≤ f.vcid ∧ f.vcid < 256) (ha : 0 ≤ f.af ∧ f.af < 4294967296) (hr : Rd w A (bys f.data)) (hby : isBytes f.data) (hNR : (rawX f).length = NR) (hNH : (stuffN (headX f)).length = NH) :
    Calls Try.prog 17 #[frv f (.slice A f.data.length c)] w fun e w' => (∃ A' c', e = .returned (.tuple #[.agg #[.slice A' (NR + 10 : Nat) c', .int .i64 (NH : Nat), .int .i64 (NR + 1 : Nat)], .int .i64 0]) ∧ Row w' w.heap.size 5 A' c' (bys (wireX f))) ∧ Below w.heap.size w w' := by
  obtain ⟨hid, hn1, hn2, -⟩ := okX f hk hok
  have HBody := Lib.hid (fun W (hW : Rd W A (bys f.data)) => XlBody_ok f A c W hk hok h0 hs hv ha hW hby)
  have HHead := Lib.hid (fun W => headX_any f A f.data.length c W h0 hid)
  have hlB := bodyX_length f
  have HbB := Lib.hid (bodyX_bits f)
  have HhB := Lib.hid (headX_bits f)
  have hlF := fixN_length 8 false 1 (bodyX f) (by decide)
  obtain ⟨NF, hNF⟩ : ∃ NF, (fixN 8 false 1 (bodyX f)).length = NF := ⟨_, rfl⟩
  have hNF2 : NF ≤ 30000 := by
    rw [hNF, hlB] at hlF
    rw [hlF]
    split <;> simp <;> omega
  have hNH2 : NH ≤ 22 := by have := stuffN_le (headX f); rw [hNH, headX_length] at this; omega
  have hNRe : NH + 4 + NF + 4 = NR := by rw [← hNR]; unfold rawX; simp [hNH, hNF]; omega
  have HW : Hid (wireX f = rawX f ++ List.replicate 10 1) := rfl
  have HRAW : Hid (rawX f = stuffN (headX f) ++ [1, 0, 0, 1] ++ fixN 8 false 1 (bodyX f) ++ [0, 1, 1, 0]) := rfl
  obtain ⟨bo, hbo⟩ : ∃ bo, bodyX f = bo := ⟨_, rfl⟩
  obtain ⟨hL, hhL⟩ : ∃ hL, headX f = hL := ⟨_, rfl⟩
  have hhl : hL.length = 17 := by rw [← hhL]; exact headX_length f
  obtain ⟨wi, hwi⟩ : ∃ wi, wireX f = wi := ⟨_, rfl⟩
  obtain ⟨ra, hra⟩ : ∃ ra, rawX f = ra := ⟨_, rfl⟩
  rw [hbo] at HBody HbB hlB hNF HRAW
  rw [hhL] at HHead HhB hNH HRAW
  rw [hwi, hra] at HW
  rw [hwi]
  rw [hra] at HRAW hNR
  obtain ⟨kind, id, ext, rtr, brs, esi, sec, sdt, vcid, af, data⟩ := f
  dsimp only [frv] at *
  obtain ⟨n, hn⟩ : ∃ n, data.length = n := ⟨_, rfl⟩
  rw [hn] at HBody HHead hlB hn1 hn2 ⊢
  have HLB := Lib.hid hlB
  have HNF := Lib.hid hNF
  have HNR := Lib.hid hNR
  have HNH := Lib.hid hNH
  have HHL := Lib.hid hhl
  have HR := Lib.hid hr
  have HNRE := Lib.hid hNRe
  clear hlB hNF hNR hNH hhl hr hNRe hlF hbo hhL hwi hra hn hok h0 hby hk hs hv ha hid
  go_enter Try.func17, Try.ntmps17
  go_wp2_with fail
  refine calls_blk2 (fun W0 q1 q2 hb => ?_)
  have HB := Lib.hid hb
  have HQ2 := Lib.hid q2
  have hsz := heap_lt q2
  obtain ⟨a0, a1, a2, a3, a4, a5, a6, a7, a8, a9, a10⟩ := ext11 q1
  clear hb q1 q2
  refine (extc_same (HBody.out _ (HR.out.below HB.out))).mono ?_
  rintro x _ ⟨e1, rfl, A1, c1, rfl, hrow1⟩
  have HROW1 := Lib.hid hrow1
  clear hrow1
  go_wp2_with fail
  refine (extcB (HHead.out _)).mono ?_
  rintro x _ ⟨e2, rfl, HB2, A2, c2, rfl, hrow2⟩
  have HROW2 := Lib.hid hrow2
  clear hrow2
  go_wp2_with fail
  refine (extcB (StuffPut_any _ A2 c2 17 NH hL HROW2.out.rd HHL.out (by omega) HhB.out HNH.out)).mono ?_
  rintro x _ ⟨e3, rfl, HB3, A3, c3, rfl, hrow3⟩
  have HROW3 := Lib.hid (hrow3.mono (ext_ge e2))
  clear hrow3
  go_wp2_with fail
  refine (extcB (xlStart_any _)).mono ?_
  rintro x _ ⟨e4, rfl, HB4, A4, c4, rfl, hrow4⟩
  obtain ⟨g4, rfl, hg4, hc4a, hc4b⟩ := row_some (n := 4) hrow4 rfl (by decide)
  have y3 : ∀ e : Ext e4.W, e.W.cell? ⟨g4, 3, none⟩ = some (.int .u8 1) := fun e => row_at hrow4 e.below 3 1 rfl
  have HROW4 := Lib.hid (hrow4.mono (ext_ge e3))
  have HROW14 := Lib.hid (((HROW1.out.below HB2.out).below HB3.out).below HB4.out)
  have HROW34 := Lib.hid (HROW3.out.below HB4.out)
  clear hrow4 a0 a1 a2 a3 a4 a5 a6 a7 a8 a9 a10
  go_wp2_with fail
  refine wp_region_mix (fun w' => ∃ e : Ext e4.W, w' = e.W) [(true, 0), (true, 1), (true, 2), (true, 3), (true, 4), (true, 5), (true, 6), (false, 7), (false, 8), (true, 9), (true, 10), (true, 11), (true, 12), (true, 13)] [] (by kernel_rfl) (by kernel_rfl) (by intro _ _ d _ _ h; cases d <;> exact h) ⟨⟨e4.W.drew, (Below.refl _ _).drew⟩, rfl⟩ ?_
  simp only [pickM, pickL, List.drop_succ_cons, List.drop_zero]
  repeat (refine mix_pure (by rfl) (by rfl) ?_; intro K hK; go_big_quiet_op; go_big_quiet_on)
  refine mix_eff (by rfl) ?_
  intro K hK
  go_simp
  refine (xlWay_any _).mono ?_
  rintro x w5 ⟨rfl, hb5⟩
  have hb45 : Below e4.W.heap.size e4.W w5 := below_trans (Below.refl _ _).drew hb5
  have HB45 := Lib.hid hb45
  refine hK _ _ ⟨⟨w5, hb45⟩, rfl⟩ ?_
  clear hK K hb5 hb45
  refine mix_eff (by rfl) ?_
  intro K hK
  go_simp
  refine (FixedPut_any w5 A1 1 8 c1 (109 + 8 * n) NF false bo (by decide) (by decide) (by decide) (HROW14.out.rd.below HB45.out) HLB.out (by omega) (by omega) HbB.out HNF.out).mono ?_
  rintro x w6 ⟨⟨A6, c6, rfl, hrow6⟩, hb6⟩
  have hb46 : Below e4.W.heap.size e4.W w6 := below_trans HB45.out hb6
  refine hK _ _ ⟨⟨w6, hb46⟩, rfl⟩ ?_
  clear hK K
  repeat (refine mix_pure (by rfl) (by rfl) ?_; intro K hK; go_big_quiet_op; go_big_quiet_on)
  refine mix_nil (wpList_nil ?_)
  obtain ⟨e6, he6⟩ : ∃ e : Ext W0, e.W = w6 := ⟨⟨w6, below_trans e4.below hb46⟩, rfl⟩
  have HROW6 := Lib.hid hrow6
  have HROW36 := Lib.hid (HROW34.out.below hb46)
  have HROW46 := Lib.hid (HROW4.out.below hb46)
  have hg46 : w5.heap.size ≤ w5.heap.size := Nat.le_refl _
  have HB5 := Lib.hid (HB45.out.size)
  subst he6
  clear hrow6 hb6 hb46 y3
  go_wp2_with fail
  refine (extcB (xlStop_any _)).mono ?_
  rintro x _ ⟨e7, rfl, HB7, A7, c7, rfl, hrow7⟩
  have HROW7 := Lib.hid hrow7
  have HROW37 := Lib.hid (HROW36.out.below HB7.out)
  have HROW47 := Lib.hid (HROW46.out.below HB7.out)
  have HROW67 := Lib.hid (HROW6.out.below HB7.out)
  clear hrow7
  go_wp2_with fail
  refine (repeat_any _ _ (heap_new_at rfl)).mono ?_
  rintro x w8 ⟨⟨A8, c8, rfl, hrow8⟩, hb8⟩
  have hb78 : Below e7.W.heap.size e7.W w8 := below_trans (below_alloc (Below.refl _ _) _) hb8
  obtain ⟨e8, he8⟩ : ∃ e : Ext W0, e.W = w8 := ⟨⟨w8, below_trans e7.below hb78⟩, rfl⟩
  subst he8
  have HROW8 := Lib.hid hrow8
  have HROW38 := Lib.hid (HROW37.out.below hb78)
  have HROW48 := Lib.hid (HROW47.out.below hb78)
  have HROW68 := Lib.hid (HROW67.out.below hb78)
  have HROW78 := Lib.hid (HROW7.out.below hb78)
  clear hrow8 hb8 hb78
  go_wp2_with fail
  refine calls_name (T := fun W1 => W1.heap[e8.W.heap.size]? = some (.cells #[.slice A3 NH c3, .slice (some ⟨g4, 0, none⟩) 4 c4, .slice A6 NF c6, .slice A7 4 c7, .slice A8 10 c8] 23) ∧ Below e8.W.heap.size e8.W W1) ⟨heap_new_at rfl, below_alloc (Below.refl _ _) _⟩ ?_
  rintro W1 ⟨q9, hb9⟩
  have hcat := concatP (N := NR + 10) (n := 5) [(A3, c3, stuffN hL), (some ⟨g4, 0, none⟩, c4, [1, 0, 0, 1]), (A6, c6, fixN 8 false 1 bo), (A7, c7, [0, 1, 1, 0]), (A8, c8, List.replicate 10 1)] _ q9 (by simp [partV, HNH.out, HNF.out]) rfl (by
    intro p hp
    simp only [List.mem_cons, List.not_mem_nil, or_false] at hp
    rcases hp with rfl | rfl | rfl | rfl | rfl
    · exact (HROW38.out.below hb9).part
    · exact (HROW48.out.below hb9).part
    · exact (HROW68.out.below hb9).part
    · exact (HROW78.out.below hb9).part
    · exact (HROW8.out.below hb9).part) (by simp [partsL, HNH.out, HNF.out]; have := HNRE.out; omega) (by have := HNRE.out; omega) (by decide)
  have hpl : partsL [(A3, c3, stuffN hL), (some ⟨g4, 0, none⟩, c4, [1, 0, 0, 1]), (A6, c6, fixN 8 false 1 bo), (A7, c7, [0, 1, 1, 0]), (A8, c8, List.replicate 10 1)] = wi := by rw [HW.out, HRAW.out]; simp [partsL]
  rw [hpl] at hcat
  refine hcat.mono ?_
  rintro x w10 ⟨⟨A10, c10, rfl, hrow10⟩, hb10⟩
  have hbw : Below W0.heap.size W0 w10 := below_trans (below_trans e8.below hb9) hb10
  have hq := heap_below hbw HQ2.out
  have r0 := cell_of_heap hq 0 _ rfl
  have r1 := cell_of_heap hq 1 _ rfl
  have r2 := cell_of_heap hq 2 _ rfl
  have z0 : w10.frozen? ⟨w.heap.size + 1, 0, none⟩ = false := by simp [World.frozen?, hq]
  have z1 : w10.frozen? ⟨w.heap.size + 1, 1, none⟩ = false := by simp [World.frozen?, hq]
  have z2 : w10.frozen? ⟨w.heap.size + 1, 2, none⟩ = false := by simp [World.frozen?, hq]
  have hge : W0.heap.size ≤ W1.heap.size := (below_trans e8.below hb9).size
  have HROW10 := Lib.hid (hrow10.mono hge)
  have HBW := Lib.hid hbw
  have HQ10 := Lib.hid hq
  have hNRb : NR ≤ 40000 := by have := HNRE.out; omega
  clear hcat hpl q9 hb9 hrow10 hb10 hbw hq
  go_wp2_with fail
  refine bodyPost_ret (v := .tuple #[.agg #[.slice A10 (NR + 10 : Nat) c10, .int .i64 (NH : Nat), .int .i64 (NR + 1 : Nat)], .int .i64 0]) (by simp [results, Try.results17, go_sem, r0, r1, r2]) rfl ⟨⟨A10, c10, rfl, ?_⟩, ?_⟩
  · have h7 : ∀ ad, A10 = some ad → ad.block ≠ w.heap.size + 1 := fun ad e => by have := HROW10.out.ge ad e; omega
    exact (((HROW10.out.setCell h7 0 _).setCell h7 1 _).setCell h7 2 _).mono (by omega)
  · have h := below_trans HB.out HBW.out
    exact ((h.setCell (p := ⟨w.heap.size + 1, 0, none⟩) (by show w.heap.size ≤ w.heap.size + 1; omega) _).setCell (p := ⟨w.heap.size + 1, 1, none⟩) (by show w.heap.size ≤ w.heap.size + 1; omega) _).setCell (p := ⟨w.heap.size + 1, 2, none⟩) (by show w.heap.size ≤ w.heap.size + 1; omega) _
end Go.Proofs.Ytaknddanggdplaa
-- PFirst: Where two rows of bits first differ; runs, bit by bit: plain laws of lists. No condition.
namespace Go.Proofs.Ytaknddanggdplaa
open Go.RowKit
theorem bitsN_mod (n k : Nat) : bitsN n k = bitsN (n % 2 ^ k) k := by
  have h : ∀ j, j ≤ k → bitsN n j = bitsN (n % 2 ^ k) j := by
    intro j
    induction j with
    | zero => intro _; rfl
    | succ j ih =>
      intro hj
      simp only [bitsN]
      rw [ih (by omega)]
      congr 1
      obtain ⟨m, rfl⟩ : ∃ m, k = j + (m + 1) := ⟨k - (j + 1), by omega⟩
      rw [Nat.pow_add, Nat.mod_mul_right_div_self, Nat.pow_succ, Nat.mul_comm (2 ^ m) 2, Nat.mod_mul_right_mod]
  exact h k (Nat.le_refl k)
/-- Where two numbers' bits first differ. -/
theorem bitsN_first (k : Nat) : ∀ n m : Nat, n < 2 ^ k → m < 2 ^ k → n ≠ m → ∃ p a b x y, bitsN n k = p ++ x :: a ∧ bitsN m k = p ++ y :: b ∧ x ≠ y ∧ (x = 0 ↔ n < m) ∧ x ≤ 1 ∧ y ≤ 1 := by
  induction k with
  | zero => intro n m hn hm hne; simp at hn hm; omega
  | succ k ih =>
    intro n m hn hm hne
    have hp : 0 < 2 ^ k := Nat.two_pow_pos _
    rw [Nat.pow_succ] at hn hm
    have hn1 : n / 2 ^ k < 2 := Nat.div_lt_of_lt_mul (by omega)
    have hm1 : m / 2 ^ k < 2 := Nat.div_lt_of_lt_mul (by omega)
    have en := Nat.div_add_mod n (2 ^ k)
    have em := Nat.div_add_mod m (2 ^ k)
    have rn := Nat.mod_lt n hp
    have rm := Nat.mod_lt m hp
    by_cases he : n / 2 ^ k = m / 2 ^ k
    · have hne2 : n % 2 ^ k ≠ m % 2 ^ k := by intro h; rw [he] at en; omega
      obtain ⟨p, a, b, x, y, h1, h2, h3, h4, h5, h6⟩ := ih (n % 2 ^ k) (m % 2 ^ k) rn rm hne2
      refine ⟨(n / 2 ^ k % 2) :: p, a, b, x, y, ?_, ?_, h3, ?_, h5, h6⟩
      · simp only [bitsN]; rw [bitsN_mod n k, h1]; rfl
      · simp only [bitsN]; rw [bitsN_mod m k, h2, he]; rfl
      · rw [h4]; rw [he] at en; omega
    · refine ⟨[], bitsN n k, bitsN m k, n / 2 ^ k % 2, m / 2 ^ k % 2, rfl, rfl, ?_, ?_, by omega, by omega⟩
      · rw [Nat.mod_eq_of_lt hn1, Nat.mod_eq_of_lt hm1]; exact he
      · rw [Nat.mod_eq_of_lt hn1]
        generalize n / 2 ^ k = u at *
        generalize m / 2 ^ k = v at *
        obtain rfl | rfl : u = 0 ∨ u = 1 := by omega
        · obtain rfl : v = 1 := by omega
          simp at en em
          constructor <;> intro <;> omega
        · obtain rfl : v = 0 := by omega
          simp at en em
          constructor <;> intro h <;> omega
theorem bitsN_inj (k n m : Nat) (hn : n < 2 ^ k) (hm : m < 2 ^ k) (h : bitsN n k = bitsN m k) : n = m := by
  refine Classical.byContradiction fun hne => ?_
  obtain ⟨p, a, b, x, y, h1, h2, h3, -⟩ := bitsN_first k n m hn hm hne
  rw [h1, h2] at h
  have := List.append_cancel_left h
  simp at this
  exact h3 this.1
/-- Two rows that differ first at one place, of which the first one has the dominant bit just if P. -/
def First (P : Prop) (l m : List Nat) : Prop := ∃ p a b x y, l = p ++ x :: a ∧ m = p ++ y :: b ∧ x ≠ y ∧ (x = 0 ↔ P) ∧ x ≤ 1 ∧ y ≤ 1
theorem First.behind {P : Prop} {l m : List Nat} (h : First P l m) (c d : List Nat) : First P (l ++ c) (m ++ d) := by
  obtain ⟨p, a, b, x, y, rfl, rfl, r⟩ := h
  exact ⟨p, a ++ c, b ++ d, x, y, by simp, by simp, r⟩
theorem First.ahead {P : Prop} {l m : List Nat} (h : First P l m) (c : List Nat) : First P (c ++ l) (c ++ m) := by
  obtain ⟨p, a, b, x, y, rfl, rfl, r⟩ := h
  exact ⟨c ++ p, a, b, x, y, by simp, by simp, r⟩
theorem First.stuffed {P : Prop} {l m : List Nat} (h : First P l m) : First P (stuffN l) (stuffN m) := by
  obtain ⟨p, a, b, x, y, rfl, rfl, r⟩ := h
  obtain ⟨q, a', b', h1, h2⟩ := stf_diff p a b x y 0 0
  exact ⟨q, a', b', x, y, h1, h2, r⟩
theorem First.iff {P Q : Prop} {l m : List Nat} (h : First P l m) (e : P ↔ Q) : First Q l m := by
  obtain ⟨p, a, b, x, y, h1, h2, h3, h4, h5, h6⟩ := h
  exact ⟨p, a, b, x, y, h1, h2, h3, h4.trans e, h5, h6⟩
/-- The place. -/
theorem First.at {P : Prop} {l m : List Nat} (h : First P l m) : ∃ j, j < l.length ∧ j < m.length ∧ (∀ i, i < j → l[i]? = m[i]?) ∧ ∃ x y, l[j]? = some x ∧ m[j]? = some y ∧ x ≠ y ∧ (x = 0 ↔ P) := by
  obtain ⟨p, a, b, x, y, rfl, rfl, h3, h4, -⟩ := h
  refine ⟨p.length, by simp, by simp, fun i hi => ?_, x, y, by simp, by simp, h3, h4⟩
  rw [List.getElem?_append_left hi, List.getElem?_append_left hi]
/-- Two rows that differ at a place within both. -/
def Diff (l m : List Nat) : Prop := ∃ p a b x y, l = p ++ x :: a ∧ m = p ++ y :: b ∧ x ≠ y
theorem First.diff {P : Prop} {l m : List Nat} (h : First P l m) : Diff l m := by
  obtain ⟨p, a, b, x, y, h1, h2, h3, -⟩ := h
  exact ⟨p, a, b, x, y, h1, h2, h3⟩
theorem Diff.behind {l m : List Nat} (h : Diff l m) (c d : List Nat) : Diff (l ++ c) (m ++ d) := by
  obtain ⟨p, a, b, x, y, rfl, rfl, r⟩ := h
  exact ⟨p, a ++ c, b ++ d, x, y, by simp, by simp, r⟩
theorem Diff.ahead {l m : List Nat} (h : Diff l m) (c : List Nat) : Diff (c ++ l) (c ++ m) := by
  obtain ⟨p, a, b, x, y, rfl, rfl, r⟩ := h
  exact ⟨c ++ p, a, b, x, y, by simp, by simp, r⟩
theorem Diff.stuffed {l m : List Nat} (h : Diff l m) : Diff (stuffN l) (stuffN m) := by
  obtain ⟨p, a, b, x, y, rfl, rfl, r⟩ := h
  obtain ⟨q, a', b', h1, h2⟩ := stf_diff p a b x y 0 0
  exact ⟨q, a', b', x, y, h1, h2, r⟩
theorem Diff.at {l m : List Nat} (h : Diff l m) : ∃ j x y : Nat, l[j]? = some x ∧ m[j]? = some y ∧ x ≠ y := by
  obtain ⟨p, a, b, x, y, rfl, rfl, h3⟩ := h
  exact ⟨p.length, x, y, by simp, by simp, h3⟩
theorem diff_of_at (j : Nat) : ∀ (l m : List Nat) (x y : Nat), l[j]? = some x → m[j]? = some y → x ≠ y → Diff l m := by
  induction j with
  | zero =>
    intro l m x y h1 h2 h3
    cases l with
    | nil => simp at h1
    | cons u l =>
      cases m with
      | nil => simp at h2
      | cons v m =>
        simp at h1 h2
        subst h1 h2
        exact ⟨[], l, m, u, v, rfl, rfl, h3⟩
  | succ j ih =>
    intro l m x y h1 h2 h3
    cases l with
    | nil => simp at h1
    | cons u l =>
      cases m with
      | nil => simp at h2
      | cons v m =>
        simp only [List.getElem?_cons_succ] at h1 h2
        by_cases e : u = v
        · subst e; exact (ih l m x y h1 h2 h3).ahead [u]
        · exact ⟨[], l, m, u, v, rfl, rfl, e⟩
theorem bytesN_diff : ∀ (l m : List Nat), l.length = m.length → (∀ x ∈ l, x < 256) → (∀ x ∈ m, x < 256) → l ≠ m → Diff (bytesN l) (bytesN m) := by
  intro l
  induction l with
  | nil => intro m h _ _ hne; cases m with
           | nil => exact absurd rfl hne
           | cons => simp at h
  | cons x l ih =>
    intro m h hl hm hne
    cases m with
    | nil => simp at h
    | cons y m =>
      have e1 : bytesN (x :: l) = bitsN x 8 ++ bytesN l := by simp [bytesN]
      have e2 : bytesN (y :: m) = bitsN y 8 ++ bytesN m := by simp [bytesN]
      rw [e1, e2]
      by_cases e : x = y
      · subst e
        exact (ih m (by simpa using h) (fun z hz => hl z (by simp [hz])) (fun z hz => hm z (by simp [hz])) (fun h => hne (by rw [h]))).ahead _
      · obtain ⟨p, a, b, u, v, h1, h2, h3, -⟩ := bitsN_first 8 x y (hl x (by simp)) (hm y (by simp)) e
        exact Diff.behind ⟨p, a, b, u, v, h1, h2, h3⟩ _ _
theorem bitB_inj {a b : Bool} (h : a ≠ b) : bitB a ≠ bitB b := by cases a <;> cases b <;> simp_all [bitB]
theorem runs_at (l : List Nat) (h : runsB 0 0 l = true) (k : Nat) (hk : k < l.length) : seeN (rawE 0 0 (l.take k)).1 (rawE 0 0 (l.take k)).2 l[k] ≤ 5 := by
  have e : l = l.take k ++ (l[k] :: l.drop (k + 1)) := by rw [← List.drop_eq_getElem_cons hk, List.take_append_drop]
  rw [e, runsB_append] at h
  simp only [Bool.and_eq_true, runsB, decide_eq_true_eq] at h
  exact h.2.1
theorem rawE_step (l : List Nat) (k : Nat) (hk : k < l.length) : rawE 0 0 (l.take (k + 1)) = (l[k], seeN (rawE 0 0 (l.take k)).1 (rawE 0 0 (l.take k)).2 l[k]) := by
  rw [List.take_succ_eq_append_getElem hk, rawE_append]
  rfl
theorem tails_raw (l : List Nat) : ∀ (last run : Nat) (out : List Nat), Tails last run out → Tails (rawE last run l).1 (rawE last run l).2 (out ++ l) := by
  induction l with
  | nil => intro last run out h; simpa [rawE] using h
  | cons x l ih =>
    intro last run out h
    have := ih x (seeN last run x) (out ++ [x]) (h.see x)
    simpa [rawE] using this
theorem rd_left {w : World} {A : Option Addr} {a b : List Nat} (h : Rd w A (bys (a ++ b))) : Rd w A (bys a) := by
  intro j u hj
  refine h j u ?_
  rw [bys_append, List.getElem?_append_left (List.getElem?_eq_some_iff.1 hj).1]
  exact hj
/-- Do two rows differ within their first k? -/
def diffB (l m : List Nat) (k : Nat) : Bool := (List.range k).any fun i => l[i]? != m[i]?
theorem diffB_succ (l m : List Nat) (k : Nat) : diffB l m (k + 1) = (diffB l m k || (l[k]? != m[k]?)) := by unfold diffB; rw [List.range_succ, List.any_append]; simp
theorem rawE_pos (l : List Nat) (k : Nat) (hk : k < l.length) (h0 : 0 < k) : (rawE 0 0 (l.take k)).1 = l[k - 1] ∧ 1 ≤ (rawE 0 0 (l.take k)).2 := by
  obtain ⟨j, rfl⟩ : ∃ j, k = j + 1 := ⟨k - 1, by omega⟩
  rw [rawE_step l j (by omega)]
  exact ⟨rfl, seeN_pos _ _ _⟩
/-- A frame with another identifier. -/
def withId (f : Fr) (id : Int) : Fr := { f with id := id }
end Go.Proofs.Ytaknddanggdplaa
-- PRuns: Runs of a raw row up to a bound; fixed stuffing's runs, and where two stuffed rows first differ: plain laws of lists. No condition.
namespace Go.Proofs.Ytaknddanggdplaa
open Go.RowKit
/-- No run is longer than M. -/
def runsM (M : Nat) : Nat → Nat → List Nat → Bool
  | _, _, [] => true
  | last, run, b :: l => decide (seeN last run b ≤ M) && runsM M b (seeN last run b) l
theorem runsM_append (M : Nat) (a b : List Nat) : ∀ last run, runsM M last run (a ++ b) = (runsM M last run a && runsM M (rawE last run a).1 (rawE last run a).2 b) := by
  induction a with
  | nil => intro last run; simp [runsM, rawE]
  | cons x a ih => intro last run; simp only [List.cons_append, runsM, rawE]; rw [ih, Bool.and_assoc]
theorem runsM_of (M : Nat) (h : 5 ≤ M) (l : List Nat) : ∀ last run, runsB last run l = true → runsM M last run l = true := by
  induction l with
  | nil => intro _ _ _; rfl
  | cons x l ih =>
    intro last run h1
    simp only [runsB, Bool.and_eq_true, decide_eq_true_eq] at h1
    simp only [runsM, Bool.and_eq_true, decide_eq_true_eq]
    exact ⟨by omega, ih _ _ h1.2⟩
theorem runsM_at (M : Nat) (l : List Nat) (h : runsM M 0 0 l = true) (k : Nat) (hk : k < l.length) : seeN (rawE 0 0 (l.take k)).1 (rawE 0 0 (l.take k)).2 l[k] ≤ M := by
  have e : l = l.take k ++ (l[k] :: l.drop (k + 1)) := by rw [← List.drop_eq_getElem_cons hk, List.take_append_drop]
  rw [e, runsM_append] at h
  simp only [Bool.and_eq_true, runsM, decide_eq_true_eq] at h
  exact h.2.1
/-- How many bits are left ahead of the next stuff bit, behind so many. -/
def leftE (every : Nat) : Nat → Nat → Nat
  | left, 0 => left
  | left, n + 1 => leftE every (if left = 0 then every - 1 else left - 1) n
/-- Fixed stuffing: a run has at most (every + 1) bits, less those that are left ahead of the next stuff bit. -/
theorem fix_runs (every : Nat) (he : 2 ≤ every) (l : List Nat) (h01 : ∀ x ∈ l, x ≤ 1) : ∀ last run left, last ≤ 1 → run + left ≤ every + 1 → left ≤ every →
    runsM (every + 1) last run (fixE every last left l) = true ∧ (rawE last run (fixE every last left l)).2 + leftE every left l.length ≤ every + 1 ∧ (rawE last run (fixE every last left l)).1 ≤ 1 := by
  induction l with
  | nil => intro last run left h1 h2 _; exact ⟨rfl, by simpa [fixE, rawE, leftE] using h2, by simpa [fixE, rawE] using h1⟩
  | cons x l ih =>
    intro last run left h1 h2 h3
    have hx := h01 x (by simp)
    have ih' := ih (fun z hz => h01 z (by simp [hz]))
    by_cases h0 : left = 0
    · subst h0
      have e : seeN last run (1 - last) = 1 := by unfold seeN; rw [if_neg (by omega)]
      have hs := seeN_le (1 - last) 1 x
      obtain ⟨i1, i2, i3⟩ := ih' x (seeN (1 - last) 1 x) (every - 1) hx (by omega) (by omega)
      rw [fixE, if_pos rfl]
      simp only [runsM, rawE, e, List.length_cons, leftE, if_true]
      refine ⟨?_, i2, i3⟩
      rw [i1]; simp; omega
    · have hs := seeN_le last run x
      obtain ⟨i1, i2, i3⟩ := ih' x (seeN last run x) (left - 1) hx (by omega) (by omega)
      rw [fixE, if_neg h0]
      simp only [runsM, rawE, List.length_cons, leftE, if_neg h0]
      refine ⟨?_, i2, i3⟩
      rw [i1]; simp; omega
theorem fixE_diff (every : Nat) (p a b : List Nat) (x y : Nat) : ∀ last left, ∃ q a' b', fixE every last left (p ++ x :: a) = q ++ x :: a' ∧ fixE every last left (p ++ y :: b) = q ++ y :: b' := by
  induction p with
  | nil =>
    intro last left
    simp only [List.nil_append, fixE]
    by_cases h0 : left = 0
    · rw [if_pos h0, if_pos h0]; exact ⟨[1 - last], _, _, rfl, rfl⟩
    · rw [if_neg h0, if_neg h0]; exact ⟨[], _, _, rfl, rfl⟩
  | cons z p ih =>
    intro last left
    simp only [List.cons_append, fixE]
    by_cases h0 : left = 0
    · obtain ⟨q, a', b', h1, h2⟩ := ih z (every - 1)
      rw [if_pos h0, if_pos h0, h1, h2]; exact ⟨(1 - last) :: z :: q, a', b', rfl, rfl⟩
    · obtain ⟨q, a', b', h1, h2⟩ := ih z (left - 1)
      rw [if_neg h0, if_neg h0, h1, h2]; exact ⟨z :: q, a', b', rfl, rfl⟩
theorem Diff.fixed {l m : List Nat} (h : Diff l m) (every : Nat) (ah : Bool) (prev : Nat) : Diff (fixN every ah prev l) (fixN every ah prev m) := by
  obtain ⟨p, a, b, x, y, rfl, rfl, h3⟩ := h
  obtain ⟨q, a', b', h1, h2⟩ := fixE_diff every p a b x y prev (if ah then 0 else every)
  exact ⟨q, a', b', x, y, h1, h2, h3⟩
theorem bitsN_diff (k n m : Nat) (hn : n < 2 ^ k) (hm : m < 2 ^ k) (h : n ≠ m) : Diff (bitsN n k) (bitsN m k) := by
  obtain ⟨p, a, b, x, y, h1, h2, h3, -⟩ := bitsN_first k n m hn hm h
  exact ⟨p, a, b, x, y, h1, h2, h3⟩
/-- How long the runs of a raw row get: at most M, and at most five among its first n bits. -/
def SeeOk (M n : Nat) (ra : List Nat) : Prop := ∀ k (hk : k < ra.length), seeN (rawE 0 0 (ra.take k)).1 (rawE 0 0 (ra.take k)).2 ra[k] ≤ M ∧ (k < n → seeN (rawE 0 0 (ra.take k)).1 (rawE 0 0 (ra.take k)).2 ra[k] ≤ 5)
/-- What a frame's numbers are. -/
structure FrN (f : Fr) : Prop where
  id0 : 0 ≤ f.id
  sdt : 0 ≤ f.sdt ∧ f.sdt < 256
  vcid : 0 ≤ f.vcid ∧ f.vcid < 256
  af : 0 ≤ f.af ∧ f.af < 4294967296
  data : isBytes f.data
theorem diff_apart {l m : List Nat} (h : Diff l m) : diffB l m (min l.length m.length) = true := by
  obtain ⟨j, x, y, h1, h2, h3⟩ := h.at
  have j1 := (List.getElem?_eq_some_iff.1 h1).1
  have j2 := (List.getElem?_eq_some_iff.1 h2).1
  unfold diffB
  exact List.any_eq_true.2 ⟨j, List.mem_range.2 (by omega), by rw [h1, h2]; simp [h3]⟩
theorem same_apart (l : List Nat) (k : Nat) : diffB l l k = false := by
  unfold diffB
  exact List.any_eq_false.2 (by simp)
end Go.Proofs.Ytaknddanggdplaa
-- PXlLaw: XL frames on the wire: lengths, runs, and where two of them first differ: plain laws of lists. No condition.
namespace Go.Proofs.Ytaknddanggdplaa
open Go.RowKit
theorem xl_len (f : Fr) (hk : f.kind = 3) (hok : okF f = true) : f.data.length ≤ 2048 := (okX f hk hok).2.2.1
theorem headX_zero (f : Fr) : ∃ l, headX f = 0 :: l := ⟨_, rfl⟩
theorem stuffN_zero' (l : List Nat) : ∃ m, stuffN (0 :: l) = 0 :: m := ⟨_, rfl⟩
theorem rawX_zero (f : Fr) : ∃ l, rawX f = 0 :: l := by
  obtain ⟨l, hl⟩ := headX_zero f
  obtain ⟨m, hm⟩ := stuffN_zero' l
  unfold rawX
  rw [hl, hm]
  exact ⟨_, rfl⟩
theorem stuffX_le (f : Fr) : (stuffN (headX f)).length ≤ 21 ∧ 17 ≤ (stuffN (headX f)).length := by
  have h1 := stuffN_len (headX f) (by obtain ⟨l, hl⟩ := headX_zero f; rw [hl]; simp)
  have h2 := stuffN_ge (headX f)
  rw [headX_length] at h1 h2
  omega
theorem fixX_length (f : Fr) : (fixN 8 false 1 (bodyX f)).length = 109 + 8 * f.data.length + (108 + 8 * f.data.length) / 8 := by
  rw [fixN_length 8 false 1 (bodyX f) (by decide), bodyX_length, if_neg (by omega)]
  simp
theorem rawX_len (f : Fr) : (rawX f).length = (stuffN (headX f)).length + 8 + (109 + 8 * f.data.length + (108 + 8 * f.data.length) / 8) := by
  unfold rawX
  simp only [List.length_append, fixX_length, List.length_cons, List.length_nil]
  omega
theorem xl_bound (f : Fr) (hk : f.kind = 3) (hok : okF f = true) : (stuffN (headX f)).length + 19 ≤ (rawX f).length ∧ (rawX f).length ≤ 40000 ∧ 12 ≤ (stuffN (headX f)).length := by
  have h1 := stuffX_le f
  have h2 := rawX_len f
  have h3 := xl_len f hk hok
  omega
theorem rawX_bits (f : Fr) : ∀ x ∈ rawX f, x ≤ 1 := by
  intro x hx
  unfold rawX at hx
  simp only [List.mem_append] at hx
  rcases hx with ((h | h) | h) | h
  · exact stuffN_bits _ (headX_bits f) x h
  · simp at h; omega
  · exact fixE_bits 8 _ (bodyX_bits f) _ _ x h
  · simp at h; omega
theorem leftE_7 (m : Nat) : leftE 8 8 (109 + 8 * m) = 3 := by
  have h8 : ∀ n, leftE 8 7 (n + 8) = leftE 8 7 n := fun n => by simp [leftE]
  have hk : ∀ k, leftE 8 7 (4 + 8 * k) = 3 := by
    intro k
    induction k with
    | zero => rfl
    | succ k ih => rw [show 4 + 8 * (k + 1) = (4 + 8 * k) + 8 by omega, h8]; exact ih
  rw [show 109 + 8 * m = (4 + 8 * (13 + m)) + 1 by omega]
  simp only [leftE]
  exact hk _
theorem start_runs (a r : Nat) (h : r ≤ 5) : runsM 9 a r [1, 0, 0, 1] = true ∧ rawE a r [1, 0, 0, 1] = (1, 1) := by
  have h1 := seeN_le a r 1
  constructor
  · simp only [runsM, Bool.and_eq_true, decide_eq_true_eq]
    refine ⟨by omega, ?_⟩
    simp [seeN]
  · simp [rawE, seeN]
theorem stop_runs (a r : Nat) (h : r ≤ 6) : runsM 9 a r [0, 1, 1, 0] = true := by
  have h1 := seeN_le a r 0
  simp only [runsM, Bool.and_eq_true, decide_eq_true_eq]
  refine ⟨by omega, ?_⟩
  simp [seeN]
theorem rawX_runs (f : Fr) : runsM 9 0 0 (rawX f) = true := by
  have hA := runsM_of 9 (by omega) _ 0 0 (stuffN_runs (headX f))
  have hA5 : (rawE 0 0 (stuffN (headX f))).2 ≤ 5 := by unfold stuffN; rw [rawE_stf _ 0 0 (by omega)]; exact stE_le _ 0 0 (by omega)
  obtain ⟨s1, s2⟩ := start_runs (rawE 0 0 (stuffN (headX f))).1 _ hA5
  obtain ⟨f1, f2, f3⟩ := fix_runs 8 (by omega) (bodyX f) (bodyX_bits f) 1 1 8 (by omega) (by omega) (by omega)
  rw [bodyX_length, leftE_7] at f2
  have hF : fixN 8 false 1 (bodyX f) = fixE 8 1 8 (bodyX f) := rfl
  have eB : rawE 0 0 (stuffN (headX f) ++ [1, 0, 0, 1]) = (1, 1) := by rw [rawE_append, s2]
  have eF : rawE 0 0 (stuffN (headX f) ++ [1, 0, 0, 1] ++ fixE 8 1 8 (bodyX f)) = rawE 1 1 (fixE 8 1 8 (bodyX f)) := by rw [rawE_append, eB]
  unfold rawX
  rw [hF, runsM_append, runsM_append, runsM_append, eF, eB, hA, s1, f1, stop_runs _ _ (by omega)]
  rfl
theorem rawX_see (f : Fr) : SeeOk 9 (stuffN (headX f)).length (rawX f) := by
  intro k hk
  refine ⟨runsM_at 9 _ (rawX_runs f) k hk, fun hk2 => ?_⟩
  have h := runs_at (stuffN (headX f)) (stuffN_runs (headX f)) k hk2
  have e : ∃ l, rawX f = stuffN (headX f) ++ l := ⟨[1, 0, 0, 1] ++ fixN 8 false 1 (bodyX f) ++ [0, 1, 1, 0], by unfold rawX; simp only [List.append_assoc]⟩
  obtain ⟨l, e⟩ := e
  have e1 : (rawX f).take k = (stuffN (headX f)).take k := by rw [e, List.take_append_of_le_length (by omega)]
  have e2 : (rawX f)[k] = (stuffN (headX f))[k] := by
    have h3 : (rawX f)[k]? = some (stuffN (headX f))[k] := by rw [e, List.getElem?_append_left hk2, List.getElem?_eq_getElem hk2]
    exact (List.getElem?_eq_some_iff.1 h3).2
  rw [e1, e2]
  exact h
/-! ### where two frames differ -/
theorem headX_first (f g : Fr) (f0 : 0 ≤ f.id) (f1 : f.id < 2048) (g0 : 0 ≤ g.id) (g1 : g.id < 2048) (hne : f.id ≠ g.id) : First (f.id < g.id) (headX f) (headX g) := by
  obtain ⟨n, hn⟩ := Int.eq_ofNat_of_zero_le f0
  obtain ⟨m, hm⟩ := Int.eq_ofNat_of_zero_le g0
  unfold headX
  rw [hn, hm]
  simp only [Int.toNat_natCast]
  have h : First (n < m) (bitsN n 11) (bitsN m 11) := bitsN_first 11 n m (by omega) (by omega) (by omega)
  exact ((h.ahead (bitsN 0 1)).behind (bitsN 6 5) (bitsN 6 5)).iff (by omega)
theorem wireX_head (f : Fr) : ∃ l, wireX f = stuffN (headX f) ++ l := ⟨[1, 0, 0, 1] ++ fixN 8 false 1 (bodyX f) ++ [0, 1, 1, 0] ++ List.replicate 10 1, by unfold wireX rawX; simp only [List.append_assoc]⟩
theorem xlOrders_plain (f g : Fr) (hk : f.kind = 3) (hkg : g.kind = 3) (fo : okF f = true) (go : okF g = true) (f0 : 0 ≤ f.id) (g0 : 0 ≤ g.id) (hne : f.id ≠ g.id) :
    ∃ j, j < (stuffN (headX f)).length ∧ j < (stuffN (headX g)).length ∧ (∀ i, i < j → (wireX f)[i]? = (wireX g)[i]?) ∧ ∃ x y, (wireX f)[j]? = some x ∧ (wireX g)[j]? = some y ∧ x ≠ y ∧ (x = 0 ↔ f.id < g.id) := by
  have h := (headX_first f g f0 (okX f hk fo).1 g0 (okX g hkg go).1 hne).stuffed
  obtain ⟨j, h1, h2, h3, x, y, h4, h5, h6⟩ := h.at
  obtain ⟨l, el⟩ := wireX_head f
  obtain ⟨m, em⟩ := wireX_head g
  rw [el, em]
  refine ⟨j, h1, h2, fun i hi => ?_, x, y, ?_, ?_, h6⟩
  · rw [List.getElem?_append_left (by omega), List.getElem?_append_left (by omega)]; exact h3 i hi
  · rw [List.getElem?_append_left h1]; exact h4
  · rw [List.getElem?_append_left h2]; exact h5
theorem okX_bare (f : Fr) (hk : f.kind = 3) (h : okF f = true) : f.ext = false ∧ f.rtr = false ∧ f.brs = false ∧ f.esi = false := by
  unfold okF at h
  simp only [Bool.and_eq_true] at h
  have h2 := h.2
  unfold sameF bareF zeroF at h2
  rw [hk] at h2
  simp at h2
  simp_all
theorem sameX (f g : Fr) (fk : f.kind = 3) (gk : g.kind = 3) (fo : okF f = true) (go : okF g = true) : sameF f g = decide (f.id = g.id ∧ f.sec = g.sec ∧ f.sdt = g.sdt ∧ f.vcid = g.vcid ∧ f.af = g.af ∧ f.data = g.data) := by
  obtain ⟨a1, a2, a3, a4⟩ := okX_bare f fk fo
  obtain ⟨b1, b2, b3, b4⟩ := okX_bare g gk go
  unfold sameF
  rw [fk, gk, a1, a2, a3, a4, b1, b2, b3, b4]
  rw [Bool.eq_iff_iff]
  simp only [decide_eq_true_eq]
  constructor
  · intro h; simp_all
  · intro h; simp_all
theorem codeX_eq (f : Fr) (hk : f.kind = 3) (hok : okF f = true) : codeX f = f.data.length - 1 := by
  unfold codeX
  rw [(okX f hk hok).2.2.2]
  simp
theorem toNat_ne {a b : Int} (ha : 0 ≤ a) (hb : 0 ≤ b) (h : a ≠ b) : a.toNat ≠ b.toNat := by omega
theorem wireX_diff (f g : Fr) (fk : f.kind = 3) (gk : g.kind = 3) (fo : okF f = true) (go : okF g = true) (fn : FrN f) (gn : FrN g) (h : ¬ (f.id = g.id ∧ f.sec = g.sec ∧ f.sdt = g.sdt ∧ f.vcid = g.vcid ∧ f.af = g.af ∧ f.data = g.data)) : Diff (wireX f) (wireX g) := by
  obtain ⟨fi, fl1, fl2, -⟩ := okX f fk fo
  obtain ⟨gi, gl1, gl2, -⟩ := okX g gk go
  by_cases hid : f.id = g.id
  · have hh : headX f = headX g := by unfold headX; rw [hid]
    suffices hb : Diff (bodyX f) (bodyX g) by
      unfold wireX rawX
      rw [hh]
      exact (((hb.fixed 8 false 1).ahead _).behind _ _).behind _ _
    unfold bodyX
    refine Diff.behind ?_ _ _
    unfold part3X
    by_cases h1 : f.sdt = g.sdt ∧ f.sec = g.sec ∧ f.data.length = g.data.length
    · obtain ⟨hsd, hse, hl⟩ := h1
      have hp1 : part1X f = part1X g := by unfold part1X; rw [hh, hsd, hse, codeX_eq f fk fo, codeX_eq g gk go, hl]
      have hp2 : part2X f = part2X g := by unfold part2X; rw [hp1, hh]
      rw [hp2]
      by_cases hv : f.vcid = g.vcid
      · rw [hv]
        by_cases ha : f.af = g.af
        · rw [ha]
          exact (bytesN_diff f.data g.data hl fn.data gn.data (fun hd => h ⟨hid, hse, hsd, hv, ha, hd⟩)).ahead _
        · exact Diff.behind (Diff.ahead (bitsN_diff 32 _ _ (by have := fn.af; omega) (by have := gn.af; omega) (toNat_ne fn.af.1 gn.af.1 ha)) _) _ _
      · exact Diff.behind (Diff.behind (Diff.ahead (bitsN_diff 8 _ _ (by have := fn.vcid; omega) (by have := gn.vcid; omega) (toNat_ne fn.vcid.1 gn.vcid.1 hv)) _) _ _) _ _
    · refine Diff.behind (Diff.behind (Diff.behind ?_ _ _) _ _) _ _
      unfold part2X
      refine Diff.behind ?_ _ _
      unfold part1X
      rw [hh, codeX_eq f fk fo, codeX_eq g gk go]
      refine Diff.behind ?_ _ _
      by_cases hsd : f.sdt = g.sdt
      · rw [hsd]
        by_cases hse : f.sec = g.sec
        · rw [hse]
          exact Diff.ahead (bitsN_diff 11 _ _ (by omega) (by omega) (fun hl => h1 ⟨hsd, hse, by omega⟩)) _
        · have hb := bitB_inj hse
          exact Diff.behind (Diff.ahead (bitsN_diff 1 _ _ (by cases f.sec <;> decide) (by cases g.sec <;> decide) hb) _) _ _
      · exact Diff.behind (Diff.behind (bitsN_diff 8 _ _ (by have := fn.sdt; omega) (by have := gn.sdt; omega) (toNat_ne fn.sdt.1 gn.sdt.1 hsd)) _ _) _ _
  · have hF := (headX_first f g fn.id0 fi gn.id0 gi hid).stuffed.diff
    obtain ⟨l, el⟩ := wireX_head f
    obtain ⟨m, em⟩ := wireX_head g
    rw [el, em]
    exact hF.behind _ _
theorem wireX_same (f g : Fr) (fk : f.kind = 3) (gk : g.kind = 3) (h : f.id = g.id ∧ f.sec = g.sec ∧ f.sdt = g.sdt ∧ f.vcid = g.vcid ∧ f.af = g.af ∧ f.data = g.data) : wireX f = wireX g := by
  obtain ⟨h1, h2, h3, h4, h5, h6⟩ := h
  have hh : headX f = headX g := by unfold headX; rw [h1]
  have hc : codeX f = codeX g := by unfold codeX; rw [fk, gk, h6]
  have hp1 : part1X f = part1X g := by unfold part1X; rw [hh, h2, h3, hc]
  have hp2 : part2X f = part2X g := by unfold part2X; rw [hp1, hh]
  have hp3 : part3X f = part3X g := by unfold part3X; rw [hp2, h4, h5, h6]
  have hb : bodyX f = bodyX g := by unfold bodyX; rw [hp3]
  unfold wireX rawX
  rw [hh, hb]
theorem xlApart_plain (f g : Fr) (fk : f.kind = 3) (gk : g.kind = 3) (fo : okF f = true) (go : okF g = true) (fn : FrN f) (gn : FrN g) :
    diffB (wireX f) (wireX g) (min (wireX f).length (wireX g).length) = !sameF f g := by
  rw [sameX f g fk gk fo go]
  by_cases h : f.id = g.id ∧ f.sec = g.sec ∧ f.sdt = g.sdt ∧ f.vcid = g.vcid ∧ f.af = g.af ∧ f.data = g.data
  · rw [decide_eq_true h, wireX_same f g fk gk h, same_apart]; rfl
  · rw [decide_eq_false h, diff_apart (wireX_diff f g fk gk fo go fn gn h)]; rfl
end Go.Proofs.Ytaknddanggdplaa
-- XlAlive: The document's example of an XL frame. No condition.
namespace Go.Proofs.Ytaknddanggdplaa
open Go.RowKit
theorem XlWire_okN (f : Fr) (A : Option Addr) (c NR NH : Nat) (w : World) (hk : f.kind = 3) (hok : okF f = true) (hf : FrN f) (hr : Rd w A (bys f.data)) (hNR : (rawX f).length = NR) (hNH : (stuffN (headX f)).length = NH) :
    Calls Try.prog 17 #[frv f (.slice A f.data.length c)] w fun e w' => (∃ A' c', e = .returned (.tuple #[.agg #[.slice A' (NR + 10 : Nat) c', .int .i64 (NH : Nat), .int .i64 (NR + 1 : Nat)], .int .i64 0]) ∧ Row w' w.heap.size 5 A' c' (bys (wireX f))) ∧ Below w.heap.size w w' :=
  XlWire_ok f A c NR NH w hk hok hf.id0 hf.sdt hf.vcid hf.af hr hf.data hNR hNH
def exX : Fr := { kind := 3, id := 1365, ext := false, rtr := false, brs := false, esi := false, sec := false, sdt := 0, vcid := 0, af := 0, data := [1] }
theorem exX_ok : okF exX = true := by decide
theorem exX_n : FrN exX := ⟨by decide, by decide, by decide, by decide, by intro x hx; simp [exX] at hx; omega⟩
set_option maxRecDepth 100000 in
set_option maxHeartbeats 1000000 in
theorem alive08 (w : World) : Calls Try.prog 15 #[] w fun e w' => e = .returned (.bool true) ∧ Below w.heap.size w w' := by
  obtain ⟨NR, hNR⟩ : ∃ NR, (rawX exX).length = NR := ⟨_, rfl⟩
  obtain ⟨NH, hNH⟩ : ∃ NH, (stuffN (headX exX)).length = NH := ⟨_, rfl⟩
  have hge : 150 ≤ NR ∧ NR ≤ 1000 := by have h1 := rawX_len exX; have h2 := stuffX_le exX; rw [hNR] at h1; have h3 : exX.data.length = 1 := rfl; omega
  obtain ⟨l, hl⟩ := rawX_zero exX
  have HW := Lib.hid (fun W (hW : Rd W (some ⟨w.heap.size, 0, none⟩) (bys [1])) => XlWire_okN exX (some ⟨w.heap.size, 0, none⟩) 1 NR NH W rfl exX_ok exX_n hW hNR hNH)
  have hw0 : ∃ m, wireX exX = 0 :: m := ⟨l ++ List.replicate 10 1, by unfold wireX; rw [hl]; rfl⟩
  obtain ⟨m, hm⟩ := hw0
  rw [hm] at HW
  clear hNR hNH hl hm
  go_enter Try.func15, Try.ntmps15
  go_wp2_with fail
  refine (HW.out _ (Rd.blk (heap_new_at rfl))).mono ?_
  rintro e w1 ⟨⟨A, c, rfl, hrow⟩, hb⟩
  obtain ⟨ga, hA⟩ := hrow.form
  rcases hA with rfl | hA
  · have c0 : w1.cell? ⟨ga, 0, none⟩ = some (.int .u8 0) := by
      have := hrow.cells (g := ga) rfl 0 (.int .u8 0) rfl
      exact this
    have hlt := cell_lt c0
    have hlt' : ga < w1.heap.size := hlt
    have HB := Lib.hid (below_trans (below_alloc (Below.refl _ _) _) hb)
    have h44 : (150 : Int) ≤ ((NR + 10 : Nat) : Int) := by omega
    have hi0 : (0 : Int) < ((NR + 10 : Nat) : Int) := by omega
    have hack : (((NR + 1 : Nat) : Int) == ((NR + 10 : Nat) : Int) - 9) = true := by rw [beq_iff_eq]; omega
    clear hrow hb hlt
    go_wp2_with fail
    go_ret
    exact ⟨by first | rfl | simp, below_alloc HB.out _⟩
  · simp [bys] at hA
end Go.Proofs.Ytaknddanggdplaa
-- XlMine: May a frame be, of this kind: what the laws ask first. No condition.
namespace Go.Proofs.Ytaknddanggdplaa
open Go.RowKit
theorem mine08_any (f : Fr) (A : Option Addr) (c : Nat) (w : World) (hl : f.data.length ≤ 9223372036854775807) :
    Calls Try.prog 16 #[frv f (.slice A f.data.length c)] w fun e w' => e = .returned (.bool (decide (f.kind = 3) && okF f)) ∧ Below w.heap.size w w' := by
  have HC := Lib.hid (fun W => Check_any f A c W hl)
  obtain ⟨kind, id, ext, rtr, brs, esi, sec, sdt, vcid, af, data⟩ := f
  obtain ⟨ok, hok⟩ : ∃ ok, okF ⟨kind, id, ext, rtr, brs, esi, sec, sdt, vcid, af, data⟩ = ok := ⟨_, rfl⟩
  rw [hok] at HC ⊢
  dsimp only [frv] at *
  generalize data.length = n at *
  clear hok
  unfold errV at HC
  by_cases hk : kind = 3
  · subst hk
    cases ok
    all_goals
      simp only [if_true, Bool.false_eq_true, if_false] at HC
      go_enter Try.func16, Try.ntmps16
      go_wp2_with fail
      refine (HC.out _).mono ?_
      rintro e w1 ⟨rfl, hb⟩
      have HB := Lib.hid hb
      clear hb
      go_wp2_with fail
      go_ret
      exact ⟨rfl, (below_alloc (Below.refl _ _) _).trans (HB.out.mono (by simp))⟩
  · have hkb : (kind == 3) = false := by rw [beq_eq_false_iff_ne]; exact hk
    have hd : decide (kind = 3) = false := decide_eq_false hk
    rw [hd, Bool.false_and]
    clear hk hd
    go_enter Try.func16, Try.ntmps16
    go_wp2_with fail
    go_ret
    exact ⟨rfl, below_alloc (Below.refl _ _) _⟩
theorem mine08_true {f : Fr} (hk : f.kind = 3) (hok : okF f = true) : (decide (f.kind = 3) && okF f) = true := by rw [decide_eq_true hk, hok]; rfl
theorem mine08_false {f : Fr} (h : ¬ (f.kind = 3 ∧ okF f = true)) : (decide (f.kind = 3) && okF f) = false := by
  cases h2 : okF f with
  | false => simp
  | true => simp; exact fun hk => h ⟨hk, h2⟩
end Go.Proofs.Ytaknddanggdplaa
-- Ref02: The document's answer for layer 2: check sums, bit by bit. No condition.
namespace Go.Proofs.Ytaknddanggdplaa
open Go.RowKit
/-- A kind of sums, by the document. -/
structure OfRK (k : Int) (size poly start : Nat) : Prop where
  call : ∀ W : World, Calls Try.prog 100 #[.int .i64 k] W fun e w' => e = .returned (.tuple #[.int .i64 size, .int .u64 poly, .int .u64 start]) ∧ W = w'
  h4 : 4 ≤ size
  h32 : size ≤ 32
  poly : poly < 2 ^ size
  start : start < 2 ^ size
theorem ofR_1 : OfRK 1 15 17817 0 := by
  refine ⟨fun W => ?_, by decide, by decide, by decide, by decide⟩
  go_enter Try.func100, Try.ntmps100
  go_wp2
  go_ret3
  exact ⟨rfl, rfl⟩
set_option maxRecDepth 100000 in
set_option maxHeartbeats 2000000 in
theorem runR_any {k : Int} {size poly start : Nat} (h : OfRK k size poly start) (sum : Nat) (A : Option Addr) (n c : Nat) (l : List Nat) (w : World) (hs : sum < 2 ^ size) (hr : Rd w A (bys l)) (hn : l.length = n) (hn2 : n ≤ 1000000) (hb : ∀ x ∈ l, x ≤ 1) :
    Calls Try.prog 118 #[.int .i64 k, .int .u64 sum, .slice A n c] w fun e w' => e = .returned (.int .u64 (crcN size poly sum l : Nat)) ∧ w = w' := by
  have HO := Lib.hid h.call
  have h4 := h.h4
  have h32 := h.h32
  have hpw := pow32 h32
  have hp2 : IntKind.u64.wrap ((2 : Int) ^ size) = ((2 ^ size : Nat) : Int) := by
    have e : ((2 : Int) ^ size) = ((2 ^ size : Nat) : Int) := by simp
    rw [e, IntWalk.u64_in _ ⟨by omega, by omega⟩]
  have hu1 : IntKind.u64.wrap ((size : Int) - 1) = ((size - 1 : Nat) : Int) := by rw [IntWalk.u64_in _ ⟨by omega, by omega⟩]; omega
  have hu0 : IntKind.u64.wrap (size : Int) = (size : Int) := IntWalk.u64_in _ ⟨by omega, by omega⟩
  have HP := Lib.hid h.poly
  have HS := Lib.hid hs
  have HR := Lib.hid hr
  have HN := Lib.hid hn
  have HB := Lib.hid hb
  clear h hs hr hn hb
  go_enter Try.func118, Try.ntmps118
  go_wp2_with fail
  refine (HO.out _).mono ?_
  rintro e _ ⟨rfl, rfl⟩
  go_wp2_with fail
  go_loop [1, 21] (fun sv iv => ∃ k s : Nat, k ≤ n ∧ Hid (s < 2 ^ size) ∧ Hid (s = crcN size poly sum (l.take k)) ∧ sv = .int .u64 s ∧ iv = .int .i64 k) (fun _ iv => n - (intOf iv).toNat)
  case atStart => exact ⟨0, sum, by omega, HS, rfl, rfl, rfl⟩
  case round =>
    obtain ⟨k, s, hk, hs, HC, rfl, rfl⟩ := hrel
    by_cases hkn : k < n
    · have hkl : k < l.length := by rw [HN.out]; exact hkn
      obtain ⟨ad, rfl, ca⟩ := HR.out.at_ k hkl
      have hx := HB.out l[k] (List.getElem_mem hkl)
      have hnext : oneN size poly s l[k] = crcN size poly sum (l.take (k + 1)) := by
        rw [List.take_succ_eq_append_getElem hkl, crcN_append, ← HC.out]; rfl
      obtain ⟨x, hxe⟩ : ∃ x, l[k] = x := ⟨_, rfl⟩
      rw [hxe] at ca hx hnext
      have hs1 := hs.out
      have hs2 : IntKind.u64.wrap ((s : Int) * 2) = (s : Int) * 2 := IntWalk.u64_in _ ⟨by omega, by omega⟩
      have hmod : ((s : Int) * 2) % ((2 ^ size : Nat) : Int) = ((s * 2 % 2 ^ size : Nat) : Int) := by simp
      have htop : ((s : Int) / 2 ^ (size - 1)) % 2 = ((s / 2 ^ (size - 1) % 2 : Nat) : Int) := by simp
      have hmlt : s * 2 % 2 ^ size < 2 ^ size := Nat.mod_lt _ (Nat.two_pow_pos _)
      have hxor : bits .xor .u64 ((s * 2 % 2 ^ size : Nat) : Int) (poly : Int) = ((s * 2 % 2 ^ size ^^^ poly : Nat) : Int) := u64_xor_nat _ _ (by omega) (by have := HP.out; omega)
      have hone : oneN size poly s x = (s * 2 % 2 ^ size) ^^^ (if s / 2 ^ (size - 1) % 2 = x then 0 else poly) := rfl
      have hlt := oneN_lt size poly s x HP.out
      obtain ⟨h, hh⟩ : ∃ h, s / 2 ^ (size - 1) % 2 = h := ⟨_, rfl⟩
      obtain ⟨m, hm⟩ : ∃ m, s * 2 % 2 ^ size = m := ⟨_, rfl⟩
      rw [hh] at hone htop
      rw [hm] at hone hmod hxor
      have hxw : IntKind.u64.wrap (x : Int) = (x : Int) := IntWalk.u64_in _ ⟨by omega, by omega⟩
      have HX := Lib.hid hnext
      have HO1 := Lib.hid hone
      have HLT := Lib.hid hlt
      clear hnext hxe hh hm hone hlt hmlt hs1
      have hbit : ((s : Int) / 2 ^ (size - 1)).tmod 2 = (h : Int) := by
        rw [Int.tmod_eq_emod_of_nonneg (Int.ediv_nonneg (by omega) (Int.le_of_lt (Int.pow_pos (by decide)))), htop]
      have hme : (s : Int) * 2 % 2 ^ size = (m : Int) := by rw [← hmod]; simp
      have hpz : ¬ (2 : Int) ^ size = 0 := Int.ne_of_gt (Int.pow_pos (by decide))
      have hpz2 : ((2 : Int) ^ size == 0) = false := by rw [beq_eq_false_iff_ne]; exact hpz
      have HBIT := Lib.hid hbit
      have HME := Lib.hid hme
      have HXOR := Lib.hid hxor
      clear hbit hme hxor htop hmod
      go_wp2_with fail
      all_goals rename_i hcond
      · rw [HBIT.out] at hcond
        have hne : h ≠ x := by intro e; rw [e] at hcond; simp at hcond
        refine ⟨⟨k + 1, oneN size poly s x, by omega, HLT, HX.out, ?_, by go_num⟩, by simp [intOf]; omega⟩
        rw [HME.out, HXOR.out, HO1.out, if_neg hne]
      · rw [HBIT.out] at hcond
        have hne : h = x := by simp at hcond; omega
        refine ⟨⟨k + 1, oneN size poly s x, by omega, HLT, HX.out, ?_, by go_num⟩, by simp [intOf]; omega⟩
        rw [HME.out, HO1.out, if_pos hne, Nat.xor_zero]
    · obtain rfl : n = k := by omega
      go_wp2_with fail
      go_ret
      have h1 := HC.out
      rw [← HN.out, List.take_length] at h1
      exact ⟨ret_int (by rw [h1]), rfl⟩
theorem MoreR_any {k : Int} {size poly start : Nat} (h : OfRK k size poly start) (sum n c : Nat) (A : Option Addr) (l : List Nat) (w : World) (hs : sum < 2 ^ size) (hr : Rd w A (bys l)) (hn : l.length = n) (hn2 : n ≤ 65536) (hb : ∀ x ∈ l, x ≤ 1) :
    Calls Try.prog 113 #[.int .i64 k, .int .u64 sum, .slice A n c] w fun e w' => e = .returned (.tuple #[.int .u64 (crcN size poly sum l : Nat), .int .i64 0]) ∧ w = w' := by
  have hC := Check01_ok w A c n l hr hn hn2 hb
  have hrun := runR_any h sum A n c l w hs hr hn (by omega) hb
  obtain ⟨r, hre⟩ : ∃ r, crcN size poly sum l = r := ⟨_, rfl⟩
  rw [hre] at hrun ⊢
  have HC := Lib.hid hC
  have HRUN := Lib.hid hrun
  have HO := Lib.hid h.call
  have h4 := h.h4
  have h32 := h.h32
  have hz : ((size : Int) == 0) = false := by rw [beq_eq_false_iff_ne]; omega
  have hpw := pow32 h32
  have hge : ¬ ((2 : Int) ^ size ≤ (sum : Int)) := by
    have e : ((2 : Int) ^ size) = ((2 ^ size : Nat) : Int) := by simp
    rw [e]; omega
  have hp2 : IntKind.u64.wrap ((2 : Int) ^ size) = (2 : Int) ^ size := by
    have e : ((2 : Int) ^ size) = ((2 ^ size : Nat) : Int) := by simp
    rw [e, IntWalk.u64_in _ ⟨by omega, by omega⟩]
  have hlt2 : (sum : Int) < (2 : Int) ^ size := by omega
  clear hC hrun hr hre hb hs h hn
  go_enter Try.func113, Try.ntmps113
  go_wp2_with fail
  refine (HO.out _).mono ?_
  rintro e _ ⟨rfl, rfl⟩
  go_wp2_with fail
  refine HC.out.mono ?_
  rintro e _ ⟨rfl, rfl⟩
  go_wp2_with fail
  refine HRUN.out.mono ?_
  rintro e _ ⟨rfl, rfl⟩
  go_wp2_with fail
  go_ret2
  exact ⟨rfl, rfl⟩
theorem SumR_any {k : Int} {size poly start : Nat} (h : OfRK k size poly start) (n c : Nat) (A : Option Addr) (l : List Nat) (w : World) (hr : Rd w A (bys l)) (hn : l.length = n) (hn2 : n ≤ 65536) (hb : ∀ x ∈ l, x ≤ 1) :
    Calls Try.prog 99 #[.int .i64 k, .slice A n c] w fun e w' => e = .returned (.tuple #[.int .u64 (crcN size poly start l : Nat), .int .i64 0]) ∧ w = w' := by
  have hM := MoreR_any h start n c A l w h.start hr hn hn2 hb
  obtain ⟨r, hre⟩ : ∃ r, crcN size poly start l = r := ⟨_, rfl⟩
  rw [hre] at hM ⊢
  have HM := Lib.hid hM
  have HO := Lib.hid h.call
  clear hM hr hre hb h hn
  go_enter Try.func99, Try.ntmps99
  go_wp2_with fail
  refine (HO.out _).mono ?_
  rintro e _ ⟨rfl, rfl⟩
  go_wp2_with fail
  refine HM.out.mono ?_
  rintro e _ ⟨rfl, rfl⟩
  go_wp2_with fail
  go_ret2
  exact ⟨rfl, rfl⟩
set_option maxRecDepth 100000 in
set_option maxHeartbeats 1000000 in
theorem AddR_any {k : Int} {size poly start : Nat} (h : OfRK k size poly start) (n c : Nat) (A : Option Addr) (l : List Nat) (w : World) (hr : Rd w A (bys l)) (hn : l.length = n) (hn2 : n ≤ 65000) (hcap : A = none → c = 0) (hb : ∀ x ∈ l, x ≤ 1) :
    Calls Try.prog 63 #[.int .i64 k, .slice A n c] w fun e w' => (∃ A' c', e = .returned (.tuple #[.slice A' (n + size : Nat) c', .int .i64 0]) ∧ Row w' w.heap.size 5 A' c' (bys (addN size poly start l))) ∧ Below w.heap.size w w' := by
  obtain ⟨i0, hi, hz0, hz1, hz2⟩ := info_parts info_u8
  have hS := SumR_any h n c A l w hr hn (by omega) hb
  have hlt : crcN size poly start l < 2 ^ size := crcN_lt size poly l h.poly start h.start
  have hadd : addN size poly start l = l ++ bitsN (crcN size poly start l) size := rfl
  rw [hadd]
  obtain ⟨r, hre⟩ : ∃ r, crcN size poly start l = r := ⟨_, rfl⟩
  rw [hre] at hS hlt ⊢
  have h32 := h.h32
  have h4 := h.h4
  have hpw := pow32 h32
  have HS := Lib.hid hS
  have HO := Lib.hid h.call
  have HR := Lib.hid hr
  have HN := Lib.hid hn
  clear hS hr hre hb h hn hadd
  go_enter Try.func63, Try.ntmps63
  go_wp2_with fail
  refine HS.out.mono ?_
  rintro e _ ⟨rfl, rfl⟩
  go_wp2_with fail
  refine (HO.out _).mono ?_
  rintro e _ ⟨rfl, rfl⟩
  go_wp2_with (at_builtin; refine wpList_appE (w0 := w) ((Below.refl _ _).alloc (Nat.le_refl _) _) rfl (.tmp 26) (.tmp 27) 23 rfl w.heap.size 5 i0 _ 1 Try.underlying23 hi hz0 hz1 hz2 rfl (some ⟨w.heap.size, 0, none⟩) 0 0 (bys []) rfl rfl (Row.lit (cs := []) (Nat.le_refl _) (by simp)) A n c (bys l) rfl (by rw [bys_length]; exact HN.out) (HR.out.alloc _) (bys_one _) (fun _ => hcap) n (by omega) (by unfold maxLen; omega) (by omega) (Nat.le_refl _) (by simp) ?_; intro e3 A3 c3 HO3)
  refine (extcB (BitsR_row r size r size e3.W rfl rfl (by omega) (by omega) (by omega))).mono ?_
  rintro e _ ⟨e4, rfl, HB4, A4, c4, rfl, hrow4⟩
  have HQ4 := Lib.hid (HO3.out.below HB4.out)
  have HROW4 := Lib.hid hrow4
  clear hrow4
  go_wp2_with (at_builtin; refine wpList_appE (w0 := w) e4.below rfl (.tmp 28) (.tmp 31) 23 rfl w.heap.size 5 i0 _ 1 Try.underlying23 hi hz0 hz1 hz2 rfl A3 n c3 (bys [] ++ bys l) rfl (by rw [← bys_append, bys_length]; exact HN.out) HQ4.out A4 size c4 (bys (bitsN r size)) rfl (by rw [bys_length, bitsN_length]) HROW4.out.rd (bys_one _) (fun _ e => HROW4.out.none_ e) (n + size) rfl (by unfold maxLen; omega) (by omega) (Nat.le_refl _) e4.below.size ?_; intro e5 A5 c5 HO5)
  go_ret2
  have h5 := HO5.out
  rw [← bys_append, ← bys_append, List.nil_append] at h5
  exact ⟨⟨A5, c5, rfl, h5⟩, e5.below⟩
end Go.Proofs.Ytaknddanggdplaa
-- Ref03: The document's answer for layer 3: stuffing. No condition.
namespace Go.Proofs.Ytaknddanggdplaa
open Go.RowKit
theorem full_at {last run : Nat} {out : List Nat} (h : Tails last run out) (h5 : run ≤ 5) {x1 x2 x3 x4 x5 m : Nat} (hl : out.length = m + 5) (e1 : out[m + 4]? = some x1) (e2 : out[m + 3]? = some x2) (e3 : out[m + 2]? = some x3) (e4 : out[m + 1]? = some x4) (e5 : out[m]? = some x5) :
    run = 5 ↔ (x1 = x2 ∧ x1 = x3 ∧ x1 = x4 ∧ x1 = x5) := by
  rw [h.full h5, hl]
  constructor
  · rintro ⟨-, ha⟩
    have a1 := ha 1 (by omega)
    have a2 := ha 2 (by omega)
    have a3 := ha 3 (by omega)
    have a4 := ha 4 (by omega)
    rw [show m + 5 - 1 - 1 = m + 3 from by omega, show m + 5 - 1 = m + 4 from by omega, e1, e2] at a1
    rw [show m + 5 - 1 - 2 = m + 2 from by omega, show m + 5 - 1 = m + 4 from by omega, e1, e3] at a2
    rw [show m + 5 - 1 - 3 = m + 1 from by omega, show m + 5 - 1 = m + 4 from by omega, e1, e4] at a3
    rw [show m + 5 - 1 - 4 = m from by omega, show m + 5 - 1 = m + 4 from by omega, e1, e5] at a4
    injection a1 with a1; injection a2 with a2; injection a3 with a3; injection a4 with a4
    exact ⟨a1.symm, a2.symm, a3.symm, a4.symm⟩
  · rintro ⟨rfl, rfl, rfl, rfl⟩
    refine ⟨by omega, fun j hj => ?_⟩
    rw [show m + 5 - 1 = m + 4 from by omega, e1]
    have : j = 0 ∨ j = 1 ∨ j = 2 ∨ j = 3 ∨ j = 4 := by omega
    rcases this with rfl | rfl | rfl | rfl | rfl
    · exact e1
    · exact e2
    · exact e3
    · exact e4
    · exact e5
set_option maxRecDepth 100000 in
set_option maxHeartbeats 4000000 in
theorem FullR_any (w : World) (base c n last run : Nat) (A : Option Addr) (out : List Nat) (hrow : Row w base 5 A c (bys out)) (hn : out.length = n) (hn2 : n ≤ 1000000) (ht : Tails last run out) (h5 : run ≤ 5) :
    Calls Try.prog 92 #[.slice A n c] w fun e w' => e = .returned (.bool (decide (run = 5))) ∧ Below w.heap.size w w' := by
  by_cases hlt : n < 5
  · have hr : ¬ run = 5 := by rw [ht.full h5]; omega
    rw [decide_eq_false hr]
    have hd : decide ((5 : Int) ≤ (n : Int)) = false := decide_eq_false (by omega)
    clear hrow ht hr hn
    go_enter Try.func92, Try.ntmps92
    go_wp2_with fail
    go_quiet (fail)
    go_wp2_with fail
    go_ret
    exact ⟨rfl, below_drewN (Below.refl _ _) _⟩
  · obtain ⟨m, hm⟩ : ∃ m, n = m + 5 := ⟨n - 5, by omega⟩
    obtain ⟨ga, rfl, hga, -, -⟩ := row_some hrow hn (by omega)
    have g1 : out[m + 4]? = some (out[m + 4]'(by omega)) := List.getElem?_eq_getElem _
    have g2 : out[m + 3]? = some (out[m + 3]'(by omega)) := List.getElem?_eq_getElem _
    have g3 : out[m + 2]? = some (out[m + 2]'(by omega)) := List.getElem?_eq_getElem _
    have g4 : out[m + 1]? = some (out[m + 1]'(by omega)) := List.getElem?_eq_getElem _
    have g5 : out[m]? = some (out[m]'(by omega)) := List.getElem?_eq_getElem _
    have hiff := full_at ht h5 (by omega) g1 g2 g3 g4 g5
    have c1 := row_at hrow (Below.refl _ _) (m + 4) _ g1
    have c2 := row_at hrow (Below.refl _ _) (m + 3) _ g2
    have c3 := row_at hrow (Below.refl _ _) (m + 2) _ g3
    have c4 := row_at hrow (Below.refl _ _) (m + 1) _ g4
    have c5 := row_at hrow (Below.refl _ _) m _ g5
    generalize (out[m + 4]'(by omega)) = x1 at *
    generalize (out[m + 3]'(by omega)) = x2 at *
    generalize (out[m + 2]'(by omega)) = x3 at *
    generalize (out[m + 1]'(by omega)) = x4 at *
    generalize (out[m]'(by omega)) = x5 at *
    obtain ⟨i1, hi1⟩ : ∃ i, m + 4 = i := ⟨_, rfl⟩
    obtain ⟨i2, hi2⟩ : ∃ i, m + 3 = i := ⟨_, rfl⟩
    obtain ⟨i3, hi3⟩ : ∃ i, m + 2 = i := ⟨_, rfl⟩
    obtain ⟨i4, hi4⟩ : ∃ i, m + 1 = i := ⟨_, rfl⟩
    rw [hi1] at c1
    rw [hi2] at c2
    rw [hi3] at c3
    rw [hi4] at c4
    have s1 : IntKind.i64.wrap ((n : Int) - 1) = (i1 : Int) := by rw [IntWalk.i64_in _ (by omega)]; omega
    have s2 : IntKind.i64.wrap ((n : Int) - 2) = (i2 : Int) := by rw [IntWalk.i64_in _ (by omega)]; omega
    have s3 : IntKind.i64.wrap ((n : Int) - 3) = (i3 : Int) := by rw [IntWalk.i64_in _ (by omega)]; omega
    have s4 : IntKind.i64.wrap ((n : Int) - 4) = (i4 : Int) := by rw [IntWalk.i64_in _ (by omega)]; omega
    have s5 : IntKind.i64.wrap ((n : Int) - 5) = (m : Int) := by rw [IntWalk.i64_in _ (by omega)]; omega
    have t1 : (i1 : Int) < (n : Int) := by omega
    have t2 : (i2 : Int) < (n : Int) := by omega
    have t3 : (i3 : Int) < (n : Int) := by omega
    have t4 : (i4 : Int) < (n : Int) := by omega
    have t5 : (m : Int) < (n : Int) := by omega
    have h5n : (5 : Int) ≤ (n : Int) := by omega
    have HIFF := Lib.hid hiff
    clear hiff hrow ht hn hlt g1 g2 g3 g4 g5 hi1 hi2 hi3 hi4 hm
    by_cases e2 : x1 = x2
    · subst e2
      by_cases e3 : x1 = x3
      · subst e3
        by_cases e4 : x1 = x4
        · subst e4
          by_cases e5 : x1 = x5
          · subst e5
            rw [decide_eq_true (HIFF.out.2 ⟨rfl, rfl, rfl, rfl⟩)]
            go_enter Try.func92, Try.ntmps92
            go_wp2_with fail
            go_quiet (fail)
            go_wp2_with fail
            go_ret
            exact ⟨rfl, below_drewN (Below.refl _ _) _⟩
          · rw [decide_eq_false (fun h => e5 (HIFF.out.1 h).2.2.2)]
            have b5 : ((x1 : Int) == (x5 : Int)) = false := by rw [beq_eq_false_iff_ne]; omega
            clear e5
            go_enter Try.func92, Try.ntmps92
            go_wp2_with fail
            go_quiet (fail)
            go_wp2_with fail
            go_ret
            exact ⟨rfl, below_drewN (Below.refl _ _) _⟩
        · rw [decide_eq_false (fun h => e4 (HIFF.out.1 h).2.2.1)]
          have b4 : ((x1 : Int) == (x4 : Int)) = false := by rw [beq_eq_false_iff_ne]; omega
          clear e4
          go_enter Try.func92, Try.ntmps92
          go_wp2_with fail
          go_quiet (fail)
          go_wp2_with fail
          go_ret
          exact ⟨rfl, below_drewN (Below.refl _ _) _⟩
      · rw [decide_eq_false (fun h => e3 (HIFF.out.1 h).2.1)]
        have b3 : ((x1 : Int) == (x3 : Int)) = false := by rw [beq_eq_false_iff_ne]; omega
        clear e3
        go_enter Try.func92, Try.ntmps92
        go_wp2_with fail
        go_quiet (fail)
        go_wp2_with fail
        go_ret
        exact ⟨rfl, below_drewN (Below.refl _ _) _⟩
    · rw [decide_eq_false (fun h => e2 (HIFF.out.1 h).1)]
      have b2 : ((x1 : Int) == (x2 : Int)) = false := by rw [beq_eq_false_iff_ne]; omega
      clear e2
      go_enter Try.func92, Try.ntmps92
      go_wp2_with fail
      go_quiet (fail)
      go_wp2_with fail
      go_ret
      exact ⟨rfl, below_drewN (Below.refl _ _) _⟩
theorem tails_last {last run : Nat} {out : List Nat} (h : Tails last run out) (h1 : 1 ≤ run) : out[out.length - 1]? = some last ∧ 0 < out.length := by
  rcases h with ⟨rfl, rfl⟩ | ⟨h1, pre, rfl, hp⟩
  · omega
  · refine ⟨?_, by simp; omega⟩
    rw [List.getElem?_append_right (by simp; omega), List.getElem?_replicate, if_pos (by simp; omega)]
set_option maxRecDepth 100000 in
set_option maxHeartbeats 4000000 in
theorem StuffedR_any (w : World) (A : Option Addr) (c n N : Nat) (l : List Nat) (hr : Rd w A (bys l)) (hn : l.length = n) (hn2 : n ≤ 50000) (h01 : ∀ x ∈ l, x ≤ 1) (hN : (stuffN l).length = N) :
    Calls Try.prog 47 #[.slice A n c] w fun e w' => (∃ A' c', e = .returned (.slice A' N c') ∧ Row w' w.heap.size 5 A' c' (bys (stuffN l))) ∧ Below w.heap.size w w' := by
  obtain ⟨i0, hi, hz0, hz1, hz2⟩ := info_parts info_u8
  have hN2 : N ≤ 62500 := by have := stuffN_le l; omega
  have HR := Lib.hid hr
  have HN := Lib.hid hn
  have H01 := Lib.hid h01
  have HNN := Lib.hid hN
  clear hr hn h01 hN
  go_enter Try.func47, Try.ntmps47
  go_wp2_with fail
  go_loopw [3, 8] (fun v iv wr => ∃ (k last run q : Nat) (A' : Option Addr) (c' : Nat) (out : List Nat), k ≤ n ∧ iv = .int .i64 k ∧ v = .slice A' q c' ∧ Hid (out.length = q) ∧ run ≤ 5 ∧ last ≤ 1 ∧ q ≤ 62500 ∧ Hid (Tails last run out) ∧ Hid (out ++ stf last run (l.drop k) = stuffN l) ∧ Hid (Row wr w.heap.size 5 A' c' (bys out)) ∧ Hid (Below w.heap.size w wr)) (fun _ iv _ => n - (intOf iv).toNat)
  case atStart => exact ⟨0, 0, 0, 0, none, 0, [], by omega, rfl, rfl, rfl, by omega, by omega, by omega, .inl ⟨rfl, rfl⟩, rfl, Row.nil _ _ _, Below.refl _ _⟩
  case round =>
    obtain ⟨k, last, run, q, A', c', out, hk, rfl, rfl, HQL, hr5, hl1, hq, HT, HM, HQ, HW⟩ := hrel
    by_cases hkn : k < n
    · have hkl : k < l.length := by rw [HN.out]; exact hkn
      obtain ⟨ad, rfl, ca⟩ := (HR.out.below HW.out).at_ k hkl
      have hx := H01.out l[k] (List.getElem_mem hkl)
      have hd : l.drop k = l[k] :: l.drop (k + 1) := List.drop_eq_getElem_cons hkl
      obtain ⟨x, hxe⟩ : ∃ x, l[k] = x := ⟨_, rfl⟩
      rw [hxe] at ca hx hd
      have HD := Lib.hid hd
      have hfull := FullR_any wr w.heap.size c' q last run A' out HQ.out HQL.out (by omega) HT.out hr5
      have hbnd : (out ++ stf last run (l.drop k)).length = N := by rw [HM.out]; exact HNN.out
      clear hd hxe
      by_cases h5 : run = 5
      · rw [decide_eq_true h5] at hfull
        subst h5
        have HF := Lib.hid hfull
        obtain ⟨tl1, tl2⟩ := tails_last HT.out (by omega)
        rw [HQL.out] at tl1 tl2
        obtain ⟨ga, hA', hga, -, -⟩ := row_some HQ.out HQL.out tl2
        subst hA'
        have hq2 : q + 2 ≤ 62500 := by
          rw [HD.out, stf, if_pos rfl, List.length_append, HQL.out] at hbnd
          simp only [List.length_cons] at hbnd
          omega
        clear hfull hbnd
        go_wp2_with fail
        refine HF.out.mono ?_
        rintro e w2 ⟨rfl, hb2⟩
        have HB2 := Lib.hid (below_trans HW.out hb2)
        have HQ2 := Lib.hid (HQ.out.below hb2)
        obtain ⟨q1, hq1⟩ : ∃ q1, q - 1 = q1 := ⟨_, rfl⟩
        rw [hq1] at tl1
        have cl := row_at HQ.out hb2 q1 last tl1
        have hqi : (q : Int) - 1 = (q1 : Int) := by omega
        have hqi2 : IntKind.i64.wrap ((q : Int) - 1) = (q1 : Int) := by rw [IntWalk.i64_in _ (by omega)]; omega
        have hql : (q1 : Int) < (q : Int) := by omega
        obtain ⟨y, hy⟩ : ∃ y, 1 - last = y := ⟨_, rfl⟩
        have hyi : (1 : Int) - (last : Int) = (y : Int) := by omega
        have hyw : IntKind.u8.wrap ((1 : Int) - (last : Int)) = (y : Int) := by rw [IntWalk.u8_in _ ⟨by omega, by omega⟩]; omega
        have HY := Lib.hid hy
        clear hb2 hy hq1
        go_wp2_with (first
          | (at_builtin; refine wpList_appE (w0 := w) (below_alloc HB2.out _) rfl (.tmp 14) (.tmp 22) 23 rfl w.heap.size 5 i0 _ 1 Try.underlying23 hi hz0 hz1 hz2 rfl (some ⟨ga, 0, none⟩) q c' (bys out) rfl (by rw [bys_length]; exact HQL.out) (HQ2.out.alloc _) _ 1 1 (bys [y]) rfl rfl (Rd.blk (heap_new_at rfl)) (bys_one _) (by intro h; cases h) (q + 1) rfl (by unfold maxLen; omega) (by omega) (Nat.le_refl _) (below_alloc HB2.out _).size ?_; intro e3 A3 c3 HO3)
          | (at_builtin; refine wpList_appE (w0 := w) (below_alloc e3.below _) rfl (.tmp 24) (.tmp 26) 23 rfl w.heap.size 5 i0 _ 1 Try.underlying23 hi hz0 hz1 hz2 rfl A3 (q + 1) c3 (bys out ++ bys [y]) rfl (by rw [List.length_append, bys_length, HQL.out]; rfl) (HO3.out.alloc _) _ 1 1 (bys [x]) rfl rfl (Rd.blk (heap_new_at rfl)) (bys_one _) (by intro h; cases h) (q + 1 + 1) rfl (by unfold maxLen; omega) (by omega) (Nat.le_refl _) (below_alloc e3.below _).size ?_; intro e4 A4 c4 HO4))
        go_roundw
        case rel =>
          have es : seeN last 5 y = 1 := by rw [← HY.out]; unfold seeN; rw [if_neg (by omega)]
          have ht := (HT.out.see y).see x
          rw [es] at ht
          have ho := HO4.out
          rw [← bys_append, ← bys_append] at ho
          refine ⟨k + 1, x, seeN y 1 x, q + 1 + 1, A4, c4, (out ++ [y]) ++ [x], by omega, by go_num, rfl, by show _ = _; rw [List.length_append, List.length_append, HQL.out]; rfl, by have := seeN_le y 1 x; omega, hx, by omega, ht, ?_, ho, e4.below⟩
          show _ = _
          rw [← HM.out, HD.out, stf, if_pos rfl, HY.out, List.append_assoc, List.append_assoc]
          rfl
        case measure => simp [intOf]; omega
      · rw [decide_eq_false h5] at hfull
        have HF := Lib.hid hfull
        have hq2 : q + 1 ≤ 62500 := by
          rw [HD.out, stf, if_neg h5, List.length_append, HQL.out] at hbnd
          simp only [List.length_cons] at hbnd
          omega
        have H5 := Lib.hid h5
        clear hfull hbnd h5
        go_wp2_with fail
        refine HF.out.mono ?_
        rintro e w2 ⟨rfl, hb2⟩
        have HB2 := Lib.hid (below_trans HW.out hb2)
        have HQ2 := Lib.hid (HQ.out.below hb2)
        clear hb2
        go_wp2_with (at_builtin; refine wpList_appE (w0 := w) (below_alloc HB2.out _) rfl (.tmp 24) (.tmp 26) 23 rfl w.heap.size 5 i0 _ 1 Try.underlying23 hi hz0 hz1 hz2 rfl A' q c' (bys out) rfl (by rw [bys_length]; exact HQL.out) (HQ2.out.alloc _) _ 1 1 (bys [x]) rfl rfl (Rd.blk (heap_new_at rfl)) (bys_one _) (by intro h; cases h) (q + 1) rfl (by unfold maxLen; omega) (by omega) (Nat.le_refl _) (below_alloc HB2.out _).size ?_; intro e4 A4 c4 HO4)
        go_roundw
        case rel =>
          have ho := HO4.out
          rw [← bys_append] at ho
          refine ⟨k + 1, x, seeN last run x, q + 1, A4, c4, out ++ [x], by omega, by go_num, rfl, by show _ = _; rw [List.length_append, HQL.out]; rfl, by have := seeN_le last run x; have := H5.out; omega, hx, by omega, HT.out.see x, ?_, ho, e4.below⟩
          show _ = _
          rw [← HM.out, HD.out, stf, if_neg H5.out, List.append_assoc]
          rfl
        case measure => simp [intOf]; omega
    · obtain rfl : n = k := by omega
      have hm := HM.out
      rw [← HN.out, List.drop_length, stf, List.append_nil] at hm
      go_wp2_with fail
      go_ret
      have hq := HQ.out
      rw [hm] at hq
      have hqn : q = N := by rw [← HQL.out, hm]; exact HNN.out
      subst hqn
      exact ⟨⟨A', c', rfl, hq⟩, HW.out⟩
end Go.Proofs.Ytaknddanggdplaa
-- AppN: append onto a row of bytes of the call's own, as a list of numbers. No condition.
namespace Go.Proofs.Ytaknddanggdplaa
open Go.RowKit
theorem wpList_appN {w0 W : World} (hW : Below w0.heap.size w0 W) {ops : Array Oper} {rest : List Oper} {o : Oper} {a : Act} {Q : Exit → Act → World → Prop} (hgd : o.guard = none) (s x : Operand)
    (ho : o.op = .call { callee := .builtin .append, args := #[s, x], argTypes := #[23, 23] })
    (base : Nat) (A : Option Addr) (n c : Nat) (l : List Nat) (hs : a.eval s = .slice A n c) (hn : l.length = n) (hown : Row W base 5 A c (bys l))
    (B : Option Addr) (m d : Nat) (news : List Nat) (hx : a.eval x = .slice B m d) (hm : news.length = m) (hr : PartOk W (B, d, news))
    (N : Nat) (hN : n + m = N) (hN2 : N ≤ 1000000) (hB : w0.heap.size ≤ base) (hbase : base ≤ W.heap.size)
    (h : ∀ (e3 : Ext w0) (A3 : Option Addr) (c3 : Nat), Hid (Below base W e3.W) → Hid (Row e3.W base 5 A3 c3 (bys (l ++ news))) → wpList Try.prog ops Q rest (a.put o.dst (.slice A3 N c3)) e3.W) : wpList Try.prog ops Q (o :: rest) a W := by
  obtain ⟨i0, hi, hz0, hz1, hz2⟩ := info_parts info_u8
  subst hN hm hn
  unfold Row at hown
  rw [bys_length] at hown
  refine wpList_app W hgd s x 23 ho base 5 i0 _ 1 Try.underlying23 hi hz0 hz1 hz2 rfl (.slice A l.length c) l.length (bys l) hs hown B news.length d (bys news) hx (by rw [bys_length]) hr.rd (bys_one _) (fun e => hr.nil (by cases news with | nil => rfl | cons x l => simp [bys] at e)) (by unfold maxLen; omega) (by omega) hbase fun v' w' h2 h3 _ => ?_
  rw [← bys_append] at h2
  obtain ⟨A3, c3, rfl, hrow⟩ := Row.of h2 (by simp [bys_length])
  have hbel : Below base W w' := (Below.refl base W).grown h3 hbase (fun k hk => (World.ownsRow.lt hown k hk).1)
  have := h ⟨w', own_grown hown hW hB hbase h3⟩ A3 c3 hbel hrow
  rw [bys_length, List.length_append]
  exact this
theorem lit_row' {w : World} {l : List Nat} {n : Nat} (hn : l.length = n) (h : n ≤ 1000) : Row (w.alloc (.cells (bys l).toArray 5)) w.heap.size 5 (some ⟨w.heap.size, 0, none⟩) n (bys l) := by
  have := own_lit (w := w) (cs := bys l) (n := n) (e := 5) (Nat.le_refl _) (by rw [bys_length]; exact hn) (by unfold maxLen; omega)
  unfold Row
  rw [bys_length, hn]
  exact this
/-- An empty row that the call lays. -/
theorem Row.lit0 (w : World) : Row (w.alloc (.cells #[] 5)) w.heap.size 5 (some ⟨w.heap.size, 0, none⟩) 0 (bys []) := own_lit (cs := []) (Nat.le_refl _) rfl (by decide)
theorem PartOk.lit {w : World} {l : List Nat} {d g : Nat} {cs : Array Value} {t : TypeId} (h : w.heap[g]? = some (.cells cs t)) (e : cs.toList = bys l) : PartOk w (some ⟨g, 0, none⟩, d, l) := ⟨by show Rd w _ (bys l); rw [← e]; exact Rd.blk h, fun _ h => by cases h⟩
theorem PartOk.alloc {w : World} {p : Part} (h : PartOk w p) (o : Obj) : PartOk (w.alloc o) p := h.below (below_alloc (Below.refl _ _) _)
end Go.Proofs.Ytaknddanggdplaa
-- PRaw: Fixed stuffing, told by each bit's number: plain facts. No condition.
namespace Go.Proofs.Ytaknddanggdplaa
open Go.RowKit
/-- How many bits are left ahead of the next stuff bit, at bit number i. -/
def leftR (every : Nat) (ah : Bool) (i : Nat) : Nat := if i = 0 then (if ah then 0 else every) else if i % every = 0 then 0 else every - i % every
theorem leftR_succ (every : Nat) (h : 1 ≤ every) (ah : Bool) (i : Nat) : leftR every ah (i + 1) = if leftR every ah i = 0 then every - 1 else leftR every ah i - 1 := by
  have hr := Nat.mod_lt i (show 0 < every by omega)
  have hdiv := Nat.div_add_mod i every
  have hs : (i + 1) % every = if i % every + 1 = every then 0 else i % every + 1 := by
    have e : i + 1 = every * (i / every) + (i % every + 1) := by omega
    rw [e, Nat.mul_add_mod]
    by_cases h2 : i % every + 1 = every
    · rw [if_pos h2, h2, Nat.mod_self]
    · rw [if_neg h2, Nat.mod_eq_of_lt (by omega)]
  unfold leftR
  rw [if_neg (show ¬ i + 1 = 0 by omega), hs]
  by_cases h0 : i = 0
  · subst h0
    rw [Nat.zero_mod]
    clear hs hr hdiv
    cases ah <;> simp <;> (repeat' split) <;> omega
  · rw [if_neg h0]
    generalize i % every = r at *
    clear hs hdiv
    (repeat' split) <;> omega
theorem leftR_zero {every : Nat} {ah : Bool} {i : Nat} (h : 1 ≤ every) : leftR every ah i = 0 ↔ (0 < i ∧ i % every = 0) ∨ (i = 0 ∧ ah = true) := by
  have hr := Nat.mod_lt i (show 0 < every by omega)
  unfold leftR
  by_cases h0 : i = 0
  · subst h0
    cases ah <;> simp; omega
  · rw [if_neg h0]
    by_cases hm : i % every = 0
    · rw [if_pos hm]; simp [hm]; omega
    · rw [if_neg hm]; simp [hm, h0]; omega
end Go.Proofs.Ytaknddanggdplaa
-- Ref04: The document's answer for layer 4: fixed stuffing, and the tally. No condition.
namespace Go.Proofs.Ytaknddanggdplaa
open Go.RowKit
theorem rd_tail {w : World} {g : Nat} {l : List Nat} {x : Nat} (h : Rd w (some ⟨g, 0, none⟩) (bys (x :: l))) : Rd w (some ⟨g, 1, none⟩) (bys l) := by
  intro j u hj
  refine ⟨_, rfl, ?_⟩
  have h1 : (bys (x :: l))[j + 1]? = some u := by rw [← hj]; simp [bys]
  obtain ⟨ad, e, hc⟩ := h (j + 1) u h1
  injection e with e
  subst e
  rw [← hc]
  unfold Addr.add
  by_cases h0 : j = 0 <;> simp [h0, Nat.add_comm]
set_option maxRecDepth 100000 in
set_option maxHeartbeats 4000000 in
theorem RawR_any (w : World) (A : Option Addr) (prev ev c n N : Nat) (ah : Bool) (l : List Nat) (h1 : 1 ≤ ev) (h2 : ev ≤ 64) (hp : prev ≤ 1) (hr : Rd w A (bys l)) (hn : l.length = n) (hn1 : 1 ≤ n) (hn2 : n ≤ 60000) (h01 : ∀ x ∈ l, x ≤ 1) (hN : (fixN ev ah prev l).length = N) (hN2 : N ≤ 200000) :
    Calls Try.prog 50 #[.int .u8 prev, .slice A n c, wayV ev ah] w fun e w' => (∃ g c', e = .returned (.slice (some ⟨g, 1, none⟩) N c') ∧ Rd w' (some ⟨g, 1, none⟩) (bys (fixN ev ah prev l))) ∧ Below w.heap.size w w' := by
  have HR := Lib.hid hr
  have HN := Lib.hid hn
  have H01 := Lib.hid h01
  have HNN := Lib.hid hN
  have hev : ¬ (ev : Int) = 0 := by omega
  have hN1 : 1 ≤ N := by have h := fixN_length ev ah prev l h1; rw [hN, hn, if_neg (by omega)] at h; generalize (n - 1) / ev = d at h; omega
  have hrow0 := lit_row' (w := w.alloc (.cells #[.int .i64 ev, .bool ah] 60)) (l := [prev]) (n := 1) rfl (by decide)
  have HROW0 := Lib.hid hrow0
  clear hr hn h01 hN hrow0
  go_enter Try.func50, Try.ntmps50
  go_wp2_with fail
  obtain ⟨W1, hW1⟩ : ∃ W1, w.alloc (.cells #[.int .i64 ev, .bool ah] 60) = W1 := ⟨_, rfl⟩
  have hq1 : W1.heap[w.heap.size]? = some (.cells #[.int .i64 ev, .bool ah] 60) := by rw [← hW1]; exact heap_new_at rfl
  have hb1 : Below w.heap.size w W1 := by rw [← hW1]; exact below_alloc (Below.refl _ _) _
  have hs1 : W1.heap.size = w.heap.size + 1 := by rw [← hW1]; simp
  rw [hW1] at HROW0
  rw [hW1, ← hs1]
  have HQ1 := Lib.hid hq1
  have HB1 := Lib.hid hb1
  have HS1 := Lib.hid hs1
  have HM0 : Hid ([prev] ++ fixE ev prev (leftR ev ah 0) (l.drop 0) = prev :: fixN ev ah prev l) := by show _ = _; rfl
  clear hW1 hq1 hb1 hs1
  go_loopw [7, 14] (fun v iv wr => ∃ (k last q : Nat) (A' : Option Addr) (c' : Nat) (out : List Nat), k ≤ n ∧ iv = .int .i64 k ∧ v = .slice A' q c' ∧ Hid (out.length = q) ∧ last ≤ 1 ∧ 1 ≤ q ∧ q ≤ N + 1 ∧ Hid (out[q - 1]? = some last) ∧ Hid (out ++ fixE ev last (leftR ev ah k) (l.drop k) = prev :: fixN ev ah prev l) ∧ Hid (Row wr W1.heap.size 5 A' c' (bys out)) ∧ Hid (Below W1.heap.size W1 wr)) (fun _ iv _ => n - (intOf iv).toNat)
  case atStart => exact ⟨0, prev, 1, _, _, [prev], by omega, rfl, rfl, rfl, hp, by omega, by omega, rfl, HM0, HROW0, below_alloc (Below.refl _ _) _⟩
  case round =>
    obtain ⟨k, last, q, A', c', out, hk, rfl, rfl, HQL, hl1, hq1, hqN, HLA, HM, HQ, HW⟩ := hrel
    by_cases hkn : k < n
    · have hkl : k < l.length := by rw [HN.out]; exact hkn
      have hw1 : Below w.heap.size w wr := below_trans HB1.out HW.out
      obtain ⟨ad, rfl, ca⟩ := (HR.out.below hw1).at_ k hkl
      have hx := H01.out l[k] (List.getElem_mem hkl)
      have hd : l.drop k = l[k] :: l.drop (k + 1) := List.drop_eq_getElem_cons hkl
      obtain ⟨x, hxe⟩ : ∃ x, l[k] = x := ⟨_, rfl⟩
      rw [hxe] at ca hx hd
      have hbq := heap_below HW.out HQ1.out
      have w0 : wr.cell? ⟨w.heap.size, 0, none⟩ = some (.int .i64 ev) := cell_of_heap hbq 0 _ rfl
      have w1 : wr.cell? ⟨w.heap.size, 1, none⟩ = some (.bool ah) := cell_of_heap hbq 1 _ rfl
      have hm := HM.out
      rw [hd] at hm
      have hls := leftR_succ ev h1 ah k
      obtain ⟨ga, hA', hga, -, hcq⟩ := row_some HQ.out HQL.out (by omega)
      subst hA'
      have cl := row_at HQ.out (Below.refl _ _) (q - 1) last HLA.out
      have hbnd := congrArg List.length hm
      rw [List.length_append, List.length_cons, HNN.out, HQL.out] at hbnd
      have hqi : (q : Int) - 1 = ((q - 1 : Nat) : Int) := by omega
      have hql : ((q - 1 : Nat) : Int) < (q : Int) := by omega
      have hsz : W1.heap.size ≤ wr.heap.size := HW.out.size
      have HD := Lib.hid hd
      have HMM := Lib.hid hm
      have HLS := Lib.hid hls
      clear hw1 hxe hd hbq hm hls
      by_cases h0 : leftR ev ah k = 0
      · have hz := (leftR_zero h1).1 h0
        have hq2 : q + 2 ≤ N + 1 := by
          rw [h0, fixE, if_pos rfl] at hbnd
          simp only [List.length_cons] at hbnd
          omega
        obtain ⟨y, hy⟩ : ∃ y, 1 - last = y := ⟨_, rfl⟩
        have hyi : (1 : Int) - (last : Int) = (y : Int) := by omega
        have hyw : IntKind.u8.wrap ((1 : Int) - (last : Int)) = (y : Int) := by rw [IntWalk.u8_in _ ⟨by omega, by omega⟩]; omega
        have HY := Lib.hid hy
        have H0 := Lib.hid h0
        have hy1 : y ≤ 1 := by omega
        clear hbnd hy h0
        rcases hz with ⟨hk0, hkm⟩ | ⟨rfl, rfl⟩
        · have hkp : (0 : Int) < (k : Int) := by omega
          have hm1 : (k : Int) % (ev : Int) = 0 := by have : (k : Int) % (ev : Int) = ((k % ev : Nat) : Int) := by simp
                                                      rw [this, hkm]; rfl
          have hm2 : (k : Int).tmod (ev : Int) = 0 := by rw [Int.tmod_eq_emod_of_nonneg (by omega)]; exact hm1
          clear hkm
          go_wp2_with (first
            | (at_builtin; refine wpList_appN (w0 := W1) (below_alloc HW.out _) rfl (.tmp 36) (.tmp 44) rfl W1.heap.size (some ⟨ga, 0, none⟩) q c' out rfl HQL.out (HQ.out.alloc _) (some ⟨wr.heap.size, 0, none⟩) 1 1 [y] rfl rfl (PartOk.lit (heap_new_at rfl) rfl) (q + 1) rfl (by omega) (Nat.le_refl _) (below_alloc HW.out _).size ?_; intro e3 A3 c3 HB3 HO3)
            | (at_builtin; refine wpList_appN (w0 := W1) (below_alloc e3.below _) rfl (.tmp 46) (.tmp 48) rfl W1.heap.size A3 (q + 1) c3 (out ++ [y]) rfl (by rw [List.length_append, HQL.out]; rfl) (HO3.out.alloc _) (some ⟨e3.W.heap.size, 0, none⟩) 1 1 [x] rfl rfl (PartOk.lit (heap_new_at rfl) rfl) (q + 1 + 1) rfl (by omega) (Nat.le_refl _) (below_alloc e3.below _).size ?_; intro e4 A4 c4 HB4 HO4))
          go_roundw
          case rel =>
            refine ⟨k + 1, x, q + 1 + 1, A4, c4, out ++ [y] ++ [x], by omega, by go_num, rfl, by show _ = _; rw [List.length_append, List.length_append, HQL.out]; rfl, hx, by omega, by omega, ?_, ?_, HO4.out, e4.below⟩
            · show _ = _
              rw [List.getElem?_append_right (by rw [List.length_append, HQL.out]; simp), List.length_append, HQL.out]; simp
            · show _ = _
              rw [HLS.out, if_pos H0.out]
              have h := HMM.out
              rw [H0.out, fixE, if_pos rfl, HY.out] at h
              rw [← h]; simp
          case measure => simp [intOf]; omega
        · have ca0 : wr.cell? ad = some (.int .u8 (x : Int)) := by simpa [Addr.add] using ca
          go_wp2_with (first
            | (at_builtin; refine wpList_appN (w0 := W1) (below_alloc HW.out _) rfl (.tmp 36) (.tmp 44) rfl W1.heap.size (some ⟨ga, 0, none⟩) q c' out rfl HQL.out (HQ.out.alloc _) (some ⟨wr.heap.size, 0, none⟩) 1 1 [y] rfl rfl (PartOk.lit (heap_new_at rfl) rfl) (q + 1) rfl (by omega) (Nat.le_refl _) (below_alloc HW.out _).size ?_; intro e3 A3 c3 HB3 HO3)
            | (at_builtin; refine wpList_appN (w0 := W1) (below_alloc e3.below _) rfl (.tmp 46) (.tmp 48) rfl W1.heap.size A3 (q + 1) c3 (out ++ [y]) rfl (by rw [List.length_append, HQL.out]; rfl) (HO3.out.alloc _) (some ⟨e3.W.heap.size, 0, none⟩) 1 1 [x] rfl rfl (PartOk.lit (heap_new_at rfl) rfl) (q + 1 + 1) rfl (by omega) (Nat.le_refl _) (below_alloc e3.below _).size ?_; intro e4 A4 c4 HB4 HO4))
          go_roundw
          case rel =>
            refine ⟨0 + 1, x, q + 1 + 1, A4, c4, out ++ [y] ++ [x], by omega, by go_num, rfl, by show _ = _; rw [List.length_append, List.length_append, HQL.out]; rfl, hx, by omega, by omega, ?_, ?_, HO4.out, e4.below⟩
            · show _ = _
              rw [List.getElem?_append_right (by rw [List.length_append, HQL.out]; simp), List.length_append, HQL.out]; simp
            · show _ = _
              rw [HLS.out, if_pos H0.out]
              have h := HMM.out
              rw [H0.out, fixE, if_pos rfl, HY.out] at h
              rw [← h]; simp
          case measure => simp [intOf]; omega
      · have hnz : ¬ ((0 < k ∧ k % ev = 0) ∨ (k = 0 ∧ ah = true)) := fun h => h0 ((leftR_zero h1).2 h)
        have hq2 : q + 1 ≤ N + 1 := by
          rw [fixE, if_neg h0] at hbnd
          simp only [List.length_cons] at hbnd
          omega
        have H0 := Lib.hid h0
        clear hbnd h0
        by_cases hk0 : 0 < k
        · have hkm : ¬ k % ev = 0 := fun h => hnz (Or.inl ⟨hk0, h⟩)
          have hkp : (0 : Int) < (k : Int) := by omega
          have hkz : ¬ (k : Int) = 0 := by omega
          have hm1 : ¬ (k : Int) % (ev : Int) = 0 := by have : (k : Int) % (ev : Int) = ((k % ev : Nat) : Int) := by simp
                                                        rw [this]; omega
          have hm2 : ¬ (k : Int).tmod (ev : Int) = 0 := by rw [Int.tmod_eq_emod_of_nonneg (by omega)]; exact hm1
          clear hkm hnz
          go_wp2_with (first
            | (at_builtin; refine wpList_appN (w0 := W1) (below_alloc HW.out _) rfl (.tmp 46) (.tmp 48) rfl W1.heap.size (some ⟨ga, 0, none⟩) q c' out rfl HQL.out (HQ.out.alloc _) (some ⟨wr.heap.size, 0, none⟩) 1 1 [x] rfl rfl (PartOk.lit (heap_new_at rfl) rfl) (q + 1) rfl (by omega) (Nat.le_refl _) (below_alloc HW.out _).size ?_; intro e4 A4 c4 HB4 HO4))
          go_roundw
          case rel =>
            refine ⟨k + 1, x, q + 1, A4, c4, out ++ [x], by omega, by go_num, rfl, by show _ = _; rw [List.length_append, HQL.out]; rfl, hx, by omega, by omega, ?_, ?_, HO4.out, e4.below⟩
            · show _ = _
              rw [List.getElem?_append_right (by rw [HQL.out]; simp), HQL.out]; simp
            · show _ = _
              rw [HLS.out, if_neg H0.out]
              have h := HMM.out
              rw [fixE, if_neg H0.out] at h
              rw [← h]; simp
          case measure => simp [intOf]; omega
        · obtain rfl : k = 0 := by omega
          have hah : ah = false := by cases ah with
            | false => rfl
            | true => exact absurd (Or.inr ⟨rfl, rfl⟩) hnz
          subst hah
          have ca0 : wr.cell? ad = some (.int .u8 (x : Int)) := by simpa [Addr.add] using ca
          clear hnz
          go_wp2_with (first
            | (at_builtin; refine wpList_appN (w0 := W1) (below_alloc HW.out _) rfl (.tmp 46) (.tmp 48) rfl W1.heap.size (some ⟨ga, 0, none⟩) q c' out rfl HQL.out (HQ.out.alloc _) (some ⟨wr.heap.size, 0, none⟩) 1 1 [x] rfl rfl (PartOk.lit (heap_new_at rfl) rfl) (q + 1) rfl (by omega) (Nat.le_refl _) (below_alloc HW.out _).size ?_; intro e4 A4 c4 HB4 HO4))
          go_roundw
          case rel =>
            refine ⟨0 + 1, x, q + 1, A4, c4, out ++ [x], by omega, by go_num, rfl, by show _ = _; rw [List.length_append, HQL.out]; rfl, hx, by omega, by omega, ?_, ?_, HO4.out, e4.below⟩
            · show _ = _
              rw [List.getElem?_append_right (by rw [HQL.out]; simp), HQL.out]; simp
            · show _ = _
              rw [HLS.out, if_neg H0.out]
              have h := HMM.out
              rw [fixE, if_neg H0.out] at h
              rw [← h]; simp
          case measure => simp [intOf]; omega
    · obtain rfl : n = k := by omega
      have hm := HM.out
      rw [← HN.out, List.drop_length, fixE, List.append_nil] at hm
      obtain ⟨ga, hA', hga, hca, hcq⟩ := row_some HQ.out HQL.out (by omega)
      subst hA'
      have hqn : q = N + 1 := by rw [← HQL.out, hm, List.length_cons, HNN.out]
      subst hqn
      have HM2 := Lib.hid hm
      have z1 : (1 : Int) ≤ ((N + 1 : Nat) : Int) := by omega
      have z2 : ((N + 1 : Nat) : Int) ≤ (c' : Int) := by omega
      have z3 : ¬ c' = 1 := by omega
      clear hm
      go_wp2_with fail
      go_ret
      have hrow := HQ.out.rd
      rw [HM2.out] at hrow
      exact ⟨⟨ga, _, rfl, rd_tail hrow⟩, below_trans HB1.out HW.out⟩
end Go.Proofs.Ytaknddanggdplaa
-- Ref05: What the document's answer for layer 5 tells of sizes, codes, and which frames may be: the same as the program. No condition.
namespace Go.Proofs.Ytaknddanggdplaa
open Go.RowKit

/-- The size that is told by a code, by definition. -/
def sizeR (k c : Int) : Option Int :=
  if k = 3 ∧ 0 ≤ c ∧ c < 2048 then some (c + 1)
  else if (k = 1 ∨ k = 2) ∧ 0 ≤ c ∧ c ≤ 8 then some c
  else if k = 2 ∧ 9 ≤ c ∧ c ≤ 15 then some (if c = 9 then 12 else if c = 10 then 16 else if c = 11 then 20 else if c = 12 then 24 else if c = 13 then 32 else if c = 14 then 48 else 64)
  else none
theorem sizeR_none {k c : Int} (h1 : ¬ (k = 3 ∧ 0 ≤ c ∧ c < 2048)) (h2 : ¬ ((k = 1 ∨ k = 2) ∧ 0 ≤ c ∧ c ≤ 8)) (h3 : ¬ (k = 2 ∧ 9 ≤ c ∧ c ≤ 15)) : sizeR k c = none := by
  unfold sizeR; rw [if_neg h1, if_neg h2, if_neg h3]
theorem sizeR_9 : sizeR 2 9 = some 12 := by decide
theorem sizeR_10 : sizeR 2 10 = some 16 := by decide
theorem sizeR_11 : sizeR 2 11 = some 20 := by decide
theorem sizeR_12 : sizeR 2 12 = some 24 := by decide
theorem sizeR_13 : sizeR 2 13 = some 32 := by decide
theorem sizeR_14 : sizeR 2 14 = some 48 := by decide
theorem sizeR_15 : sizeR 2 15 = some 64 := by decide
theorem sizeR_code {k c n : Int} (h : sizeR k c = some n) : codeF k n = some c ∧ 0 ≤ c ∧ c < 2048 := by
  unfold sizeR at h
  by_cases h1 : k = 3 ∧ 0 ≤ c ∧ c < 2048
  · rw [if_pos h1] at h
    obtain ⟨rfl, h2, h3⟩ := h1
    injection h with h
    subst h
    refine ⟨?_, h2, h3⟩
    unfold codeF loOf hiOf
    simp
    omega
  · rw [if_neg h1] at h
    by_cases h2 : (k = 1 ∨ k = 2) ∧ 0 ≤ c ∧ c ≤ 8
    · rw [if_pos h2] at h
      injection h with h
      subst h
      obtain ⟨h3, h4, h5⟩ := h2
      refine ⟨?_, h4, by omega⟩
      rcases h3 with rfl | rfl
      · unfold codeF loOf hiOf
        simp
        omega
      · have : c = 0 ∨ c = 1 ∨ c = 2 ∨ c = 3 ∨ c = 4 ∨ c = 5 ∨ c = 6 ∨ c = 7 ∨ c = 8 := by omega
        rcases this with rfl | rfl | rfl | rfl | rfl | rfl | rfl | rfl | rfl <;> decide
    · rw [if_neg h2] at h
      by_cases h3 : k = 2 ∧ 9 ≤ c ∧ c ≤ 15
      · rw [if_pos h3] at h
        injection h with h
        subst h
        obtain ⟨rfl, h4, h5⟩ := h3
        refine ⟨?_, by omega, by omega⟩
        have : c = 9 ∨ c = 10 ∨ c = 11 ∨ c = 12 ∨ c = 13 ∨ c = 14 ∨ c = 15 := by omega
        rcases this with rfl | rfl | rfl | rfl | rfl | rfl | rfl <;> decide
      · rw [if_neg h3] at h; cases h
theorem code_sizeR {k c n : Int} (h : codeF k n = some c) : sizeR k c = some n ∧ 0 ≤ c ∧ c < 2048 := by
  have hs := codeF_kind k n (by rw [h]; rfl)
  rcases hs with ⟨rfl, h0, h1⟩ | ⟨rfl, h0, h1⟩ | ⟨rfl, h0, h1⟩
  · unfold codeF loOf hiOf at h
    simp at h
    obtain ⟨⟨-, -⟩, rfl⟩ := h
    unfold sizeR
    simp
    omega
  · unfold codeF at h
    rw [if_pos rfl] at h
    by_cases hc : fdSizes[lb fdSizes n]? = some n
    · rw [if_pos hc] at h
      injection h with h
      have hl : lb fdSizes n < 16 := (List.getElem?_eq_some_iff.1 hc).1
      generalize lb fdSizes n = i at *
      subst h
      have : i = 0 ∨ i = 1 ∨ i = 2 ∨ i = 3 ∨ i = 4 ∨ i = 5 ∨ i = 6 ∨ i = 7 ∨ i = 8 ∨ i = 9 ∨ i = 10 ∨ i = 11 ∨ i = 12 ∨ i = 13 ∨ i = 14 ∨ i = 15 := by omega
      refine ⟨?_, by omega, by omega⟩
      rcases this with rfl | rfl | rfl | rfl | rfl | rfl | rfl | rfl | rfl | rfl | rfl | rfl | rfl | rfl | rfl | rfl <;> simp [fdSizes] at hc <;> subst hc <;> decide
    · rw [if_neg hc] at h; cases h
  · unfold codeF loOf hiOf at h
    simp at h
    obtain ⟨⟨-, -⟩, rfl⟩ := h
    unfold sizeR
    simp
    omega
set_option maxRecDepth 100000 in
set_option maxHeartbeats 400000 in
theorem SizeR_any (k c : Int) (w : World) (h0 : 0 ≤ c) (h1 : c < 2048) : Calls Try.prog 103 #[.int .i64 k, .int .i64 c] w fun e w' => e = .returned (codeV (sizeR k c)) ∧ w = w' := by
  by_cases k3 : k = 3
  · subst k3
    have hs : sizeR 3 c = some (c + 1) := by unfold sizeR; simp; omega
    rw [hs, codeV_some]
    clear hs
    go_enter Try.func103, Try.ntmps103
    go_wp2
    go_ret2
    exact ⟨rfl, rfl⟩
  · have b3 : (k == 3) = false := by simp [k3]
    by_cases k12 : (k = 1 ∨ k = 2) ∧ c ≤ 8
    · have hs : sizeR k c = some c := by unfold sizeR; rw [if_neg (by omega), if_pos (by omega)]
      rw [hs, codeV_some]
      obtain ⟨k12, hc⟩ := k12
      clear hs k3
      rcases k12 with rfl | rfl
      all_goals
        go_enter Try.func103, Try.ntmps103
        go_wp2
        go_ret2
        exact ⟨rfl, rfl⟩
    · by_cases k2 : k = 2 ∧ c ≤ 15
      · obtain ⟨rfl, hc⟩ := k2
        have : c = 9 ∨ c = 10 ∨ c = 11 ∨ c = 12 ∨ c = 13 ∨ c = 14 ∨ c = 15 := by omega
        clear k12 k3 b3 h0 h1 hc
        have ix0 : ∀ w, (Instr.index 134 (.agg #[.int .i64 12, .int .i64 16, .int .i64 20, .int .i64 24, .int .i64 32, .int .i64 48, .int .i64 64]) (.int .i64 0)).run Try.prog w = .ok (.int .i64 12) w := fun _ => by kernel_rfl
        have ix1 : ∀ w, (Instr.index 134 (.agg #[.int .i64 12, .int .i64 16, .int .i64 20, .int .i64 24, .int .i64 32, .int .i64 48, .int .i64 64]) (.int .i64 1)).run Try.prog w = .ok (.int .i64 16) w := fun _ => by kernel_rfl
        have ix2 : ∀ w, (Instr.index 134 (.agg #[.int .i64 12, .int .i64 16, .int .i64 20, .int .i64 24, .int .i64 32, .int .i64 48, .int .i64 64]) (.int .i64 2)).run Try.prog w = .ok (.int .i64 20) w := fun _ => by kernel_rfl
        have ix3 : ∀ w, (Instr.index 134 (.agg #[.int .i64 12, .int .i64 16, .int .i64 20, .int .i64 24, .int .i64 32, .int .i64 48, .int .i64 64]) (.int .i64 3)).run Try.prog w = .ok (.int .i64 24) w := fun _ => by kernel_rfl
        have ix4 : ∀ w, (Instr.index 134 (.agg #[.int .i64 12, .int .i64 16, .int .i64 20, .int .i64 24, .int .i64 32, .int .i64 48, .int .i64 64]) (.int .i64 4)).run Try.prog w = .ok (.int .i64 32) w := fun _ => by kernel_rfl
        have ix5 : ∀ w, (Instr.index 134 (.agg #[.int .i64 12, .int .i64 16, .int .i64 20, .int .i64 24, .int .i64 32, .int .i64 48, .int .i64 64]) (.int .i64 5)).run Try.prog w = .ok (.int .i64 48) w := fun _ => by kernel_rfl
        have ix6 : ∀ w, (Instr.index 134 (.agg #[.int .i64 12, .int .i64 16, .int .i64 20, .int .i64 24, .int .i64 32, .int .i64 48, .int .i64 64]) (.int .i64 6)).run Try.prog w = .ok (.int .i64 64) w := fun _ => by kernel_rfl
        rcases this with rfl | rfl | rfl | rfl | rfl | rfl | rfl
        all_goals
          first | rw [sizeR_9] | rw [sizeR_10] | rw [sizeR_11] | rw [sizeR_12] | rw [sizeR_13] | rw [sizeR_14] | rw [sizeR_15]
          rw [codeV_some]
          go_enter Try.func103, Try.ntmps103
          go_wp2
          go_ret2
          exact ⟨rfl, rfl⟩
      · rw [sizeR_none (by omega) (by omega) (by omega), codeV_none]
        by_cases k1 : k = 1
        · subst k1
          have hc : 8 < c := by omega
          clear k12 k2 k3
          go_enter Try.func103, Try.ntmps103
          go_wp2
          go_ret2
          exact ⟨rfl, rfl⟩
        · have b1 : (k == 1) = false := by simp [k1]
          by_cases kk : k = 2
          · subst kk
            have hc : 15 < c := by omega
            clear k12 k2 k3 k1
            go_enter Try.func103, Try.ntmps103
            go_wp2
            go_ret2
            exact ⟨rfl, rfl⟩
          · have b2 : (k == 2) = false := by simp [kk]
            clear k12 k2 k3 k1 kk
            go_enter Try.func103, Try.ntmps103
            go_wp2
            go_ret2
            exact ⟨rfl, rfl⟩
set_option maxRecDepth 100000 in
set_option maxHeartbeats 400000 in
theorem CodeR_any (k n : Int) (w : World) : Calls Try.prog 73 #[.int .i64 k, .int .i64 n] w fun e w' => e = .returned (codeV (codeF k n)) ∧ w = w' := by
  have hyes : ∀ c : Nat, sizeR k c = some n → codeF k n = some (c : Int) := fun c hc => (sizeR_code hc).1
  have hno : (∀ c : Nat, c < 2048 → sizeR k c ≠ some n) → codeF k n = none := by
    intro h
    cases hc : codeF k n with
    | none => rfl
    | some c =>
      obtain ⟨h1, h2, h3⟩ := code_sizeR hc
      obtain ⟨m, rfl⟩ := Int.eq_ofNat_of_zero_le h2
      exact absurd h1 (h m (by omega))
  generalize codeF k n = o at *
  have HY := Lib.hid hyes
  have HN := Lib.hid hno
  clear hyes hno
  go_enter Try.func73, Try.ntmps73
  go_wp2_with fail
  go_loop [6] (fun u => ∃ j : Nat, j ≤ 2048 ∧ Hid (∀ c : Nat, c < j → sizeR k c ≠ some n) ∧ u = .int .i64 j) (fun u => 2048 - (intOf u).toNat)
  case atStart => exact ⟨0, by omega, fun c hc => absurd hc (by omega), rfl⟩
  case round =>
    obtain ⟨j, hj, hprev, rfl⟩ := hrel
    by_cases hlt : j < 2048
    · cases hs : sizeR k j with
      | none =>
        have HS := Lib.hid hs
        clear hs
        go_wp2_with (go_at_call 103; refine (SizeR_any k j _ (by omega) (by omega)).mono ?_; rintro e w' ⟨rfl, rfl⟩; rw [HS.out]; simp only [codeV_none])
        go_round
        case rel =>
          refine ⟨j + 1, by omega, fun c hc => ?_, by go_num⟩
          by_cases e : c = j
          · subst e; rw [HS.out]; simp
          · exact hprev.out c (by omega)
        case measure => simp [intOf]; omega
      | some m =>
        by_cases hm : m = n
        · subst hm
          have HS := Lib.hid hs
          clear hs
          go_wp2_with (go_at_call 103; refine (SizeR_any k j _ (by omega) (by omega)).mono ?_; rintro e w' ⟨rfl, rfl⟩; rw [HS.out]; simp only [codeV_some])
          go_ret2
          exact ⟨by rw [HY.out j HS.out]; rfl, rfl⟩
        · have HS := Lib.hid hs
          have hb : (m == n) = false := by simp [hm]
          have HM := Lib.hid hm
          clear hs hm
          go_wp2_with (go_at_call 103; refine (SizeR_any k j _ (by omega) (by omega)).mono ?_; rintro e w' ⟨rfl, rfl⟩; rw [HS.out]; simp only [codeV_some])
          go_round
          case rel =>
            refine ⟨j + 1, by omega, fun c hc => ?_, by go_num⟩
            by_cases e : c = j
            · subst e; rw [HS.out]; intro e; injection e with e; exact HM.out e
            · exact hprev.out c (by omega)
          case measure => simp [intOf]; omega
    · have hj' : j = 2048 := by omega
      subst hj'
      go_wp2_with fail
      go_ret2
      exact ⟨by rw [HN.out hprev.out]; rfl, rfl⟩
end Go.Proofs.Ytaknddanggdplaa
-- RefCheck: Which frames may be, by the document's answer: the same as the program's. No condition.
namespace Go.Proofs.Ytaknddanggdplaa
open Go.RowKit

theorem okF_none (f : Fr) (h : codeF f.kind f.data.length = none) : okF f = false := by unfold okF; simp [h]
/-- One kind after the other: which frames may be. -/
theorem okF_1 (f : Fr) (hk : f.kind = 1) (h : (codeF f.kind f.data.length).isSome = true) :
    okF f = decide (f.id < (if f.ext then 536870912 else 2048) ∧ ¬ (f.rtr = true ∧ 0 < f.data.length) ∧ f.brs = false ∧ f.esi = false ∧ f.sec = false ∧ f.sdt = 0 ∧ f.vcid = 0 ∧ f.af = 0) := by
  rw [Bool.eq_iff_iff, okF_iff, decide_eq_true_eq]
  constructor
  · rintro ⟨k1, k2, k3, k4, k5, k6, k7, k8, k9, k10, k11, k12⟩
    refine ⟨k3, ?_, k7 (by omega), k8 (by omega), k9 (by omega), k10 (by omega), k11 (by omega), k12 (by omega)⟩
    rintro ⟨h1, h2⟩
    rw [k6 h1] at h2; simp at h2
  · rintro ⟨h1, h2, h3, h4, h5, h6, h7, h8⟩
    refine ⟨by omega, h, h1, by omega, by omega, ?_, fun _ => h3, fun _ => h4, fun _ => h5, fun _ => h6, fun _ => h7, fun _ => h8⟩
    intro hr
    by_cases hd : f.data = []
    · exact hd
    · exact absurd ⟨hr, List.length_pos_iff.2 hd⟩ h2
theorem okF_2 (f : Fr) (hk : f.kind = 2) (h : (codeF f.kind f.data.length).isSome = true) :
    okF f = decide (f.id < 2048 ∧ f.ext = false ∧ f.rtr = false ∧ f.sec = false ∧ f.sdt = 0 ∧ f.vcid = 0 ∧ f.af = 0) := by
  rw [Bool.eq_iff_iff, okF_iff, decide_eq_true_eq]
  constructor
  · rintro ⟨k1, k2, k3, k4, k5, k6, k7, k8, k9, k10, k11, k12⟩
    have he := k4 (by omega)
    rw [he] at k3
    exact ⟨by simpa using k3, he, k5 (by omega), k9 (by omega), k10 (by omega), k11 (by omega), k12 (by omega)⟩
  · rintro ⟨h1, h2, h3, h4, h5, h6, h7⟩
    exact ⟨by omega, h, by rw [h2]; simpa using h1, fun _ => h2, fun _ => h3, fun hr => (by rw [h3] at hr; cases hr), by omega, by omega, fun _ => h4, fun _ => h5, fun _ => h6, fun _ => h7⟩
theorem okF_3 (f : Fr) (hk : f.kind = 3) (h : (codeF f.kind f.data.length).isSome = true) :
    okF f = decide (f.id < 2048 ∧ f.ext = false ∧ f.rtr = false ∧ f.brs = false ∧ f.esi = false) := by
  rw [Bool.eq_iff_iff, okF_iff, decide_eq_true_eq]
  constructor
  · rintro ⟨k1, k2, k3, k4, k5, k6, k7, k8, k9, k10, k11, k12⟩
    have he := k4 (by omega)
    rw [he] at k3
    exact ⟨by simpa using k3, he, k5 (by omega), k7 (by omega), k8 (by omega)⟩
  · rintro ⟨h1, h2, h3, h4, h5⟩
    exact ⟨by omega, h, by rw [h2]; simpa using h1, fun _ => h2, fun _ => h3, fun hr => (by rw [h3] at hr; cases hr), fun _ => h4, fun _ => h5, by omega, by omega, by omega, by omega⟩
set_option maxRecDepth 100000 in
set_option maxHeartbeats 4000000 in
theorem CheckR_1 (f : Fr) (A : Option Addr) (c : Nat) (w : World) (hk : f.kind = 1) (co : Int) (hco : codeF f.kind f.data.length = some co) :
    Calls Try.prog 59 #[frv f (.slice A f.data.length c)] w fun e w' => e = .returned (errV (okF f)) ∧ Below w.heap.size w w' := by
  have hok := okF_1 f hk (by rw [hco]; rfl)
  have hc := fun W => CodeR_any f.kind f.data.length W
  rw [hco] at hc
  clear hco
  generalize okF f = ok at *
  obtain ⟨kind, id, ext, rtr, brs, esi, sec, sdt, vcid, af, data⟩ := f
  dsimp only [frv] at *
  subst hk
  generalize data.length = n at *
  have HOK := Lib.hid hok
  have HC := Lib.hid hc
  clear hok hc
  go_enter Try.func59, Try.ntmps59
  go_wp2_with (go_at_call 73; refine (HC.out _).mono ?_; rintro e w' ⟨rfl, rfl⟩; simp only [codeV_some])
  all_goals
    go_ret
    refine ⟨ret_int ?_, below_alloc (below_alloc (Below.refl _ _) _) _⟩
    rw [HOK.out]
    clear HOK HC
    first
      | (simp [*]; done)
      | (simp [*]; omega)
      | (simp_all; done)
      | (simp_all; omega)
set_option maxRecDepth 100000 in
set_option maxHeartbeats 4000000 in
theorem CheckR_2 (f : Fr) (A : Option Addr) (c : Nat) (w : World) (hk : f.kind = 2) (co : Int) (hco : codeF f.kind f.data.length = some co) :
    Calls Try.prog 59 #[frv f (.slice A f.data.length c)] w fun e w' => e = .returned (errV (okF f)) ∧ Below w.heap.size w w' := by
  have hok := okF_2 f hk (by rw [hco]; rfl)
  have hc := fun W => CodeR_any f.kind f.data.length W
  rw [hco] at hc
  clear hco
  generalize okF f = ok at *
  obtain ⟨kind, id, ext, rtr, brs, esi, sec, sdt, vcid, af, data⟩ := f
  dsimp only [frv] at *
  subst hk
  generalize data.length = n at *
  have HOK := Lib.hid hok
  have HC := Lib.hid hc
  clear hok hc
  go_enter Try.func59, Try.ntmps59
  go_wp2_with (go_at_call 73; refine (HC.out _).mono ?_; rintro e w' ⟨rfl, rfl⟩; simp only [codeV_some])
  all_goals
    go_ret
    refine ⟨ret_int ?_, below_alloc (below_alloc (Below.refl _ _) _) _⟩
    rw [HOK.out]
    clear HOK HC
    first
      | (simp [*]; done)
      | (simp [*]; omega)
      | (simp_all; done)
      | (simp_all; omega)
set_option maxRecDepth 100000 in
set_option maxHeartbeats 4000000 in
theorem CheckR_3 (f : Fr) (A : Option Addr) (c : Nat) (w : World) (hk : f.kind = 3) (co : Int) (hco : codeF f.kind f.data.length = some co) :
    Calls Try.prog 59 #[frv f (.slice A f.data.length c)] w fun e w' => e = .returned (errV (okF f)) ∧ Below w.heap.size w w' := by
  have hok := okF_3 f hk (by rw [hco]; rfl)
  have hc := fun W => CodeR_any f.kind f.data.length W
  rw [hco] at hc
  clear hco
  generalize okF f = ok at *
  obtain ⟨kind, id, ext, rtr, brs, esi, sec, sdt, vcid, af, data⟩ := f
  dsimp only [frv] at *
  subst hk
  generalize data.length = n at *
  have HOK := Lib.hid hok
  have HC := Lib.hid hc
  clear hok hc
  go_enter Try.func59, Try.ntmps59
  go_wp2_with (go_at_call 73; refine (HC.out _).mono ?_; rintro e w' ⟨rfl, rfl⟩; simp only [codeV_some])
  all_goals
    go_ret
    refine ⟨ret_int ?_, below_alloc (below_alloc (Below.refl _ _) _) _⟩
    rw [HOK.out]
    clear HOK HC
    first
      | (simp [*]; done)
      | (simp [*]; omega)
      | (simp_all; done)
      | (simp_all; omega)
set_option maxRecDepth 100000 in
set_option maxHeartbeats 1000000 in
theorem CheckR_any (f : Fr) (A : Option Addr) (c : Nat) (w : World) :
    Calls Try.prog 59 #[frv f (.slice A f.data.length c)] w fun e w' => e = .returned (errV (okF f)) ∧ Below w.heap.size w w' := by
  cases hco : codeF f.kind f.data.length with
  | none =>
    have hok := okF_none f hco
    have hc := fun W => CodeR_any f.kind f.data.length W
    rw [hco] at hc
    rw [hok]
    clear hco hok
    obtain ⟨kind, id, ext, rtr, brs, esi, sec, sdt, vcid, af, data⟩ := f
    dsimp only [frv] at *
    generalize data.length = n at *
    have HC := Lib.hid hc
    clear hc
    go_enter Try.func59, Try.ntmps59
    go_wp2_with (go_at_call 73; refine (HC.out _).mono ?_; rintro e w' ⟨rfl, rfl⟩; simp only [codeV_none])
    go_ret
    exact ⟨rfl, below_alloc (below_alloc (Below.refl _ _) _) _⟩
  | some co =>
    rcases codeF_kind _ _ (by rw [hco]; rfl) with ⟨hk, -⟩ | ⟨hk, -⟩ | ⟨hk, -⟩
    · exact CheckR_1 f A c w hk co hco
    · exact CheckR_2 f A c w hk co hco
    · exact CheckR_3 f A c w hk co hco
end Go.Proofs.Ytaknddanggdplaa
