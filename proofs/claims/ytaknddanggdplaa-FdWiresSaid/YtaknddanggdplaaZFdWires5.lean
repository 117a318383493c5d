/- The law FdWires answers true at every input, and leaves its input as it was. No condition. (With all that it needs.) -/
import Derived.Test.YtaknddanggdplaaZFdWires4
-- Ref07: The document's answer for layer 7: an FD frame's bits ahead of all stuffing. No condition.
namespace Go.Proofs.Ytaknddanggdplaa
open Go.RowKit
theorem ofR_2 : OfRK 2 17 92251 65536 := by
  refine ⟨fun W => ?_, by decide, by decide, by decide, by decide⟩
  go_enter Try.func100, Try.ntmps100
  go_wp2
  go_ret3
  exact ⟨rfl, rfl⟩
theorem ofR_3 : OfRK 3 21 1058969 1048576 := by
  refine ⟨fun W => ?_, by decide, by decide, by decide, by decide⟩
  go_enter Try.func100, Try.ntmps100
  go_wp2
  go_ret3
  exact ⟨rfl, rfl⟩
theorem ofR_S (n : Nat) : OfRK (kindS n) (sizeS n) (polyS n) (startS n) := by
  unfold kindS sizeS polyS startS
  by_cases h : 16 < n
  · simp only [if_pos h]; exact ofR_3
  · simp only [if_neg h]; exact ofR_2
theorem fdSumR_any (n : Nat) (w : World) : Calls Try.prog 67 #[.int .i64 n] w fun e w' => e = .returned (.int .i64 (kindS n)) ∧ w = w' := by
  unfold kindS
  by_cases h : 16 < n
  · have h1 : (16 : Int) < (n : Int) := by omega
    rw [if_pos h]
    go_enter Try.func67, Try.ntmps67
    go_wp2
    go_ret
    exact ⟨rfl, rfl⟩
  · have h1 : ¬ (16 : Int) < (n : Int) := by omega
    rw [if_neg h]
    go_enter Try.func67, Try.ntmps67
    go_wp2
    go_ret
    exact ⟨rfl, rfl⟩
theorem fdWayR_any (w : World) : Calls Try.prog 68 #[] w fun e w' => e = .returned (wayV 4 true) ∧ Below w.heap.size w w' := by
  go_enter Try.func68, Try.ntmps68
  go_wp2
  exact bodyPost_ret (v := wayV 4 true) (by simp [results, Try.results68, go_sem]) rfl ⟨rfl, below_alloc (Below.refl _ _) _⟩
set_option maxRecDepth 100000 in
set_option maxHeartbeats 2000000 in
theorem HeadR7_any (f : Fr) (A : Option Addr) (n c : Nat) (w : World) (h0 : 0 ≤ f.id) (h1 : f.id < 2048) :
    Calls Try.prog 69 #[frv f (.slice A n c)] w fun e w' => (∃ A' c', e = .returned (.slice A' 16 c') ∧ Row w' w.heap.size 5 A' c' (bys (headD f))) ∧ Below w.heap.size w w' := by
  obtain ⟨m, hm⟩ := Int.eq_ofNat_of_zero_le h0
  have hl : headD f = [0] ++ bitsN m 11 ++ [0, 0, 1, 0] := by unfold headD; rw [hm, Int.toNat_natCast]; rfl
  have HL := Lib.hid hl
  have hm2 : m < 2048 := by omega
  obtain ⟨hd, hhd⟩ : ∃ hd, headD f = hd := ⟨_, rfl⟩
  rw [hhd] at HL ⊢
  clear hl hhd h0 h1
  obtain ⟨kind, id, ext, rtr, brs, esi, sec, sdt, vcid, af, data⟩ := f
  dsimp only [frv] at *
  subst hm
  go_enter Try.func69, Try.ntmps69
  go_wp2_with fail
  refine calls_name (T := fun W1 => Row W1 w.heap.size 5 (some ⟨w.heap.size + 1, 0, none⟩) 1 (bys [0]) ∧ Below w.heap.size w W1) ⟨?rw0, below_alloc (below_alloc (Below.refl _ _) _) _⟩ ?_
  case rw0 =>
    have h := lit_row' (w := w.alloc (.cells #[.int .i64 kind, .int .u32 m, .bool ext, .bool rtr, .bool brs, .bool esi, .bool sec, .int .u8 sdt, .int .u8 vcid, .int .u32 af, .slice A n c] 25)) (l := [0]) (n := 1) rfl (by decide)
    rw [show (World.alloc w (.cells #[.int .i64 kind, .int .u32 m, .bool ext, .bool rtr, .bool brs, .bool esi, .bool sec, .int .u8 sdt, .int .u8 vcid, .int .u32 af, .slice A n c] 25)).heap.size = w.heap.size + 1 from by simp] at h
    exact h.mono (by omega)
  rintro W1 ⟨hr0, hb1⟩
  have HR0 := Lib.hid hr0
  clear hr0
  refine (extcB (e := ⟨W1, hb1⟩) (w0 := w) (BitsR_row _ 11 m 11 _ ?c0 rfl (by omega) (by omega) (by omega))).mono ?_
  case c0 => first | rfl | omega
  rintro x _ ⟨e2, rfl, hb2, A2, c2, rfl, ho2⟩
  have HO2 := Lib.hid ho2
  have HR2 := Lib.hid (HR0.out.below hb2.out)
  clear ho2 hb2
  go_wp2_with (first
    | (at_builtin; refine wpList_appN (w0 := w) e2.below rfl (.tmp 4) (.tmp 8) rfl w.heap.size (some ⟨w.heap.size + 1, 0, none⟩) 1 1 [0] rfl rfl HR2.out A2 11 c2 (bitsN m 11) rfl (bitsN_length _ _) HO2.out.part 12 rfl (by omega) (Nat.le_refl _) e2.below.size ?_; intro e3 A3 c3 HB3 HO3)
    | (at_builtin; refine wpList_appN (w0 := w) (below_alloc e3.below _) rfl (.tmp 10) (.tmp 11) rfl w.heap.size A3 12 c3 ([0] ++ bitsN m 11) rfl (by simp [bitsN_length]) (HO3.out.alloc _) (some ⟨e3.W.heap.size, 0, none⟩) 4 4 [0, 0, 1, 0] rfl rfl (PartOk.lit (heap_new_at rfl) rfl) 16 rfl (by omega) (Nat.le_refl _) (below_alloc e3.below _).size ?_; intro e4 A4 c4 HB4 HO4))
  go_ret
  exact ⟨⟨A4, c4, rfl, by rw [HL.out]; exact HO4.out⟩, e4.below⟩
theorem FdBodyR_no (f : Fr) (A : Option Addr) (c : Nat) (w : World) (hno : ¬ (f.kind = 2 ∧ okF f = true)) :
    Calls Try.prog 30 #[frv f (.slice A f.data.length c)] w fun e w' => e = .returned (.tuple #[.slice none 0 0, .int .i64 2]) ∧ Below w.heap.size w w' := by
  have HC := Lib.hid (fun W => CheckR_any f A c W)
  by_cases hk : f.kind = 2
  · have hok : okF f = false := by cases h : okF f with | false => rfl | true => exact absurd ⟨hk, h⟩ hno
    rw [hok] at HC
    have he : errV false = .int .i64 2 := rfl
    rw [he] at HC
    obtain ⟨kind, id, ext, rtr, brs, esi, sec, sdt, vcid, af, data⟩ := f
    dsimp only [frv] at *
    generalize data.length = n at *
    subst hk
    clear hno hok he
    go_enter Try.func30, Try.ntmps30
    go_wp2_with fail
    refine (HC.out _).mono ?_
    rintro e w1 ⟨rfl, hb⟩
    have HB := Lib.hid hb
    clear hb
    go_wp2_with fail
    go_ret2
    exact ⟨rfl, (below_alloc (Below.refl _ _) _).trans (HB.out.mono (by simp))⟩
  · obtain ⟨kind, id, ext, rtr, brs, esi, sec, sdt, vcid, af, data⟩ := f
    dsimp only [frv] at *
    generalize data.length = n at *
    have hkb : (kind != 2) = true := by rw [bne_iff_ne]; exact hk
    clear hno hk HC
    go_enter Try.func30, Try.ntmps30
    go_wp2_with fail
    go_ret2
    exact ⟨rfl, below_alloc (Below.refl _ _) _⟩
set_option maxRecDepth 100000 in
set_option maxHeartbeats 4000000 in
theorem FdBodyR_ok (f : Fr) (A : Option Addr) (c N : Nat) (w : World) (hk : f.kind = 2) (hok : okF f = true) (h0 : 0 ≤ f.id) (hr : Rd w A (bys f.data)) (hby : isBytes f.data) (hN : (bodyD f).length = N) :
    Calls Try.prog 30 #[frv f (.slice A f.data.length c)] w fun e w' => (∃ A' c', e = .returned (.tuple #[.slice A' N c', .int .i64 0]) ∧ Row w' w.heap.size 5 A' c' (bys (bodyD f))) ∧ Below w.heap.size w w' := by
  obtain ⟨hid, hn64, co, hco16, hcode, -⟩ := okD f hk hok
  have HC := Lib.hid (fun W => CheckR_any f A c W)
  rw [hok] at HC
  have he : errV true = .int .i64 0 := rfl
  rw [he] at HC
  have HH := Lib.hid (fun W => HeadR7_any f A f.data.length c W h0 hid)
  have HCO := Lib.hid (fun W => CodeR_any f.kind f.data.length W)
  rw [hcode] at HCO
  have hcv : codeV (some (co : Int)) = .tuple #[.int .i64 (co : Int), .int .i64 0] := rfl
  rw [hcv] at HCO
  have hcd : codeD f = co := by unfold codeD; rw [hcode]; simp
  have hb : bodyD f = headD f ++ [bitB f.brs, bitB f.esi] ++ bitsN co 4 ++ bytesN f.data := by
    unfold bodyD; rw [hcd]
    have h2 : ∀ b : Bool, bitsN (bitB b) 1 = [bitB b] := fun b => by cases b <;> rfl
    rw [h2, h2]; simp
  rw [bodyD_length] at hN
  have hlh := headD_length f
  obtain ⟨hX, hhX⟩ : ∃ hX, headD f = hX := ⟨_, rfl⟩
  obtain ⟨BX, hBX⟩ : ∃ BX, bodyD f = BX := ⟨_, rfl⟩
  rw [hhX] at HH hb hlh
  rw [hBX] at hb ⊢
  have HBX := Lib.hid hb
  have HR := Lib.hid hr
  have HBY := Lib.hid hby
  have HLH := Lib.hid hlh
  obtain ⟨kind, id, ext, rtr, brs, esi, sec, sdt, vcid, af, data⟩ := f
  dsimp only [frv] at *
  subst hk
  obtain ⟨n, hn⟩ : ∃ n, data.length = n := ⟨_, rfl⟩
  rw [hn] at HC HH HCO hN ⊢
  rw [hn] at hn64
  have HN := Lib.hid hn
  clear hr hby hok he h0 hid hcode hcv hcd hb hlh hhX hBX hn
  subst hN
  go_enter Try.func30, Try.ntmps30
  go_wp2_with fail
  refine calls_blk1 (fun W0 q1 hb => ?_)
  have HB := Lib.hid hb
  obtain ⟨a0, a1, a2, a3, a4, a5, a6, a7, a8, a9, a10⟩ := ext11 q1
  clear hb q1
  refine (HC.out _).mono ?_
  rintro x W5 ⟨rfl, hb05⟩
  replace a0 := liftE hb05 a0
  replace a1 := liftE hb05 a1
  replace a2 := liftE hb05 a2
  replace a3 := liftE hb05 a3
  replace a4 := liftE hb05 a4
  replace a5 := liftE hb05 a5
  replace a6 := liftE hb05 a6
  replace a7 := liftE hb05 a7
  replace a8 := liftE hb05 a8
  replace a9 := liftE hb05 a9
  replace a10 := liftE hb05 a10
  have HRD := Lib.hid (fun e : Ext W5 => ((HR.out.below HB.out).below hb05).ext e)
  have HB05 := Lib.hid (below_trans HB.out hb05)
  have hsw : w.heap.size ≤ W5.heap.size := HB05.out.size
  have g10 := a10 ⟨W5, Below.refl _ _⟩
  clear HC hb05
  go_wp2_with fail
  refine (HCO.out _).mono ?_
  rintro x _ ⟨rfl, rfl⟩
  clear g10
  go_wp2_with fail
  refine wp_region_mix (fun w' => ∃ e : Ext W5, w' = e.W) [(true, 0), (true, 2), (true, 3), (true, 5), (true, 6), (false, 1), (false, 4), (false, 7), (false, 8)] [9, 10] (by kernel_rfl) (by kernel_rfl) (by intro _ _ d _ _ h; cases d <;> exact h) ⟨⟨W5.drew, (Below.refl _ _).drew⟩, rfl⟩ ?_
  simp only [pickM, pickL, List.drop_succ_cons, List.drop_zero]
  repeat (refine mix_pure (by rfl) (by rfl) ?_; intro K hK; go_big_quiet_op; go_big_quiet_on)
  refine mix_eff (by rfl) ?_
  intro K hK
  go_simp
  refine (HH.out W5.drew).mono ?_
  rintro x w6 ⟨⟨A6, c6, rfl, hrow6⟩, hb6⟩
  have hb56 : Below W5.heap.size W5 w6 := below_trans (Below.refl _ _).drew hb6
  refine hK _ _ ⟨⟨w6, hb56⟩, rfl⟩ ?_
  clear hK K
  have HROW6 : Hid (Row w6 W5.heap.size 5 A6 c6 (bys hX)) := hrow6
  have HB56 := Lib.hid hb56
  clear hrow6 hb6 hb56
  refine mix_eff (by rfl) ?_
  intro K hK
  go_simp
  refine (BitR_any brs _).mono ?_
  rintro x _ ⟨rfl, rfl⟩
  refine hK _ _ ⟨⟨w6, HB56.out⟩, rfl⟩ ?_
  clear hK K
  refine mix_eff (by rfl) ?_
  intro K hK
  go_simp
  refine (BitR_any esi _).mono ?_
  rintro x _ ⟨rfl, rfl⟩
  refine hK _ _ ⟨⟨w6, HB56.out⟩, rfl⟩ ?_
  clear hK K
  refine mix_eff (by rfl) ?_
  intro K hK
  go_simp
  refine hK _ _ ⟨⟨_, below_alloc HB56.out _⟩, rfl⟩ ?_
  clear hK K
  refine mix_nil ?_
  go_wp2_with (at_builtin; refine wpList_appN (w0 := W5) (below_alloc HB56.out _) rfl (.tmp 23) (.tmp 30) rfl W5.heap.size A6 16 c6 hX rfl HLH.out (HROW6.out.alloc _) (some ⟨w6.heap.size, 0, none⟩) 2 2 [bitB brs, bitB esi] rfl rfl (PartOk.lit (heap_new_at rfl) rfl) 18 rfl (by omega) (Nat.le_refl _) (below_alloc HB56.out _).size ?_; intro e7 A7 c7 HB7 HO7)
  refine (extcB (BitsR_row _ 4 co 4 e7.W ?c8 rfl (by decide) (by decide) (by omega))).mono ?_
  case c8 => first | rfl | omega
  rintro x _ ⟨e8, rfl, HB8, A8, c8, rfl, hrow8⟩
  have HP8 := Lib.hid hrow8.part
  have HO78 := Lib.hid (HO7.out.below HB8.out)
  clear hrow8
  go_wp2_with (at_builtin; refine wpList_appN (w0 := W5) e8.below rfl (.tmp 32) (.tmp 35) rfl W5.heap.size A7 18 c7 (hX ++ [bitB brs, bitB esi]) rfl (by rw [List.length_append, HLH.out]; rfl) HO78.out A8 4 c8 (bitsN co 4) rfl (bitsN_length _ _) HP8.out 22 rfl (by omega) (Nat.le_refl _) e8.below.size ?_; intro e9 A9 c9 HB9 HO9)
  refine (extcB (BytesR_any e9.W A c n data (HRD.out e9) HN.out (by omega) HBY.out)).mono ?_
  rintro x _ ⟨e10, rfl, HB10, A10, c10, rfl, hrow10⟩
  have HP10 := Lib.hid hrow10.part
  have HO910 := Lib.hid (HO9.out.below HB10.out)
  have hl9 : (hX ++ [bitB brs, bitB esi] ++ bitsN co 4).length = 22 := by simp [bitsN_length, HLH.out]
  have hl10 : (bytesN data).length = 8 * n := by rw [bytesN_length, HN.out]
  have HL9 := Lib.hid hl9
  have HL10 := Lib.hid hl10
  clear hrow10 hl9 hl10
  go_wp2_with (at_builtin; refine wpList_appN (w0 := W5) e10.below rfl (.tmp 37) (.tmp 40) rfl W5.heap.size A9 22 c9 (hX ++ [bitB brs, bitB esi] ++ bitsN co 4) rfl HL9.out HO910.out A10 (8 * n) c10 (bytesN data) rfl HL10.out HP10.out (22 + 8 * n) rfl (by omega) (Nat.le_refl _) e10.below.size ?_; intro e11 A11 c11 HB11 HO11; rw [← HBX.out] at HO11)
  go_ret2
  exact ⟨⟨A11, c11, rfl, HO11.out.mono hsw⟩, below_trans HB05.out e11.below⟩
end Go.Proofs.Ytaknddanggdplaa
-- RefTail: The document's answer for layer 6: what ends each frame. No condition.
namespace Go.Proofs.Ytaknddanggdplaa
open Go.RowKit
theorem TailR_any (w : World) : Calls Try.prog 53 #[] w fun e w' => (∃ A' c', e = .returned (.slice A' 10 c') ∧ Row w' w.heap.size 5 A' c' (bys (List.replicate 10 1))) ∧ Below w.heap.size w w' := by
  have hrow : Row (w.alloc (.cells #[.int .u8 1, .int .u8 1, .int .u8 1, .int .u8 1, .int .u8 1, .int .u8 1, .int .u8 1, .int .u8 1, .int .u8 1, .int .u8 1] 5)) w.heap.size 5 (some ⟨w.heap.size, 0, none⟩) 10 (bys (List.replicate 10 1)) :=
    Row.lit (cs := [.int .u8 1, .int .u8 1, .int .u8 1, .int .u8 1, .int .u8 1, .int .u8 1, .int .u8 1, .int .u8 1, .int .u8 1, .int .u8 1]) (Nat.le_refl _) (by unfold maxLen; simp)
  go_enter Try.func53, Try.ntmps53
  go_wp2
  go_ret
  exact ⟨⟨_, _, rfl, hrow⟩, below_alloc (Below.refl _ _) _⟩
end Go.Proofs.Ytaknddanggdplaa
-- Ref07b: The document's answer for layer 7: an FD frame on the wire. No condition.
namespace Go.Proofs.Ytaknddanggdplaa
open Go.RowKit
theorem rd_drop' {w : World} {g : Nat} {l : List Nat} (k : Nat) (h : Rd w (some ⟨g, 0, none⟩) (bys l)) : Rd w (some ⟨g, k, none⟩) (bys (l.drop k)) := by
  intro j u hj
  refine ⟨_, rfl, ?_⟩
  have h1 : (bys l)[k + j]? = some u := by rw [← hj]; simp [bys, List.getElem?_drop]
  obtain ⟨ad, e, hc⟩ := h (k + j) u h1
  injection e with e
  subst e
  rw [← hc]
  unfold Addr.add
  by_cases h0 : j = 0 <;> by_cases h2 : k = 0 <;> simp [h0, h2]
theorem TallyR_row' (x : Int) (n : Nat) (w : World) (ex : x = (n : Int)) (hn : n ≤ 1000000) :
    Calls Try.prog 60 #[.int .i64 x] w fun e w' => (∃ A' c', e = .returned (.tuple #[.slice A' 4 c', .int .i64 0]) ∧ PartOk w' (A', c', tallyN n)) ∧ Below w.heap.size w w' := by subst ex; exact TallyR_any n w hn
theorem FdWireR_no (f : Fr) (A : Option Addr) (c : Nat) (w : World) (hno : ¬ (f.kind = 2 ∧ okF f = true)) :
    Calls Try.prog 28 #[frv f (.slice A f.data.length c)] w fun e w' => e = .returned (.tuple #[.agg #[.slice none 0 0, .int .i64 0, .int .i64 0], .int .i64 2]) ∧ Below w.heap.size w w' := by
  have HC := Lib.hid (fun W => FdBodyR_no f A c W hno)
  obtain ⟨kind, id, ext, rtr, brs, esi, sec, sdt, vcid, af, data⟩ := f
  dsimp only [frv] at *
  generalize data.length = n at *
  clear hno
  go_enter Try.func28, Try.ntmps28
  go_wp2_with fail
  refine calls_blk2 (fun W0 q1 q2 hb => ?_)
  have HB := Lib.hid hb
  have HQ2 := Lib.hid q2
  have hsz := heap_lt q2
  clear hb q1 q2
  refine (HC.out _).mono ?_
  rintro e w1 ⟨rfl, hb1⟩
  have hq := heap_below hb1 HQ2.out
  have c0 := cell_of_heap hq 0 _ rfl
  have c1 := cell_of_heap hq 1 _ rfl
  have c2 := cell_of_heap hq 2 _ rfl
  have z0 : w1.frozen? ⟨w.heap.size + 1, 0, none⟩ = false := by simp [World.frozen?, hq]
  have z1 : w1.frozen? ⟨w.heap.size + 1, 1, none⟩ = false := by simp [World.frozen?, hq]
  have z2 : w1.frozen? ⟨w.heap.size + 1, 2, none⟩ = false := by simp [World.frozen?, hq]
  have HB1 := Lib.hid hb1
  have HQ3 := Lib.hid hq
  clear hb1 hq
  go_wp2_with fail
  refine bodyPost_ret (v := .tuple #[.agg #[.slice none 0 0, .int .i64 0, .int .i64 0], .int .i64 2]) (by simp [results, Try.results28, go_sem, c0, c1, c2]) rfl ⟨rfl, ?_⟩
  have h := below_trans HB.out HB1.out
  exact ((h.setCell (p := ⟨w.heap.size + 1, 0, none⟩) (by show w.heap.size ≤ w.heap.size + 1; omega) _).setCell (p := ⟨w.heap.size + 1, 1, none⟩) (by show w.heap.size ≤ w.heap.size + 1; omega) _).setCell (p := ⟨w.heap.size + 1, 2, none⟩) (by show w.heap.size ≤ w.heap.size + 1; omega) _
set_option maxRecDepth 100000 in
set_option maxHeartbeats 4000000 in
theorem FdWireR_ok (f : Fr) (A : Option Addr) (c NR NH : Nat) (w : World) (hk : f.kind = 2) (hok : okF f = true) (h0 : 0 ≤ f.id) (hr : Rd w A (bys f.data)) (hby : isBytes f.data) (hNR : (rawD f).length = NR) (hNH : (stuffN (headD f)).length = NH) :
    Calls Try.prog 28 #[frv f (.slice A f.data.length c)] w fun e w' => (∃ A' c', e = .returned (.tuple #[.agg #[.slice A' (NR + 10 : Nat) c', .int .i64 (NH : Nat), .int .i64 (NR + 1 : Nat)], .int .i64 0]) ∧ Row w' w.heap.size 5 A' c' (bys (wireD f))) ∧ Below w.heap.size w w' := by
  obtain ⟨hid, hn64, -⟩ := okD f hk hok
  obtain ⟨hNHR, hNR2, -⟩ := fd_bound f hk hok
  rw [hNR, hNH] at hNHR
  rw [hNR] at hNR2
  obtain ⟨NB, hNB⟩ : ∃ NB, (bodyD f).length = NB := ⟨_, rfl⟩
  have hNB2 : NB = 22 + 8 * f.data.length := by rw [← hNB, bodyD_length]
  obtain ⟨N0, hN0⟩ : ∃ N0, (raw0D f).length = N0 := ⟨_, rfl⟩
  have hN02 := raw0D_len f
  rw [hN0] at hN02
  obtain ⟨NC, hNC⟩ : ∃ NC, (closeD (raw0D f) (N0 - NB) f.data.length).length = NC := ⟨_, rfl⟩
  have hcll := closeD_length (raw0D f) (N0 - NB) f.data.length
  rw [hNC] at hcll
  have hNRe : NR = N0 + NC := by rw [← hNR]; unfold rawD; rw [List.length_append, hN0, hNB, hNC]
  have hSor := sizeS_or f.data.length
  have hsl := sealD_length (raw0D f) (N0 - NB) f.data.length
  have hsb := sealD_bits (raw0D f) (N0 - NB) f.data.length
  have hr0b : ∀ x ∈ raw0D f, x ≤ 1 := stuffN_bits _ (bodyD_bits f)
  have hla1 := lastN_le (raw0D f) hr0b
  have hla : (raw0D f)[N0 - 1]? = some (lastN (raw0D f)) := by
    unfold lastN
    rw [hN0, List.getElem?_eq_getElem (by omega)]
    rfl
  have hadd : addN (sizeS f.data.length) (polyS f.data.length) (startS f.data.length) (raw0D f ++ tallyN (N0 - NB)) = raw0D f ++ sealD (raw0D f) (N0 - NB) f.data.length := by
    show (raw0D f ++ tallyN (N0 - NB)) ++ bitsN _ _ = _
    unfold sealD
    rw [List.append_assoc]
  have hcd : closeD (raw0D f) (N0 - NB) f.data.length = fixN 4 true (lastN (raw0D f)) (sealD (raw0D f) (N0 - NB) f.data.length) := rfl
  have hw : wireD f = raw0D f ++ closeD (raw0D f) (N0 - NB) f.data.length ++ List.replicate 10 1 := by unfold wireD rawD; rw [hN0, hNB]
  have h00 : raw0D f = stuffN (bodyD f) := rfl
  have HBody := Lib.hid (fun W (hW : Rd W A (bys f.data)) => FdBodyR_ok f A c NB W hk hok h0 hW hby hNB)
  have HHead := Lib.hid (fun W => HeadR7_any f A f.data.length c W h0 hid)
  have HbB := Lib.hid (bodyD_bits f)
  have HhB := Lib.hid (headD_bits f)
  have hhl := headD_length f
  obtain ⟨bo, hbo⟩ : ∃ bo, bodyD f = bo := ⟨_, rfl⟩
  obtain ⟨hL, hhL⟩ : ∃ hL, headD f = hL := ⟨_, rfl⟩
  obtain ⟨wi, hwi⟩ : ∃ wi, wireD f = wi := ⟨_, rfl⟩
  obtain ⟨r0, hr0⟩ : ∃ r0, raw0D f = r0 := ⟨_, rfl⟩
  rw [hbo] at HBody HbB hNB h00
  rw [hhL] at HHead HhB hNH hhl
  rw [hr0] at hN0 hNC hsl hsb hr0b hla1 hla hadd hcd hw h00
  rw [hwi] at hw ⊢
  obtain ⟨kind, id, ext, rtr, brs, esi, sec, sdt, vcid, af, data⟩ := f
  dsimp only [frv] at *
  subst hk
  obtain ⟨n, hn⟩ : ∃ n, data.length = n := ⟨_, rfl⟩
  rw [hn] at HBody HHead hNB2 hN02 hn64 hNC hcll hSor hsl hsb hadd hcd hw ⊢
  have HAD := Lib.hid (fun (W : World) (A2 : Option Addr) (c2 : Nat) (l : List Nat) (m : Nat) (hW : Rd W A2 (bys l)) (h1 : l.length = m) (h2 : m ≤ 65000) (h3 : A2 = none → c2 = 0) (h4 : ∀ x ∈ l, x ≤ 1) => AddR_any (ofR_S n) m c2 A2 l W hW h1 h2 h3 h4)
  have HSUM := Lib.hid (fun W => fdSumR_any n W)
  obtain ⟨S, hSS⟩ : ∃ S, sizeS n = S := ⟨_, rfl⟩
  obtain ⟨K, hKK⟩ : ∃ K, kindS n = K := ⟨_, rfl⟩
  obtain ⟨PO, hPO⟩ : ∃ PO, polyS n = PO := ⟨_, rfl⟩
  obtain ⟨ST, hST⟩ : ∃ ST, startS n = ST := ⟨_, rfl⟩
  rw [hSS] at HAD hcll hSor hsl hadd
  rw [hKK] at HAD HSUM
  rw [hPO, hST] at HAD hadd
  obtain ⟨la, hlae⟩ : ∃ la, lastN r0 = la := ⟨_, rfl⟩
  obtain ⟨cl, hcle⟩ : ∃ cl, closeD r0 (N0 - NB) n = cl := ⟨_, rfl⟩
  obtain ⟨se, hsee⟩ : ∃ se, sealD r0 (N0 - NB) n = se := ⟨_, rfl⟩
  obtain ⟨ta, htae⟩ : ∃ ta, tallyN (N0 - NB) = ta := ⟨_, rfl⟩
  have htl : ta.length = 4 := by rw [← htae]; exact tallyN_length _
  have htb : ∀ x ∈ ta, x ≤ 1 := by rw [← htae]; exact tallyN_bits _
  have HTA := Lib.hid (fun W => TallyR_row' ((N0 : Int) - (NB : Int)) (N0 - NB) W (by omega) (by omega))
  rw [htae] at HTA hadd
  rw [hlae] at hla1 hla hcd
  rw [hsee] at hsl hsb hadd hcd
  rw [hcle] at hNC hcd hw
  rw [hcd] at hNC hw
  have HN0 := Lib.hid hN0
  have HNB := Lib.hid hNB
  have HNC := Lib.hid hNC
  have HNH := Lib.hid hNH
  have HHL := Lib.hid hhl
  have HR := Lib.hid hr
  have HNRE := Lib.hid hNRe
  have H00 := Lib.hid h00
  have HSL := Lib.hid hsl
  have HSB := Lib.hid hsb
  have HR0B := Lib.hid hr0b
  have HLA := Lib.hid hla
  have HADD := Lib.hid hadd
  have HW := Lib.hid hw
  have HTL := Lib.hid htl
  have HTB := Lib.hid htb
  obtain ⟨hN0a, hN0b⟩ := hN02
  have hN0c : N0 ≤ 1000 := by omega
  have hNBc : NB ≤ N0 := by omega
  have hS2 : S ≤ 21 := by omega
  have hNC2 : NC ≤ 100 := by omega
  clear hNB hN0 hNC hNH hhl hr hNRe h00 hsl hsb hr0b hla hadd hw htl htb hbo hhL hwi hr0 hn hok h0 hby hNR hid hcd hNB2 hSS hKK hPO hST hlae hcle hsee htae hcll hSor
  go_enter Try.func28, Try.ntmps28
  go_wp2_with fail
  refine calls_blk2 (fun W0 q1 q2 hb => ?_)
  have HB := Lib.hid hb
  have HQ2 := Lib.hid q2
  have hsz := heap_lt q2
  obtain ⟨a0, a1, a2, a3, a4, a5, a6, a7, a8, a9, a10⟩ := ext11 q1
  clear hb q1 q2
  refine (extcB (e := ⟨W0, Below.refl _ _⟩) (HBody.out _ (HR.out.below HB.out))).mono ?_
  rintro x _ ⟨e1, rfl, -, A1, c1, rfl, hrow1⟩
  have HROW1 : Hid (Row e1.W W0.heap.size 5 A1 c1 (bys bo)) := hrow1
  clear hrow1
  go_wp2_with fail
  refine (extcB (StuffedR_any e1.W A1 c1 NB N0 bo HROW1.out.rd HNB.out (by omega) HbB.out (by rw [← H00.out]; exact HN0.out))).mono ?_
  rintro x _ ⟨e2, rfl, HB2, A2, c2, rfl, hrow2⟩
  rw [← H00.out] at hrow2
  obtain ⟨g2, rfl, -, hc2a, hc2b⟩ := row_some (n := N0) hrow2 HN0.out (by omega)
  have HROW2 := Lib.hid hrow2
  clear hrow2
  go_wp2_with fail
  refine (extcB (HTA.out e2.W)).mono ?_
  rintro x _ ⟨e3, rfl, HB3, A3, c3, rfl, hp3⟩
  have HP3 := Lib.hid hp3
  have HROW23 := Lib.hid (HROW2.out.below HB3.out)
  clear hp3
  go_wp2_with fail
  refine (HSUM.out _).mono ?_
  rintro x _ ⟨rfl, rfl⟩
  have hge3 : W0.heap.size ≤ e3.W.heap.size := e3.below.size
  go_wp2_with (first
    | (at_builtin; refine wpList_appN (w0 := W0) (below_alloc e3.below _) rfl (.tmp 36) (.tmp 37) rfl e3.W.heap.size (some ⟨e3.W.heap.size, 0, none⟩) 0 0 [] rfl rfl (Row.lit0 e3.W) (some ⟨g2, 0, none⟩) N0 c2 r0 rfl HN0.out (HROW23.out.alloc _).part N0 (by omega) (by omega) hge3 (by simp) ?_; intro e4 A4 c4 HB4 HO4)
    | (at_builtin; refine wpList_appN (w0 := W0) e4.below rfl (.tmp 38) (.tmp 39) rfl e3.W.heap.size A4 N0 c4 r0 rfl HN0.out HO4.out A3 4 c3 ta rfl HTL.out (HP3.out.below ((below_alloc (Below.refl _ _) _).trans HB4.out)) (N0 + 4) rfl (by omega) hge3 (Nat.le_trans (by simp) HB4.out.size) ?_; intro e5 A5 c5 HB5 HO5))
  refine (HAD.out e5.W A5 c5 (r0 ++ ta) (N0 + 4) HO5.out.rd (by rw [List.length_append, HN0.out, HTL.out]) (by omega) (fun e => HO5.out.none_ e) (fun x hx => by rcases List.mem_append.1 hx with h | h; exact HR0B.out x h; exact HTB.out x h)).mono ?_
  rintro x W6 ⟨⟨A6, c6, rfl, hrow6⟩, hb6⟩
  rw [HADD.out] at hrow6
  obtain ⟨g6, rfl, -, hc6a, hc6b⟩ := row_some (n := N0 + 4 + S) hrow6 (by rw [List.length_append, HN0.out, HSL.out]; omega) (by omega)
  have hdr := rd_drop' N0 hrow6.rd
  rw [List.drop_left' HN0.out] at hdr
  have hb35 : Below e3.W.heap.size e3.W e5.W := ((below_alloc (Below.refl _ _) _).trans HB4.out).trans HB5.out
  have hb36 : Below e3.W.heap.size e3.W W6 := hb35.trans (hb6.mono hb35.size)
  have hb06 : Below W0.heap.size W0 W6 := below_trans e5.below hb6
  have hrow26 : Row W6 e1.W.heap.size 5 (some ⟨g2, 0, none⟩) c2 (bys r0) := HROW23.out.below hb36
  have cl2 := fun e : Ext W6 => row_at hrow26 e.below (N0 - 1) la HLA.out
  have HT := Lib.hid (fun e : Ext W6 => hdr.ext e)
  have HR26 := Lib.hid hrow26
  have HB06 := Lib.hid hb06
  have hqi : (N0 : Int) - 1 = ((N0 - 1 : Nat) : Int) := by omega
  have hql : ((N0 - 1 : Nat) : Int) < (N0 : Int) := by omega
  have zi1 : (N0 : Int) ≤ ((N0 + 4 + S : Nat) : Int) := by omega
  have zi2 : ((N0 + 4 + S : Nat) : Int) ≤ (c6 : Int) := by omega
  have zi3 : (N0 : Int) ≤ (c6 : Int) := by omega
  have zi4 : ¬ c6 = N0 := by omega
  have hs56 := hb6.size
  clear hrow6 hdr hb35 hb36 hb06 hrow26 hb6
  go_wp2_with fail
  refine wp_region_mix (fun w' => ∃ e : Ext W6, w' = e.W) [(true, 0), (true, 1), (true, 2), (true, 3), (true, 4), (true, 5), (true, 6), (true, 7), (true, 8), (true, 9), (true, 10), (false, 11), (false, 12)] [13, 14] (by kernel_rfl) (by kernel_rfl) (by intro _ _ d _ _ h; cases d <;> exact h) ⟨⟨W6.drew, (Below.refl _ _).drew⟩, rfl⟩ ?_
  simp only [pickM, pickL, List.drop_succ_cons, List.drop_zero]
  repeat (refine mix_pure (by rfl) (by rfl) ?_; intro K hK; go_big_quiet_op; go_big_quiet_on)
  refine mix_eff (by rfl) ?_
  intro K hK
  go_simp
  refine (fdWayR_any _).mono ?_
  rintro x w7 ⟨rfl, hb7⟩
  have hb67 : Below W6.heap.size W6 w7 := below_trans (Below.refl _ _).drew hb7
  refine hK _ _ ⟨⟨w7, hb67⟩, rfl⟩ ?_
  clear hK K
  have HB67 := Lib.hid hb67
  clear hb67 hb7
  refine mix_eff (by rfl) ?_
  intro K hK
  go_simp
  refine (RawR_any w7 (some ⟨g6, N0, none⟩) la 4 (c6 - N0) (N0 + 4 + S - N0) NC true se (by decide) (by decide) hla1 (HT.out ⟨w7, HB67.out⟩) (by rw [HSL.out]; omega) (by omega) (by omega) HSB.out HNC.out (by omega)).mono ?_
  rintro x w8 ⟨⟨g8, c8, rfl, hrd8⟩, hb8⟩
  have hb68 : Below W6.heap.size W6 w8 := below_trans HB67.out hb8
  refine hK _ _ ⟨⟨w8, hb68⟩, rfl⟩ ?_
  clear hK K
  have HP8 : Hid (PartOk w8 (some ⟨g8, 1, none⟩, c8, fixN 4 true la se)) := ⟨hrd8, fun _ h => by cases h⟩
  have HB08 := Lib.hid (below_trans HB06.out hb68)
  have HR28 := Lib.hid (HR26.out.below hb68)
  have hs8 : e1.W.heap.size ≤ w8.heap.size := by
    have h1 := HB2.out.size
    have h2 := HB3.out.size
    have h3 := (((below_alloc (Below.refl e3.W.heap.size e3.W) (.cells #[] 5)).trans HB4.out).trans HB5.out).size
    have h4 := hs56
    have h5 := hb68.size
    omega
  have hge1 : W0.heap.size ≤ e1.W.heap.size := e1.below.size
  clear hrd8 hb8 hb68
  refine mix_nil ?_
  go_wp2_with (at_builtin; refine wpList_appN (w0 := W0) HB08.out rfl (.tmp 44) (.tmp 56) rfl e1.W.heap.size (some ⟨g2, 0, none⟩) N0 c2 r0 rfl HN0.out HR28.out (some ⟨g8, 1, none⟩) NC c8 (fixN 4 true la se) rfl HNC.out HP8.out (N0 + NC) rfl (by omega) hge1 hs8 ?_; intro e9 A9 c9 HB9 HO9)
  refine (extcB (TailR_any e9.W)).mono ?_
  rintro x _ ⟨e10, rfl, HB10, A10, c10, rfl, hrow10⟩
  have HP10 := Lib.hid hrow10.part
  have HO910 := Lib.hid (HO9.out.below HB10.out)
  have hs10 : e1.W.heap.size ≤ e10.W.heap.size := Nat.le_trans (Nat.le_trans hs8 HB9.out.size) HB10.out.size
  have HREP : Hid ((List.replicate 10 1 : List Nat).length = 10) := by show _ = _; rfl
  have hn10 : N0 + NC + 10 = NR + 10 := by rw [HNRE.out]
  have hl9 : (r0 ++ fixN 4 true la se).length = N0 + NC := by rw [List.length_append, HN0.out, HNC.out]
  have HL9 := Lib.hid hl9
  clear hrow10 hl9
  go_wp2_with (at_builtin; refine wpList_appN (w0 := W0) e10.below rfl (.tmp 58) (.tmp 59) rfl e1.W.heap.size A9 (N0 + NC) c9 (r0 ++ fixN 4 true la se) rfl HL9.out HO910.out A10 10 c10 (List.replicate 10 1) rfl HREP.out HP10.out (NR + 10) hn10 (by omega) hge1 hs10 ?_; intro e11 A11 c11 HB11 HO11; rw [← HW.out] at HO11)
  refine (extcB (HHead.out e11.W)).mono ?_
  rintro x _ ⟨e12, rfl, HB12, A12, c12, rfl, hrow12⟩
  have HROW12 := Lib.hid hrow12
  have HO1112 := Lib.hid (HO11.out.below HB12.out)
  clear hrow12
  go_wp2_with fail
  refine (extcB (StuffedR_any e12.W A12 c12 16 NH hL HROW12.out.rd HHL.out (by decide) HhB.out HNH.out)).mono ?_
  rintro x _ ⟨e13, rfl, HB13, A13, c13, rfl, -⟩
  have HO13 := Lib.hid (HO1112.out.below HB13.out)
  have hs0 : w.heap.size + 1 < W0.heap.size := hsz
  have r0 := ext_cell (cell_of_heap HQ2.out 0 _ rfl) e13
  have r1 := ext_cell (cell_of_heap HQ2.out 1 _ rfl) e13
  have r2 := ext_cell (cell_of_heap HQ2.out 2 _ rfl) e13
  have z0 : e13.W.frozen? ⟨w.heap.size + 1, 0, none⟩ = false := by simp [World.frozen?, ext_heap HQ2.out e13]
  have z1 : e13.W.frozen? ⟨w.heap.size + 1, 1, none⟩ = false := by simp [World.frozen?, ext_heap HQ2.out e13]
  have z2 : e13.W.frozen? ⟨w.heap.size + 1, 2, none⟩ = false := by simp [World.frozen?, ext_heap HQ2.out e13]
  clear a0 a1 a2 a3 a4 a5 a6 a7 a8 a9 a10 cl2
  go_wp2_with fail
  refine bodyPost_ret (v := .tuple #[.agg #[.slice A11 (NR + 10 : Nat) c11, .int .i64 (NH : Nat), .int .i64 (NR + 1 : Nat)], .int .i64 0]) (by simp [results, Try.results28, go_sem, r0, r1, r2] <;> omega) rfl ⟨⟨A11, c11, rfl, ?_⟩, ?_⟩
  · have h6 := HO13.out.mono hge1
    have h7 : ∀ ad, A11 = some ad → ad.block ≠ w.heap.size + 1 := fun ad e => by have := h6.ge ad e; omega
    exact (((h6.setCell h7 0 _).setCell h7 1 _).setCell h7 2 _).mono (by omega)
  · have h := below_trans HB.out e13.below
    exact ((h.setCell (p := ⟨w.heap.size + 1, 0, none⟩) (by show w.heap.size ≤ w.heap.size + 1; omega) _).setCell (p := ⟨w.heap.size + 1, 1, none⟩) (by show w.heap.size ≤ w.heap.size + 1; omega) _).setCell (p := ⟨w.heap.size + 1, 2, none⟩) (by show w.heap.size ≤ w.heap.size + 1; omega) _
end Go.Proofs.Ytaknddanggdplaa
-- Ref04c: The document's answer for layer 4: how long stuffed bits get. No condition.
namespace Go.Proofs.Ytaknddanggdplaa
open Go.RowKit
set_option maxHeartbeats 4000000 in
theorem RawSizeR_any (n ev : Nat) (ah : Bool) (w : World) (h1 : 1 ≤ ev) (h2 : ev ≤ 64) (hn : n ≤ 65536) (hn1 : 1 ≤ n) :
    Calls Try.prog 66 #[.int .i64 n, wayV ev ah] w fun e w' => e = .returned (.tuple #[.int .i64 (fsize n ev ah : Nat), .int .i64 0]) ∧ Below w.heap.size w w' := by
  have a0 : ¬ (n : Int) < 0 := by omega
  have a1 : ¬ (65536 : Int) < (n : Int) := by omega
  have a2 : ¬ (ev : Int) < 1 := by omega
  have a3 : ¬ (64 : Int) < (ev : Int) := by omega
  have a4 : (0 : Int) < (n : Int) := by omega
  have hev : ¬ (ev : Int) = 0 := by omega
  have hdz : Hid ((1 - 1) / ev = 0) := by show _ = _; simp
  obtain ⟨fs, hfs⟩ : ∃ fs, fsize n ev ah = fs := ⟨_, rfl⟩
  rw [hfs]
  unfold fsize at hfs
  rw [if_neg (by omega)] at hfs
  have HFS := Lib.hid hfs
  clear hfs
  go_enter Try.func66, Try.ntmps66
  go_wp2_with fail
  obtain ⟨W1, hW1⟩ : ∃ W1, w.alloc (.cells #[.int .i64 ev, .bool ah] 60) = W1 := ⟨_, rfl⟩
  have hq1 : W1.heap[w.heap.size]? = some (.cells #[.int .i64 ev, .bool ah] 60) := by rw [← hW1]; exact heap_new_at rfl
  have hb1 : Below w.heap.size w W1 := by rw [← hW1]; exact below_alloc (Below.refl _ _) _
  rw [hW1]
  have c0 : W1.cell? ⟨w.heap.size, 0, none⟩ = some (.int .i64 ev) := cell_of_heap hq1 0 _ rfl
  have c1 : W1.cell? ⟨w.heap.size, 1, none⟩ = some (.bool ah) := cell_of_heap hq1 1 _ rfl
  have HB1 := Lib.hid hb1
  clear hW1 hq1 hb1
  go_loopw [6, 7] (fun v iv wr => ∃ (i q : Nat), 1 ≤ i ∧ i ≤ n ∧ iv = .int .i64 i ∧ v = .int .i64 (n + q : Nat) ∧ Hid ((i - 1) / ev = q) ∧ q < i ∧ wr = W1) (fun _ iv _ => n - (intOf iv).toNat)
  case atStart => exact ⟨1, 0, by omega, by omega, rfl, by simp, hdz, by omega, rfl⟩
  case round =>
    obtain ⟨i, q, hi1, hi2, rfl, rfl, HQ, hq, rfl⟩ := hrel
    by_cases hin : i < n
    · have hd : i / ev = (i - 1) / ev + if ev ∣ i then 1 else 0 := by
        have := @Nat.succ_div (i - 1) ev
        rw [show i - 1 + 1 = i by omega] at this
        exact this
      have hmi : (i : Int) % (ev : Int) = ((i % ev : Nat) : Int) := by simp
      by_cases hm : i % ev = 0
      · have hd2 : i / ev = q + 1 := by rw [hd, HQ.out, if_pos (Nat.dvd_of_mod_eq_zero hm)]
        have hm1 : (i : Int) % (ev : Int) = 0 := by rw [hmi, hm]; rfl
        have hm2 : (i : Int).tmod (ev : Int) = 0 := by rw [Int.tmod_eq_emod_of_nonneg (by omega)]; exact hm1
        have HD := Lib.hid hd2
        clear hd hm hmi hd2
        go_wp2_with fail
        go_roundw
        case rel => exact ⟨i + 1, q + 1, by omega, by omega, by go_num, by go_num, HD.out, by omega, by trivial⟩
        case measure => simp [intOf]; omega
      · have hd2 : i / ev = q := by rw [hd, HQ.out, if_neg (fun h => hm (Nat.mod_eq_zero_of_dvd h))]; rfl
        have hm1 : ¬ (i : Int) % (ev : Int) = 0 := by rw [hmi]; omega
        have hm2 : ¬ (i : Int).tmod (ev : Int) = 0 := by rw [Int.tmod_eq_emod_of_nonneg (by omega)]; exact hm1
        have HD := Lib.hid hd2
        clear hd hm hmi hd2
        go_wp2_with fail
        go_roundw
        case rel => exact ⟨i + 1, q, by omega, by omega, by go_num, rfl, HD.out, by omega, by trivial⟩
        case measure => simp [intOf]; omega
    · obtain rfl : i = n := by omega
      have hf := HFS.out
      rw [HQ.out] at hf
      have HF := Lib.hid hf
      clear hf
      cases ah
      · go_wp2_with fail
        go_ret2
        exact ⟨ret_fst (by have := HF.out; simp at this; omega), HB1.out⟩
      · go_wp2_with fail
        go_ret2
        exact ⟨ret_fst (by have := HF.out; simp at this; omega), HB1.out⟩
end Go.Proofs.Ytaknddanggdplaa
-- CodeNo: frame.Code where a size has no code: any size, below nothing or above all. No condition.
namespace Go.Proofs.Ytaknddanggdplaa
open Go.RowKit
set_option maxHeartbeats 400000 in
theorem sizes_code_none (k n : Int) (w : World) (hno : ¬ (loOf k ≤ n ∧ n ≤ hiOf k)) :
    Calls Try.prog 94 #[.agg #[.slice none 0 0, .int .i64 (loOf k), .int .i64 (hiOf k)], .int .i64 n] w fun e w' => CodeB none e ∧ Below w.heap.size w w' := by
  have hl : 0 ≤ loOf k ∧ loOf k ≤ 1 := by unfold loOf; split <;> omega
  obtain ⟨hl0, hl1⟩ := hl
  generalize loOf k = lo at *
  generalize hiOf k = hi at *
  by_cases hc : lo ≤ n
  · have hd : ¬ n ≤ hi := fun h => hno ⟨hc, h⟩
    clear hno
    go_enter Try.func94, Try.ntmps94
    go_wp2
    go_quiet (fail)
    go_wp2
    go_ret2
    exact ⟨⟨_, _, rfl, .inr ⟨by simp [hd], rfl⟩⟩, below_drewN (below_alloc (Below.refl _ _) _) _⟩
  · have hc' : decide (lo ≤ n) = false := by simp [hc]
    clear hno
    go_enter Try.func94, Try.ntmps94
    go_wp2
    go_quiet (fail)
    go_wp2
    go_ret2
    exact ⟨⟨_, _, rfl, .inr ⟨by simp, rfl⟩⟩, below_drewN (below_alloc (Below.refl _ _) _) _⟩
set_option maxHeartbeats 400000 in
theorem Code_no (k n : Int) (w : World) (hno : codeF k n = none) :
    Calls Try.prog 54 #[.int .i64 k, .int .i64 n] w fun e w' => e = .returned (.tuple #[.int .i64 0, .int .i64 2]) ∧ Below w.heap.size w w' := by
  have ask : Calls Try.prog 93 #[.func (.func 94) #[] #[], .int .i64 k, .int .i64 n] w fun e w' => e = .returned (.tuple #[.int .i64 0, .int .i64 2]) ∧ Below w.heap.size w w' := by
    by_cases hk : k = 2
    · subst hk
      have HO := Lib.hid hno
      clear hno
      go_enter Try.func93, Try.ntmps93
      go_wp2_with fail
      refine (of_fd _).mono ?_
      rintro e w1 ⟨ad, rfl, hr, hb⟩
      have HB := Lib.hid hb
      have HR := Lib.hid hr
      clear hb hr
      go_wp2_with fail
      refine (sizes_code_fd ad n _ HR.out).mono ?_
      rintro e w2 ⟨⟨c, b, rfl, hcb⟩, hb2⟩
      rw [HO.out] at hcb
      have HB2 := Lib.hid hb2
      obtain rfl : b = false := by rcases hcb with ⟨_, h2⟩ | ⟨h1, _⟩; cases h2; exact h1
      clear hb2 hcb
      go_wp2
      go_ret2
      exact ⟨rfl, below_trans HB.out HB2.out⟩
    · have hn2 : ¬ (loOf k ≤ n ∧ n ≤ hiOf k) := fun h => by unfold codeF at hno; rw [if_neg hk, if_pos h] at hno; cases hno
      have HK := Lib.hid hk
      have HN := Lib.hid hn2
      clear hno hk hn2
      go_enter Try.func93, Try.ntmps93
      go_wp2_with fail
      refine (of_other k _ HK.out).mono ?_
      rintro e w1 ⟨rfl, hb⟩
      have HB := Lib.hid hb
      clear hb
      go_wp2_with fail
      refine (sizes_code_none k n _ HN.out).mono ?_
      rintro e w2 ⟨⟨c, b, rfl, hcb⟩, hb2⟩
      have HB2 := Lib.hid hb2
      obtain rfl : b = false := by rcases hcb with ⟨_, h2⟩ | ⟨h1, _⟩; cases h2; exact h1
      clear hb2 hcb
      go_wp2
      go_ret2
      exact ⟨rfl, below_trans HB.out HB2.out⟩
  have HA := Lib.hid ask
  clear ask hno
  go_enter Try.func54, Try.ntmps54
  go_wp2_with fail
  refine HA.out.mono ?_
  rintro e w1 ⟨rfl, hb⟩
  have HB := Lib.hid hb
  clear hb
  go_wp2
  go_ret2
  exact ⟨rfl, HB.out⟩
end Go.Proofs.Ytaknddanggdplaa
-- FdMost: fd.Most: how many bits an FD frame has at most. No condition.
namespace Go.Proofs.Ytaknddanggdplaa
open Go.RowKit
theorem FdBody_okN (f : Fr) (A : Option Addr) (c N : Nat) (w : World) (hk : f.kind = 2) (hok : okF f = true) (hf : FrN f) (hr : Rd w A (bys f.data)) (hN : (bodyD f).length = N) :
    Calls Try.prog 29 #[frv f (.slice A f.data.length c)] w fun e w' => (∃ A' c', e = .returned (.tuple #[.slice A' N c', .int .i64 0]) ∧ Row w' w.heap.size 5 A' c' (bys (bodyD f))) ∧ Below w.heap.size w w' :=
  FdBody_ok f A c N w hk hok hf.id0 hr hf.data hN
/-- How many bits an FD frame of so many bytes has at most. -/
def mostD (n : Nat) : Nat := 22 + 8 * n + (21 + 8 * n) / 4 + fsize (4 + sizeS n) 4 true + 10
set_option maxHeartbeats 1000000 in
theorem FdMost_any (n : Nat) (co : Int) (w : World) (h2 : n ≤ 64) (hco : codeF 2 (n : Int) = some co) :
    Calls Try.prog 31 #[.int .i64 n] w fun e w' => e = .returned (.tuple #[.int .i64 (mostD n : Nat), .int .i64 0]) ∧ Below w.heap.size w w' := by
  have hc := fun W => Code_any 2 (n : Int) W (by omega) (by omega)
  rw [hco] at hc
  have e2 : codeV (some co) = .tuple #[.int .i64 co, .int .i64 0] := rfl
  rw [e2] at hc
  have HC := Lib.hid hc
  have hS := sizeS_or n
  have hs := fun W => FSize_any (4 + sizeS n) 4 true W (by decide) (by decide) (by omega)
  have e3 : ((4 + sizeS n : Nat) : Int) = 4 + (sizeS n : Int) := by omega
  rw [e3] at hs
  have HZ := Lib.hid (fun W => Size_any (of_S n) W)
  have HSUM := Lib.hid (fun W => fdSum_any n W (by omega))
  have hfs : fsize (4 + sizeS n) 4 true ≤ 1000 := by unfold fsize; rw [if_neg (by omega)]; simp; omega
  have HS := Lib.hid hs
  have hm : mostD n = 22 + 8 * n + (21 + 8 * n) / 4 + fsize (4 + sizeS n) 4 true + 10 := rfl
  obtain ⟨q, hq⟩ : ∃ q, fsize (4 + sizeS n) 4 true = q := ⟨_, rfl⟩
  rw [hq] at HS hfs hm
  obtain ⟨S, hSS⟩ : ∃ S, sizeS n = S := ⟨_, rfl⟩
  rw [hSS] at HS HZ hS
  obtain ⟨K, hK⟩ : ∃ K, kindS n = K := ⟨_, rfl⟩
  rw [hK] at HZ HSUM
  obtain ⟨d, hd⟩ : ∃ d, (21 + 8 * n) / 4 = d := ⟨_, rfl⟩
  have hd2 : d ≤ 200 := by omega
  have hdiv : (22 + 8 * (n : Int) - 1).tdiv 4 = (d : Int) := by rw [Int.tdiv_eq_ediv_of_nonneg (by omega)]; omega
  have hdiv2 : (22 + 8 * (n : Int) - 1) / 4 = (d : Int) := by omega
  rw [hd] at hm
  have HM := Lib.hid hm
  clear hc hs e2 e3 hq hco hSS hK hd hm
  go_enter Try.func31, Try.ntmps31
  go_wp2_with fail
  refine (extc_same (HC.out _)).mono ?_
  rintro x _ ⟨e1, rfl, rfl⟩
  go_wp2_with fail
  refine (HSUM.out _).mono ?_
  rintro x _ ⟨rfl, rfl⟩
  go_wp2_with fail
  refine (extc (HZ.out _)).mono ?_
  rintro x _ ⟨e2, rfl, rfl⟩
  go_wp2_with fail
  refine (extc (fdWay_any _)).mono ?_
  rintro x _ ⟨e3, rfl, rfl⟩
  go_wp2_with fail
  refine (extc (HS.out _)).mono ?_
  rintro x _ ⟨e4, rfl, rfl⟩
  go_wp2_with fail
  go_ret2
  exact ⟨ret_fst (by rw [HM.out]; omega), e4.below⟩
theorem fdMost_ok (f : Fr) (hk : f.kind = 2) (hok : okF f = true) : ∃ mo : Nat, (∀ w, Calls Try.prog 31 #[.int .i64 f.data.length] w fun e w' => e = .returned (.tuple #[.int .i64 mo, .int .i64 0]) ∧ Below w.heap.size w w') ∧ (rawD f).length + 10 ≤ mo ∧ (bodyD f).length < (rawD f).length + 10 := by
  obtain ⟨-, hn2, co, -, hcode, -⟩ := okD f hk hok
  rw [hk] at hcode
  refine ⟨_, fun w => FdMost_any f.data.length co w hn2 hcode, ?_, ?_⟩
  · have h1 := rawD_len f
    have h2 := raw0D_len f
    have h4 := sizeS_or f.data.length
    have h3 : fsize (4 + sizeS f.data.length) 4 true = 4 + sizeS f.data.length + (3 + sizeS f.data.length) / 4 + 1 := by unfold fsize; rw [if_neg (by omega)]; simp
    unfold mostD
    omega
  · have h1 := rawD_len f
    have h2 := raw0D_len f
    rw [bodyD_length]
    omega
end Go.Proofs.Ytaknddanggdplaa
-- Ref07d: The document's answer for layer 7, and fd's: how many bits a frame of so many bytes has at most. No condition.
namespace Go.Proofs.Ytaknddanggdplaa
open Go.RowKit
theorem FdMost_no (n : Int) (w : World) (h : codeF 2 n = none) : Calls Try.prog 31 #[.int .i64 n] w fun e w' => e = .returned (.tuple #[.int .i64 0, .int .i64 2]) ∧ Below w.heap.size w w' := by
  have HC := Lib.hid (fun W => Code_no 2 n W h)
  clear h
  go_enter Try.func31, Try.ntmps31
  go_wp2_with fail
  refine (extc_same (HC.out _)).mono ?_
  rintro x _ ⟨e1, rfl, rfl⟩
  go_wp2_with fail
  go_ret2
  exact ⟨rfl, e1.below⟩
theorem FdMostR_no (n : Int) (w : World) (h : codeF 2 n = none) : Calls Try.prog 32 #[.int .i64 n] w fun e w' => e = .returned (.tuple #[.int .i64 0, .int .i64 2]) ∧ Below w.heap.size w w' := by
  have hc := fun W => CodeR_any 2 n W
  rw [h] at hc
  have e2 : codeV none = .tuple #[.int .i64 0, .int .i64 2] := rfl
  rw [e2] at hc
  have HC := Lib.hid hc
  clear hc e2 h
  go_enter Try.func32, Try.ntmps32
  go_wp2_with fail
  refine (HC.out _).mono ?_
  rintro x _ ⟨rfl, rfl⟩
  go_wp2_with fail
  go_ret2
  exact ⟨rfl, Below.refl _ _⟩
set_option maxHeartbeats 1000000 in
theorem FdMostR_any (n : Nat) (co : Int) (w : World) (h2 : n ≤ 64) (hco : codeF 2 (n : Int) = some co) :
    Calls Try.prog 32 #[.int .i64 n] w fun e w' => e = .returned (.tuple #[.int .i64 (mostD n : Nat), .int .i64 0]) ∧ Below w.heap.size w w' := by
  have hc := fun W => CodeR_any 2 (n : Int) W
  rw [hco] at hc
  have e2 : codeV (some co) = .tuple #[.int .i64 co, .int .i64 0] := rfl
  rw [e2] at hc
  have HC := Lib.hid hc
  have hS := sizeS_or n
  have hs := fun W => RawSizeR_any (4 + sizeS n) 4 true W (by decide) (by decide) (by omega) (by omega)
  have hfs : fsize (4 + sizeS n) 4 true ≤ 1000 := by unfold fsize; rw [if_neg (by omega)]; simp; omega
  have hm : mostD n = 22 + 8 * n + (21 + 8 * n) / 4 + fsize (4 + sizeS n) 4 true + 10 := rfl
  have hSn : sizeS n = if 16 < n then 21 else 17 := rfl
  obtain ⟨q, hq⟩ : ∃ q, fsize (4 + sizeS n) 4 true = q := ⟨_, rfl⟩
  rw [hq] at hs hfs hm
  obtain ⟨d, hd⟩ : ∃ d, (21 + 8 * n) / 4 = d := ⟨_, rfl⟩
  have hd2 : d ≤ 200 := by omega
  have hdiv : (22 + 8 * (n : Int) - 1).tdiv 4 = (d : Int) := by rw [Int.tdiv_eq_ediv_of_nonneg (by omega)]; omega
  have hdiv2 : (22 + 8 * (n : Int) - 1) / 4 = (d : Int) := by omega
  rw [hd] at hm
  have HM := Lib.hid hm
  clear hc e2 hco hd hm hq
  by_cases h16 : 16 < n
  · have hi : (16 : Int) < (n : Int) := by omega
    rw [if_pos h16] at hSn
    rw [hSn] at hs
    have e3 : ((4 + 21 : Nat) : Int) = 25 := rfl
    rw [e3] at hs
    have HS := Lib.hid hs
    clear hs e3 hSn hS h16
    go_enter Try.func32, Try.ntmps32
    go_wp2_with fail
    refine (HC.out _).mono ?_
    rintro x _ ⟨rfl, rfl⟩
    go_wp2_with fail
    refine (extc_same (fdWayR_any _)).mono ?_
    rintro x _ ⟨e3, rfl, rfl⟩
    go_wp2_with fail
    refine (extc (HS.out _)).mono ?_
    rintro x _ ⟨e4, rfl, rfl⟩
    go_wp2_with fail
    go_ret2
    exact ⟨ret_fst (by rw [HM.out]; omega), e4.below⟩
  · have hi : ¬ (16 : Int) < (n : Int) := by omega
    rw [if_neg h16] at hSn
    rw [hSn] at hs
    have e3 : ((4 + 17 : Nat) : Int) = 21 := rfl
    rw [e3] at hs
    have HS := Lib.hid hs
    clear hs e3 hSn hS h16
    go_enter Try.func32, Try.ntmps32
    go_wp2_with fail
    refine (HC.out _).mono ?_
    rintro x _ ⟨rfl, rfl⟩
    go_wp2_with fail
    refine (extc_same (fdWayR_any _)).mono ?_
    rintro x _ ⟨e3, rfl, rfl⟩
    go_wp2_with fail
    refine (extc (HS.out _)).mono ?_
    rintro x _ ⟨e4, rfl, rfl⟩
    go_wp2_with fail
    go_ret2
    exact ⟨ret_fst (by rw [HM.out]; omega), e4.below⟩
end Go.Proofs.Ytaknddanggdplaa
-- FdBoth: FD: what the document and fd answer alike. No condition.
namespace Go.Proofs.Ytaknddanggdplaa
open Go.RowKit
theorem fdSizes_small : ∀ x ∈ fdSizes, 0 ≤ x ∧ x ≤ 64 := by decide
theorem fdMost_both (size : Int) : ∃ m me, MostAns 31 size m me ∧ MostAns 32 size m me := by
  cases h : codeF 2 size with
  | none => exact ⟨0, 2, fun W => FdMost_no size W h, fun W => FdMostR_no size W h⟩
  | some co =>
    have hm : size ∈ fdSizes := by
      unfold codeF at h
      rw [if_pos rfl] at h
      split at h
      · rename_i h2; exact List.mem_of_getElem? h2
      · cases h
    obtain ⟨h1, h2⟩ := fdSizes_small size hm
    obtain ⟨k, rfl⟩ := Int.eq_ofNat_of_zero_le h1
    exact ⟨_, 0, fun W => FdMost_any k co W (by omega) h, fun W => FdMostR_any k co W (by omega) h⟩
theorem FdBodyR_okN (f : Fr) (A : Option Addr) (c N : Nat) (w : World) (hk : f.kind = 2) (hok : okF f = true) (hf : FrN f) (hr : Rd w A (bys f.data)) (hN : (bodyD f).length = N) :
    Calls Try.prog 30 #[frv f (.slice A f.data.length c)] w fun e w' => (∃ A' c', e = .returned (.tuple #[.slice A' N c', .int .i64 0]) ∧ Row w' w.heap.size 5 A' c' (bys (bodyD f))) ∧ Below w.heap.size w w' :=
  FdBodyR_ok f A c N w hk hok hf.id0 hr hf.data hN
theorem FdWireR_okN (f : Fr) (A : Option Addr) (c NR NH : Nat) (w : World) (hk : f.kind = 2) (hok : okF f = true) (hf : FrN f) (hr : Rd w A (bys f.data)) (hNR : (rawD f).length = NR) (hNH : (stuffN (headD f)).length = NH) :
    Calls Try.prog 28 #[frv f (.slice A f.data.length c)] w fun e w' => (∃ A' c', e = .returned (.tuple #[.agg #[.slice A' (NR + 10 : Nat) c', .int .i64 (NH : Nat), .int .i64 (NR + 1 : Nat)], .int .i64 0]) ∧ Row w' w.heap.size 5 A' c' (bys (wireD f))) ∧ Below w.heap.size w w' :=
  FdWireR_ok f A c NR NH w hk hok hf.id0 hr hf.data hNR hNH
end Go.Proofs.Ytaknddanggdplaa
-- FdLawWires: What fd answers for a frame is what the document says: the law FdWires answers true. No condition.
namespace Go.Proofs.Ytaknddanggdplaa
open Go.RowKit
set_option maxRecDepth 100000 in
set_option maxHeartbeats 4000000 in
theorem fdWires_main (f : Fr) (size : Int) (A : Option Addr) (c nw nb : Nat) (lw lb : List Nat) (ih ia ew eb m me : Int) (w : World) (hd : f.data.length ≤ 5000) (hr : Rd w A (bys f.data)) (hw1 : lw.length = nw) (hb1 : lb.length = nb) (hw2 : nw ≤ 100000) (hb2 : nb ≤ 100000)
    (hW : WireAns 21 f A c nw lw ih ia ew) (hWR : WireAns 28 f A c nw lw ih ia ew) (hB : BodyAns 29 f A c nb lb eb) (hBR : BodyAns 30 f A c nb lb eb) (hM : MostAns 31 size m me) (hMR : MostAns 32 size m me) :
    Calls Try.prog 11 #[frv f (.slice A f.data.length c), .int .i64 size] w fun e w' => e = .returned (.bool true) ∧ Below w.heap.size w w' := by
  have HW := Lib.hid hW
  have HWR := Lib.hid hWR
  have HBo := Lib.hid hB
  have HBoR := Lib.hid hBR
  have HM := Lib.hid hM
  have HMR := Lib.hid hMR
  have HR := Lib.hid hr
  have HW1 := Lib.hid hw1
  have HB1 := Lib.hid hb1
  clear hW hWR hB hBR hM hMR hr hw1 hb1
  simp only [WireAns, BodyAns, MostAns] at *
  obtain ⟨kind, id, ext, rtr, brs, esi, sec, sdt, vcid, af, data⟩ := f
  dsimp only [frv] at *
  generalize data.length = n at *
  have hn5 : ¬ (5000 : Int) < (n : Int) := by omega
  go_enter Try.func11, Try.ntmps11
  go_wp2_with fail
  refine calls_blk1 (fun W0 q1 hb => ?_)
  have HB := Lib.hid hb
  obtain ⟨a0, a1, a2, a3, a4, a5, a6, a7, a8, a9, a10⟩ := ext11 q1
  have hsz := ext_lt q1
  clear hb q1
  refine (extc_same (alive07 _)).mono ?_
  rintro x _ ⟨e1, rfl, rfl⟩
  go_wp2_with fail
  have HRD := Lib.hid (fun e : Ext W0 => (HR.out.below HB.out).ext e)
  refine (extc (HW.out _ (HRD.out e1))).mono ?_
  rintro x _ ⟨e2, rfl, A2, c2, rfl, hr2⟩
  have HR2 := Lib.hid hr2
  clear hr2
  go_wp2_with fail
  obtain ⟨p, hp⟩ : ∃ p, e2.W.heap.size = p := ⟨_, rfl⟩
  rw [hp]
  refine calls_name (T := fun W1 => W1.heap[p]? = some (.cells #[.slice A2 nw c2, .int .i64 ih, .int .i64 ia] 29) ∧ Rd W1 A2 (bys lw) ∧ Below W0.heap.size W0 W1) ⟨heap_new_at hp.symm, HR2.out.alloc _, below_alloc e2.below _⟩ ?_
  rintro W1 ⟨q2, hr2, hb1⟩
  replace a0 := liftE hb1 a0
  replace a1 := liftE hb1 a1
  replace a2 := liftE hb1 a2
  replace a3 := liftE hb1 a3
  replace a4 := liftE hb1 a4
  replace a5 := liftE hb1 a5
  replace a6 := liftE hb1 a6
  replace a7 := liftE hb1 a7
  replace a8 := liftE hb1 a8
  replace a9 := liftE hb1 a9
  replace a10 := liftE hb1 a10
  have x0 := fun e : Ext W1 => cell_of_heap (heap_below e.below q2) 0 _ rfl
  have x1 : ∀ e : Ext W1, e.W.cell? ⟨p, 1, none⟩ = some (.int .i64 ih) := fun e => cell_of_heap (heap_below e.below q2) 1 _ rfl
  have x2 : ∀ e : Ext W1, e.W.cell? ⟨p, 2, none⟩ = some (.int .i64 ia) := fun e => cell_of_heap (heap_below e.below q2) 2 _ rfl
  have HB1' := Lib.hid hb1
  have HRD1 := Lib.hid (fun e : Ext W1 => ((HR.out.below HB.out).below hb1).ext e)
  have HR21 := Lib.hid hr2
  have hp1 := heap_lt q2
  have hsz1 : ∀ e : Ext W1, w.heap.size < e.W.heap.size := fun e => hsz ⟨e.W, below_trans hb1 e.below⟩
  clear HR2 hp q2 hr2 hb1 hsz
  refine (extc_same (HWR.out _ (HRD1.out ⟨W1, Below.refl _ _⟩))).mono ?_
  rintro x _ ⟨e3, rfl, A3, c3, rfl, hr3⟩
  have HR3 := Lib.hid hr3
  clear hr3
  go_wp2_with fail
  obtain ⟨p2, hp2⟩ : ∃ p2, e3.W.heap.size = p2 := ⟨_, rfl⟩
  have hpp : p < p2 := by rw [← hp2]; exact Nat.lt_of_lt_of_le hp1 e3.below.size
  rw [hp2]
  refine calls_name (T := fun W2 => W2.heap[p2]? = some (.cells #[.slice A3 nw c3, .int .i64 ih, .int .i64 ia] 29) ∧ Rd W2 A3 (bys lw) ∧ Below W1.heap.size W1 W2) ⟨heap_new_at hp2.symm, HR3.out.alloc _, below_alloc e3.below _⟩ ?_
  rintro W2 ⟨q3, hr3, hb2⟩
  replace a0 := liftE hb2 a0
  replace a1 := liftE hb2 a1
  replace a2 := liftE hb2 a2
  replace a3 := liftE hb2 a3
  replace a4 := liftE hb2 a4
  replace a5 := liftE hb2 a5
  replace a6 := liftE hb2 a6
  replace a7 := liftE hb2 a7
  replace a8 := liftE hb2 a8
  replace a9 := liftE hb2 a9
  replace a10 := liftE hb2 a10
  replace x0 := liftE hb2 x0
  replace x1 := liftE hb2 x1
  replace x2 := liftE hb2 x2
  have y0 := fun e : Ext W2 => cell_of_heap (heap_below e.below q3) 0 _ rfl
  have y1 : ∀ e : Ext W2, e.W.cell? ⟨p2, 1, none⟩ = some (.int .i64 ih) := fun e => cell_of_heap (heap_below e.below q3) 1 _ rfl
  have y2 : ∀ e : Ext W2, e.W.cell? ⟨p2, 2, none⟩ = some (.int .i64 ia) := fun e => cell_of_heap (heap_below e.below q3) 2 _ rfl
  have HB2 := Lib.hid hb2
  have HRD2 := Lib.hid (fun e : Ext W2 => (((HR.out.below HB.out).below HB1'.out).below hb2).ext e)
  have HR22 := Lib.hid (fun e : Ext W2 => (HR21.out.below hb2).ext e)
  have HR32 := Lib.hid (fun e : Ext W2 => hr3.ext e)
  clear HR3 hp2 q3 hr3 hb2 HR21 hp1
  refine (extc_same (HBo.out _ (HRD2.out ⟨W2, Below.refl _ _⟩))).mono ?_
  rintro x _ ⟨e4, rfl, A4, c4, rfl, hr4⟩
  have HR4 := Lib.hid hr4
  clear hr4
  go_wp2_with fail
  refine (extcB (HBoR.out _ (HRD2.out e4))).mono ?_
  rintro x _ ⟨e5, rfl, HB5, A5, c5, rfl, hr5⟩
  have HR45 := Lib.hid (HR4.out.below HB5.out)
  have HR5 := Lib.hid hr5
  clear hr5
  go_wp2_with fail
  refine (extcB (HM.out _)).mono ?_
  rintro x _ ⟨m1, rfl, HBM1, rfl⟩
  have HR46 := Lib.hid ((HR45.out.below HBM1.out))
  have HR56 := Lib.hid ((HR5.out.below HBM1.out))
  go_wp2_with fail
  refine (extcB (HMR.out _)).mono ?_
  rintro x _ ⟨m2, rfl, HBM2, rfl⟩
  have HR47 := Lib.hid ((HR46.out.below HBM2.out))
  have HR57 := Lib.hid ((HR56.out.below HBM2.out))
  go_wp2_with fail
  refine (extcB (SameR_refl m2.W A2 A3 c2 c3 nw lw (HR22.out m2) (HR32.out m2) HW1.out (by omega))).mono ?_
  rintro x _ ⟨e6, rfl, HB6, rfl⟩
  go_wp2_with fail
  refine (extc (SameR_refl e6.W A4 A5 c4 c5 nb lb (HR47.out.below HB6.out) (HR57.out.below HB6.out) HB1.out (by omega))).mono ?_
  rintro x _ ⟨e7, rfl, rfl⟩
  go_wp2_with fail
  go_ret
  exact ⟨by first | rfl | simp, below_trans HB.out (below_trans HB1'.out (below_trans HB2.out e7.below))⟩
set_option maxRecDepth 100000 in
theorem fdWires_big (f : Fr) (size : Int) (A : Option Addr) (c : Nat) (w : World) (hf : f.data.length ≤ 9223372036854775807) (hd : 5000 < f.data.length) :
    Calls Try.prog 11 #[frv f (.slice A f.data.length c), .int .i64 size] w fun e w' => e = .returned (.bool true) ∧ Below w.heap.size w w' := by
  obtain ⟨kind, id, ext, rtr, brs, esi, sec, sdt, vcid, af, data⟩ := f
  dsimp only [frv] at *
  generalize data.length = n at *
  have hn5 : (5000 : Int) < (n : Int) := by omega
  clear hd
  go_enter Try.func11, Try.ntmps11
  go_wp2_with fail
  refine calls_blk1 (fun W0 q1 hb => ?_)
  have HB := Lib.hid hb
  obtain ⟨a0, a1, a2, a3, a4, a5, a6, a7, a8, a9, a10⟩ := ext11 q1
  clear hb q1
  refine (extc_same (alive07 _)).mono ?_
  rintro x _ ⟨e1, rfl, rfl⟩
  go_wp2_with fail
  go_ret
  exact ⟨rfl, below_trans HB.out e1.below⟩
theorem fdWires_walk (f : Fr) (size : Int) (A : Option Addr) (c : Nat) (w : World) (hf : f.data.length ≤ 9223372036854775807) (hfn : FrN f) (hr : Rd w A (bys f.data)) :
    Calls Try.prog 11 #[frv f (.slice A f.data.length c), .int .i64 size] w fun e w' => e = .returned (.bool true) ∧ Below w.heap.size w w' := by
  by_cases hd : f.data.length ≤ 5000
  · obtain ⟨m, me, hm1, hm2⟩ := fdMost_both size
    by_cases hm : f.kind = 2 ∧ okF f = true
    · obtain ⟨hk, hok⟩ := hm
      obtain ⟨-, hNR2, -⟩ := fd_bound f hk hok
      obtain ⟨mo, -, -, hb⟩ := fdMost_ok f hk hok
      have hwl : (wireD f).length = (rawD f).length + 10 := by unfold wireD; rw [List.length_append]; simp
      refine fdWires_main f size A c _ _ (wireD f) (bodyD f) ((stuffN (headD f)).length : Nat) ((rawD f).length + 1 : Nat) 0 0 m me w hd hr hwl rfl (by omega) (by omega) (fun W hW => (FdWire_okN f A c _ _ W hk hok hfn hW rfl rfl).mono ?_) (fun W hW => (FdWireR_okN f A c _ _ W hk hok hfn hW rfl rfl).mono ?_)
        (fun W hW => (FdBody_okN f A c _ W hk hok hfn hW rfl).mono ?_) (fun W hW => (FdBodyR_okN f A c _ W hk hok hfn hW rfl).mono ?_) hm1 hm2
      all_goals
        rintro e w' ⟨⟨A', c', he, hrow⟩, hb⟩
        exact ⟨⟨A', c', he, hrow.rd⟩, hb⟩
    · refine fdWires_main f size A c 0 0 [] [] 0 0 2 2 m me w hd hr rfl rfl (by omega) (by omega) (fun W hW => (FdWire_no f A c W hf hm).mono ?_) (fun W hW => (FdWireR_no f A c W hm).mono ?_)
        (fun W hW => (FdBody_no f A c W hf hm).mono ?_) (fun W hW => (FdBodyR_no f A c W hm).mono ?_) hm1 hm2
      all_goals
        rintro e w' ⟨he, hb⟩
        exact ⟨⟨none, 0, he, Rd.nil _ _⟩, hb⟩
  · exact fdWires_big f size A c w hf (by omega)
end Go.Proofs.Ytaknddanggdplaa
-- RowFdWires: The law FdWires answers true at every input, and leaves its input as it was. No condition.
namespace Go.Proofs.Ytaknddanggdplaa
open Go.ChangeShapes Go.WideShapes Go.ChangeAt Go.RowKit
set_option maxRecDepth 100000 in
theorem fdWires_lifted (os : Os) (started : os.Started) (H : Type) (enc : TypeId × Value → H) :
    ReturnsInHanded {} Try.checked os 11 .any (Rows.fdWiresSpec.pre6 enc Try.prog Try.f11 Rows.fdWiresRow.domain false) (Rows.fdWiresSpec.post enc Try.prog Try.f11 false true false false) := by
  refine returnsInHanded_of_change (C := Try.checked) own started (by kernel_rfl) Try.func11
    (ChangeSpec.witness6 (enc := enc) (C := Try.checked) false ⟨#[], #[zeroV, .int .i64 0], []⟩ 8 (by kernel_rfl) (by kernel_rfl) (by kernel_rfl) (by kernel_rfl)) ?_
  intro W base args ds gs before hval0 hW hcnd _
  have hval : ∀ (j : Nat) t v, Try.f11.params[j]? = some t → args[j]? = some v → Value.okWide Try.prog W .any base t v := hval0
  have hW' := hW
  obtain ⟨p, q, hA0, hV, rfl, hfz, hnd⟩ := hW
  have hA : DataW.TrodAll enc Try.prog W 0 (fun _ => true) true Try.f11.params.toList args.toList ds p := hA0
  rw [Try.params11] at hA hval
  obtain ⟨v0, vs0, d0, ds0, p0, q0, hargs, rfl, rfl, h0, r0⟩ := trodAll_cons hA
  obtain ⟨v1, vs1, d1, ds1, p1, q1, rfl, rfl, rfl, h1, r1⟩ := trodAll_cons r0
  obtain ⟨rfl, rfl, rfl⟩ := trodAll_nil r1
  obtain rfl : args = #[v0, v1] := by cases args; simp_all
  obtain ⟨rfl, rfl⟩ := trodVars_none hV
  have k0 := h0
  have lt0 : ∀ x ∈ p0, x.block < W.heap.size := by obtain ⟨m, hm⟩ := k0; exact DataW.trod_lt m _ _ _ hm
  obtain ⟨f0, A0, c0, rfl, rd0, wf0, hc0⟩ := open_frame (hval 0 25 v0 rfl rfl) h0
  have k1 := h1
  have lt1 : ∀ x ∈ p1, x.block < W.heap.size := by obtain ⟨m, hm⟩ := k1; exact DataW.trod_lt m _ _ _ hm
  obtain ⟨n1, rfl, -, -, wn1⟩ := open_int Try.underlying3 (hval 1 3 v1 rfl rfl) h1
  clear hA0 hval0
  refine (fdWires_walk f0 n1 A0 c0 W wf0.len ⟨wf0.id0, ⟨wf0.sdt0, wf0.sdt1⟩, ⟨wf0.vcid0, wf0.vcid1⟩, ⟨wf0.af0, wf0.af1⟩, wf0.data⟩ rd0).mono fun e W' ⟨he, bel⟩ => ?_
  subst he
  exact ⟨_, rfl, _, _, _, [], _, [], hW', trodAll_mk1 (shut_bool Try.underlying4 _), (trodAll_cons_mk (Below.trod laidOut (by kernel_rfl) (of_decide_eq_true (by kernel_rfl)) k0 bel lt0) (trodAll_cons_mk (Below.trod laidOut (by kernel_rfl) (of_decide_eq_true (by kernel_rfl)) k1 bel lt1) trodAll_mk0)), rfl, bel.frame _, fun h => by cases h⟩
theorem fdWires_holds : Rows.FdWiresSaid :=
  OpenClaim.holds_of_wide 11 Try.f11 rfl rfl rfl rfl rfl rfl rfl ⟨rfl, rfl, rfl, rfl, rfl⟩ rfl rfl rfl rfl rfl (by kernel_rfl) Try.func11 (by kernel_rfl)
    (of_decide_eq_true (by kernel_rfl)) (by unfold Func.isWrapper; rw [if_neg (of_decide_eq_false (by kernel_rfl))]; exact ⟨rfl, rfl⟩)
    (fun os started H enc _ => fdWires_lifted os started H enc)
end Go.Proofs.Ytaknddanggdplaa
