/- The law OrderWire answers true at every input, and leaves its input as it was. No condition. (With all that it needs.) -/
import Derived.Test.YtmlkmcpcokjogaaZOrderWire3
import Derived.LoopN
-- FdBody: fd.Body: an FD frame's bits ahead of all stuffing. No condition.
namespace Go.Proofs.Ytmlkmcpcokjogaa
open Go.RowKit
theorem concatPF {W : World} {vs : Array Value} {t n N : Nat} (ps : List Part) (g : Nat) (hg : W.heap[g]? = some (.cells vs t)) (hv : vs.toList = ps.map partV) (hn : ps.length = n) (hps : ∀ p ∈ ps, PartOk W p) (hN : (partsL ps).length = N) (hN2 : N ≤ 1000000) (hn2 : n ≤ 1000) :
    Calls Try.prog 115 #[.slice (some ⟨g, 0, none⟩) n n] W fun e w' => (∃ A' c', e = .returned (.slice A' N c') ∧ Row w' W.heap.size 5 A' c' (bys (partsL ps))) ∧ Below W.heap.size W w' :=
  concatF_any _ n n N ps W (by rw [← hv]; exact Rd.blk hg) hn hps hN hN2 hn2
theorem FdBody_no (f : Fr) (A : Option Addr) (c : Nat) (w : World) (hl : f.data.length ≤ 9223372036854775807) (hno : ¬ (f.kind = 2 ∧ okF f = true)) :
    Calls Try.prog 86 #[frv f (.slice A f.data.length c)] w fun e w' => e = .returned (.tuple #[.slice none 0 0, .int .i64 2]) ∧ Below w.heap.size w w' := by
  have HC := Lib.hid (fun W => Check_any f A c W hl)
  by_cases hk : f.kind = 2
  · have hok : okF f = false := by cases h : okF f with | false => rfl | true => exact absurd ⟨hk, h⟩ hno
    rw [hok] at HC
    have he : errV false = .int .i64 2 := rfl
    rw [he] at HC
    obtain ⟨kind, id, ext, rtr, brs, esi, sec, sdt, vcid, af, data⟩ := f
    dsimp only [frv] at *
    generalize data.length = n at *
    subst hk
    clear hno hok he
    go_enter Try.func86, Try.ntmps86
    go_wp2_with fail
    refine (HC.out _).mono ?_
    rintro e w1 ⟨rfl, hb⟩
    have HB := Lib.hid hb
    clear hb
    go_wp2_with fail
    go_ret2
    exact ⟨rfl, (below_alloc (Below.refl _ _) _).trans (HB.out.mono (by simp))⟩
  · obtain ⟨kind, id, ext, rtr, brs, esi, sec, sdt, vcid, af, data⟩ := f
    dsimp only [frv] at *
    generalize data.length = n at *
    have hkb : (kind != 2) = true := by rw [bne_iff_ne]; exact hk
    clear hno hk HC
    go_enter Try.func86, Try.ntmps86
    go_wp2_with fail
    go_ret2
    exact ⟨rfl, below_alloc (Below.refl _ _) _⟩
set_option maxRecDepth 100000 in
set_option maxHeartbeats 4000000 in
theorem FdBody_ok (f : Fr) (A : Option Addr) (c N : Nat) (w : World) (hk : f.kind = 2) (hok : okF f = true) (h0 : 0 ≤ f.id) (hr : Rd w A (bys f.data)) (hby : isBytes f.data) (hN : (bodyD f).length = N) :
    Calls Try.prog 86 #[frv f (.slice A f.data.length c)] w fun e w' => (∃ A' c', e = .returned (.tuple #[.slice A' N c', .int .i64 0]) ∧ Row w' w.heap.size 5 A' c' (bys (bodyD f))) ∧ Below w.heap.size w w' := by
  obtain ⟨hid, hn64, co, hco16, hcode, -⟩ := okD f hk hok
  have HC := Lib.hid (fun W => Check_any f A c W (by omega))
  rw [hok] at HC
  have he : errV true = .int .i64 0 := rfl
  rw [he] at HC
  have HH := Lib.hid (fun W => headD_any f A f.data.length c W h0 hid)
  have HCO := Lib.hid (fun W => Code_any f.kind f.data.length W (by omega) (by omega))
  rw [hcode] at HCO
  have hcv : codeV (some (co : Int)) = .tuple #[.int .i64 (co : Int), .int .i64 0] := rfl
  rw [hcv] at HCO
  have hcd : codeD f = co := by unfold codeD; rw [hcode]; simp
  have hb : bodyD f = headD f ++ bitsN (bitB f.brs) 1 ++ bitsN (bitB f.esi) 1 ++ bitsN co 4 ++ bytesN f.data := by unfold bodyD; rw [hcd]
  rw [bodyD_length] at hN
  have hlh := headD_length f
  obtain ⟨hX, hhX⟩ : ∃ hX, headD f = hX := ⟨_, rfl⟩
  obtain ⟨BX, hBX⟩ : ∃ BX, bodyD f = BX := ⟨_, rfl⟩
  rw [hhX] at HH hb hlh
  rw [hBX] at hb ⊢
  have HBX := Lib.hid hb
  have HR := Lib.hid hr
  have HBY := Lib.hid hby
  have HLH := Lib.hid hlh
  obtain ⟨kind, id, ext, rtr, brs, esi, sec, sdt, vcid, af, data⟩ := f
  dsimp only [frv] at *
  subst hk
  obtain ⟨n, hn⟩ : ∃ n, data.length = n := ⟨_, rfl⟩
  rw [hn] at HC HH HCO hN ⊢
  rw [hn] at hn64
  have HN := Lib.hid hn
  clear hr hby hok he h0 hid hcode hcv hcd hb hlh hhX hBX hn
  subst hN
  have i0 : ∀ w : World, (Instr.index 182 (.agg #[.bool brs, .bool esi]) (.int .i64 0)).run Try.prog w = .ok (.bool brs) w := fun _ => by kernel_rfl
  have i1 : ∀ w : World, (Instr.index 182 (.agg #[.bool brs, .bool esi]) (.int .i64 1)).run Try.prog w = .ok (.bool esi) w := fun _ => by kernel_rfl
  go_enter Try.func86, Try.ntmps86
  go_wp2_with fail
  refine calls_blk1 (fun W0 q1 hb => ?_)
  have HB := Lib.hid hb
  obtain ⟨a0, a1, a2, a3, a4, a5, a6, a7, a8, a9, a10⟩ := ext11 q1
  have hsz := ext_lt q1
  clear hb q1
  refine (extc_same (HC.out _)).mono ?_
  rintro x _ ⟨e1, rfl, rfl⟩
  go_wp2_with fail
  refine (extcB (HH.out e1.W)).mono ?_
  rintro x _ ⟨e2, rfl, HB2, A2, c2, rfl, hrow2⟩
  obtain ⟨g2, rfl, hg2, hca, hcb⟩ := row_some (n := 16) hrow2 HLH.out (by decide)
  have HROW2 := Lib.hid hrow2
  clear hrow2
  go_wp2_with fail
  refine wp_loop_rounds 3 ?_
  rw [rounds_succ]
  go_wp2_with fail
  obtain ⟨p, hp⟩ : ∃ p, e2.W.heap.size = p := ⟨_, rfl⟩
  rw [hp] at hg2
  have hs1 := hsz e1
  have hs2 : e1.W.heap.size ≤ p := by rw [← hp]; exact HB2.out.size
  rw [hp]
  refine calls_name (T := fun W1 => W1.heap[p]? = some (.cells #[.slice (some ⟨g2, 0, none⟩) 16 c2] 150) ∧ Below e2.W.heap.size e2.W W1) ⟨heap_new_at hp.symm, below_alloc (Below.refl _ _) _⟩ ?_
  rintro W1 ⟨q2, hb1⟩
  obtain ⟨B, hB⟩ : ∃ B, e1.W.heap.size = B := ⟨_, rfl⟩
  rw [hB] at hs1 hs2
  have hpot : Pot W1 B p 150 (some ⟨g2, 0, none⟩) c2 hX := ⟨by rw [HLH.out]; exact q2, fun ad e => by injection e with e; subst e; show g2 ≠ p; omega, by have := heap_lt q2; omega, by rw [← hB]; exact HROW2.out.below hb1⟩
  have hb01 : Below W0.heap.size W0 W1 := below_trans e2.below hb1
  have g0 : W1.cell? ⟨w.heap.size, 0, none⟩ = some (.int .i64 2) := a0 ⟨W1, hb01⟩
  have g10 : W1.cell? ⟨w.heap.size, 10, none⟩ = some (.slice A n c) := a10 ⟨W1, hb01⟩
  have b0 := fun e : KE B p W1 => ke_cell g0 (by show w.heap.size < _; omega) (by show w.heap.size ≠ _; omega) e
  have b10 := fun e : KE B p W1 => ke_cell g10 (by show w.heap.size < _; omega) (by show w.heap.size ≠ _; omega) e
  have HPOT := Lib.hid hpot
  have HB01 := Lib.hid hb01
  have hw0 : W0.heap.size ≤ B := by rw [← hB]; exact e1.below.size
  have HSB := Lib.hid hB
  have hszW := heap_lt q2
  clear hp q2 hb1 hpot hb01 g0 g10 hB a0 a1 a2 a3 a4 a5 a6 a7 a8 a9 a10 HC HH hsz
  refine (kec_same (fdFlag_any _ _ _ _ _ _ brs _ HPOT.out (by rw [HLH.out]; decide))).mono ?_
  rintro x _ ⟨k1, rfl, rfl, B1, d1, hp1⟩
  have HP1 := Lib.hid hp1
  clear hp1
  go_wp2_with fail
  rw [rounds_succ]
  go_wp2_with fail
  refine (kec (fdFlag_any _ _ _ _ _ _ esi _ HP1.out (by rw [List.length_append, HLH.out, bitsN_length]; decide))).mono ?_
  rintro x _ ⟨k2, rfl, rfl, B2, d2, hp2⟩
  have HP2 := Lib.hid hp2
  clear hp2
  go_wp2_with fail
  rw [rounds_succ]
  go_wp2_with fail
  refine (HCO.out _).mono ?_
  rintro x w3 ⟨rfl, hb3⟩
  obtain ⟨k3, hk3⟩ : ∃ k3 : KE B p W1, k3.W = w3 := ⟨⟨w3, k2.keep.trans (Keep.of hb3 HP2.out.size)⟩, rfl⟩
  have HP3 := Lib.hid (HP2.out.below hb3)
  subst hk3
  clear hb3
  go_wp2_with fail
  refine (kec (fdPut_row _ _ _ _ _ _ _ _ co 4 _ ?c4 rfl HP3.out (by omega) (by omega) (by omega) (by rw [List.length_append, List.length_append, HLH.out, bitsN_length, bitsN_length]; decide))).mono ?_
  case c4 => first | rfl | omega
  rintro x _ ⟨k4, rfl, rfl, B4, d4, hp4⟩
  obtain ⟨L4, hL4⟩ : ∃ L, hX ++ bitsN (bitB brs) 1 ++ bitsN (bitB esi) 1 ++ bitsN co 4 = L := ⟨_, rfl⟩
  rw [hL4] at hp4
  have hl4 : L4.length = 22 := by rw [← hL4]; simp [bitsN_length, HLH.out]
  have c04 : k4.W.cell? ⟨p, 0, none⟩ = some (.slice B4 22 d4) := by rw [← hl4]; exact hp4.cell
  have g10 := b10 k4
  have HP4 := Lib.hid hp4
  have HL4 := Lib.hid hl4
  have HE4 := Lib.hid hL4
  have hrdA : Rd k4.W A (bys data) := ((HR.out.below HB.out).below HB01.out).keep k4.keep (fun ad h1 h2 => by have := HR.out.lt ad h1 h2; omega)
  have HRA := Lib.hid hrdA
  have x04 := fun e : Ext k4.W => ext_cell c04 e
  have x10 := fun e : Ext k4.W => ext_cell g10 e
  clear hp4 hl4 hL4 hrdA c04 g10
  go_wp2_with fail
  refine wp_region_mix (fun w' => ∃ e : Ext k4.W, w' = e.W) [(true, 0), (true, 1), (true, 2), (false, 3), (false, 4), (false, 5), (true, 6), (true, 7)] [] (by kernel_rfl) (by kernel_rfl) (by intro _ _ d _ _ h; cases d <;> exact h) ⟨⟨k4.W.drew, (Below.refl _ _).drew⟩, rfl⟩ ?_
  simp only [pickM, pickL, List.drop_succ_cons, List.drop_zero]
  repeat (refine mix_pure (by rfl) (by rfl) ?_; intro K hK; go_big_quiet_op; go_big_quiet_on)
  refine mix_eff (by rfl) ?_
  intro K hK
  go_simp
  refine (Bytes_any _ A c n data HRA.out.drew HN.out (by omega) HBY.out).mono ?_
  rintro x w5 ⟨⟨A5, c5, rfl, hrow5⟩, hb5⟩
  have hb45 : Below k4.W.heap.size k4.W w5 := below_trans (Below.refl _ _).drew hb5
  refine hK _ _ ⟨⟨w5, hb45⟩, rfl⟩ ?_
  clear hK K
  have HROW5 := Lib.hid hrow5
  have HB45 := Lib.hid hb45
  clear hrow5 hb5 hb45
  refine mix_eff (by rfl) ?_
  intro K hK
  go_simp
  refine hK _ _ ⟨⟨_, below_alloc HB45.out _⟩, rfl⟩ ?_
  clear hK K
  refine mix_eff (by rfl) ?_
  intro K hK
  go_simp
  refine calls_name (T := fun W6 => W6.heap[w5.heap.size]? = some (.cells #[.slice B4 22 d4, .slice A5 (8 * n : Nat) c5] 150) ∧ Below w5.heap.size w5 W6) ⟨heap_new_at rfl, below_alloc (Below.refl _ _) _⟩ ?_
  rintro W6 ⟨q6, hb6⟩
  have hcat := concatPF (N := 22 + 8 * n) (n := 2) [(B4, d4, L4), (A5, c5, bytesN data)] _ q6 (by simp [partV, HL4.out, bytesN_length, HN.out]) rfl (by
    intro p hp
    simp only [List.mem_cons, List.not_mem_nil, or_false] at hp
    rcases hp with rfl | rfl
    · exact ((HP4.out.row.below HB45.out).below hb6).part
    · exact (HROW5.out.below hb6).part) (by simp [partsL, HL4.out, bytesN_length, HN.out]) (by omega) (by decide)
  have hpl : partsL [(B4, d4, L4), (A5, c5, bytesN data)] = BX := by rw [HBX.out, HE4.out]; simp [partsL]
  rw [hpl] at hcat
  refine hcat.mono ?_
  rintro x w7 ⟨⟨A7, c7, rfl, hrow7⟩, hb7⟩
  have hb47 : Below k4.W.heap.size k4.W w7 := below_trans (below_trans HB45.out hb6) hb7
  refine hK _ _ ⟨⟨w7, hb47⟩, rfl⟩ ?_
  clear hK K
  repeat (refine mix_pure (by rfl) (by rfl) ?_; intro K hK; go_big_quiet_op; go_big_quiet_on)
  refine mix_nil (wpList_nil ?_)
  have hge : w.heap.size ≤ W6.heap.size := by have h1 := (below_trans HB45.out hb6).size; have h2 := k4.keep.size; omega
  have HROW7 := Lib.hid (hrow7.mono hge)
  have HB7 := Lib.hid (((below_trans HB.out HB01.out).trans (k4.keep.below (by omega) (by omega))).trans (hb47.mono (by have h2 := k4.keep.size; omega)))
  clear hcat hpl q6 hb6 hrow7 hb7 hb47 x04 x10
  go_wp2_with fail
  go_ret2
  exact ⟨⟨A7, c7, rfl, HROW7.out⟩, HB7.out⟩
end Go.Proofs.Ytmlkmcpcokjogaa
-- Of23: The sums of FD frames: their kinds. No condition.
namespace Go.Proofs.Ytmlkmcpcokjogaa
open Go.RowKit
set_option maxRecDepth 100000 in
theorem of_2 : OfK 2 17 92251 65536 := by
  refine ⟨fun W => ?_, by decide, by decide, by decide, by decide⟩
  go_enter Try.func156, Try.ntmps156
  go_wp2
  exact bodyPost_ret (v := .agg #[.int .i64 17, .int .u64 92251, .int .u64 65536]) (by simp [results, Try.results156, go_sem]) rfl ⟨rfl, below_alloc (below_alloc (Below.refl _ _) _) _⟩
set_option maxRecDepth 100000 in
theorem of_3 : OfK 3 21 1058969 1048576 := by
  refine ⟨fun W => ?_, by decide, by decide, by decide, by decide⟩
  go_enter Try.func156, Try.ntmps156
  go_wp2
  exact bodyPost_ret (v := .agg #[.int .i64 21, .int .u64 1058969, .int .u64 1048576]) (by simp [results, Try.results156, go_sem]) rfl ⟨rfl, below_alloc (below_alloc (Below.refl _ _) _) _⟩
end Go.Proofs.Ytmlkmcpcokjogaa
-- FdClose: fd.close: what stands behind an FD frame's first raw bits. No condition.
namespace Go.Proofs.Ytmlkmcpcokjogaa
open Go.RowKit
theorem of_S (n : Nat) : OfK (kindS n) (sizeS n) (polyS n) (startS n) := by
  unfold kindS sizeS polyS startS
  by_cases h : 16 < n
  · simp only [if_pos h]; exact of_3
  · simp only [if_neg h]; exact of_2
theorem fdSum_any (n : Nat) (w : World) (hn : n ≤ 100000) : Calls Try.prog 124 #[.int .i64 n] w fun e w' => e = .returned (.int .i64 (kindS n)) ∧ w = w' := by
  unfold kindS
  by_cases h : 16 < n
  · have h2 : (16 : Int) < (n : Int) := by omega
    rw [if_pos h]
    go_enter Try.func124, Try.ntmps124
    go_wp2
    go_ret
    exact ⟨rfl, rfl⟩
  · have h2 : ¬ (16 : Int) < (n : Int) := by omega
    rw [if_neg h]
    go_enter Try.func124, Try.ntmps124
    go_wp2
    go_ret
    exact ⟨rfl, rfl⟩
theorem fdWay_any (w : World) : Calls Try.prog 125 #[] w fun e w' => e = .returned (wayV 4 true) ∧ Below w.heap.size w w' := by
  go_enter Try.func125, Try.ntmps125
  go_wp2
  exact bodyPost_ret (v := wayV 4 true) (by simp [results, Try.results125, go_sem]) rfl ⟨rfl, below_alloc (Below.refl _ _) _⟩
theorem rd_drop {w : World} {g k : Nat} {l : List Nat} (h : Rd w (some ⟨g, 0, none⟩) (bys l)) : Rd w (some ⟨g, k, none⟩) (bys (l.drop k)) := by
  intro j u hj
  refine ⟨_, rfl, ?_⟩
  have h1 : (bys l)[k + j]? = some u := by
    rw [← hj]
    simp [bys]
  obtain ⟨ad, e, hc⟩ := h (k + j) u h1
  injection e with e
  subst e
  rw [← hc]
  unfold Addr.add
  by_cases h0 : j = 0 <;> by_cases h2 : k = 0 <;> simp [h0, h2]
set_option maxRecDepth 100000 in
set_option maxHeartbeats 4000000 in
theorem fdClose_any (g c n st sz N : Nat) (raw : List Nat) (w : World) (hr : Rd w (some ⟨g, 0, none⟩) (bys raw)) (hn : raw.length = n) (hn1 : 1 ≤ n) (hn2 : n ≤ 5000) (hc : n ≤ c) (_hc2 : c ≤ 9223372036854775807) (h01 : ∀ x ∈ raw, x ≤ 1) (hst : st ≤ 5000) (hsz : sz ≤ 100) (hN : (closeD raw st sz).length = N) :
    Calls Try.prog 90 #[.slice (some ⟨g, 0, none⟩) n c, .int .i64 st, .int .i64 sz] w fun e w' => (∃ A' c', e = .returned (.slice A' N c') ∧ Row w' w.heap.size 5 A' c' (bys (closeD raw st sz))) ∧ Below w.heap.size w w' := by
  have hS := sizeS_or sz
  have hcb : ∀ x ∈ raw ++ tallyN st, x ≤ 1 := fun x hx => by rcases List.mem_append.1 hx with h | h; exact h01 x h; exact tallyN_bits _ x h
  have hlast : lastN raw ≤ 1 := lastN_le raw h01
  have y0 : raw[n - 1]? = some (lastN raw) := by
    unfold lastN
    rw [hn, List.getElem?_eq_getElem (by omega)]; rfl
  have hal : (addN (sizeS sz) (polyS sz) (startS sz) (raw ++ tallyN st)).drop n = sealD raw st sz := by
    unfold addN sealD
    rw [List.append_assoc, List.drop_append_of_le_length (by omega), ← hn, List.drop_length, List.nil_append]
  have hsel := sealD_length raw st sz
  have HADD := Lib.hid (fun (W : World) (base : Nat) (A2 : Option Addr) (c2 : Nat) (hrow : Row W base 5 A2 c2 (bys (raw ++ tallyN st))) => Add_row (of_S sz) (n + 4) c2 (n + 4 + sizeS sz) base A2 (raw ++ tallyN st) W hrow (by rw [List.length_append, tallyN_length, hn]) (by omega) hcb rfl)
  have HFP := Lib.hid (fun (W : World) (A2 : Option Addr) (c2 : Nat) (hW : Rd W A2 (bys (sealD raw st sz))) => FixedPut_any W A2 (lastN raw) 4 c2 (4 + sizeS sz) N true (sealD raw st sz) (by decide) (by decide) hlast hW (sealD_length _ _ _) (by omega) (by omega) (sealD_bits _ _ _) hN)
  have hcl : closeD raw st sz = fixN 4 true (lastN raw) (sealD raw st sz) := rfl
  rw [hcl]
  have hk1 : kindS sz = 2 ∨ kindS sz = 3 := by unfold kindS; split <;> simp
  obtain ⟨la, hla⟩ : ∃ la, lastN raw = la := ⟨_, rfl⟩
  obtain ⟨S, hSS⟩ : ∃ S, sizeS sz = S := ⟨_, rfl⟩
  obtain ⟨K, hKK⟩ : ∃ K, kindS sz = K := ⟨_, rfl⟩
  obtain ⟨ad, had⟩ : ∃ ad, addN (sizeS sz) (polyS sz) (startS sz) (raw ++ tallyN st) = ad := ⟨_, rfl⟩
  obtain ⟨se, hse⟩ : ∃ se, sealD raw st sz = se := ⟨_, rfl⟩
  have HSUM := Lib.hid (fun W => fdSum_any sz W (by omega))
  rw [hla] at hlast y0 HFP ⊢
  rw [hse] at hal HFP hsel ⊢
  rw [had] at hal HADD
  rw [hSS] at hS HADD HFP hsel
  rw [hKK] at HADD HSUM
  have HR := Lib.hid hr
  have HRN := Lib.hid hn
  have HAL := Lib.hid hal
  have HSEL := Lib.hid hsel
  have c0 : w.cell? ⟨g, n - 1, none⟩ = some (.int .u8 (la : Int)) := by
    obtain ⟨a, e, hc0⟩ := hr (n - 1) (.int .u8 (la : Int)) (by simp [bys, y0])
    injection e with e
    subst e
    rw [← hc0]
    unfold Addr.add
    by_cases h0 : n - 1 = 0 <;> simp [h0]
  have HC0 := Lib.hid c0
  have i1 : (n : Int) - 1 = ((n - 1 : Nat) : Int) := by omega
  clear hr hn h01 hcb y0 hal hsel hN hcl hk1 hla hSS hKK had hse c0
  go_enter Try.func90, Try.ntmps90
  go_wp2_with fail
  refine (extc_same (Tally_any st _ (by omega))).mono ?_
  rintro x _ ⟨e1, rfl, A1, c1, rfl, hrow1⟩
  have HROW1 := Lib.hid hrow1
  clear hrow1
  go_wp2_with fail
  refine (HSUM.out _).mono ?_
  rintro x _ ⟨rfl, rfl⟩
  go_wp2_with fail
  refine (concat2 e1.W (some ⟨g, 0, none⟩) A1 c c1 n 4 (n + 4) raw (tallyN st) ⟨HR.out.ext e1, fun _ h => by cases h⟩ HROW1.out.part HRN.out (tallyN_length _) rfl (by omega)).mono ?_
  rintro x w2 ⟨⟨A2, c2, rfl, hrow2⟩, hb2⟩
  have hb02 : Below w.heap.size w w2 := below_trans (below_alloc e1.below _) hb2
  obtain ⟨e2, he2⟩ : ∃ e : Ext w, e.W = w2 := ⟨⟨w2, hb02⟩, rfl⟩
  have HROW2 := Lib.hid hrow2
  subst he2
  clear hrow2 hb2 hb02
  go_wp2_with fail
  refine (extcB (HADD.out _ _ _ _ HROW2.out)).mono ?_
  rintro x _ ⟨e3, rfl, HB3, A3, c3, rfl, hrow3⟩
  have hadl : ad.length = n + 4 + S := by
    have h1 : (ad.drop n).length = 4 + S := by rw [HAL.out]; exact HSEL.out
    rw [List.length_drop] at h1
    have h2 := hrow3.cap
    have h3 : n ≤ ad.length := by omega
    omega
  obtain ⟨g3, rfl, hg3, hc3a, hc3b⟩ := row_some (n := n + 4 + S) hrow3 hadl (by omega)
  have HRD3 := Lib.hid (rd_drop (k := n) hrow3.rd)
  have y0 := fun e : Ext e3.W => Below.cell_of (e3.below) HC0.out
  have z1 : (0 : Int) ≤ (n : Int) := by omega
  have z2 : (n : Int) ≤ ((n + 4 + S : Nat) : Int) := by omega
  have z3 : ((n + 4 + S : Nat) : Int) ≤ (c3 : Int) := by omega
  have z4 : (n : Int) ≤ (c : Int) := by omega
  clear hrow3 hadl
  go_wp2_with fail
  refine wp_region_mix (fun w' => ∃ e : Ext e3.W, w' = e.W) [(true, 0), (true, 1), (true, 2), (true, 3), (true, 4), (true, 5), (true, 6), (true, 7), (true, 8), (true, 9), (false, 10), (false, 11), (true, 12), (true, 13), (true, 14), (true, 15), (true, 16)] [] (by kernel_rfl) (by kernel_rfl) (by intro _ _ d _ _ h; cases d <;> exact h) ⟨⟨e3.W.drew, (Below.refl _ _).drew⟩, rfl⟩ ?_
  simp only [pickM, pickL, List.drop_succ_cons, List.drop_zero]
  have y1 : ∀ e : Ext e3.W, e.W.cell? ⟨g, n - 1, none⟩ = some (.int .u8 (la : Int)) := fun e => Below.cell_of (below_trans e3.below e.below) HC0.out
  clear y0
  repeat (refine mix_pure (by rfl) (by rfl) ?_; intro K hK; go_big_quiet_op; go_big_quiet_on)
  refine mix_eff (by rfl) ?_
  intro K' hK
  go_simp
  refine (fdWay_any _).mono ?_
  rintro x w5 ⟨rfl, hb5⟩
  have hb35 : Below e3.W.heap.size e3.W w5 := below_trans (Below.refl _ _).drew hb5
  have HB35 := Lib.hid hb35
  refine hK _ _ ⟨⟨w5, hb35⟩, rfl⟩ ?_
  clear hK K' hb5 hb35
  refine mix_eff (by rfl) ?_
  intro K' hK
  go_simp
  rw [show n + 4 + S - n = 4 + S by omega]
  refine (HFP.out w5 (some ⟨g3, n, none⟩) (c3 - n) (by rw [← HAL.out]; exact HRD3.out.below HB35.out)).mono ?_
  rintro x w6 ⟨⟨A6, c6, rfl, hrow6⟩, hb6⟩
  have hb36 : Below e3.W.heap.size e3.W w6 := below_trans HB35.out hb6
  refine hK _ _ ⟨⟨w6, hb36⟩, rfl⟩ ?_
  clear hK K'
  repeat (refine mix_pure (by rfl) (by rfl) ?_; intro K' hK; go_big_quiet_op; go_big_quiet_on)
  refine mix_nil (wpList_nil ?_)
  have HROW6 := Lib.hid (hrow6.mono (below_trans e3.below HB35.out).size)
  have HB6 := Lib.hid (below_trans e3.below hb36)
  clear hrow6 hb6 hb36 y1
  go_wp2_with fail
  go_ret
  exact ⟨⟨A6, c6, rfl, HROW6.out⟩, HB6.out⟩
end Go.Proofs.Ytmlkmcpcokjogaa
-- FdWire: fd.Wire: an FD frame on the wire. No condition.
namespace Go.Proofs.Ytmlkmcpcokjogaa
open Go.RowKit
set_option maxRecDepth 100000 in
set_option maxHeartbeats 2000000 in
theorem FdWire_no (f : Fr) (A : Option Addr) (c : Nat) (w : World) (hl : f.data.length ≤ 9223372036854775807) (hno : ¬ (f.kind = 2 ∧ okF f = true)) :
    Calls Try.prog 63 #[frv f (.slice A f.data.length c)] w fun e w' => e = .returned (.tuple #[.agg #[.slice none 0 0, .int .i64 0, .int .i64 0], .int .i64 2]) ∧ Below w.heap.size w w' := by
  have HC := Lib.hid (fun W => FdBody_no f A c W hl hno)
  obtain ⟨kind, id, ext, rtr, brs, esi, sec, sdt, vcid, af, data⟩ := f
  dsimp only [frv] at *
  generalize data.length = n at *
  clear hno
  go_enter Try.func63, Try.ntmps63
  go_wp2_with fail
  refine calls_blk2 (fun W0 q1 q2 hb => ?_)
  have HB := Lib.hid hb
  have HQ2 := Lib.hid q2
  have hsz := heap_lt q2
  clear hb q1 q2
  refine (HC.out _).mono ?_
  rintro e w1 ⟨rfl, hb1⟩
  have hq := heap_below hb1 HQ2.out
  have c0 := cell_of_heap hq 0 _ rfl
  have c1 := cell_of_heap hq 1 _ rfl
  have c2 := cell_of_heap hq 2 _ rfl
  have z0 : w1.frozen? ⟨w.heap.size + 1, 0, none⟩ = false := by simp [World.frozen?, hq]
  have z1 : w1.frozen? ⟨w.heap.size + 1, 1, none⟩ = false := by simp [World.frozen?, hq]
  have z2 : w1.frozen? ⟨w.heap.size + 1, 2, none⟩ = false := by simp [World.frozen?, hq]
  have HB1 := Lib.hid hb1
  have HQ3 := Lib.hid hq
  clear hb1 hq
  go_wp2_with fail
  refine bodyPost_ret (v := .tuple #[.agg #[.slice none 0 0, .int .i64 0, .int .i64 0], .int .i64 2]) (by simp [results, Try.results63, go_sem, c0, c1, c2]) rfl ⟨rfl, ?_⟩
  have h := below_trans HB.out HB1.out
  exact ((h.setCell (p := ⟨w.heap.size + 1, 0, none⟩) (by show w.heap.size ≤ w.heap.size + 1; omega) _).setCell (p := ⟨w.heap.size + 1, 1, none⟩) (by show w.heap.size ≤ w.heap.size + 1; omega) _).setCell (p := ⟨w.heap.size + 1, 2, none⟩) (by show w.heap.size ≤ w.heap.size + 1; omega) _
set_option maxRecDepth 100000 in
set_option maxHeartbeats 4000000 in
theorem FdWire_ok (f : Fr) (A : Option Addr) (c NR NH : Nat) (w : World) (hk : f.kind = 2) (hok : okF f = true) (h0 : 0 ≤ f.id) (hr : Rd w A (bys f.data)) (hby : isBytes f.data) (hNR : (rawD f).length = NR) (hNH : (stuffN (headD f)).length = NH) :
    Calls Try.prog 63 #[frv f (.slice A f.data.length c)] w fun e w' => (∃ A' c', e = .returned (.tuple #[.agg #[.slice A' (NR + 10 : Nat) c', .int .i64 (NH : Nat), .int .i64 (NR + 1 : Nat)], .int .i64 0]) ∧ Row w' w.heap.size 5 A' c' (bys (wireD f))) ∧ Below w.heap.size w w' := by
  obtain ⟨hid, hn64, -⟩ := okD f hk hok
  obtain ⟨hNHR, hNR2, -⟩ := fd_bound f hk hok
  rw [hNR, hNH] at hNHR
  rw [hNR] at hNR2
  obtain ⟨NB, hNB⟩ : ∃ NB, (bodyD f).length = NB := ⟨_, rfl⟩
  have hNB2 : NB = 22 + 8 * f.data.length := by rw [← hNB, bodyD_length]
  obtain ⟨N0, hN0⟩ : ∃ N0, (raw0D f).length = N0 := ⟨_, rfl⟩
  have hN02 := raw0D_len f
  rw [hN0] at hN02
  obtain ⟨NC, hNC⟩ : ∃ NC, (closeD (raw0D f) ((raw0D f).length - (bodyD f).length) f.data.length).length = NC := ⟨_, rfl⟩
  have hNRe : N0 + NC = NR := by rw [← hNR]; unfold rawD; rw [List.length_append, hNC, hN0]
  have HBody := Lib.hid (fun W (hW : Rd W A (bys f.data)) => FdBody_ok f A c NB W hk hok h0 hW hby hNB)
  have HHead := Lib.hid (fun W => headD_any f A f.data.length c W h0 hid)
  have HbB := Lib.hid (bodyD_bits f)
  have HhB := Lib.hid (headD_bits f)
  have H0B := Lib.hid (raw0D_bits f)
  have HW : Hid (wireD f = raw0D f ++ closeD (raw0D f) (N0 - NB) f.data.length ++ List.replicate 10 1) := by show wireD f = _; unfold wireD rawD; rw [hN0, hNB]
  have h00 : raw0D f = stuffN (bodyD f) := rfl
  rw [hN0, hNB] at hNC
  obtain ⟨bo, hbo⟩ : ∃ bo, bodyD f = bo := ⟨_, rfl⟩
  obtain ⟨hL, hhL⟩ : ∃ hL, headD f = hL := ⟨_, rfl⟩
  have hhl : hL.length = 16 := by rw [← hhL]; exact headD_length f
  obtain ⟨wi, hwi⟩ : ∃ wi, wireD f = wi := ⟨_, rfl⟩
  obtain ⟨r0, hr0⟩ : ∃ r0, raw0D f = r0 := ⟨_, rfl⟩
  rw [hbo] at HBody HbB hNB h00
  rw [hhL] at HHead HhB hNH
  rw [hr0] at H0B h00 hN0 hNC
  rw [hwi, hr0] at HW
  rw [hwi]
  obtain ⟨kind, id, ext, rtr, brs, esi, sec, sdt, vcid, af, data⟩ := f
  dsimp only [frv] at *
  obtain ⟨n, hn⟩ : ∃ n, data.length = n := ⟨_, rfl⟩
  rw [hn] at HBody HHead hNB2 hN02 hn64 HW hNC ⊢
  obtain ⟨cl, hcl⟩ : ∃ cl, closeD r0 (N0 - NB) n = cl := ⟨_, rfl⟩
  have HCL := Lib.hid (fun (W : World) (g c2 : Nat) (hW : Rd W (some ⟨g, 0, none⟩) (bys r0)) (h1 : N0 ≤ c2) (h2 : c2 ≤ 9223372036854775807) => fdClose_any g c2 N0 (N0 - NB) n NC r0 W hW hN0 (by omega) (by omega) h1 h2 H0B.out (by omega) (by omega) hNC)
  rw [hcl] at HCL HW hNC
  rw [h00] at hN0
  have HNB := Lib.hid hNB
  have HN0 := Lib.hid hN0
  have HNC := Lib.hid hNC
  have HNH := Lib.hid hNH
  have HHL := Lib.hid hhl
  have HR := Lib.hid hr
  have HNRE := Lib.hid hNRe
  have H00 := Lib.hid h00
  have hsub : (N0 : Int) - (NB : Int) = ((N0 - NB : Nat) : Int) := by omega
  have HSUB := Lib.hid hsub
  obtain ⟨hN0a, hN0b⟩ := hN02
  have hN0c : N0 ≤ 1000 := by omega
  have hNBc : NB ≤ N0 := by omega
  clear hNB hN0 hNC hNH hhl hr hNRe hbo hhL hwi hr0 hn hok h0 hby hk hNR hid hcl h00 hsub hNB2
  go_enter Try.func63, Try.ntmps63
  go_wp2_with fail
  refine calls_blk2 (fun W0 q1 q2 hb => ?_)
  have HB := Lib.hid hb
  have HQ2 := Lib.hid q2
  have hsz := heap_lt q2
  have hsz1 := ext_lt q1
  obtain ⟨a0, a1, a2, a3, a4, a5, a6, a7, a8, a9, a10⟩ := ext11 q1
  clear hb q1 q2
  refine (extc_same (HBody.out _ (HR.out.below HB.out))).mono ?_
  rintro x _ ⟨e1, rfl, A1, c1, rfl, hrow1⟩
  have HROW1 := Lib.hid hrow1
  clear hrow1
  go_wp2_with fail
  refine (extcB (StuffPut_any _ A1 c1 NB N0 bo HROW1.out.rd HNB.out (by omega) HbB.out HN0.out)).mono ?_
  rintro x _ ⟨e2, rfl, HB2, A2, c2, rfl, hrow2⟩
  rw [← H00.out] at hrow2
  obtain ⟨g2, rfl, hg2, hc2a, hc2b⟩ := row_some (n := N0) hrow2 (by rw [H00.out]; exact HN0.out) (by omega)
  have HROW2 := Lib.hid (hrow2.mono (ext_ge e1))
  clear hrow2
  go_wp2_with fail
  refine (extcB (HHead.out _)).mono ?_
  rintro x _ ⟨e3, rfl, HB3, A3, c3, rfl, hrow3⟩
  have HROW3 := Lib.hid hrow3
  have HROW23 := Lib.hid (HROW2.out.below HB3.out)
  clear hrow3
  go_wp2_with fail
  refine (extcB (StuffPut_any _ A3 c3 16 NH hL HROW3.out.rd HHL.out (by omega) HhB.out HNH.out)).mono ?_
  rintro x _ ⟨e4, rfl, HB4, A4, c4, rfl, hrow4⟩
  have HROW24 := Lib.hid (HROW23.out.below HB4.out)
  clear hrow4
  go_wp2_with fail
  rw [HSUB.out]
  refine (extcB (HCL.out _ _ _ HROW24.out.rd hc2a hc2b)).mono ?_
  rintro x _ ⟨e5, rfl, HB5, A5, c5, rfl, hrow5⟩
  have HROW5 := Lib.hid hrow5
  have HROW25 := Lib.hid (HROW24.out.below HB5.out)
  clear hrow5 a0 a1 a2 a3 a4 a5 a6 a7 a8 a9 a10
  go_wp2_with fail
  refine (repeat_any _ _ (heap_new_at rfl)).mono ?_
  rintro x w8 ⟨⟨A8, c8, rfl, hrow8⟩, hb8⟩
  have hb78 : Below e5.W.heap.size e5.W w8 := below_trans (below_alloc (Below.refl _ _) _) hb8
  obtain ⟨e8, he8⟩ : ∃ e : Ext W0, e.W = w8 := ⟨⟨w8, below_trans e5.below hb78⟩, rfl⟩
  subst he8
  have HROW8 := Lib.hid hrow8
  have HROW28 := Lib.hid (HROW25.out.below hb78)
  have HROW58 := Lib.hid (HROW5.out.below hb78)
  clear hrow8 hb8 hb78
  go_wp2_with fail
  refine calls_name (T := fun W1 => W1.heap[e8.W.heap.size]? = some (.cells #[.slice (some ⟨g2, 0, none⟩) N0 c2, .slice A5 NC c5, .slice A8 10 c8] 40) ∧ Below e8.W.heap.size e8.W W1) ⟨heap_new_at rfl, below_alloc (Below.refl _ _) _⟩ ?_
  rintro W1 ⟨q9, hb9⟩
  have hcat := concatP (N := NR + 10) (n := 3) [(some ⟨g2, 0, none⟩, c2, r0), (A5, c5, cl), (A8, c8, List.replicate 10 1)] _ q9 (by simp [partV, H00.out, HN0.out, HNC.out]) rfl (by
    intro p hp
    simp only [List.mem_cons, List.not_mem_nil, or_false] at hp
    rcases hp with rfl | rfl | rfl
    · exact (HROW28.out.below hb9).part
    · exact (HROW58.out.below hb9).part
    · exact (HROW8.out.below hb9).part) (by simp [partsL, H00.out, HN0.out, HNC.out]; have := HNRE.out; omega) (by omega) (by decide)
  have hpl : partsL [(some ⟨g2, 0, none⟩, c2, r0), (A5, c5, cl), (A8, c8, List.replicate 10 1)] = wi := by rw [HW.out]; simp [partsL]
  rw [hpl] at hcat
  refine hcat.mono ?_
  rintro x w10 ⟨⟨A10, c10, rfl, hrow10⟩, hb10⟩
  have hbw : Below W0.heap.size W0 w10 := below_trans (below_trans e8.below hb9) hb10
  have hq := heap_below hbw HQ2.out
  have r0' := cell_of_heap hq 0 _ rfl
  have r1' := cell_of_heap hq 1 _ rfl
  have r2' := cell_of_heap hq 2 _ rfl
  have z0 : w10.frozen? ⟨w.heap.size + 1, 0, none⟩ = false := by simp [World.frozen?, hq]
  have z1 : w10.frozen? ⟨w.heap.size + 1, 1, none⟩ = false := by simp [World.frozen?, hq]
  have z2 : w10.frozen? ⟨w.heap.size + 1, 2, none⟩ = false := by simp [World.frozen?, hq]
  have hge : W0.heap.size ≤ W1.heap.size := (below_trans e8.below hb9).size
  have HROW10 := Lib.hid (hrow10.mono hge)
  have HBW := Lib.hid hbw
  have HQ10 := Lib.hid hq
  clear hcat hpl q9 hb9 hrow10 hb10 hbw hq
  go_wp2_with fail
  refine bodyPost_ret (v := .tuple #[.agg #[.slice A10 (NR + 10 : Nat) c10, .int .i64 (NH : Nat), .int .i64 (NR + 1 : Nat)], .int .i64 0]) (by simp [results, Try.results63, go_sem, r0', r1', r2']) rfl ⟨⟨A10, c10, rfl, ?_⟩, ?_⟩
  · have h7 : ∀ ad, A10 = some ad → ad.block ≠ w.heap.size + 1 := fun ad e => by have := HROW10.out.ge ad e; omega
    exact (((HROW10.out.setCell h7 0 _).setCell h7 1 _).setCell h7 2 _).mono (by omega)
  · have h := below_trans HB.out HBW.out
    exact ((h.setCell (p := ⟨w.heap.size + 1, 0, none⟩) (by show w.heap.size ≤ w.heap.size + 1; omega) _).setCell (p := ⟨w.heap.size + 1, 1, none⟩) (by show w.heap.size ≤ w.heap.size + 1; omega) _).setCell (p := ⟨w.heap.size + 1, 2, none⟩) (by show w.heap.size ≤ w.heap.size + 1; omega) _
end Go.Proofs.Ytmlkmcpcokjogaa
-- POrder: Where any two frames first differ on the wire, and which of them has the lower key: plain facts. No condition.
namespace Go.Proofs.Ytmlkmcpcokjogaa
open Go.RowKit
/-- What arbitrates, ahead of all stuffing. -/
def hdA (f : Fr) : List Nat := if f.kind = 2 then headD f else if f.kind = 3 then headX f else headL f
def wireA (f : Fr) : List Nat := if f.kind = 2 then wireD f else if f.kind = 3 then wireX f else wireC f
theorem first_cons {P : Prop} (p : List Nat) (x y : Nat) (a b : List Nat) (h : x ≠ y) (hP : x = 0 ↔ P) (hx : x ≤ 1) (hy : y ≤ 1) : First P (p ++ x :: a) (p ++ y :: b) := ⟨p, a, b, x, y, rfl, rfl, h, hP, hx, hy⟩
theorem wireA_head (f : Fr) : ∃ l, wireA f = stuffN (hdA f) ++ l := by
  unfold wireA hdA
  by_cases h2 : f.kind = 2
  · rw [if_pos h2, if_pos h2]; exact wireD_head f
  · rw [if_neg h2, if_neg h2]
    by_cases h3 : f.kind = 3
    · rw [if_pos h3, if_pos h3]; exact wireX_head f
    · rw [if_neg h3, if_neg h3]; exact wireC_head f
/-- What arbitrates of a frame whose identifier is short: the identifier, and four bits more. -/
theorem hd_short (f : Fr) (ho : OkF f) (he : f.ext = false) : ∃ t, hdA f = ([0] ++ bitsN f.id.toNat 11) ++ bitB f.rtr :: 0 :: (if f.kind = 1 then 0 else 1) :: t ∧ (f.kind = 1 → t = []) ∧ (f.kind = 2 → t = [0]) ∧ (f.kind = 3 → t = [1, 0]) := by
  unfold hdA
  by_cases h2 : f.kind = 2
  · rw [if_pos h2]
    have hr : f.rtr = false := ho.rtr (by omega)
    refine ⟨[0], ?_, by omega, fun _ => rfl, by omega⟩
    unfold headD
    rw [hr, if_neg (by omega)]
    simp only [List.append_assoc]
    rfl
  · rw [if_neg h2]
    by_cases h3 : f.kind = 3
    · rw [if_pos h3]
      have hr : f.rtr = false := ho.rtr (by omega)
      refine ⟨[1, 0], ?_, by omega, by omega, fun _ => rfl⟩
      unfold headX
      rw [hr, if_neg (by omega)]
      simp only [List.append_assoc]
      rfl
    · rw [if_neg h3]
      have h1 : f.kind = 1 := by have := ho.kind; omega
      refine ⟨[], ?_, fun _ => rfl, by omega, by omega⟩
      unfold headL
      rw [he, if_pos h1]
      simp
theorem hd_long (f : Fr) (ho : OkF f) (he : f.ext = true) : hdA f = ([0] ++ bitsN (f.id.toNat / 262144) 11) ++ 1 :: 1 :: (bitsN (f.id.toNat % 262144) 18 ++ [bitB f.rtr] ++ [0, 0]) := by
  have h1 : f.kind = 1 := Classical.byContradiction fun h => by have := ho.ext h; rw [he] at this; cases this
  unfold hdA
  rw [if_neg (by omega), if_neg (by omega)]
  unfold headL
  rw [he]
  simp
theorem bitB_zero (b : Bool) : bitB b = 0 ↔ b = false := by cases b <;> decide
theorem bitB_le (b : Bool) : bitB b ≤ 1 := by cases b <;> decide
/-- Two frames with other keys: where they first differ the lower key is dominant. -/
theorem hd_first (f g : Fr) (hf : OkF f) (hg : OkF g) (f0 : 0 ≤ f.id) (g0 : 0 ≤ g.id) (hne : keyF f ≠ keyF g) : First (keyF f < keyF g) (hdA f) (hdA g) := by
  have fi := hf.id
  have gi := hg.id
  have fk := hf.kind
  have gk := hg.kind
  obtain ⟨n, hn⟩ := Int.eq_ofNat_of_zero_le f0
  obtain ⟨m, hm⟩ := Int.eq_ofNat_of_zero_le g0
  cases ef : f.ext <;> cases eg : g.ext
  · -- both short
    obtain ⟨t, ht, t1, t2, t3⟩ := hd_short f hf ef
    obtain ⟨u, hu, u1, u2, u3⟩ := hd_short g hg eg
    rw [ht, hu]
    unfold keyF at hne ⊢
    rw [ef, eg] at hne ⊢
    rw [ef] at fi
    rw [eg] at gi
    simp only [Bool.false_eq_true, if_false] at hne fi gi ⊢
    rw [hn] at fi
    rw [hm] at gi
    rw [hn, hm] at hne ⊢
    simp only [Int.toNat_natCast]
    by_cases hid : n = m
    · subst hid
      by_cases hr : f.rtr = g.rtr
      · rw [hr] at hne ⊢
        by_cases hk : f.kind = 1
        · by_cases hk2 : g.kind = 1
          · exact absurd (by rw [hk, hk2]) hne
          · rw [hk] at hne ⊢
            simp only [if_true, if_neg hk2, if_neg (show ¬ (1 : Int) = 3 by decide)] at hne ⊢
            exact first_cons ([0] ++ bitsN n 11 ++ [bitB g.rtr, 0]) 0 1 t u (by decide) (by split <;> simp <;> omega) (by decide) (by decide) |> fun h => by simpa using h
        · by_cases hk2 : g.kind = 1
          · rw [hk2] at hne ⊢
            simp only [if_true, if_neg hk, if_neg (show ¬ (1 : Int) = 3 by decide)] at hne ⊢
            exact first_cons ([0] ++ bitsN n 11 ++ [bitB g.rtr, 0]) 1 0 t u (by decide) (by split <;> simp <;> omega) (by decide) (by decide) |> fun h => by simpa using h
          · simp only [if_neg hk, if_neg hk2] at hne ⊢
            by_cases hf3 : f.kind = 3
            · by_cases hg3 : g.kind = 3
              · exact absurd (by rw [hf3, hg3]) hne
              · rw [t3 hf3, u2 (by omega)]
                simp only [if_pos hf3, if_neg hg3] at hne ⊢
                exact first_cons ([0] ++ bitsN n 11 ++ [bitB g.rtr, 0, 1]) 1 0 [0] [] (by decide) (by simp; omega) (by decide) (by decide) |> fun h => by simpa using h
            · by_cases hg3 : g.kind = 3
              · rw [t2 (by omega), u3 hg3]
                simp only [if_neg hf3, if_pos hg3] at hne ⊢
                exact first_cons ([0] ++ bitsN n 11 ++ [bitB g.rtr, 0, 1]) 0 1 [] [0] (by decide) (by simp <;> omega) (by decide) (by decide) |> fun h => by simpa using h
              · exact absurd (by simp only [if_neg hf3, if_neg hg3]) hne
      · have hb := bitB_inj hr
        refine first_cons _ (bitB f.rtr) (bitB g.rtr) _ _ hb ?_ (bitB_le _) (bitB_le _)
        rw [bitB_zero]
        cases hfr : f.rtr <;> cases hgr : g.rtr
        · exact absurd (hfr.trans hgr.symm) hr
        · simp only [Bool.false_eq_true, if_false, if_true, true_iff]
          repeat' split
          all_goals omega
        · simp only [Bool.false_eq_true, if_false, if_true, false_iff, reduceCtorEq]
          repeat' split
          all_goals omega
        · exact absurd (hfr.trans hgr.symm) hr
    · have h : First (n < m) (bitsN n 11) (bitsN m 11) := bitsN_first 11 n m (by omega) (by omega) hid
      refine ((h.ahead [0]).behind _ _).iff ?_
      repeat' split
      all_goals omega
  · -- short, long
    obtain ⟨t, ht, t1, t2, t3⟩ := hd_short f hf ef
    rw [ht, hd_long g hg eg]
    unfold keyF at hne ⊢
    rw [ef, eg] at hne ⊢
    rw [ef] at fi
    rw [eg] at gi
    simp only [Bool.false_eq_true, if_false, if_true] at hne fi gi ⊢
    rw [hn] at fi
    rw [hm] at gi
    rw [hn, hm] at hne ⊢
    simp only [Int.toNat_natCast]
    by_cases hid : n = m / 262144
    · rw [← hid]
      cases hfr : f.rtr
      · refine first_cons _ 0 1 _ _ (by decide) ?_ (by decide) (by decide)
        simp only [Bool.false_eq_true, if_false, true_iff]
        repeat' split
        all_goals omega
      · have hk : f.kind = 1 := Classical.byContradiction fun h => by have := hf.rtr h; rw [hfr] at this; cases this
        have h := first_cons (P := (n : Int) * 8388608 + (if true = true then 4194304 else 0) + (if f.kind = 1 then 0 else 1048576) + (if f.kind = 3 then 524288 else 0) < (m : Int) / 262144 * 8388608 + 6291456 + (m : Int) % 262144 * 8 + (if g.rtr = true then 4 else 0)) ([0] ++ bitsN n 11 ++ [1]) 0 1 ((if f.kind = 1 then 0 else 1) :: t) (bitsN (m % 262144) 18 ++ [bitB g.rtr] ++ [0, 0]) (by decide) (by
          simp only [if_true, if_pos hk, true_iff]
          rw [if_neg (by omega)]
          split <;> omega) (by decide) (by decide)
        simpa [bitB] using h
    · have h : First (n < m / 262144) (bitsN n 11) (bitsN (m / 262144) 11) := bitsN_first 11 n (m / 262144) (by omega) (by omega) hid
      refine ((h.ahead [0]).behind _ _).iff ?_
      repeat' split
      all_goals omega
  · -- long, short
    obtain ⟨t, ht, t1, t2, t3⟩ := hd_short g hg eg
    rw [ht, hd_long f hf ef]
    unfold keyF at hne ⊢
    rw [ef, eg] at hne ⊢
    rw [ef] at fi
    rw [eg] at gi
    simp only [Bool.false_eq_true, if_false, if_true] at hne fi gi ⊢
    rw [hn] at fi
    rw [hm] at gi
    rw [hn, hm] at hne ⊢
    simp only [Int.toNat_natCast]
    by_cases hid : n / 262144 = m
    · rw [hid]
      cases hgr : g.rtr
      · refine first_cons _ 1 0 _ _ (by decide) ?_ (by decide) (by decide)
        simp only [Bool.false_eq_true, if_false, false_iff, Nat.one_ne_zero]
        repeat' split
        all_goals omega
      · have hk : g.kind = 1 := Classical.byContradiction fun h => by have := hg.rtr h; rw [hgr] at this; cases this
        have h := first_cons (P := (n : Int) / 262144 * 8388608 + 6291456 + (n : Int) % 262144 * 8 + (if f.rtr = true then 4 else 0) < (m : Int) * 8388608 + (if true = true then 4194304 else 0) + (if g.kind = 1 then 0 else 1048576) + (if g.kind = 3 then 524288 else 0)) ([0] ++ bitsN m 11 ++ [1]) 1 0 (bitsN (n % 262144) 18 ++ [bitB f.rtr] ++ [0, 0]) ((if g.kind = 1 then 0 else 1) :: t) (by decide) (by
          simp only [if_true, if_pos hk, Nat.one_ne_zero, false_iff]
          rw [if_neg (show ¬ g.kind = 3 by omega)]
          split <;> omega) (by decide) (by decide)
        simpa [bitB] using h
    · have h : First (n / 262144 < m) (bitsN (n / 262144) 11) (bitsN m 11) := bitsN_first 11 (n / 262144) m (by omega) (by omega) hid
      refine ((h.ahead [0]).behind _ _).iff ?_
      repeat' split
      all_goals omega
  · -- both long
    rw [hd_long f hf ef, hd_long g hg eg]
    unfold keyF at hne ⊢
    rw [ef, eg] at hne ⊢
    rw [ef] at fi
    rw [eg] at gi
    simp only [if_true] at hne fi gi ⊢
    rw [hn] at fi
    rw [hm] at gi
    rw [hn, hm] at hne ⊢
    simp only [Int.toNat_natCast]
    by_cases hid : n / 262144 = m / 262144
    · rw [hid]
      by_cases hre : n % 262144 = m % 262144
      · rw [hre]
        have hr : f.rtr ≠ g.rtr := by
          intro hr
          rw [hr] at hne
          exact hne (by omega)
        have h := first_cons (P := (n : Int) / 262144 * 8388608 + 6291456 + (n : Int) % 262144 * 8 + (if f.rtr = true then 4 else 0) < (m : Int) / 262144 * 8388608 + 6291456 + (m : Int) % 262144 * 8 + (if g.rtr = true then 4 else 0)) ([0] ++ bitsN (m / 262144) 11 ++ 1 :: 1 :: bitsN (m % 262144) 18) (bitB f.rtr) (bitB g.rtr) [0, 0] [0, 0] (bitB_inj hr) (by
          rw [bitB_zero]
          cases hfr : f.rtr <;> cases hgr : g.rtr
          · exact absurd (hfr.trans hgr.symm) hr
          · simp; omega
          · simp; omega
          · exact absurd (hfr.trans hgr.symm) hr) (bitB_le _) (bitB_le _)
        simpa using h
      · have h : First (n % 262144 < m % 262144) (bitsN (n % 262144) 18) (bitsN (m % 262144) 18) := bitsN_first 18 _ _ (by omega) (by omega) hre
        have h2 := (((h.behind [bitB f.rtr] [bitB g.rtr]).behind [0, 0] [0, 0]).ahead ([0] ++ bitsN (m / 262144) 11 ++ [1, 1])).iff (Q := (n : Int) / 262144 * 8388608 + 6291456 + (n : Int) % 262144 * 8 + (if f.rtr = true then 4 else 0) < (m : Int) / 262144 * 8388608 + 6291456 + (m : Int) % 262144 * 8 + (if g.rtr = true then 4 else 0)) (by
          split <;> split <;> omega)
        simpa using h2
    · have h : First (n / 262144 < m / 262144) (bitsN (n / 262144) 11) (bitsN (m / 262144) 11) := bitsN_first 11 _ _ (by omega) (by omega) hid
      refine ((h.ahead [0]).behind _ _).iff ?_
      split <;> split <;> omega
/-- Two frames with the same key arbitrate alike. -/
theorem hd_same (f g : Fr) (_hf : OkF f) (_hg : OkF g) (h : f.kind = g.kind ∧ f.id = g.id ∧ f.ext = g.ext ∧ f.rtr = g.rtr) : hdA f = hdA g := by
  obtain ⟨h1, h2, h3, h4⟩ := h
  unfold hdA headD headX headL
  rw [h1, h2, h3, h4]
end Go.Proofs.Ytmlkmcpcokjogaa
-- Wire09: Any frame on the wire, by the program's own. No condition.
namespace Go.Proofs.Ytmlkmcpcokjogaa
open Go.RowKit
/-- How a Wire function answers for a frame that may be. -/
def WireOk (f : Fr) (NW NH : Nat) (W : World) (e : Ending) (w' : World) : Prop := (∃ A' c' ack, e = .returned (.tuple #[.agg #[.slice A' NW c', .int .i64 (NH : Nat), .int .i64 ack], .int .i64 0]) ∧ Row w' W.heap.size 5 A' c' (bys (wireA f))) ∧ Below W.heap.size W w'
theorem wire_parts (f : Fr) (A : Option Addr) (c : Nat) (hok : okF f = true) (hf : FrN f) :
    ∃ NW NH : Nat, (wireA f).length = NW ∧ (stuffN (hdA f)).length = NH ∧ NH ≤ NW ∧ 1 ≤ NW ∧ NW ≤ 40010 ∧
      ((f.kind = 2 ∧ ∀ W, Rd W A (bys f.data) → Calls Try.prog 63 #[frv f (.slice A f.data.length c)] W (WireOk f NW NH W)) ∨
       (f.kind = 3 ∧ ∀ W, Rd W A (bys f.data) → Calls Try.prog 64 #[frv f (.slice A f.data.length c)] W (WireOk f NW NH W)) ∨
       (f.kind = 1 ∧ ∀ W, Rd W A (bys f.data) → Calls Try.prog 65 #[frv f (.slice A f.data.length c)] W (WireOk f NW NH W))) := by
  have hk := ((okF_iff f).1 hok).kind
  rcases hk with hk | hk | hk
  · have hw : wireA f = wireC f := by unfold wireA; rw [if_neg (by omega), if_neg (by omega)]
    have hh : hdA f = headL f := by unfold hdA; rw [if_neg (by omega), if_neg (by omega)]
    have hl8 := okF_len1 f hk hok
    have h1 := stuffN_le (bodyC f)
    have h2 : (bodyC f).length ≤ 118 := by rw [bodyC_length]; split <;> omega
    have hl : (wireC f).length = (stuffN (bodyC f)).length + 10 := by unfold wireC; rw [List.length_append]; simp
    obtain ⟨l, el⟩ := wireC_head f
    have hle : (stuffN (headL f)).length ≤ (wireC f).length := by rw [el, List.length_append]; omega
    refine ⟨(stuffN (bodyC f)).length + 10, (stuffN (headL f)).length, by rw [hw, hl], by rw [hh], by omega, by omega, by omega, .inr (.inr ⟨hk, fun W hW => ?_⟩)⟩
    refine (Wire_ok f A c _ _ W hk hok hf.id0 hW hf.data rfl rfl).mono ?_
    rintro e w' ⟨⟨A', c', he, hrow⟩, hb⟩
    exact ⟨⟨A', c', _, he, by rw [hw]; exact hrow⟩, hb⟩
  · have hw : wireA f = wireD f := by unfold wireA; rw [if_pos hk]
    have hh : hdA f = headD f := by unfold hdA; rw [if_pos hk]
    obtain ⟨h1, h2, -⟩ := fd_bound f hk hok
    have hl : (wireD f).length = (rawD f).length + 10 := by unfold wireD; rw [List.length_append]; simp
    refine ⟨(rawD f).length + 10, (stuffN (headD f)).length, by rw [hw, hl], by rw [hh], by omega, by omega, by omega, .inl ⟨hk, fun W hW => ?_⟩⟩
    refine (FdWire_ok f A c _ _ W hk hok hf.id0 hW hf.data rfl rfl).mono ?_
    rintro e w' ⟨⟨A', c', he, hrow⟩, hb⟩
    exact ⟨⟨A', c', _, he, by rw [hw]; exact hrow⟩, hb⟩
  · have hw : wireA f = wireX f := by unfold wireA; rw [if_neg (by omega), if_pos hk]
    have hh : hdA f = headX f := by unfold hdA; rw [if_neg (by omega), if_pos hk]
    obtain ⟨h1, h2, -⟩ := xl_bound f hk hok
    have hl : (wireX f).length = (rawX f).length + 10 := by unfold wireX; rw [List.length_append]; simp
    refine ⟨(rawX f).length + 10, (stuffN (headX f)).length, by rw [hw, hl], by rw [hh], by omega, by omega, by omega, .inr (.inl ⟨hk, fun W hW => ?_⟩)⟩
    refine (XlWire_ok f A c _ _ W hk hok hf.id0 hf.sdt hf.vcid hf.af hW hf.data rfl rfl).mono ?_
    rintro e w' ⟨⟨A', c', he, hrow⟩, hb⟩
    exact ⟨⟨A', c', _, he, by rw [hw]; exact hrow⟩, hb⟩
set_option maxRecDepth 100000 in
set_option maxHeartbeats 2000000 in
theorem Wire09_ok (f : Fr) (A : Option Addr) (c : Nat) (hok : okF f = true) (hf : FrN f) : ∃ NW NH : Nat, (wireA f).length = NW ∧ (stuffN (hdA f)).length = NH ∧ NH ≤ NW ∧ 1 ≤ NW ∧ NW ≤ 40010 ∧
    ∀ W, Rd W A (bys f.data) → Calls Try.prog 32 #[frv f (.slice A f.data.length c)] W (WireOk f NW NH W) := by
  obtain ⟨NW, NH, h1, h2, h3, h4, h5, hk⟩ := wire_parts f A c hok hf
  refine ⟨NW, NH, h1, h2, h3, h4, h5, fun w hr => ?_⟩
  have hW : Hid (∀ W e w', WireOk f NW NH W e w' ↔ ((∃ A' c' ack, e = .returned (.tuple #[.agg #[.slice A' NW c', .int .i64 (NH : Nat), .int .i64 ack], .int .i64 0]) ∧ Row w' W.heap.size 5 A' c' (bys (wireA f))) ∧ Below W.heap.size W w')) := fun _ _ _ => Iff.rfl
  have hHR := Lib.hid hr
  clear hr
  obtain ⟨R, hR⟩ : ∃ R, WireOk f NW NH = R := ⟨_, rfl⟩
  rw [hR] at hk hW ⊢
  have HK := Lib.hid hk
  have HRR := Lib.hid hR
  clear hk hR h1 h2 h3 h4 h5
  obtain ⟨kind, id, ext, rtr, brs, esi, sec, sdt, vcid, af, data⟩ := f
  dsimp only [frv] at *
  generalize data.length = n at *
  rcases HK.out with ⟨hk, hc⟩ | ⟨hk, hc⟩ | ⟨hk, hc⟩
  all_goals
    have HC := Lib.hid hc
    clear hc HK
    subst hk
    go_enter Try.func32, Try.ntmps32
    go_wp2_with fail
    refine calls_blk2 (fun W0 q1 q2 hb => ?_)
    have HB := Lib.hid hb
    have HQ2 := Lib.hid q2
    have hsz := heap_lt q2
    clear hb q1 q2
    refine (HC.out _ (hHR.out.below HB.out)).mono ?_
    rintro e w1 hpost
    obtain ⟨⟨A', c', ack, rfl, hrow⟩, hb1⟩ := (hW.out _ _ _).1 hpost
    have hq := heap_below hb1 HQ2.out
    have c0 := cell_of_heap hq 0 _ rfl
    have c1 := cell_of_heap hq 1 _ rfl
    have c2 := cell_of_heap hq 2 _ rfl
    have z0 : w1.frozen? ⟨w.heap.size + 1, 0, none⟩ = false := by simp [World.frozen?, hq]
    have z1 : w1.frozen? ⟨w.heap.size + 1, 1, none⟩ = false := by simp [World.frozen?, hq]
    have z2 : w1.frozen? ⟨w.heap.size + 1, 2, none⟩ = false := by simp [World.frozen?, hq]
    have HB1 := Lib.hid hb1
    have HROW := Lib.hid hrow
    clear hb1 hq hpost hrow
    go_wp2_with fail
    refine bodyPost_ret (v := .tuple #[.agg #[.slice A' NW c', .int .i64 (NH : Nat), .int .i64 ack], .int .i64 0]) (by simp [results, Try.results32, go_sem, c0, c1, c2]) rfl ((hW.out _ _ _).2 ⟨⟨A', c', ack, rfl, ?_⟩, ?_⟩)
    · have h7 : ∀ ad, A' = some ad → ad.block ≠ w.heap.size + 1 := fun ad e => by have := HROW.out.ge ad e; omega
      exact (((HROW.out.setCell h7 0 _).setCell h7 1 _).setCell h7 2 _).mono (by omega)
    · have h := below_trans HB.out HB1.out
      exact ((h.setCell (p := ⟨w.heap.size + 1, 0, none⟩) (by show w.heap.size ≤ w.heap.size + 1; omega) _).setCell (p := ⟨w.heap.size + 1, 1, none⟩) (by show w.heap.size ≤ w.heap.size + 1; omega) _).setCell (p := ⟨w.heap.size + 1, 2, none⟩) (by show w.heap.size ≤ w.heap.size + 1; omega) _
end Go.Proofs.Ytmlkmcpcokjogaa
-- Law10a: The document's example of layer 10, as the law asks it. No condition.
namespace Go.Proofs.Ytmlkmcpcokjogaa
open Go.RowKit
def exC : Fr := { kind := 1, id := 5, ext := false, rtr := false, brs := false, esi := false, sec := false, sdt := 0, vcid := 0, af := 0, data := [] }
def exD : Fr := { kind := 2, id := 5, ext := false, rtr := false, brs := false, esi := false, sec := false, sdt := 0, vcid := 0, af := 0, data := [] }
def exX : Fr := { kind := 3, id := 5, ext := false, rtr := false, brs := false, esi := false, sec := false, sdt := 0, vcid := 0, af := 0, data := [1] }
def exE : Fr := { kind := 1, id := 1310720, ext := true, rtr := false, brs := false, esi := false, sec := false, sdt := 0, vcid := 0, af := 0, data := [] }
theorem ex1 (w : World) : Calls Try.prog 31 #[.agg #[.int .i64 1, .int .u32 5, .bool false, .bool false, .bool false, .bool false, .bool false, .int .u8 0, .int .u8 0, .int .u32 0, .slice none 0 0], .agg #[.int .i64 2, .int .u32 5, .bool false, .bool false, .bool false, .bool false, .bool false, .int .u8 0, .int .u8 0, .int .u32 0, .slice none 0 0]] w
    fun e w' => e = .returned (.tuple #[.int .i64 (-1), .int .i64 0]) ∧ Below w.heap.size w w' := by
  have h := Compare_any exC exD none none 0 0 w (by decide) (by decide) (by decide) (by decide)
  have e1 : (okF exC && okF exD) = true := by decide
  have e2 : cmpF exC exD = -1 := by decide
  rw [e1, e2] at h
  exact h
theorem ex2 (A : Option Addr) (c : Nat) (w : World) : Calls Try.prog 31 #[.agg #[.int .i64 3, .int .u32 5, .bool false, .bool false, .bool false, .bool false, .bool false, .int .u8 0, .int .u8 0, .int .u32 0, .slice A 1 c], .agg #[.int .i64 2, .int .u32 5, .bool false, .bool false, .bool false, .bool false, .bool false, .int .u8 0, .int .u8 0, .int .u32 0, .slice none 0 0]] w
    fun e w' => e = .returned (.tuple #[.int .i64 1, .int .i64 0]) ∧ Below w.heap.size w w' := by
  have h := Compare_any exX exD A none c 0 w (by decide) (by decide) (by decide) (by decide)
  have e1 : (okF exX && okF exD) = true := by decide
  have e2 : cmpF exX exD = 1 := by decide
  rw [e1, e2] at h
  exact h
theorem ex3 (A : Option Addr) (c : Nat) (w : World) : Calls Try.prog 31 #[.agg #[.int .i64 1, .int .u32 1310720, .bool true, .bool false, .bool false, .bool false, .bool false, .int .u8 0, .int .u8 0, .int .u32 0, .slice none 0 0], .agg #[.int .i64 3, .int .u32 5, .bool false, .bool false, .bool false, .bool false, .bool false, .int .u8 0, .int .u8 0, .int .u32 0, .slice A 1 c]] w
    fun e w' => e = .returned (.tuple #[.int .i64 1, .int .i64 0]) ∧ Below w.heap.size w w' := by
  have h := Compare_any exE exX none A 0 c w (by decide) (by decide) (by decide) (by decide)
  have e1 : (okF exE && okF exX) = true := by decide
  have e2 : cmpF exE exX = 1 := by decide
  rw [e1, e2] at h
  exact h
set_option maxHeartbeats 1000000 in
theorem alive10 (w : World) : Calls Try.prog 30 #[] w fun e w' => e = .returned (.bool true) ∧ Below w.heap.size w w' := by
  go_enter Try.func30, Try.ntmps30
  go_wp2_with fail
  refine (ex1 _).mono ?_
  rintro e w1 ⟨rfl, hb1⟩
  have HB1 := Lib.hid hb1
  clear hb1
  go_wp2_with fail
  refine (ex2 _ _ _).mono ?_
  rintro e w2 ⟨rfl, hb2⟩
  have HB2 := Lib.hid hb2
  clear hb2
  go_wp2_with fail
  refine (ex3 _ _ _).mono ?_
  rintro e w3 ⟨rfl, hb3⟩
  have HB3 := Lib.hid hb3
  clear hb3
  go_wp2_with fail
  go_ret
  exact ⟨rfl, below_trans (below_alloc (below_trans (below_alloc HB1.out _) HB2.out) _) HB3.out⟩
end Go.Proofs.Ytmlkmcpcokjogaa
-- Plain10: What it means that a frame may be, and what its key tells: plain facts. No condition.
namespace Go.Proofs.Ytmlkmcpcokjogaa
open Go.RowKit
theorem key_same (f g : Fr) (hf : OkF f) (hg : OkF g) (f0 : 0 ≤ f.id) (g0 : 0 ≤ g.id) (h : keyF f = keyF g) : f.kind = g.kind ∧ f.id = g.id ∧ f.ext = g.ext ∧ f.rtr = g.rtr := by
  obtain ⟨k1, -, k3, k4, k5, -⟩ := hf
  obtain ⟨l1, -, l3, l4, l5, -⟩ := hg
  unfold keyF at h
  cases e1 : f.ext <;> cases e2 : g.ext <;> cases r1 : f.rtr <;> cases r2 : g.rtr <;> simp [e1, e2, r1, r2] at * <;> (repeat' split at h) <;> omega
end Go.Proofs.Ytmlkmcpcokjogaa
-- LawOrderWire: Of two frames with other keys the lower one is dominant where both differ first on the wire, and both arbitrate there: the law OrderWire answers true. No condition.
namespace Go.Proofs.Ytmlkmcpcokjogaa
open Go.RowKit
/-- Up to where two frames on the wire are alike, and what is there. -/
theorem order_place (f g : Fr) (fo : okF f = true) (go : okF g = true) (f0 : 0 ≤ f.id) (g0 : 0 ≤ g.id) (NH MH : Nat) (hN : (stuffN (hdA f)).length = NH) (hM : (stuffN (hdA g)).length = MH) :
    ∃ j, j ≤ NH ∧ j ≤ MH ∧ (∀ i, i < j → (wireA f)[i]? = (wireA g)[i]?) ∧ ((j < NH ∧ j < MH ∧ ∃ x y : Nat, (wireA f)[j]? = some x ∧ (wireA g)[j]? = some y ∧ x ≠ y ∧ x ≤ 1 ∧ y ≤ 1 ∧ cmpF f g = (x : Int) - (y : Int)) ∨ (j = NH ∧ j = MH ∧ cmpF f g = 0)) := by
  obtain ⟨l, el⟩ := wireA_head f
  obtain ⟨m, em⟩ := wireA_head g
  have hf := (okF_iff f).1 fo
  have hg := (okF_iff g).1 go
  by_cases hk : keyF f = keyF g
  · have hh := hd_same f g hf hg (key_same f g hf hg f0 g0 hk)
    rw [hh] at el hN
    have hNM : NH = MH := by omega
    refine ⟨NH, Nat.le_refl _, by omega, fun i hi => ?_, .inr ⟨rfl, hNM, ?_⟩⟩
    · rw [el, em, List.getElem?_append_left (by omega), List.getElem?_append_left (by omega)]
    · unfold cmpF cmpI; rw [hk]; simp
  · have h := (hd_first f g hf hg f0 g0 hk).stuffed
    obtain ⟨p, a, b, x, y, h1, h2, h3, h4, h5, h6⟩ := h
    have e1 : (stuffN (hdA f)).length = p.length + (a.length + 1) := by rw [h1]; simp
    have e2 : (stuffN (hdA g)).length = p.length + (b.length + 1) := by rw [h2]; simp
    refine ⟨p.length, by omega, by omega, fun i hi => ?_, .inl ⟨by omega, by omega, x, y, ?_, ?_, h3, h5, h6, ?_⟩⟩
    · rw [el, em, h1, h2]
      simp only [List.append_assoc]
      rw [List.getElem?_append_left hi, List.getElem?_append_left hi]
    · rw [el, h1]; simp
    · rw [em, h2]; simp
    · unfold cmpF cmpI
      by_cases hlt : keyF f < keyF g
      · rw [if_pos hlt]; have := h4.2 hlt; omega
      · have hx : ¬ x = 0 := fun h => hlt (h4.1 h)
        rw [if_neg hlt, if_pos (by omega)]; omega
theorem cmpF_range (f g : Fr) : -1 ≤ cmpF f g ∧ cmpF f g ≤ 1 := by unfold cmpF cmpI; split <;> (try split) <;> omega
set_option maxRecDepth 100000 in
set_option maxHeartbeats 4000000 in
theorem wireOrder_main (f g : Fr) (A B : Option Addr) (c d : Nat) (w : World) (hf3 : f.data.length ≤ 100) (hg3 : g.data.length ≤ 100) (hfn : FrN f) (hgn : FrN g) (hr : Rd w A (bys f.data)) (hr2 : Rd w B (bys g.data)) (hok : okF f = true) (hok2 : okF g = true) :
    Calls Try.prog 9 #[frv f (.slice A f.data.length c), frv g (.slice B g.data.length d)] w fun e w' => e = .returned (.bool true) ∧ Below w.heap.size w w' := by
  have HC1 := Lib.hid (fun W => Check_any f A c W (by omega))
  have HC2 := Lib.hid (fun W => Check_any g B d W (by omega))
  rw [hok] at HC1
  rw [hok2] at HC2
  have he : errV true = .int .i64 0 := rfl
  rw [he] at HC1 HC2
  have HCM := Lib.hid (fun W => Compare_any f g A B c d W (by omega) (by omega) hfn.id0 hgn.id0)
  rw [hok, hok2] at HCM
  have he2 : errV (true && true) = .int .i64 0 := rfl
  rw [he2] at HCM
  simp only [Bool.and_self, if_true] at HCM
  obtain ⟨nw, NH, hl1, hNH, hNw, hnw1, hnw2, hWf⟩ := Wire09_ok f A c hok hfn
  obtain ⟨mw, MH, hl2, hMH, hMw, hmw1, hmw2, hWg⟩ := Wire09_ok g B d hok2 hgn
  obtain ⟨j, hj1, hj2, hj3, hj4⟩ := order_place f g hok hok2 hfn.id0 hgn.id0 NH MH hNH hMH
  have hcr := cmpF_range f g
  have HW := Lib.hid hWf
  have HW2 := Lib.hid hWg
  have HR := Lib.hid hr
  have HR2 := Lib.hid hr2
  have HL1 := Lib.hid hl1
  have HL2 := Lib.hid hl2
  have HJ3 := Lib.hid hj3
  have HJ4 := Lib.hid hj4
  obtain ⟨wi, hwi⟩ : ∃ wi, wireA f = wi := ⟨_, rfl⟩
  obtain ⟨wj, hwj⟩ : ∃ wj, wireA g = wj := ⟨_, rfl⟩
  have HWI := Lib.hid (fun W e w' => (show WireOk f nw NH W e w' → ((∃ A' c' ack, e = .returned (.tuple #[.agg #[.slice A' nw c', .int .i64 (NH : Nat), .int .i64 ack], .int .i64 0]) ∧ Row w' W.heap.size 5 A' c' (bys wi)) ∧ Below W.heap.size W w') from by unfold WireOk; rw [hwi]; exact id))
  have HWJ := Lib.hid (fun W e w' => (show WireOk g mw MH W e w' → ((∃ A' c' ack, e = .returned (.tuple #[.agg #[.slice A' mw c', .int .i64 (MH : Nat), .int .i64 ack], .int .i64 0]) ∧ Row w' W.heap.size 5 A' c' (bys wj)) ∧ Below W.heap.size W w') from by unfold WireOk; rw [hwj]; exact id))
  rw [hwi] at HL1 HJ3 HJ4
  rw [hwj] at HL2 HJ3 HJ4
  obtain ⟨cn, hcn⟩ : ∃ cn, cmpF f g = cn := ⟨_, rfl⟩
  rw [hcn] at HCM HJ4 hcr
  obtain ⟨hc1, hc2⟩ := hcr
  obtain ⟨fk, fi, fe, fr, f4, f5, f6, f7, f8, f9, fd⟩ := f
  obtain ⟨gk, gi, ge, gr, g4, g5, g6, g7, g8, g9, gd⟩ := g
  dsimp only [frv] at *
  generalize fd.length = n at *
  generalize gd.length = m at *
  have hn100 : ¬ (100 : Int) < (n : Int) := by omega
  have hm100 : ¬ (100 : Int) < (m : Int) := by omega
  clear hr hr2 hok hok2 hNH hMH hfn hgn hwi hwj hj3 hj4 hl1 hl2 hcn hWf hWg hf3 hg3 he he2
  go_enter Try.func9, Try.ntmps9
  go_wp2_with fail
  refine calls_blk2 (fun W0 q1 q2 hb => ?_)
  have HB := Lib.hid hb
  obtain ⟨a0, a1, a2, a3, a4, a5, a6, a7, a8, a9, a10⟩ := ext11 q1
  obtain ⟨b0, b1, b2, b3, b4, b5, b6, b7, b8, b9, b10⟩ := ext11 q2
  have hsz1 := ext_lt q1
  have hsz2 := ext_lt q2
  clear hb q1 q2
  refine (extc_same (alive10 _)).mono ?_
  rintro x _ ⟨e1, rfl, rfl⟩
  go_wp2_with fail
  refine (extc (HC1.out _)).mono ?_
  rintro x _ ⟨e2, rfl, rfl⟩
  go_wp2_with fail
  refine (extc (HC2.out _)).mono ?_
  rintro x _ ⟨e3, rfl, rfl⟩
  go_wp2_with fail
  refine (extc (HCM.out _)).mono ?_
  rintro x _ ⟨e4, rfl, rfl⟩
  go_wp2_with fail
  have HRD := Lib.hid (fun e : Ext W0 => (HR.out.below HB.out).ext e)
  have HRD2 := Lib.hid (fun e : Ext W0 => (HR2.out.below HB.out).ext e)
  refine (HW.out _ (HRD.out e4)).mono ?_
  intro x w5 hpost
  obtain ⟨⟨A5, c5, k5, rfl, hrow5⟩, hb5⟩ := HWI.out _ _ _ hpost
  obtain ⟨ga, rfl, hga, hca1, hca2⟩ := row_some (n := nw) hrow5 (by rw [HL1.out]) (by omega)
  obtain ⟨e5, he5⟩ : ∃ e : Ext W0, e.W = w5 := ⟨⟨w5, below_trans e4.below hb5⟩, rfl⟩
  subst he5
  have HROW5 := Lib.hid hrow5
  clear hpost hrow5 hb5
  go_wp2_with fail
  obtain ⟨p, hp⟩ : ∃ p, e5.W.heap.size = p := ⟨_, rfl⟩
  rw [hp]
  refine calls_name (T := fun W2 => W2.heap[p]? = some (.cells #[.slice (some ⟨ga, 0, none⟩) nw c5, .int .i64 NH, .int .i64 k5] 80) ∧ Below e5.W.heap.size e5.W W2) ⟨heap_new_at hp.symm, below_alloc (Below.refl _ _) _⟩ ?_
  rintro W2 ⟨r2, hb2⟩
  have hw02 : Below W0.heap.size W0 W2 := below_trans e5.below hb2
  refine (HW2.out W2 (HRD2.out ⟨W2, hw02⟩)).mono ?_
  intro x w6 hpost
  obtain ⟨⟨A6, c6, k6, rfl, hrow6⟩, hb6⟩ := HWJ.out _ _ _ hpost
  obtain ⟨gc, rfl, hgc, hcb1, hcb2⟩ := row_some (n := mw) hrow6 (by rw [HL2.out]) (by omega)
  have HROW6 := Lib.hid hrow6
  have HRB2 := Lib.hid (heap_below hb6 r2)
  have HB56 := Lib.hid (below_trans hb2 hb6)
  have HB06 := Lib.hid (below_trans hw02 hb6)
  have b1' : w6.cell? ⟨p, 1, none⟩ = some (.int .i64 NH) := cell_of_heap (heap_below hb6 r2) 1 _ rfl
  have hpw : p < w6.heap.size := heap_lt (heap_below hb6 r2)
  obtain ⟨p2, hp2⟩ : ∃ p2, w6.heap.size = p2 := ⟨_, rfl⟩
  have hbox2 : (w6.alloc (.cells #[.slice (some ⟨gc, 0, none⟩) mw c6, .int .i64 MH, .int .i64 k6] 80)).heap[p2]? = some (.cells #[.slice (some ⟨gc, 0, none⟩) mw c6, .int .i64 MH, .int .i64 k6] 80) := heap_new_at hp2.symm
  have HBOX2 := Lib.hid hbox2
  have HP2 := Lib.hid hp2
  have hpp2 : p < p2 := by omega
  have hpn2 : ¬ p = p2 := by omega
  clear hpost hrow6 hb6 hb2 r2 hw02 hp hbox2 HC1 HC2 HCM HW HW2 hn100 hm100 hsz1 hsz2 a0 a1 a2 a3 a4 a5 a6 a7 a8 a9 a10 b0 b1 b2 b3 b4 b5 b6 b7 b8 b9 b10 HWI HWJ
  have hmin : (NH : Int) ≤ (MH : Int) ∨ (MH : Int) < (NH : Int) := by omega
  obtain ⟨MN, hMN⟩ : ∃ MN : Nat, MN = min NH MH := ⟨_, rfl⟩
  have hMN1 : j ≤ MN := by omega
  have HMN := Lib.hid hMN
  clear hMN
  rcases hmin with hmin | hmin
  all_goals
    go_wp2_with fail
    go_loopw [65] (fun iv wr => ∃ k : Nat, k ≤ j ∧ iv = .int .i64 k ∧ Hid (wr.heap[p]? = some (.cells #[.slice (some ⟨ga, 0, none⟩) nw c5, .int .i64 NH, .int .i64 k5] 80)) ∧ Hid (wr.heap[p2]? = some (.cells #[.slice (some ⟨gc, 0, none⟩) mw c6, .int .i64 MH, .int .i64 k6] 80)) ∧ Hid (Below w6.heap.size w6 wr)) (fun iv _ => j + 1 - (intOf iv).toNat)
    case atStart => exact ⟨0, by omega, rfl, heap_push HRB2.out, by rw [← HP2.out] at HBOX2 ⊢; exact HBOX2, below_alloc (Below.refl _ _) _⟩
    case round =>
      obtain ⟨k, hk, rfl, HX1, HX2, HBW⟩ := hrel
      have c0 := cell_of_heap HX1.out 0 _ rfl
      have c1 : wr.cell? ⟨p, 1, none⟩ = some (.int .i64 NH) := cell_of_heap HX1.out 1 _ rfl
      have d0 := cell_of_heap HX2.out 0 _ rfl
      have d1 : wr.cell? ⟨p2, 1, none⟩ = some (.int .i64 MH) := cell_of_heap HX2.out 1 _ rfl
      have hbw5 : Below e5.W.heap.size e5.W wr := below_trans HB56.out HBW.out
      by_cases hkj : k < j
      · have hkNH : (k : Int) < (NH : Int) := by omega
        have hkMH : (k : Int) < (MH : Int) := by omega
        have hknw : (k : Int) < (nw : Int) := by omega
        have hkmw : (k : Int) < (mw : Int) := by omega
        obtain ⟨v, hv⟩ : ∃ v, wi[k]? = some v := ⟨_, List.getElem?_eq_getElem (by rw [HL1.out]; omega)⟩
        have x1 := row_at HROW5.out hbw5 k v hv
        have y1 := row_at HROW6.out HBW.out k v (by rw [← HJ3.out k hkj]; exact hv)
        clear hv hbw5
        go_wp2_with fail
        go_quiet (fail)
        go_wp2_with fail
        go_roundw
        case rel => exact ⟨k + 1, by omega, by go_num, HX1, HX2, below_drewN HBW.out _⟩
        case measure => simp [intOf]; omega
      · obtain rfl : j = k := by omega
        rcases HJ4.out with ⟨hjN, hjM, x, y, hx, hy, hxy, hx1, hy1, hcn⟩ | ⟨hjN, hjM, hcn⟩
        · have x1 := row_at HROW5.out hbw5 j x hx
          have y1 := row_at HROW6.out HBW.out j y hy
          have hkNH : (j : Int) < (NH : Int) := by omega
          have hkMH : (j : Int) < (MH : Int) := by omega
          have hknw : (j : Int) < (nw : Int) := by omega
          have hkmw : (j : Int) < (mw : Int) := by omega
          have hne : ((x : Int) != (y : Int)) = true := by rw [bne_iff_ne]; omega
          have hwr : IntKind.i64.wrap ((x : Int) - (y : Int)) = (x : Int) - (y : Int) := IntWalk.i64_in _ (by omega)
          have hcb : (cn == (x : Int) - (y : Int)) = true := by rw [beq_iff_eq]; exact hcn
          clear hbw5 hx hy hxy hcn
          go_wp2_with fail
          go_quiet (fail)
          go_wp2_with fail
          go_quiet (fail)
          go_wp2_with fail
          go_ret
          exact ⟨by first | rfl | simp, below_trans HB.out (below_trans HB06.out (below_drewN (below_drewN HBW.out _) _))⟩
        · have e1 : NH = j := hjN.symm
          have e2 : MH = j := hjM.symm
          first
            | (exfalso; omega)
            | (have hcb : (cn == 0) = true := by rw [beq_iff_eq]; exact hcn
               have heq : ((NH : Int) == (MH : Int)) = true := by rw [beq_iff_eq]; omega
               have hj5 : ¬ (j : Int) < (NH : Int) := by omega
               have hj6 : ¬ (j : Int) < (MH : Int) := by omega
               clear hbw5 hcn e1 e2 hjN hjM
               go_wp2_with fail
               go_ret
               exact ⟨by first | rfl | simp, below_trans HB.out (below_trans HB06.out HBW.out)⟩)
theorem pick_none (f g : Fr) (h : ¬ ((okF f = true ∧ okF g = true) ∧ f.data.length ≤ 100 ∧ g.data.length ≤ 100)) : okF f = false ∨ (okF f = true ∧ okF g = false) ∨ (okF f = true ∧ okF g = true ∧ 100 < f.data.length) ∨ (okF f = true ∧ okF g = true ∧ f.data.length ≤ 100 ∧ 100 < g.data.length) := by
  cases h1 : okF f
  · exact .inl rfl
  · cases h2 : okF g
    · exact .inr (.inl ⟨rfl, rfl⟩)
    · by_cases h3 : f.data.length ≤ 100
      · exact .inr (.inr (.inr ⟨rfl, rfl, h3, Classical.byContradiction fun h4 => h ⟨⟨h1, h2⟩, h3, by omega⟩⟩))
      · exact .inr (.inr (.inl ⟨rfl, rfl, by omega⟩))
set_option maxRecDepth 100000 in
set_option maxHeartbeats 2000000 in
theorem wireOrder_triv (f g : Fr) (A B : Option Addr) (c d : Nat) (w : World) (hf : f.data.length ≤ 9223372036854775807) (hg : g.data.length ≤ 9223372036854775807) (h : ¬ ((okF f = true ∧ okF g = true) ∧ f.data.length ≤ 100 ∧ g.data.length ≤ 100)) :
    Calls Try.prog 9 #[frv f (.slice A f.data.length c), frv g (.slice B g.data.length d)] w fun e w' => e = .returned (.bool true) ∧ Below w.heap.size w w' := by
  have HC1 := Lib.hid (fun W => Check_any f A c W hf)
  have HC2 := Lib.hid (fun W => Check_any g B d W hg)
  have hcase := pick_none f g h
  obtain ⟨o1, ho1⟩ : ∃ o, okF f = o := ⟨_, rfl⟩
  obtain ⟨o2, ho2⟩ : ∃ o, okF g = o := ⟨_, rfl⟩
  rw [ho1] at HC1 hcase
  rw [ho2] at HC2 hcase
  unfold errV at HC1 HC2
  obtain ⟨fk, fi, fe, fr, f4, f5, f6, f7, f8, f9, fd⟩ := f
  obtain ⟨gk, gi, ge, gr, g4, g5, g6, g7, g8, g9, gd⟩ := g
  dsimp only [frv] at *
  generalize fd.length = n at *
  generalize gd.length = m at *
  clear ho1 ho2 h
  rcases hcase with rfl | ⟨rfl, rfl⟩ | ⟨rfl, rfl, h3⟩ | ⟨rfl, rfl, h3, h4⟩
  · simp only [Bool.false_eq_true, if_false] at HC1
    go_enter Try.func9, Try.ntmps9
    go_wp2_with fail
    refine calls_blk2 (fun W0 q1 q2 hb => ?_)
    have HB := Lib.hid hb
    obtain ⟨a0, a1, a2, a3, a4, a5, a6, a7, a8, a9, a10⟩ := ext11 q1
    obtain ⟨b0, b1, b2, b3, b4, b5, b6, b7, b8, b9, b10⟩ := ext11 q2
    clear hb q1 q2
    refine (extc_same (alive10 _)).mono ?_
    rintro x _ ⟨e1, rfl, rfl⟩
    go_wp2_with fail
    refine (extc (HC1.out _)).mono ?_
    rintro x _ ⟨e2, rfl, rfl⟩
    go_wp2_with fail
    go_ret
    exact ⟨rfl, ext_end HB.out⟩
  · simp only [Bool.false_eq_true, if_false, if_true] at HC1 HC2
    go_enter Try.func9, Try.ntmps9
    go_wp2_with fail
    refine calls_blk2 (fun W0 q1 q2 hb => ?_)
    have HB := Lib.hid hb
    obtain ⟨a0, a1, a2, a3, a4, a5, a6, a7, a8, a9, a10⟩ := ext11 q1
    obtain ⟨b0, b1, b2, b3, b4, b5, b6, b7, b8, b9, b10⟩ := ext11 q2
    clear hb q1 q2
    refine (extc_same (alive10 _)).mono ?_
    rintro x _ ⟨e1, rfl, rfl⟩
    go_wp2_with fail
    refine (extc (HC1.out _)).mono ?_
    rintro x _ ⟨e2, rfl, rfl⟩
    go_wp2_with fail
    refine (extc (HC2.out _)).mono ?_
    rintro x _ ⟨e3, rfl, rfl⟩
    go_wp2_with fail
    go_ret
    exact ⟨rfl, ext_end HB.out⟩
  · simp only [if_true] at HC1 HC2
    have hn1 : (100 : Int) < (n : Int) := by omega
    go_enter Try.func9, Try.ntmps9
    go_wp2_with fail
    refine calls_blk2 (fun W0 q1 q2 hb => ?_)
    have HB := Lib.hid hb
    obtain ⟨a0, a1, a2, a3, a4, a5, a6, a7, a8, a9, a10⟩ := ext11 q1
    obtain ⟨b0, b1, b2, b3, b4, b5, b6, b7, b8, b9, b10⟩ := ext11 q2
    clear hb q1 q2
    refine (extc_same (alive10 _)).mono ?_
    rintro x _ ⟨e1, rfl, rfl⟩
    go_wp2_with fail
    refine (extc (HC1.out _)).mono ?_
    rintro x _ ⟨e2, rfl, rfl⟩
    go_wp2_with fail
    refine (extc (HC2.out _)).mono ?_
    rintro x _ ⟨e3, rfl, rfl⟩
    go_wp2_with fail
    go_ret
    exact ⟨rfl, ext_end HB.out⟩
  · simp only [if_true] at HC1 HC2
    have hn1 : ¬ (100 : Int) < (n : Int) := by omega
    have hm1 : (100 : Int) < (m : Int) := by omega
    go_enter Try.func9, Try.ntmps9
    go_wp2_with fail
    refine calls_blk2 (fun W0 q1 q2 hb => ?_)
    have HB := Lib.hid hb
    obtain ⟨a0, a1, a2, a3, a4, a5, a6, a7, a8, a9, a10⟩ := ext11 q1
    obtain ⟨b0, b1, b2, b3, b4, b5, b6, b7, b8, b9, b10⟩ := ext11 q2
    clear hb q1 q2
    refine (extc_same (alive10 _)).mono ?_
    rintro x _ ⟨e1, rfl, rfl⟩
    go_wp2_with fail
    refine (extc (HC1.out _)).mono ?_
    rintro x _ ⟨e2, rfl, rfl⟩
    go_wp2_with fail
    refine (extc (HC2.out _)).mono ?_
    rintro x _ ⟨e3, rfl, rfl⟩
    go_wp2_with fail
    go_ret
    exact ⟨rfl, ext_end HB.out⟩
theorem wireOrder_walk (f g : Fr) (A B : Option Addr) (c d : Nat) (w : World) (hf : f.data.length ≤ 9223372036854775807) (hg : g.data.length ≤ 9223372036854775807) (hfn : FrN f) (hgn : FrN g) (hr : Rd w A (bys f.data)) (hr2 : Rd w B (bys g.data)) :
    Calls Try.prog 9 #[frv f (.slice A f.data.length c), frv g (.slice B g.data.length d)] w fun e w' => e = .returned (.bool true) ∧ Below w.heap.size w w' := by
  by_cases h : ((okF f = true ∧ okF g = true) ∧ f.data.length ≤ 100 ∧ g.data.length ≤ 100)
  · exact wireOrder_main f g A B c d w h.2.1 h.2.2 hfn hgn hr hr2 h.1.1 h.1.2
  · exact wireOrder_triv f g A B c d w hf hg h
end Go.Proofs.Ytmlkmcpcokjogaa
-- RowOrderWire: The law OrderWire answers true at every input, and leaves its input as it was. No condition.
namespace Go.Proofs.Ytmlkmcpcokjogaa
open Go.ChangeShapes Go.WideShapes Go.ChangeAt Go.RowKit
set_option maxRecDepth 100000 in
theorem orderWire_lifted (os : Os) (started : os.Started) (H : Type) (enc : TypeId × Value → H) :
    ReturnsInHanded {} Try.checked os 9 .any (Rows.orderWireSpec.pre6 enc Try.prog Try.f9 Rows.orderWireRow.domain false) (Rows.orderWireSpec.post enc Try.prog Try.f9 false true false false) := by
  refine returnsInHanded_of_change (C := Try.checked) own started (by kernel_rfl) Try.func9
    (ChangeSpec.witness6 (enc := enc) (C := Try.checked) false ⟨#[], #[zeroV, zeroV], []⟩ 8 (by kernel_rfl) (by kernel_rfl) (by kernel_rfl) (by kernel_rfl)) ?_
  intro W base args ds gs before hval0 hW hcnd _
  have hval : ∀ (j : Nat) t v, Try.f9.params[j]? = some t → args[j]? = some v → Value.okWide Try.prog W .any base t v := hval0
  have hW' := hW
  obtain ⟨p, q, hA0, hV, rfl, hfz, hnd⟩ := hW
  have hA : DataW.TrodAll enc Try.prog W 0 (fun _ => true) true Try.f9.params.toList args.toList ds p := hA0
  rw [Try.params9] at hA hval
  obtain ⟨v0, vs0, d0, ds0, p0, q0, hargs, rfl, rfl, h0, r0⟩ := trodAll_cons hA
  obtain ⟨v1, vs1, d1, ds1, p1, q1, rfl, rfl, rfl, h1, r1⟩ := trodAll_cons r0
  obtain ⟨rfl, rfl, rfl⟩ := trodAll_nil r1
  obtain rfl : args = #[v0, v1] := by cases args; simp_all
  obtain ⟨rfl, rfl⟩ := trodVars_none hV
  have k0 := h0
  have lt0 : ∀ x ∈ p0, x.block < W.heap.size := by obtain ⟨m, hm⟩ := k0; exact DataW.trod_lt m _ _ _ hm
  obtain ⟨f0, A0, c0, rfl, rd0, wf0, hc0⟩ := open_frame (hval 0 42 v0 rfl rfl) h0
  have k1 := h1
  have lt1 : ∀ x ∈ p1, x.block < W.heap.size := by obtain ⟨m, hm⟩ := k1; exact DataW.trod_lt m _ _ _ hm
  obtain ⟨f1, A1, c1, rfl, rd1, wf1, hc1⟩ := open_frame (hval 1 42 v1 rfl rfl) h1
  clear hA0 hval0
  refine (wireOrder_walk f0 f1 A0 A1 c0 c1 W wf0.len wf1.len ⟨wf0.id0, ⟨wf0.sdt0, wf0.sdt1⟩, ⟨wf0.vcid0, wf0.vcid1⟩, ⟨wf0.af0, wf0.af1⟩, wf0.data⟩ ⟨wf1.id0, ⟨wf1.sdt0, wf1.sdt1⟩, ⟨wf1.vcid0, wf1.vcid1⟩, ⟨wf1.af0, wf1.af1⟩, wf1.data⟩ rd0 rd1).mono fun e W' ⟨he, bel⟩ => ?_
  subst he
  exact ⟨_, rfl, _, _, _, [], _, [], hW', trodAll_mk1 (shut_bool Try.underlying4 _), (trodAll_cons_mk (Below.trod laidOut (by kernel_rfl) (of_decide_eq_true (by kernel_rfl)) k0 bel lt0) (trodAll_cons_mk (Below.trod laidOut (by kernel_rfl) (of_decide_eq_true (by kernel_rfl)) k1 bel lt1) trodAll_mk0)), rfl, bel.frame _, fun h => by cases h⟩
theorem orderWire_holds : Rows.OrderWireSaid :=
  OpenClaim.holds_of_wide 9 Try.f9 rfl rfl rfl rfl rfl rfl rfl ⟨rfl, rfl, rfl, rfl, rfl⟩ rfl rfl rfl rfl rfl (by kernel_rfl) Try.func9 (by kernel_rfl)
    (of_decide_eq_true (by kernel_rfl)) (by unfold Func.isWrapper; rw [if_neg (of_decide_eq_false (by kernel_rfl))]; exact ⟨rfl, rfl⟩)
    (fun os started H enc _ => orderWire_lifted os started H enc)
end Go.Proofs.Ytmlkmcpcokjogaa
