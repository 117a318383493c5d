/- fd.Body: an FD frame's bits ahead of all stuffing. No condition. -/
import Derived.Test.YtaknddanggdplaaPFd
import Derived.Test.YtaknddanggdplaaConcatF
import Derived.Test.YtaknddanggdplaaConcatP
import Derived.Test.YtaknddanggdplaaMix
import Derived.Test.YtaknddanggdplaaRowAt
import Derived.LoopN
namespace Go.Proofs.Ytaknddanggdplaa
open Go.RowKit
theorem concatPF {W : World} {vs : Array Value} {t n N : Nat} (ps : List Part) (g : Nat) (hg : W.heap[g]? = some (.cells vs t)) (hv : vs.toList = ps.map partV) (hn : ps.length = n) (hps : ∀ p ∈ ps, PartOk W p) (hN : (partsL ps).length = N) (hN2 : N ≤ 1000000) (hn2 : n ≤ 1000) :
    Calls Try.prog 72 #[.slice (some ⟨g, 0, none⟩) n n] W fun e w' => (∃ A' c', e = .returned (.slice A' N c') ∧ Row w' W.heap.size 5 A' c' (bys (partsL ps))) ∧ Below W.heap.size W w' :=
  concatF_any _ n n N ps W (by rw [← hv]; exact Rd.blk hg) hn hps hN hN2 hn2
theorem FdBody_no (f : Fr) (A : Option Addr) (c : Nat) (w : World) (hl : f.data.length ≤ 9223372036854775807) (hno : ¬ (f.kind = 2 ∧ okF f = true)) :
    Calls Try.prog 29 #[frv f (.slice A f.data.length c)] w fun e w' => e = .returned (.tuple #[.slice none 0 0, .int .i64 2]) ∧ Below w.heap.size w w' := by
  have HC := Lib.hid (fun W => Check_any f A c W hl)
  by_cases hk : f.kind = 2
  · have hok : okF f = false := by cases h : okF f with | false => rfl | true => exact absurd ⟨hk, h⟩ hno
    rw [hok] at HC
    have he : errV false = .int .i64 2 := rfl
    rw [he] at HC
    obtain ⟨kind, id, ext, rtr, brs, esi, sec, sdt, vcid, af, data⟩ := f
    dsimp only [frv] at *
    generalize data.length = n at *
    subst hk
    clear hno hok he
    go_enter Try.func29, Try.ntmps29
    go_wp2_with fail
    refine (HC.out _).mono ?_
    rintro e w1 ⟨rfl, hb⟩
    have HB := Lib.hid hb
    clear hb
    go_wp2_with fail
    go_ret2
    exact ⟨rfl, (below_alloc (Below.refl _ _) _).trans (HB.out.mono (by simp))⟩
  · obtain ⟨kind, id, ext, rtr, brs, esi, sec, sdt, vcid, af, data⟩ := f
    dsimp only [frv] at *
    generalize data.length = n at *
    have hkb : (kind != 2) = true := by rw [bne_iff_ne]; exact hk
    clear hno hk HC
    go_enter Try.func29, Try.ntmps29
    go_wp2_with fail
    go_ret2
    exact ⟨rfl, below_alloc (Below.refl _ _) _⟩
set_option maxRecDepth 100000 in
set_option maxHeartbeats 4000000 in
theorem FdBody_ok (f : Fr) (A : Option Addr) (c N : Nat) (w : World) (hk : f.kind = 2) (hok : okF f = true) (h0 : 0 ≤ f.id) (hr : Rd w A (bys f.data)) (hby : isBytes f.data) (hN : (bodyD f).length = N) :
    Calls Try.prog 29 #[frv f (.slice A f.data.length c)] w fun e w' => (∃ A' c', e = .returned (.tuple #[.slice A' N c', .int .i64 0]) ∧ Row w' w.heap.size 5 A' c' (bys (bodyD f))) ∧ Below w.heap.size w w' := by
  obtain ⟨hid, hn64, co, hco16, hcode, -⟩ := okD f hk hok
  have HC := Lib.hid (fun W => Check_any f A c W (by omega))
  rw [hok] at HC
  have he : errV true = .int .i64 0 := rfl
  rw [he] at HC
  have HH := Lib.hid (fun W => headD_any f A f.data.length c W h0 hid)
  have HCO := Lib.hid (fun W => Code_any f.kind f.data.length W (by omega) (by omega))
  rw [hcode] at HCO
  have hcv : codeV (some (co : Int)) = .tuple #[.int .i64 (co : Int), .int .i64 0] := rfl
  rw [hcv] at HCO
  have hcd : codeD f = co := by unfold codeD; rw [hcode]; simp
  have hb : bodyD f = headD f ++ bitsN (bitB f.brs) 1 ++ bitsN (bitB f.esi) 1 ++ bitsN co 4 ++ bytesN f.data := by unfold bodyD; rw [hcd]
  rw [bodyD_length] at hN
  have hlh := headD_length f
  obtain ⟨hX, hhX⟩ : ∃ hX, headD f = hX := ⟨_, rfl⟩
  obtain ⟨BX, hBX⟩ : ∃ BX, bodyD f = BX := ⟨_, rfl⟩
  rw [hhX] at HH hb hlh
  rw [hBX] at hb ⊢
  have HBX := Lib.hid hb
  have HR := Lib.hid hr
  have HBY := Lib.hid hby
  have HLH := Lib.hid hlh
  obtain ⟨kind, id, ext, rtr, brs, esi, sec, sdt, vcid, af, data⟩ := f
  dsimp only [frv] at *
  subst hk
  obtain ⟨n, hn⟩ : ∃ n, data.length = n := ⟨_, rfl⟩
  rw [hn] at HC HH HCO hN ⊢
  rw [hn] at hn64
  have HN := Lib.hid hn
  clear hr hby hok he h0 hid hcode hcv hcd hb hlh hhX hBX hn
  subst hN
  have i0 : ∀ w : World, (Instr.index 75 (.agg #[.bool brs, .bool esi]) (.int .i64 0)).run Try.prog w = .ok (.bool brs) w := fun _ => by kernel_rfl
  have i1 : ∀ w : World, (Instr.index 75 (.agg #[.bool brs, .bool esi]) (.int .i64 1)).run Try.prog w = .ok (.bool esi) w := fun _ => by kernel_rfl
  go_enter Try.func29, Try.ntmps29
  go_wp2_with fail
  refine calls_blk1 (fun W0 q1 hb => ?_)
  have HB := Lib.hid hb
  obtain ⟨a0, a1, a2, a3, a4, a5, a6, a7, a8, a9, a10⟩ := ext11 q1
  have hsz := ext_lt q1
  clear hb q1
  refine (extc_same (HC.out _)).mono ?_
  rintro x _ ⟨e1, rfl, rfl⟩
  go_wp2_with fail
  refine (extcB (HH.out e1.W)).mono ?_
  rintro x _ ⟨e2, rfl, HB2, A2, c2, rfl, hrow2⟩
  obtain ⟨g2, rfl, hg2, hca, hcb⟩ := row_some (n := 16) hrow2 HLH.out (by decide)
  have HROW2 := Lib.hid hrow2
  clear hrow2
  go_wp2_with fail
  refine wp_loop_rounds 3 ?_
  rw [rounds_succ]
  go_wp2_with fail
  obtain ⟨p, hp⟩ : ∃ p, e2.W.heap.size = p := ⟨_, rfl⟩
  rw [hp] at hg2
  have hs1 := hsz e1
  have hs2 : e1.W.heap.size ≤ p := by rw [← hp]; exact HB2.out.size
  rw [hp]
  refine calls_name (T := fun W1 => W1.heap[p]? = some (.cells #[.slice (some ⟨g2, 0, none⟩) 16 c2] 54) ∧ Below e2.W.heap.size e2.W W1) ⟨heap_new_at hp.symm, below_alloc (Below.refl _ _) _⟩ ?_
  rintro W1 ⟨q2, hb1⟩
  obtain ⟨B, hB⟩ : ∃ B, e1.W.heap.size = B := ⟨_, rfl⟩
  rw [hB] at hs1 hs2
  have hpot : Pot W1 B p 54 (some ⟨g2, 0, none⟩) c2 hX := ⟨by rw [HLH.out]; exact q2, fun ad e => by injection e with e; subst e; show g2 ≠ p; omega, by have := heap_lt q2; omega, by rw [← hB]; exact HROW2.out.below hb1⟩
  have hb01 : Below W0.heap.size W0 W1 := below_trans e2.below hb1
  have g0 : W1.cell? ⟨w.heap.size, 0, none⟩ = some (.int .i64 2) := a0 ⟨W1, hb01⟩
  have g10 : W1.cell? ⟨w.heap.size, 10, none⟩ = some (.slice A n c) := a10 ⟨W1, hb01⟩
  have b0 := fun e : KE B p W1 => ke_cell g0 (by show w.heap.size < _; omega) (by show w.heap.size ≠ _; omega) e
  have b10 := fun e : KE B p W1 => ke_cell g10 (by show w.heap.size < _; omega) (by show w.heap.size ≠ _; omega) e
  have HPOT := Lib.hid hpot
  have HB01 := Lib.hid hb01
  have hw0 : W0.heap.size ≤ B := by rw [← hB]; exact e1.below.size
  have HSB := Lib.hid hB
  have hszW := heap_lt q2
  clear hp q2 hb1 hpot hb01 g0 g10 hB a0 a1 a2 a3 a4 a5 a6 a7 a8 a9 a10 HC HH hsz
  refine (kec_same (fdFlag_any _ _ _ _ _ _ brs _ HPOT.out (by rw [HLH.out]; decide))).mono ?_
  rintro x _ ⟨k1, rfl, rfl, B1, d1, hp1⟩
  have HP1 := Lib.hid hp1
  clear hp1
  go_wp2_with fail
  rw [rounds_succ]
  go_wp2_with fail
  refine (kec (fdFlag_any _ _ _ _ _ _ esi _ HP1.out (by rw [List.length_append, HLH.out, bitsN_length]; decide))).mono ?_
  rintro x _ ⟨k2, rfl, rfl, B2, d2, hp2⟩
  have HP2 := Lib.hid hp2
  clear hp2
  go_wp2_with fail
  rw [rounds_succ]
  go_wp2_with fail
  refine (HCO.out _).mono ?_
  rintro x w3 ⟨rfl, hb3⟩
  obtain ⟨k3, hk3⟩ : ∃ k3 : KE B p W1, k3.W = w3 := ⟨⟨w3, k2.keep.trans (Keep.of hb3 HP2.out.size)⟩, rfl⟩
  have HP3 := Lib.hid (HP2.out.below hb3)
  subst hk3
  clear hb3
  go_wp2_with fail
  refine (kec (fdPut_row _ _ _ _ _ _ _ _ co 4 _ ?c4 rfl HP3.out (by omega) (by omega) (by omega) (by rw [List.length_append, List.length_append, HLH.out, bitsN_length, bitsN_length]; decide))).mono ?_
  case c4 => first | rfl | omega
  rintro x _ ⟨k4, rfl, rfl, B4, d4, hp4⟩
  obtain ⟨L4, hL4⟩ : ∃ L, hX ++ bitsN (bitB brs) 1 ++ bitsN (bitB esi) 1 ++ bitsN co 4 = L := ⟨_, rfl⟩
  rw [hL4] at hp4
  have hl4 : L4.length = 22 := by rw [← hL4]; simp [bitsN_length, HLH.out]
  have c04 : k4.W.cell? ⟨p, 0, none⟩ = some (.slice B4 22 d4) := by rw [← hl4]; exact hp4.cell
  have g10 := b10 k4
  have HP4 := Lib.hid hp4
  have HL4 := Lib.hid hl4
  have HE4 := Lib.hid hL4
  have hrdA : Rd k4.W A (bys data) := ((HR.out.below HB.out).below HB01.out).keep k4.keep (fun ad h1 h2 => by have := HR.out.lt ad h1 h2; omega)
  have HRA := Lib.hid hrdA
  have x04 := fun e : Ext k4.W => ext_cell c04 e
  have x10 := fun e : Ext k4.W => ext_cell g10 e
  clear hp4 hl4 hL4 hrdA c04 g10
  go_wp2_with fail
  refine wp_region_mix (fun w' => ∃ e : Ext k4.W, w' = e.W) [(true, 0), (true, 1), (true, 2), (false, 3), (false, 4), (false, 5), (true, 6), (true, 7)] [] (by kernel_rfl) (by kernel_rfl) (by intro _ _ d _ _ h; cases d <;> exact h) ⟨⟨k4.W.drew, (Below.refl _ _).drew⟩, rfl⟩ ?_
  simp only [pickM, pickL, List.drop_succ_cons, List.drop_zero]
  repeat (refine mix_pure (by rfl) (by rfl) ?_; intro K hK; go_big_quiet_op; go_big_quiet_on)
  refine mix_eff (by rfl) ?_
  intro K hK
  go_simp
  refine (Bytes_any _ A c n data HRA.out.drew HN.out (by omega) HBY.out).mono ?_
  rintro x w5 ⟨⟨A5, c5, rfl, hrow5⟩, hb5⟩
  have hb45 : Below k4.W.heap.size k4.W w5 := below_trans (Below.refl _ _).drew hb5
  refine hK _ _ ⟨⟨w5, hb45⟩, rfl⟩ ?_
  clear hK K
  have HROW5 := Lib.hid hrow5
  have HB45 := Lib.hid hb45
  clear hrow5 hb5 hb45
  refine mix_eff (by rfl) ?_
  intro K hK
  go_simp
  refine hK _ _ ⟨⟨_, below_alloc HB45.out _⟩, rfl⟩ ?_
  clear hK K
  refine mix_eff (by rfl) ?_
  intro K hK
  go_simp
  refine calls_name (T := fun W6 => W6.heap[w5.heap.size]? = some (.cells #[.slice B4 22 d4, .slice A5 (8 * n : Nat) c5] 54) ∧ Below w5.heap.size w5 W6) ⟨heap_new_at rfl, below_alloc (Below.refl _ _) _⟩ ?_
  rintro W6 ⟨q6, hb6⟩
  have hcat := concatPF (N := 22 + 8 * n) (n := 2) [(B4, d4, L4), (A5, c5, bytesN data)] _ q6 (by simp [partV, HL4.out, bytesN_length, HN.out]) rfl (by
    intro p hp
    simp only [List.mem_cons, List.not_mem_nil, or_false] at hp
    rcases hp with rfl | rfl
    · exact ((HP4.out.row.below HB45.out).below hb6).part
    · exact (HROW5.out.below hb6).part) (by simp [partsL, HL4.out, bytesN_length, HN.out]) (by omega) (by decide)
  have hpl : partsL [(B4, d4, L4), (A5, c5, bytesN data)] = BX := by rw [HBX.out, HE4.out]; simp [partsL]
  rw [hpl] at hcat
  refine hcat.mono ?_
  rintro x w7 ⟨⟨A7, c7, rfl, hrow7⟩, hb7⟩
  have hb47 : Below k4.W.heap.size k4.W w7 := below_trans (below_trans HB45.out hb6) hb7
  refine hK _ _ ⟨⟨w7, hb47⟩, rfl⟩ ?_
  clear hK K
  repeat (refine mix_pure (by rfl) (by rfl) ?_; intro K hK; go_big_quiet_op; go_big_quiet_on)
  refine mix_nil (wpList_nil ?_)
  have hge : w.heap.size ≤ W6.heap.size := by have h1 := (below_trans HB45.out hb6).size; have h2 := k4.keep.size; omega
  have HROW7 := Lib.hid (hrow7.mono hge)
  have HB7 := Lib.hid (((below_trans HB.out HB01.out).trans (k4.keep.below (by omega) (by omega))).trans (hb47.mono (by have h2 := k4.keep.size; omega)))
  clear hcat hpl q6 hb6 hrow7 hb7 hb47 x04 x10
  go_wp2_with fail
  go_ret2
  exact ⟨⟨A7, c7, rfl, HROW7.out⟩, HB7.out⟩
end Go.Proofs.Ytaknddanggdplaa
