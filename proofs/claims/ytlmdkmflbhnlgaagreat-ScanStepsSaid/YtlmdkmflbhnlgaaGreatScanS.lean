/- The machine's parts with fixed stuffing: how a bit is taken. No condition. -/
import Derived.Test.YtlmdkmflbhnlgaaGreatScanO
namespace Go.Proofs.YtlmdkmflbhnlgaaGreat
open Go.RowKit
variable {w : World} {s : List Nat} {mp : Nat} {S : MS} {a : MA}
set_option maxRecDepth 100000 in
set_option maxHeartbeats 8000000 in
theorem mPartStep (h : MR w s mp S a) (p q r u t prev ev size b m : Nat) (ah : Bool) (d : Do) (dv : Value) (b1 : BoxV w s p #[ptr mp] 36) (b2 : BoxV w s q #[.int .u8 prev] 5) (b3 : BoxV w s r #[.int .i64 ev, .bool ah] 99) (b4 : BoxV w s u #[.int .i64 size] 3) (b5 : BoxV w s t #[dv] 159) (hv : DoOk w s mp d dv)
    (hfit : DoFits ev ah size d) (hp : prev ≤ 1) (hb : b ≤ 1) (he1 : 1 ≤ ev) (he2 : ev ≤ 64) (hm : S.own.length = m) (hm2 : m ≤ 30000) (hown : ∀ x ∈ S.own, x ≤ 1) (hraw0 : 0 < S.raw.length) (hraw : S.raw.length ≤ 30000) (hraw1 : ∀ x ∈ S.raw, x ≤ 1) (hl0 : 0 < S.l.length) (hl1 : S.l.length ≤ 1000) (hl01 : ∀ x ∈ S.l, x ≤ 1) :
    Calls Tryz.prog 127 #[.int .u8 b, .pointer (some ⟨p, 0, none⟩), .pointer (some ⟨q, 0, none⟩), .pointer (some ⟨r, 0, none⟩), .pointer (some ⟨u, 0, none⟩), .pointer (some ⟨t, 0, none⟩)] w (MDone w s mp (partStepM S prev ev ah size d b)) := by
  have hown1 : ∀ x ∈ S.own ++ [b], x ≤ 1 := fun x hx => (List.mem_append.1 hx).elim (hown x) (fun h => by simp at h; omega)
  have hlen1 : (S.own ++ [b]).length = m + 1 := by simp [hm]
  have HG := Lib.hid (fun W A c (hW : Rd W A (bys (S.own ++ [b]))) => FGet_any W A prev ev c (m + 1) ah (S.own ++ [b]) he1 he2 hp hW hlen1 (by omega) hown1)
  obtain ⟨R, hR⟩ : ∃ R, fgetN ev ah prev (S.own ++ [b]) = R := ⟨_, rfl⟩
  have hs : partStepM S prev ev ah size d b = if R.1 = 4 then badM { S with own := S.own ++ [b] } 4 else if m + 1 = size then doM { S with own := S.own ++ [b] } d R.2 else { S with own := S.own ++ [b] } := by rw [← hR, ← hlen1]; rfl
  have hfull : R.1 ≠ 4 → m + 1 = size → R.1 = 0 ∧ R.2.length = doN d := by intro h4 hsz; rw [← hR] at h4 ⊢; exact fget_full ev prev size ah d _ hfit (by rw [hlen1]; exact hsz) h4
  have hbits : ∀ x ∈ R.2, x ≤ 1 := by rw [← hR]; exact fgetE_bits ev _ _ _ _ _ hown1 (by simp)
  have h047 : R.1 = 4 ∨ R.1 = 0 ∨ R.1 = 7 := by
    rw [← hR]
    rcases fgetE_inv ev he1 (S.own ++ [b]) prev (if ah then 0 else ev) false [] (by split <;> omega) (fun h => by cases h) with h | ⟨_, _, _, _, _, _, ⟨h, _⟩ | ⟨h, _⟩⟩
    · exact .inl h
    · exact .inr (.inl h)
    · exact .inr (.inr h)
  rw [hR] at HG
  obtain ⟨T, hT⟩ : ∃ T, partStepM S prev ev ah size d b = T := ⟨_, rfl⟩
  rw [hT] at hs ⊢
  have HSS := Lib.hid hs
  have HFULL := Lib.hid hfull
  have HBITS := Lib.hid hbits
  have H047 := Lib.hid h047
  have HFIT := Lib.hid hfit
  have HH := Lib.hid h
  have B1 := Lib.hid b1
  have B2 := Lib.hid b2
  have B3 := Lib.hid b3
  have B4 := Lib.hid b4
  have B5 := Lib.hid b5
  have HV := Lib.hid hv
  have HLEN := Lib.hid hlen1
  have HM := Lib.hid hm
  have HRAW0 := Lib.hid hraw0
  have HRAW := Lib.hid hraw
  have HRAW1 := Lib.hid hraw1
  have HL0 := Lib.hid hl0
  have HL1 := Lib.hid hl1
  have HL01 := Lib.hid hl01
  have c20 : w.cell? ⟨mp, 20, none⟩ = some (.slice a.oA m a.oc) := h.cell 20 _ (by rw [← hm]; rfl)
  let l0 : List (Addr × Value) := [(⟨p, 0, none⟩, ptr mp), (⟨mp, 20, none⟩, .slice a.oA m a.oc)]
  have hce : Cels l0 w := by intro x hx; simp [l0] at hx; rcases hx with rfl | rfl; (exact b1.cell 0 _ rfl); (exact c20)
  have HCE := Lib.hid hce
  have e0 : ∀ e : Sat (Cels l0), e.W.cell? ⟨p, 0, none⟩ = some (.pointer (some ⟨mp, 0, none⟩)) := fun e => Cels.at e.h 0 rfl
  have e1 : ∀ e : Sat (Cels l0), e.W.cell? ⟨mp, 20, none⟩ = some (.slice a.oA m a.oc) := fun e => Cels.at e.h 1 rfl
  have HCN : Hid (∀ W', W'.cell? ⟨p, 0, none⟩ = some (ptr mp) → W'.cell? ⟨mp, 20, none⟩ = some (.slice a.oA m a.oc) → Cels l0 W') := by
    intro W' k1 k2 x hx
    simp [l0] at hx
    rcases hx with rfl | rfl
    · exact k1
    · exact k2
  haveI : Nonempty (Sat (Cels l0)) := ⟨⟨w, hce⟩⟩
  generalize l0 = l1 at *
  clear h b1 b2 b3 b4 b5 hv hfit hm hown hraw0 hraw hraw1 hl0 hl1 hl01 hown1 hlen1 hs hT hfull hbits h047 hce hR c20
  go_enter Tryz.func127, Tryz.ntmps127
  go_wp2_with fail
  refine wp_region_mix (fun w' => ∃ e : Sat (Cels l1), w' = e.W) [(true, 0), (true, 1), (true, 2), (true, 3), (true, 4), (true, 5), (false, 6), (false, 7), (true, 8), (true, 9)] [10] (by kernel_rfl) (by kernel_rfl) (by intro _ _ d _ _ h; cases d <;> exact h) ⟨⟨w.drew, HCE.out.drew⟩, rfl⟩ ?_
  simp only [pickM, pickL, List.drop_succ_cons, List.drop_zero]
  repeat (first | (refine mix_pure (by rfl) (by rfl) ?_; intro K hK; go_big_quiet_op; go_big_quiet_on) | (refine mix_nilc ⟨mp, 0, none⟩ (by rfl) (by kernel_rfl) ?_; go_simp))
  refine mix_eff (by rfl) ?_
  intro K hK
  go_simp
  have hb2 : Below w.heap.size w (w.alloc (.cells #[.int .u8 b] 5)).drew := (below_alloc (Below.refl _ _) _).drew
  have q2 : (w.alloc (.cells #[.int .u8 b] 5)).drew.heap[w.heap.size]? = some (.cells #[.int .u8 b] 5 (0, 0)) := heap_new_at rfl
  refine hK _ _ ⟨⟨_, HCE.out.below hb2⟩, rfl⟩ ?_
  clear hK K
  generalize (w.alloc (.cells #[.int .u8 b] 5)).drew = W2 at *
  have H2 := Lib.hid (HH.out.below hb2)
  have C1 := Lib.hid (B1.out.turn (Turn.of (s := s) hb2) (fun _ hk => .inl hk))
  have Q2 := Lib.hid q2
  have HB2 := Lib.hid hb2
  clear q2 hb2
  refine mix_eff (by rfl) ?_
  intro K hK
  refine oper_appU (.tmp 13) (.tmp 15) rfl a.oA m a.oc S.own (by kernel_rfl) H2.out.rest.own.1 HM.out w.heap.size 1 b (by kernel_rfl) Q2.out (by omega) ?_
  intro W3 A3 c3 HR3 T3 N3
  have hne : ∀ k ∈ blkA a.oA, k ≠ mp := H2.out.rest.own.1.ne_ty H2.out.cells (by decide)
  have hm3 : W3.heap[mp]? = some (.cells (mca S a) 59 (0, 0)) := T3.out.heap H2.out.cells (fun hm => hne mp hm rfl)
  have hp3 : W3.cell? ⟨p, 0, none⟩ = some (ptr mp) := cell_of_heap (T3.out.heap C1.out.1 (fun hm => C1.out.2 (H2.out.rest.own.2 p hm))) 0 _ rfl
  refine hK _ _ ⟨⟨_, HCN.out W3 hp3 (cell_of_heap hm3 20 _ (by rw [← HM.out]; rfl))⟩, rfl⟩ ?_
  clear hK K hne hp3
  have HM3 := Lib.hid hm3
  clear hm3
  go_simp
  repeat (first | (refine mix_pure (by rfl) (by rfl) ?_; intro K hK; go_big_quiet_op; go_big_quiet_on) | (refine mix_nilc ⟨mp, 0, none⟩ (by rfl) (by kernel_rfl) ?_; go_simp))
  refine mix_nil ?_
  have hds : (mca S a).setIfInBounds 20 (.slice A3 (m + 1 : Nat) c3) = mca { S with own := S.own ++ [b] } { a with oA := A3, oc := c3 } := by rw [← HLEN.out]; rfl
  refine wpList_sputN HM3.out rfl rfl 22 (.tmp 18) (.tmp 16) rfl 20 (.slice A3 (m + 1 : Nat) c3) (by kernel_rfl) (by kernel_rfl) rfl info_slcS (by simp [mca, mcs]) _ hds ?_
  intro W4 M4 T4
  refine wpList_nil ?_
  obtain ⟨h4, t4, n4⟩ := H2.out.ownApp T3.out HR3.out N3.out M4.out T4.out
  have H4 := Lib.hid h4
  have T04 : Hid (Turn s w W4) := (Turn.of HB2.out).tr t4
  have hs4 : ∀ k ∈ blkA A3 ++ s, k ∈ s ∨ w.heap.size ≤ k := fun k hk => (n4 k hk).imp id (fun h => Nat.le_trans HB2.out.size h)
  have N4 := Lib.hid hs4
  have D1 := Lib.hid (B1.out.turn T04.out hs4)
  have D2 := Lib.hid (B2.out.turn T04.out hs4)
  have D3 := Lib.hid (B3.out.turn T04.out hs4)
  have D4 := Lib.hid (B4.out.turn T04.out hs4)
  have D5 := Lib.hid (B5.out.turn T04.out hs4)
  have DV := Lib.hid (HV.out.turn T04.out hs4)
  clear h4 t4 n4 hs4 hds e0 e1 H2 C1 Q2 HR3 T3 N3 HM3 M4 T4 B1 B2 B3 B4 B5 HV HCN HCE
  obtain ⟨S1, hS1⟩ : ∃ S1, ({ S with own := S.own ++ [b] } : MS) = S1 := ⟨_, rfl⟩
  have hz : S1.own.length = m + 1 ∧ S1.raw = S.raw ∧ S1.l = S.l := by rw [← hS1]; exact ⟨HLEN.out, rfl, rfl⟩
  have hown4 : Rd W4 A3 (bys (S.own ++ [b])) := H4.out.rest.own.1.rd
  have c20' : W4.cell? ⟨mp, 20, none⟩ = some (.slice A3 (m + 1 : Nat) c3) := H4.out.cell 20 _ (by rw [← HLEN.out]; rfl)
  rw [hS1] at H4 HSS
  have HZ := Lib.hid hz
  have HO4 := Lib.hid hown4
  generalize ({ a with oA := A3, oc := c3 } : MA) = a4 at *
  generalize blkA A3 ++ s = s4 at *
  clear hS1 hz hown4
  have c0 : ∀ e : Ext W4, e.W.cell? ⟨p, 0, none⟩ = some (.pointer (some ⟨mp, 0, none⟩)) := fun e => ext_cell (D1.out.cell 0 _ rfl) e
  have c1 : ∀ e : Ext W4, e.W.cell? ⟨mp, 20, none⟩ = some (.slice A3 (m + 1 : Nat) c3) := fun e => ext_cell c20' e
  have c2 : ∀ e : Ext W4, e.W.cell? ⟨q, 0, none⟩ = some (.int .u8 prev) := fun e => ext_cell (D2.out.cell 0 _ rfl) e
  have c3' : ∀ e : Ext W4, e.W.cell? ⟨r, 0, none⟩ = some (.int .i64 ev) := fun e => ext_cell (D3.out.cell 0 _ rfl) e
  have c4 : ∀ e : Ext W4, e.W.cell? ⟨r, 1, none⟩ = some (.bool ah) := fun e => ext_cell (D3.out.cell 1 _ rfl) e
  have C20 := Lib.hid c20'
  clear c20'
  go_wp2_with fail
  refine wp_region_mix (fun w' => ∃ e : Ext W4, w' = e.W) [(true, 0), (true, 1), (true, 2), (true, 3), (true, 4), (true, 5), (false, 6), (true, 7), (true, 8), (true, 9), (true, 10), (true, 11)] [] (by kernel_rfl) (by kernel_rfl) (by intro _ _ d _ _ h; cases d <;> exact h) ⟨⟨W4.drew, (Below.refl _ _).drew⟩, rfl⟩ ?_
  simp only [pickM, pickL, List.drop_succ_cons, List.drop_zero]
  repeat (first | (refine mix_pure (by rfl) (by rfl) ?_; intro K hK; go_big_quiet_op; go_big_quiet_on) | (refine mix_nilc ⟨mp, 0, none⟩ (by rfl) (by kernel_rfl) ?_; go_simp))
  refine mix_eff (by rfl) ?_
  intro K hK
  go_simp
  refine (HG.out _ A3 c3 (HO4.out.below (Below.refl _ _).drew)).mono ?_
  rintro e w5 ⟨hres, hb5⟩
  have hb45 : Below W4.heap.size W4 w5 := below_trans (Below.refl _ _).drew hb5
  have H5 := Lib.hid (H4.out.below hb45)
  have T45 : Hid (Turn s4 W4 w5) := Turn.of hb45
  have HB45 := Lib.hid hb45
  clear hb5 hb45
  rcases H047.out with h4 | h0 | h7
  · rw [if_pos h4] at HSS
    rcases hres with ⟨h0', _⟩ | ⟨-, rfl⟩
    · omega
    rw [h4]
    go_simp
    refine hK _ _ ⟨⟨_, HB45.out⟩, rfl⟩ ?_
    clear hK K
    repeat (first | (refine mix_pure (by rfl) (by rfl) ?_; intro K hK; go_big_quiet_op; go_big_quiet_on) | (refine mix_nilc ⟨mp, 0, none⟩ (by rfl) (by kernel_rfl) ?_; go_simp))
    refine mix_nil (wpList_nil ?_)
    clear c0 c1 c2 c3' c4
    have E1 := Lib.hid (D1.out.turn T45.out (fun _ hk => .inl hk))
    have E4 := Lib.hid (D4.out.turn T45.out (fun _ hk => .inl hk))
    have E5 := Lib.hid (D5.out.turn T45.out (fun _ hk => .inl hk))
    have EV := Lib.hid (DV.out.turn T45.out (fun _ hk => .inl hk))
    have F20 := Lib.hid (Below.cell_of HB45.out C20.out)
    clear D1 D2 D3 D4 D5 DV C20 H4
    have k0 : w5.cell? ⟨p, 0, none⟩ = some (.pointer (some ⟨mp, 0, none⟩)) := E1.out.cell 0 _ rfl
    go_wp2_with fail
    refine (mBad H5.out 4).mono ?_
    rintro e w6 ⟨rfl, hA⟩
    go_wp2_with fail
    go_end0
    exact ⟨rfl, HSS.out ▸ ((hA.after (fun _ hk => .inl hk) T45.out).after N4.out T04.out)⟩
  · have hn4 : ¬ R.1 = 4 := by omega
    rw [if_neg hn4] at HSS
    rcases hres with ⟨-, A', c', rfl, hrow⟩ | ⟨hx, -⟩
    rotate_left
    · exact absurd h0 hx
    by_cases hsz : m + 1 = size
    · rw [if_pos hsz] at HSS
      obtain ⟨-, hnd⟩ := HFULL.out hn4 hsz
      subst hsz
      have k1 := hrow.cap
      have k2 := hrow.capm
      obtain ⟨g, rfl | hz0⟩ := hrow.form
      rotate_left
      · rw [bys_length, hnd] at hz0; cases d <;> simp [doN] at hz0
      have hdat : DatU w5 s4 (some ⟨g, 0, none⟩) c' R.2 := DatU.of hrow H4.out.drew.rest.mem.2
      rw [hnd]
      rw [bys_length, hnd] at k1
      have HDAT := Lib.hid hdat
      have HND := Lib.hid hnd
      clear hrow hnd hdat
      have HCONT : Hid (∀ (W : World) (hbw : Below w5.heap.size w5 W), MR W s4 mp S1 a4 → BoxV W s4 t #[dv] 159 → DoOk W s4 mp d dv → ∃ x y, (dv = .func (.func 118) #[] #[.pointer (some ⟨x, 0, none⟩), .pointer (some ⟨y, 0, none⟩)] ∧ Calls Tryz.prog 118 #[.slice (some ⟨g, 0, none⟩) (doN d) c', .pointer (some ⟨x, 0, none⟩), .pointer (some ⟨y, 0, none⟩)] W (MDone W s4 mp (doM S1 d R.2))) ∨ (dv = .func (.func 132) #[] #[.pointer (some ⟨x, 0, none⟩), .pointer (some ⟨y, 0, none⟩)] ∧ Calls Tryz.prog 132 #[.slice (some ⟨g, 0, none⟩) (doN d) c', .pointer (some ⟨x, 0, none⟩), .pointer (some ⟨y, 0, none⟩)] W (MDone W s4 mp (doM S1 d R.2))) ∨ (dv = .func (.func 133) #[] #[.pointer (some ⟨x, 0, none⟩), .pointer (some ⟨y, 0, none⟩)] ∧ Calls Tryz.prog 133 #[.slice (some ⟨g, 0, none⟩) (doN d) c', .pointer (some ⟨x, 0, none⟩), .pointer (some ⟨y, 0, none⟩)] W (MDone W s4 mp (doM S1 d R.2)))) := by
        intro W hbw hM hB hD
        have hdat := HDAT.out.turn (Turn.of (s := s4) hbw) (fun _ hk => .inl hk)
        obtain ⟨z1, z2, z3⟩ := HZ.out
        have r0 := HRAW0.out
        have r1 := HRAW.out
        have r2 := HRAW1.out
        have r3 := HL0.out
        have r4 := HL1.out
        have r5 := HL01.out
        rw [← z2] at r0 r1 r2
        rw [← z3] at r3 r4 r5
        have hnd := HND.out
        cases d with
        | fd k =>
          obtain ⟨hk, -⟩ := HFIT.out
          obtain ⟨x, y, rfl, e1, e2⟩ := hD
          exact ⟨x, y, .inl ⟨rfl, mFdFits hM x y k e1 e2 hk g c' _ R.2 hdat.1 hnd (by show kSize k + 4 = 4 + kSize k; omega) k1 k2 HBITS.out r0 r1 r2⟩⟩
        | xl1 =>
          obtain ⟨x, y, rfl, e1, e2⟩ := hD
          exact ⟨x, y, .inr (.inl ⟨rfl, mXl1 hM x y e1 e2 g c' R.2 hdat.1 hnd k1 k2 HBITS.out r0⟩)⟩
        | xl2 z =>
          obtain ⟨hz1, hz2, -⟩ := HFIT.out
          obtain ⟨x, y, rfl, e1, e2⟩ := hD
          exact ⟨x, y, .inr (.inr ⟨rfl, mXl2 hM x y z e1 e2 g c' _ R.2 hdat hnd rfl hz2 hz1 k1 k2 HBITS.out r1 r2 r3 r4 r5⟩)⟩
      generalize doN d = nd at *
      go_simp
      refine hK _ _ ⟨⟨_, HB45.out⟩, rfl⟩ ?_
      clear hK K
      repeat (first | (refine mix_pure (by rfl) (by rfl) ?_; intro K hK; go_big_quiet_op; go_big_quiet_on) | (refine mix_nilc ⟨mp, 0, none⟩ (by rfl) (by kernel_rfl) ?_; go_simp))
      refine mix_nil (wpList_nil ?_)
      clear c0 c1 c2 c3' c4
      have E1 := Lib.hid (D1.out.turn T45.out (fun _ hk => .inl hk))
      have E4 := Lib.hid (D4.out.turn T45.out (fun _ hk => .inl hk))
      have E5 := Lib.hid (D5.out.turn T45.out (fun _ hk => .inl hk))
      have EV := Lib.hid (DV.out.turn T45.out (fun _ hk => .inl hk))
      have F20 := Lib.hid (Below.cell_of HB45.out C20.out)
      clear D1 D2 D3 D4 D5 DV C20 H4
      have k0 : w5.cell? ⟨p, 0, none⟩ = some (.pointer (some ⟨mp, 0, none⟩)) := E1.out.cell 0 _ rfl
      go_wp2_with fail
      have k0 : ∀ e : Ext w5, e.W.cell? ⟨p, 0, none⟩ = some (.pointer (some ⟨mp, 0, none⟩)) := fun e => ext_cell (E1.out.cell 0 _ rfl) e
      have k1 : ∀ e : Ext w5, e.W.cell? ⟨mp, 20, none⟩ = some (.slice A3 (m + 1 : Nat) c3) := fun e => ext_cell F20.out e
      have k2 : ∀ e : Ext w5, e.W.cell? ⟨u, 0, none⟩ = some (.int .i64 (m + 1 : Nat)) := fun e => ext_cell (E4.out.cell 0 _ rfl) e
      refine wp_region_mix (fun w' => ∃ e : Ext w5, w' = e.W) [(true, 0), (true, 1), (true, 2), (true, 3), (true, 4), (true, 5), (true, 6), (true, 7)] [] (by kernel_rfl) (by kernel_rfl) (by intro _ _ d _ _ h; cases d <;> exact h) ⟨⟨w5.drew, (Below.refl _ _).drew⟩, rfl⟩ ?_
      simp only [pickM, pickL, List.drop_succ_cons, List.drop_zero]
      repeat (first | (refine mix_pure (by rfl) (by rfl) ?_; intro K hK; go_big_quiet_op; go_big_quiet_on) | (refine mix_nilc ⟨mp, 0, none⟩ (by rfl) (by kernel_rfl) ?_; go_simp))
      refine mix_nil (wpList_nil ?_)
      clear k0 k1 k2
      have hbd : Below w5.heap.size w5 w5.drew := (Below.refl _ _).drew
      have H6 := Lib.hid (H5.out.below hbd)
      have T46 : Hid (Turn s4 W4 w5.drew) := T45.out.tr (Turn.of hbd)
      have E6 := Lib.hid (E5.out.turn (Turn.of (s := s4) hbd) (fun _ hk => .inl hk))
      have EW := Lib.hid (EV.out.turn (Turn.of (s := s4) hbd) (fun _ hk => .inl hk))
      have HBD := Lib.hid hbd
      clear hbd E1 E4 E5 EV F20
      obtain ⟨x, y, ⟨rfl, hcall⟩ | ⟨rfl, hcall⟩ | ⟨rfl, hcall⟩⟩ := HCONT.out _ HBD.out H6.out E6.out EW.out
      · have k5 : w5.drew.cell? ⟨t, 0, none⟩ = some (.func (.func 118) #[] #[.pointer (some ⟨x, 0, none⟩), .pointer (some ⟨y, 0, none⟩)]) := E6.out.cell 0 _ rfl
        have HCALL := Lib.hid hcall
        clear hcall
        generalize w5.drew = W6 at *
        go_wp2_with fail
        refine HCALL.out.mono ?_
        rintro e w7 ⟨rfl, hA⟩
        go_wp2_with fail
        go_end0
        exact ⟨rfl, HSS.out ▸ ((hA.after (fun _ hk => .inl hk) T46.out).after N4.out T04.out)⟩
      · have k5 : w5.drew.cell? ⟨t, 0, none⟩ = some (.func (.func 132) #[] #[.pointer (some ⟨x, 0, none⟩), .pointer (some ⟨y, 0, none⟩)]) := E6.out.cell 0 _ rfl
        have HCALL := Lib.hid hcall
        clear hcall
        generalize w5.drew = W6 at *
        go_wp2_with fail
        refine HCALL.out.mono ?_
        rintro e w7 ⟨rfl, hA⟩
        go_wp2_with fail
        go_end0
        exact ⟨rfl, HSS.out ▸ ((hA.after (fun _ hk => .inl hk) T46.out).after N4.out T04.out)⟩
      · have k5 : w5.drew.cell? ⟨t, 0, none⟩ = some (.func (.func 133) #[] #[.pointer (some ⟨x, 0, none⟩), .pointer (some ⟨y, 0, none⟩)]) := E6.out.cell 0 _ rfl
        have HCALL := Lib.hid hcall
        clear hcall
        generalize w5.drew = W6 at *
        go_wp2_with fail
        refine HCALL.out.mono ?_
        rintro e w7 ⟨rfl, hA⟩
        go_wp2_with fail
        go_end0
        exact ⟨rfl, HSS.out ▸ ((hA.after (fun _ hk => .inl hk) T46.out).after N4.out T04.out)⟩
    · rw [if_neg hsz] at HSS
      have g1 : (((m : Int) + 1) == (size : Int)) = false := by simp; omega
      have g2 : ¬ (m : Int) + 1 = (size : Int) := by omega
      go_simp
      refine hK _ _ ⟨⟨_, HB45.out⟩, rfl⟩ ?_
      clear hK K
      repeat (first | (refine mix_pure (by rfl) (by rfl) ?_; intro K hK; go_big_quiet_op; go_big_quiet_on) | (refine mix_nilc ⟨mp, 0, none⟩ (by rfl) (by kernel_rfl) ?_; go_simp))
      refine mix_nil (wpList_nil ?_)
      clear c0 c1 c2 c3' c4
      have E1 := Lib.hid (D1.out.turn T45.out (fun _ hk => .inl hk))
      have E4 := Lib.hid (D4.out.turn T45.out (fun _ hk => .inl hk))
      have E5 := Lib.hid (D5.out.turn T45.out (fun _ hk => .inl hk))
      have EV := Lib.hid (DV.out.turn T45.out (fun _ hk => .inl hk))
      have F20 := Lib.hid (Below.cell_of HB45.out C20.out)
      clear D1 D2 D3 D4 D5 DV C20 H4
      have k0 : w5.cell? ⟨p, 0, none⟩ = some (.pointer (some ⟨mp, 0, none⟩)) := E1.out.cell 0 _ rfl
      go_wp2_with fail
      have k0 : ∀ e : Ext w5, e.W.cell? ⟨p, 0, none⟩ = some (.pointer (some ⟨mp, 0, none⟩)) := fun e => ext_cell (E1.out.cell 0 _ rfl) e
      have k1 : ∀ e : Ext w5, e.W.cell? ⟨mp, 20, none⟩ = some (.slice A3 (m + 1 : Nat) c3) := fun e => ext_cell F20.out e
      have k2 : ∀ e : Ext w5, e.W.cell? ⟨u, 0, none⟩ = some (.int .i64 size) := fun e => ext_cell (E4.out.cell 0 _ rfl) e
      refine wp_region_mix (fun w' => ∃ e : Ext w5, w' = e.W) [(true, 0), (true, 1), (true, 2), (true, 3), (true, 4), (true, 5), (true, 6), (true, 7)] [] (by kernel_rfl) (by kernel_rfl) (by intro _ _ d _ _ h; cases d <;> exact h) ⟨⟨w5.drew, (Below.refl _ _).drew⟩, rfl⟩ ?_
      simp only [pickM, pickL, List.drop_succ_cons, List.drop_zero]
      repeat (first | (refine mix_pure (by rfl) (by rfl) ?_; intro K hK; go_big_quiet_op; go_big_quiet_on) | (refine mix_nilc ⟨mp, 0, none⟩ (by rfl) (by kernel_rfl) ?_; go_simp))
      refine mix_nil (wpList_nil ?_)
      clear k0 k1 k2
      have hbd : Below w5.heap.size w5 w5.drew := (Below.refl _ _).drew
      have H6 := Lib.hid (H5.out.below hbd)
      have T46 : Hid (Turn s4 W4 w5.drew) := T45.out.tr (Turn.of hbd)
      have E6 := Lib.hid (E5.out.turn (Turn.of (s := s4) hbd) (fun _ hk => .inl hk))
      have EW := Lib.hid (EV.out.turn (Turn.of (s := s4) hbd) (fun _ hk => .inl hk))
      have HBD := Lib.hid hbd
      clear hbd E1 E4 E5 EV F20
      go_wp2_with fail
      go_end0
      exact ⟨rfl, HSS.out ▸ ((MAct.same H6.out T46.out).after N4.out T04.out)⟩
  · have hn4 : ¬ R.1 = 4 := by omega
    rw [if_neg hn4] at HSS
    rcases hres with ⟨hx, -⟩ | ⟨-, rfl⟩
    · omega
    have hsz : ¬ m + 1 = size := fun e => by have := (HFULL.out hn4 e).1; omega
    rw [if_neg hsz] at HSS
    have g1 : (((m : Int) + 1) == (size : Int)) = false := by simp; omega
    have g2 : ¬ (m : Int) + 1 = (size : Int) := by omega
    rw [h7]
    go_simp
    refine hK _ _ ⟨⟨_, HB45.out⟩, rfl⟩ ?_
    clear hK K
    repeat (first | (refine mix_pure (by rfl) (by rfl) ?_; intro K hK; go_big_quiet_op; go_big_quiet_on) | (refine mix_nilc ⟨mp, 0, none⟩ (by rfl) (by kernel_rfl) ?_; go_simp))
    refine mix_nil (wpList_nil ?_)
    clear c0 c1 c2 c3' c4
    have E1 := Lib.hid (D1.out.turn T45.out (fun _ hk => .inl hk))
    have E4 := Lib.hid (D4.out.turn T45.out (fun _ hk => .inl hk))
    have E5 := Lib.hid (D5.out.turn T45.out (fun _ hk => .inl hk))
    have EV := Lib.hid (DV.out.turn T45.out (fun _ hk => .inl hk))
    have F20 := Lib.hid (Below.cell_of HB45.out C20.out)
    clear D1 D2 D3 D4 D5 DV C20 H4
    have k0 : w5.cell? ⟨p, 0, none⟩ = some (.pointer (some ⟨mp, 0, none⟩)) := E1.out.cell 0 _ rfl
    go_wp2_with fail
    have k0 : ∀ e : Ext w5, e.W.cell? ⟨p, 0, none⟩ = some (.pointer (some ⟨mp, 0, none⟩)) := fun e => ext_cell (E1.out.cell 0 _ rfl) e
    have k1 : ∀ e : Ext w5, e.W.cell? ⟨mp, 20, none⟩ = some (.slice A3 (m + 1 : Nat) c3) := fun e => ext_cell F20.out e
    have k2 : ∀ e : Ext w5, e.W.cell? ⟨u, 0, none⟩ = some (.int .i64 size) := fun e => ext_cell (E4.out.cell 0 _ rfl) e
    refine wp_region_mix (fun w' => ∃ e : Ext w5, w' = e.W) [(true, 0), (true, 1), (true, 2), (true, 3), (true, 4), (true, 5), (true, 6), (true, 7)] [] (by kernel_rfl) (by kernel_rfl) (by intro _ _ d _ _ h; cases d <;> exact h) ⟨⟨w5.drew, (Below.refl _ _).drew⟩, rfl⟩ ?_
    simp only [pickM, pickL, List.drop_succ_cons, List.drop_zero]
    repeat (first | (refine mix_pure (by rfl) (by rfl) ?_; intro K hK; go_big_quiet_op; go_big_quiet_on) | (refine mix_nilc ⟨mp, 0, none⟩ (by rfl) (by kernel_rfl) ?_; go_simp))
    refine mix_nil (wpList_nil ?_)
    clear k0 k1 k2
    have hbd : Below w5.heap.size w5 w5.drew := (Below.refl _ _).drew
    have H6 := Lib.hid (H5.out.below hbd)
    have T46 : Hid (Turn s4 W4 w5.drew) := T45.out.tr (Turn.of hbd)
    have E6 := Lib.hid (E5.out.turn (Turn.of (s := s4) hbd) (fun _ hk => .inl hk))
    have EW := Lib.hid (EV.out.turn (Turn.of (s := s4) hbd) (fun _ hk => .inl hk))
    have HBD := Lib.hid hbd
    clear hbd E1 E4 E5 EV F20
    go_wp2_with fail
    go_end0
    exact ⟨rfl, HSS.out ▸ ((MAct.same H6.out T46.out).after N4.out T04.out)⟩
end Go.Proofs.YtlmdkmflbhnlgaaGreat
namespace Go.Proofs.YtlmdkmflbhnlgaaGreat
open Go.RowKit
variable {w : World} {s : List Nat} {mp : Nat} {S : MS} {a : MA}
/-- What was asked for is what the next act needs. -/
def NxtFits (S : MS) : Nxt → Prop
  | .start => S.need = 1
  | .ident => S.need = 14
  | .extended => S.need = 34 ∧ ∃ i : Nat, i < 2048 ∧ S.f.id = (i : Int)
  | .reserved => S.need = 35
  | .format => S.need = 15
  | .newer => S.need = 16
  | .code => S.need = 19 ∨ S.need = 39
  | .codeC at_ n => n ≤ 8 ∧ at_ ≤ 100 ∧ S.need = at_ + 8 * n + 15
  | .fdCode => S.need = 22
  | .fdData n => n ≤ 64 ∧ 1 ≤ n ∧ S.need = 22 + 8 * n
  | .xlHead => S.need = 17
  | .nil => False
/-- One of the acts' calls. -/
def NextCall (mp : Nat) (v : Value) (W : World) (Q : Ending → World → Prop) : Prop :=
  (v = .func (.func 27) #[.pointer (some ⟨mp, 0, none⟩)] #[] ∧ Calls Tryz.prog 27 #[.pointer (some ⟨mp, 0, none⟩)] W Q) ∨ (v = .func (.func 51) #[.pointer (some ⟨mp, 0, none⟩)] #[] ∧ Calls Tryz.prog 51 #[.pointer (some ⟨mp, 0, none⟩)] W Q) ∨ (v = .func (.func 74) #[.pointer (some ⟨mp, 0, none⟩)] #[] ∧ Calls Tryz.prog 74 #[.pointer (some ⟨mp, 0, none⟩)] W Q) ∨ (v = .func (.func 98) #[.pointer (some ⟨mp, 0, none⟩)] #[] ∧ Calls Tryz.prog 98 #[.pointer (some ⟨mp, 0, none⟩)] W Q) ∨ (v = .func (.func 73) #[.pointer (some ⟨mp, 0, none⟩)] #[] ∧ Calls Tryz.prog 73 #[.pointer (some ⟨mp, 0, none⟩)] W Q) ∨ (v = .func (.func 97) #[.pointer (some ⟨mp, 0, none⟩)] #[] ∧ Calls Tryz.prog 97 #[.pointer (some ⟨mp, 0, none⟩)] W Q) ∨ (v = .func (.func 96) #[.pointer (some ⟨mp, 0, none⟩)] #[] ∧ Calls Tryz.prog 96 #[.pointer (some ⟨mp, 0, none⟩)] W Q) ∨ (v = .func (.func 109) #[.pointer (some ⟨mp, 0, none⟩)] #[] ∧ Calls Tryz.prog 109 #[.pointer (some ⟨mp, 0, none⟩)] W Q) ∨ (v = .func (.func 110) #[.pointer (some ⟨mp, 0, none⟩)] #[] ∧ Calls Tryz.prog 110 #[.pointer (some ⟨mp, 0, none⟩)] W Q) ∨ (∃ x y z, v = .func (.func 105) #[] #[.pointer (some ⟨x, 0, none⟩), .pointer (some ⟨y, 0, none⟩), .pointer (some ⟨z, 0, none⟩)] ∧ Calls Tryz.prog 105 #[.pointer (some ⟨x, 0, none⟩), .pointer (some ⟨y, 0, none⟩), .pointer (some ⟨z, 0, none⟩)] W Q) ∨ (∃ x y, v = .func (.func 116) #[] #[.pointer (some ⟨x, 0, none⟩), .pointer (some ⟨y, 0, none⟩)] ∧ Calls Tryz.prog 116 #[.pointer (some ⟨x, 0, none⟩), .pointer (some ⟨y, 0, none⟩)] W Q)
theorem mNext (h : MR w s mp S a) (hn : S.l.length = S.need) (hf : NxtFits S S.next) (hl : S.l.length ≤ 1000) (h01 : ∀ x ∈ S.l, x ≤ 1) (hraw : 0 < S.raw.length) : NextCall mp a.nv w (MDone w s mp (nextM S)) := by
  have hx := h.rest.next
  unfold nextM
  generalize S.next = x at *
  generalize a.nv = v at *
  cases x
  · exact .inl (⟨hx, mStart h (by have : S.need = 1 := hf; omega)⟩)
  · exact .inr (.inl (⟨hx, mIdent h (by have : S.need = 14 := hf; omega) (by omega) h01⟩))
  · obtain ⟨hf1, i, hi, hid⟩ := hf
    exact .inr (.inr (.inl (⟨hx, mExtended h (by omega) (by omega) h01 i hid hi⟩)))
  · exact .inr (.inr (.inr (.inl (⟨hx, mReserved h (by have : S.need = 35 := hf; omega)⟩))))
  · exact .inr (.inr (.inr (.inr (.inl (⟨hx, mFormat h (by have : S.need = 15 := hf; omega)⟩)))))
  · exact .inr (.inr (.inr (.inr (.inr (.inl (⟨hx, mNewer h (by have : S.need = 16 := hf; omega)⟩))))))
  · exact .inr (.inr (.inr (.inr (.inr (.inr (.inl (⟨hx, mCode h (by have : S.need = 19 ∨ S.need = 39 := hf; omega) (by omega) h01⟩)))))))
  · obtain ⟨h8, hat, hnd⟩ := hf
    obtain ⟨x, y, z, hv, e1, e2, e3⟩ := hx
    exact .inr (.inr (.inr (.inr (.inr (.inr (.inr (.inr (.inr (.inl (⟨x, y, z, hv, mCodeC h x y z _ _ e1 e2 e3 h8 hat (by omega) h01⟩))))))))))
  · exact .inr (.inr (.inr (.inr (.inr (.inr (.inr (.inl (⟨hx, mFdCode h (by have : S.need = 22 := hf; omega) h01 hraw⟩))))))))
  · obtain ⟨h64, h1, hnd⟩ := hf
    obtain ⟨x, y, hv, e1, e2⟩ := hx
    exact .inr (.inr (.inr (.inr (.inr (.inr (.inr (.inr (.inr (.inr (⟨x, y, hv, mFdData h x y _ e1 e2 h64 (by omega) h01 hraw⟩))))))))))
  · exact .inr (.inr (.inr (.inr (.inr (.inr (.inr (.inr (.inl (⟨hx, mXlHead h (by have : S.need = 17 := hf; omega)⟩)))))))))
  · exact hf.elim
theorem five_run (raw : List Nat) (r : Nat) (h : RunIs (raw.drop (raw.length - 5)) r) : ((r : Int) == 5) = fullR raw := by
  have hl : (raw.drop (raw.length - 5)).length = raw.length - (raw.length - 5) := List.length_drop
  have he : ∀ j, j < 5 → 5 ≤ raw.length → endN (raw.drop (raw.length - 5)) j = endN raw j := by
    intro j hj h5
    unfold endN
    rw [List.getElem?_drop, hl]
    congr 2
    omega
  obtain ⟨h1, h2, h3⟩ := h
  rw [hl] at h1 h3
  unfold fullR
  rw [Bool.eq_iff_iff]
  simp only [beq_iff_eq, Bool.and_eq_true, decide_eq_true_eq, List.all_eq_true, List.mem_range]
  constructor
  · intro hr
    have hr5 : r = 5 := by omega
    subst hr5
    have h5 : 5 ≤ raw.length := by omega
    refine ⟨h5, fun j hj => ?_⟩
    rw [← he j hj h5, ← he 0 (by omega) h5]
    exact h2 j hj
  · rintro ⟨h5, ha⟩
    by_cases hr : r < 5
    · exfalso
      refine h3 (by omega) ?_
      rw [he r hr h5, he 0 (by omega) h5]
      exact ha r hr
    · omega
end Go.Proofs.YtlmdkmflbhnlgaaGreat
