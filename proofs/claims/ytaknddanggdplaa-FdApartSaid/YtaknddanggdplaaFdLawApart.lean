/- Two frames such as an FD frame that aren't the same differ on the wire, and none is a beginning of the other: the law FdApart answers true. No condition. -/
import Derived.Test.YtaknddanggdplaaFdMine
import Derived.Test.YtaknddanggdplaaSame
namespace Go.Proofs.Ytaknddanggdplaa
open Go.RowKit
set_option maxRecDepth 100000 in
set_option maxHeartbeats 2000000 in
theorem fdApart_triv (f g : Fr) (A B : Option Addr) (c d : Nat) (w : World) (hf : f.data.length ≤ 9223372036854775807) (hg : g.data.length ≤ 9223372036854775807) (h : ¬ (((f.kind = 2 ∧ okF f = true) ∧ (g.kind = 2 ∧ okF g = true)) ∧ f.data.length ≤ 300 ∧ g.data.length ≤ 300)) :
    Calls Try.prog 8 #[frv f (.slice A f.data.length c), frv g (.slice B g.data.length d)] w fun e w' => e = .returned (.bool true) ∧ Below w.heap.size w w' := by
  have HM := Lib.hid (fun W => mine07_any f A c W hf)
  have HM2 := Lib.hid (fun W => mine07_any g B d W hg)
  obtain ⟨b1, hb1⟩ : ∃ b, (decide (f.kind = 2) && okF f) = b := ⟨_, rfl⟩
  obtain ⟨b2, hb2⟩ : ∃ b, (decide (g.kind = 2) && okF g) = b := ⟨_, rfl⟩
  have hcase : b1 = false ∨ (b1 = true ∧ b2 = false) ∨ (b1 = true ∧ b2 = true ∧ 300 < f.data.length) ∨ (b1 = true ∧ b2 = true ∧ f.data.length ≤ 300 ∧ 300 < g.data.length) := by
    cases b1
    · exact .inl rfl
    · cases b2
      · exact .inr (.inl ⟨rfl, rfl⟩)
      · simp only [Bool.and_eq_true, decide_eq_true_eq] at hb1 hb2
        by_cases h1 : f.data.length ≤ 300
        · exact .inr (.inr (.inr ⟨rfl, rfl, h1, Classical.byContradiction fun h2 => h ⟨⟨hb1, hb2⟩, h1, by omega⟩⟩))
        · exact .inr (.inr (.inl ⟨rfl, rfl, by omega⟩))
  rw [hb1] at HM
  rw [hb2] at HM2
  obtain ⟨fk, fi, fe, fr, f4, f5, f6, f7, f8, f9, fd⟩ := f
  obtain ⟨gk, gi, ge, gr, g4, g5, g6, g7, g8, g9, gd⟩ := g
  dsimp only [frv] at *
  generalize fd.length = n at *
  generalize gd.length = m at *
  clear hb1 hb2 h
  rcases hcase with rfl | ⟨rfl, rfl⟩ | ⟨rfl, rfl, h3⟩ | ⟨rfl, rfl, h3, h4⟩
  · go_enter Try.func8, Try.ntmps8
    go_wp2_with fail
    refine calls_blk2 (fun W0 q1 q2 hb => ?_)
    have HB := Lib.hid hb
    obtain ⟨a0, a1, a2, a3, a4, a5, a6, a7, a8, a9, a10⟩ := ext11 q1
    obtain ⟨b0, b1, b2, b3, b4, b5, b6, b7, b8, b9, b10⟩ := ext11 q2
    clear hb q1 q2
    refine (extc_same (alive07 _)).mono ?_
    rintro x _ ⟨e1, rfl, rfl⟩
    go_wp2_with fail
    refine (extc (HM.out _)).mono ?_
    rintro x _ ⟨e2, rfl, rfl⟩
    go_wp2_with fail
    go_ret
    exact ⟨rfl, ext_end HB.out⟩
  · go_enter Try.func8, Try.ntmps8
    go_wp2_with fail
    refine calls_blk2 (fun W0 q1 q2 hb => ?_)
    have HB := Lib.hid hb
    obtain ⟨a0, a1, a2, a3, a4, a5, a6, a7, a8, a9, a10⟩ := ext11 q1
    obtain ⟨b0, b1, b2, b3, b4, b5, b6, b7, b8, b9, b10⟩ := ext11 q2
    clear hb q1 q2
    refine (extc_same (alive07 _)).mono ?_
    rintro x _ ⟨e1, rfl, rfl⟩
    go_wp2_with fail
    refine (extc (HM.out _)).mono ?_
    rintro x _ ⟨e2, rfl, rfl⟩
    go_wp2_with fail
    refine (extc (HM2.out _)).mono ?_
    rintro x _ ⟨e3, rfl, rfl⟩
    go_wp2_with fail
    go_ret
    exact ⟨rfl, ext_end HB.out⟩
  · have hn300 : (300 : Int) < (n : Int) := by omega
    go_enter Try.func8, Try.ntmps8
    go_wp2_with fail
    refine calls_blk2 (fun W0 q1 q2 hb => ?_)
    have HB := Lib.hid hb
    obtain ⟨a0, a1, a2, a3, a4, a5, a6, a7, a8, a9, a10⟩ := ext11 q1
    obtain ⟨b0, b1, b2, b3, b4, b5, b6, b7, b8, b9, b10⟩ := ext11 q2
    clear hb q1 q2
    refine (extc_same (alive07 _)).mono ?_
    rintro x _ ⟨e1, rfl, rfl⟩
    go_wp2_with fail
    refine (extc (HM.out _)).mono ?_
    rintro x _ ⟨e2, rfl, rfl⟩
    go_wp2_with fail
    refine (extc (HM2.out _)).mono ?_
    rintro x _ ⟨e3, rfl, rfl⟩
    go_wp2_with fail
    go_ret
    exact ⟨rfl, ext_end HB.out⟩
  · have hn300 : ¬ (300 : Int) < (n : Int) := by omega
    have hm300 : (300 : Int) < (m : Int) := by omega
    go_enter Try.func8, Try.ntmps8
    go_wp2_with fail
    refine calls_blk2 (fun W0 q1 q2 hb => ?_)
    have HB := Lib.hid hb
    obtain ⟨a0, a1, a2, a3, a4, a5, a6, a7, a8, a9, a10⟩ := ext11 q1
    obtain ⟨b0, b1, b2, b3, b4, b5, b6, b7, b8, b9, b10⟩ := ext11 q2
    clear hb q1 q2
    refine (extc_same (alive07 _)).mono ?_
    rintro x _ ⟨e1, rfl, rfl⟩
    go_wp2_with fail
    refine (extc (HM.out _)).mono ?_
    rintro x _ ⟨e2, rfl, rfl⟩
    go_wp2_with fail
    refine (extc (HM2.out _)).mono ?_
    rintro x _ ⟨e3, rfl, rfl⟩
    go_wp2_with fail
    go_ret
    exact ⟨rfl, ext_end HB.out⟩
set_option maxRecDepth 100000 in
set_option maxHeartbeats 4000000 in
theorem fdApart_main (f g : Fr) (A B : Option Addr) (c d : Nat) (w : World) (hn3 : f.data.length ≤ 300) (hm3 : g.data.length ≤ 300) (hfn : FrN f) (hgn : FrN g) (hr : Rd w A (bys f.data)) (hr2 : Rd w B (bys g.data)) (hk : f.kind = 2) (hok : okF f = true) (hk2 : g.kind = 2) (hok2 : okF g = true) :
    Calls Try.prog 8 #[frv f (.slice A f.data.length c), frv g (.slice B g.data.length d)] w fun e w' => e = .returned (.bool true) ∧ Below w.heap.size w w' := by
  have hl8 := hn3
  have gl8 := hm3
  have HM := Lib.hid (fun W => mine07_any f A c W (by omega))
  have HM2 := Lib.hid (fun W => mine07_any g B d W (by omega))
  rw [mine07_true hk hok] at HM
  rw [mine07_true hk2 hok2] at HM2
  obtain ⟨NR, hNR⟩ : ∃ NR, (rawD f).length = NR := ⟨_, rfl⟩
  obtain ⟨NH, hNH⟩ : ∃ NH, (stuffN (headD f)).length = NH := ⟨_, rfl⟩
  obtain ⟨MR, hMR⟩ : ∃ MR, (rawD g).length = MR := ⟨_, rfl⟩
  obtain ⟨MH, hMH⟩ : ∃ MH, (stuffN (headD g)).length = MH := ⟨_, rfl⟩
  obtain ⟨-, hNR2, -⟩ := fd_bound f hk hok
  obtain ⟨-, hMR2, -⟩ := fd_bound g hk2 hok2
  rw [hNR] at hNR2
  rw [hMR] at hMR2
  have HW := Lib.hid (fun W (hW : Rd W A (bys f.data)) => FdWire_okN f A c NR NH W hk hok hfn hW hNR hNH)
  have HW2 := Lib.hid (fun W (hW : Rd W B (bys g.data)) => FdWire_okN g B d MR MH W hk2 hok2 hgn hW hMR hMH)
  have HSM := Lib.hid (fun W (hW : Rd W A (bys f.data)) (hW2 : Rd W B (bys g.data)) => Same_any f g A B c d W hW hW2 hfn.data hgn.data)
  have hfin := fdApart_plain f g hk hk2 hok hok2 hfn hgn
  have hl1 : (wireD f).length = NR + 10 := by unfold wireD; rw [List.length_append, hNR]; simp
  have hl2 : (wireD g).length = MR + 10 := by unfold wireD; rw [List.length_append, hMR]; simp
  rw [hl1, hl2] at hfin
  have HR := Lib.hid hr
  have HR2 := Lib.hid hr2
  obtain ⟨sm, hsm⟩ : ∃ sm, sameF f g = sm := ⟨_, rfl⟩
  rw [hsm] at hfin HSM
  obtain ⟨wi, hwi⟩ : ∃ wi, wireD f = wi := ⟨_, rfl⟩
  obtain ⟨wj, hwj⟩ : ∃ wj, wireD g = wj := ⟨_, rfl⟩
  rw [hwi] at HW hl1 hfin
  rw [hwj] at HW2 hl2 hfin
  obtain ⟨fk, fi, fe, fr, f4, f5, f6, f7, f8, f9, fd⟩ := f
  obtain ⟨gk, gi, ge, gr, g4, g5, g6, g7, g8, g9, gd⟩ := g
  dsimp only [frv] at *
  generalize fd.length = n at *
  generalize gd.length = m at *
  have hn300 : ¬ (300 : Int) < (n : Int) := by omega
  have hm300 : ¬ (300 : Int) < (m : Int) := by omega
  have HL1 := Lib.hid hl1
  have HL2 := Lib.hid hl2
  obtain ⟨nw, hnw⟩ : ∃ nw, NR + 10 = nw := ⟨_, rfl⟩
  obtain ⟨mw, hmw⟩ : ∃ mw, MR + 10 = mw := ⟨_, rfl⟩
  rw [hnw] at HW HL1 hfin
  rw [hmw] at HW2 HL2 hfin
  have hnw2 : 0 < nw ∧ nw ≤ 40010 := by omega
  have hmw2 : 0 < mw ∧ mw ≤ 40010 := by omega
  obtain ⟨MN, hMN⟩ : ∃ MN, min nw mw = MN := ⟨_, rfl⟩
  rw [hMN] at hfin
  have HFIN := Lib.hid hfin
  have hmn1a : MN ≤ nw := by omega
  have hmn1b : MN ≤ mw := by omega
  have hmin : ((nw : Int) ≤ (mw : Int) ∧ MN = nw) ∨ ((mw : Int) < (nw : Int) ∧ MN = mw) := by omega
  clear hr hr2 hNR hNH hMR hMH hok hok2 hk hk2 hfn hgn hn3 hm3 hwi hwj hfin hl1 hl2 hnw hmw hl8 gl8 hNR2 hMR2 hsm hMN
  go_enter Try.func8, Try.ntmps8
  go_wp2_with fail
  refine calls_blk2 (fun W0 q1 q2 hb => ?_)
  have HB := Lib.hid hb
  obtain ⟨a0, a1, a2, a3, a4, a5, a6, a7, a8, a9, a10⟩ := ext11 q1
  obtain ⟨b0, b1, b2, b3, b4, b5, b6, b7, b8, b9, b10⟩ := ext11 q2
  have hsz1 := ext_lt q1
  have hsz2 := ext_lt q2
  clear hb q1 q2
  refine (extc_same (alive07 _)).mono ?_
  rintro x _ ⟨e1, rfl, rfl⟩
  go_wp2_with fail
  refine (extc (HM.out _)).mono ?_
  rintro x _ ⟨e2, rfl, rfl⟩
  go_wp2_with fail
  refine (extc (HM2.out _)).mono ?_
  rintro x _ ⟨e3, rfl, rfl⟩
  go_wp2_with fail
  have HRD := Lib.hid (fun e : Ext W0 => (HR.out.below HB.out).ext e)
  have HRD2 := Lib.hid (fun e : Ext W0 => (HR2.out.below HB.out).ext e)
  refine (extc (HW.out _ (HRD.out e3))).mono ?_
  rintro x _ ⟨e4, rfl, A4, c4, rfl, hrow4⟩
  obtain ⟨ga, rfl, hga, hca1, hca2⟩ := row_some (n := nw) hrow4 (by rw [HL1.out]) (by omega)
  have HROW4 := Lib.hid hrow4
  clear hrow4
  go_wp2_with fail
  obtain ⟨p, hp⟩ : ∃ p, e4.W.heap.size = p := ⟨_, rfl⟩
  rw [hp]
  refine calls_name (T := fun W2 => W2.heap[p]? = some (.cells #[.slice (some ⟨ga, 0, none⟩) nw c4, .int .i64 NH, .int .i64 ((NR : Int) + 1)] 29) ∧ Below e4.W.heap.size e4.W W2) ⟨heap_new_at hp.symm, below_alloc (Below.refl _ _) _⟩ ?_
  rintro W2 ⟨r2, hb2⟩
  have hw02 : Below W0.heap.size W0 W2 := below_trans e4.below hb2
  refine (HW2.out W2 (HRD2.out ⟨W2, hw02⟩)).mono ?_
  rintro x w5 ⟨⟨A5, c5, rfl, hrow5⟩, hb5⟩
  obtain ⟨gc, rfl, hgc, hcb1, hcb2⟩ := row_some (n := mw) hrow5 (by rw [HL2.out]) (by omega)
  have HROW5 := Lib.hid hrow5
  have HR25 := Lib.hid (heap_below hb5 r2)
  have HB45 := Lib.hid (below_trans hb2 hb5)
  have HB05 := Lib.hid (below_trans hw02 hb5)
  have b0' := cell_of_heap (heap_below hb5 r2) 0 _ rfl
  have hpw : p < w5.heap.size := heap_lt (heap_below hb5 r2)
  obtain ⟨p2, hp2⟩ : ∃ p2, w5.heap.size = p2 := ⟨_, rfl⟩
  have hbox2 : (w5.alloc (.cells #[.slice (some ⟨gc, 0, none⟩) mw c5, .int .i64 MH, .int .i64 ((MR : Int) + 1)] 29)).heap[p2]? = some (.cells #[.slice (some ⟨gc, 0, none⟩) mw c5, .int .i64 MH, .int .i64 ((MR : Int) + 1)] 29) := heap_new_at hp2.symm
  have HBOX2 := Lib.hid hbox2
  have HP2 := Lib.hid hp2
  have hpp2 : p < p2 := by omega
  have hpn2 : ¬ p = p2 := by omega
  clear hrow5 hb5 hb2 r2 hw02 hp hbox2 HM HM2 HW HW2 hn300 hm300
  obtain ⟨X, hX⟩ : ∃ X, w5.alloc (.cells #[.slice (some ⟨gc, 0, none⟩) mw c5, .int .i64 MH, .int .i64 ((MR : Int) + 1)] 29) = X := ⟨_, rfl⟩
  have hx5 : Below w5.heap.size w5 X := by rw [← hX]; exact below_alloc (Below.refl _ _) _
  rw [hX] at HBOX2
  have HX5 := Lib.hid hx5
  have HX := Lib.hid hX
  have hf0 : diffB wi wj 0 = false := rfl
  clear hX hx5
  rcases hmin with ⟨hmin, hMN⟩ | ⟨hmin, hMN⟩
  all_goals
    subst hMN
    go_wp2_with fail
    rw [HX.out]
    go_loopw [9, 56] (fun dv iv wr => ∃ k : Nat, k ≤ MN ∧ dv = .bool (diffB wi wj k) ∧ iv = .int .i64 k ∧ Hid (Below X.heap.size X wr)) (fun _ iv _ => MN - (intOf iv).toNat)
    case atStart => exact ⟨0, by omega, rfl, rfl, Below.refl _ _⟩
    case round =>
      obtain ⟨k, hk, rfl, rfl, HBW⟩ := hrel
      have hb5 : Below w5.heap.size w5 wr := below_trans HX5.out HBW.out
      have c0 := cell_of_heap (heap_below hb5 HR25.out) 0 _ rfl
      have d0 := cell_of_heap (heap_below HBW.out HBOX2.out) 0 _ rfl
      have hbw1 : Below e4.W.heap.size e4.W wr := below_trans HB45.out hb5
      have hbw0 : Below W0.heap.size W0 wr := below_trans HB05.out hb5
      have HBW0 := Lib.hid hbw0
      by_cases hkn : k < MN
      · have hkl1 : k < wi.length := by rw [HL1.out]; omega
        have hkl2 : k < wj.length := by rw [HL2.out]; omega
        have x1 := row_at HROW4.out hbw1 k wi[k] (List.getElem?_eq_getElem hkl1)
        have y1 := row_at HROW5.out hb5 k wj[k] (List.getElem?_eq_getElem hkl2)
        have hsucc := diffB_succ wi wj k
        rw [List.getElem?_eq_getElem hkl1, List.getElem?_eq_getElem hkl2] at hsucc
        obtain ⟨x, hx⟩ : ∃ x, wi[k] = x := ⟨_, rfl⟩
        obtain ⟨y, hy⟩ : ∃ y, wj[k] = y := ⟨_, rfl⟩
        rw [hx, hy] at hsucc
        rw [hx] at x1
        rw [hy] at y1
        have hi0 : (k : Int) < (MN : Int) := by omega
        try have hi1 : (k : Int) < (nw : Int) := by omega
        try have hi2 : (k : Int) < (mw : Int) := by omega
        obtain ⟨db, hdb⟩ : ∃ db, diffB wi wj k = db := ⟨_, rfl⟩
        rw [hdb] at hsucc ⊢
        clear hx hy hdb hb5 hbw1 hbw0
        cases db
        · rw [Bool.false_or] at hsucc
          by_cases hxy : x = y
          · have hb : ((x : Int) != (y : Int)) = false := by rw [hxy]; simp
            have hs2 : diffB wi wj (k + 1) = false := by rw [hsucc, hxy]; simp
            have HS := Lib.hid hs2
            clear hsucc hs2 hxy hf0
            go_wp2_with fail
            go_quiet (fail)
            go_wp2_with fail
            go_roundw
            case rel => exact ⟨k + 1, by omega, by rw [HS.out], by go_num, below_drewN HBW.out _⟩
            case measure => simp [intOf]; omega
          · have hb : ((x : Int) != (y : Int)) = true := by rw [bne_iff_ne]; omega
            have hs2 : diffB wi wj (k + 1) = true := by rw [hsucc]; simp [hxy]
            have HS := Lib.hid hs2
            clear hsucc hs2 hxy hf0
            go_wp2_with fail
            go_quiet (fail)
            go_wp2_with fail
            go_roundw
            case rel => exact ⟨k + 1, by omega, by rw [HS.out], by go_num, below_drewN HBW.out _⟩
            case measure => simp [intOf]; omega
        · have hs2 : diffB wi wj (k + 1) = true := by rw [hsucc]; rfl
          have HS := Lib.hid hs2
          clear hsucc hs2 hf0
          go_wp2_with fail
          go_quiet (fail)
          go_wp2_with fail
          go_roundw
          case rel => exact ⟨k + 1, by omega, by rw [HS.out], by go_num, below_drewN HBW.out _⟩
          case measure => simp [intOf]; omega
      · obtain rfl : MN = k := by omega
        rw [HFIN.out]
        have q0 := a0 ⟨wr, hbw0⟩
        have q1 := a1 ⟨wr, hbw0⟩
        have q2 := a2 ⟨wr, hbw0⟩
        have q3 := a3 ⟨wr, hbw0⟩
        have q4 := a4 ⟨wr, hbw0⟩
        have q5 := a5 ⟨wr, hbw0⟩
        have q6 := a6 ⟨wr, hbw0⟩
        have q7 := a7 ⟨wr, hbw0⟩
        have q8 := a8 ⟨wr, hbw0⟩
        have q9 := a9 ⟨wr, hbw0⟩
        have q10 := a10 ⟨wr, hbw0⟩
        have r0 := b0 ⟨wr, hbw0⟩
        have r1 := b1 ⟨wr, hbw0⟩
        have r2 := b2 ⟨wr, hbw0⟩
        have r3 := b3 ⟨wr, hbw0⟩
        have r4 := b4 ⟨wr, hbw0⟩
        have r5 := b5 ⟨wr, hbw0⟩
        have r6 := b6 ⟨wr, hbw0⟩
        have r7 := b7 ⟨wr, hbw0⟩
        have r8 := b8 ⟨wr, hbw0⟩
        have r9 := b9 ⟨wr, hbw0⟩
        have r10 := b10 ⟨wr, hbw0⟩
        dsimp only at q0 q1 q2 q3 q4 q5 q6 q7 q8 q9 q10 r0 r1 r2 r3 r4 r5 r6 r7 r8 r9 r10
        clear hb5 hbw1 hbw0 a0 a1 a2 a3 a4 a5 a6 a7 a8 a9 a10 b0 b1 b2 b3 b4 b5 b6 b7 b8 b9 b10 hsz1 hsz2 hf0
        go_wp2_with fail
        refine (HSM.out wr (HRD.out ⟨wr, HBW0.out⟩) (HRD2.out ⟨wr, HBW0.out⟩)).mono ?_
        rintro x w6 ⟨rfl, hb6⟩
        have HB6 := Lib.hid hb6
        clear hb6
        cases sm
        all_goals
          go_wp2_with fail
          go_ret
          exact ⟨by first | rfl | simp, below_trans HB.out (below_trans HBW0.out HB6.out)⟩
theorem fdApart_walk (f g : Fr) (A B : Option Addr) (c d : Nat) (w : World) (hf : f.data.length ≤ 9223372036854775807) (hg : g.data.length ≤ 9223372036854775807) (hfn : FrN f) (hgn : FrN g) (hr : Rd w A (bys f.data)) (hr2 : Rd w B (bys g.data)) :
    Calls Try.prog 8 #[frv f (.slice A f.data.length c), frv g (.slice B g.data.length d)] w fun e w' => e = .returned (.bool true) ∧ Below w.heap.size w w' := by
  by_cases h : (((f.kind = 2 ∧ okF f = true) ∧ (g.kind = 2 ∧ okF g = true)) ∧ f.data.length ≤ 300 ∧ g.data.length ≤ 300)
  · exact fdApart_main f g A B c d w h.2.1 h.2.2 hfn hgn hr hr2 h.1.1.1 h.1.1.2 h.1.2.1 h.1.2.2
  · exact fdApart_triv f g A B c d w hf hg h
end Go.Proofs.Ytaknddanggdplaa
