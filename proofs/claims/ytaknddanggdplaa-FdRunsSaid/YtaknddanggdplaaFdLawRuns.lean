/- Ahead of its delimiter an FD frame has no long run of bits alike, and none of six where it arbitrates: the law FdRuns answers true. No condition. -/
import Derived.Test.YtaknddanggdplaaFdMine
namespace Go.Proofs.Ytaknddanggdplaa
open Go.RowKit
set_option maxRecDepth 100000 in
set_option maxHeartbeats 4000000 in
theorem fdRuns_main (f : Fr) (A : Option Addr) (c : Nat) (w : World) (hn3 : f.data.length ≤ 300) (hf : FrN f) (hr : Rd w A (bys f.data)) (hk : f.kind = 2) (hok : okF f = true) :
    Calls Try.prog 6 #[frv f (.slice A f.data.length c)] w fun e w' => e = .returned (.bool true) ∧ Below w.heap.size w w' := by
  have HM := Lib.hid (fun W => mine07_any f A c W (by omega))
  rw [mine07_true hk hok] at HM
  obtain ⟨NR, hNR⟩ : ∃ NR, (rawD f).length = NR := ⟨_, rfl⟩
  obtain ⟨NH, hNH⟩ : ∃ NH, (stuffN (headD f)).length = NH := ⟨_, rfl⟩
  obtain ⟨hNHR, hNR2, hNH12⟩ := fd_bound f hk hok
  rw [hNR, hNH] at hNHR
  rw [hNR] at hNR2
  rw [hNH] at hNH12
  have HW := Lib.hid (fun W (hW : Rd W A (bys f.data)) => FdWire_okN f A c NR NH W hk hok hf hW hNR hNH)
  have HWI : Hid (wireD f = rawD f ++ List.replicate 10 1) := rfl
  have hsee := rawD_see f
  rw [hNH] at hsee
  have HR := Lib.hid hr
  obtain ⟨ra, hra⟩ : ∃ ra, rawD f = ra := ⟨_, rfl⟩
  rw [hra] at HWI hNR
  rw [hra] at hsee
  obtain ⟨wi, hwi⟩ : ∃ wi, wireD f = wi := ⟨_, rfl⟩
  rw [hwi] at HWI HW
  obtain ⟨kind, id, ext, rtr, brs, esi, sec, sdt, vcid, af, data⟩ := f
  dsimp only [frv] at *
  generalize data.length = n at *
  obtain ⟨nw, hnw⟩ : ∃ nw, NR + 10 = nw := ⟨_, rfl⟩
  rw [hnw] at HW
  have hn300 : ¬ (300 : Int) < (n : Int) := by omega
  have hnw3 : nw ≤ 40010 := by omega
  have hnw4 : NR ≤ nw := by omega
  have HNR := Lib.hid hNR
  have HSEE := Lib.hid hsee
  clear hr hNR hNH hok hk hf hra hsee hwi hnw hn3 hNHR
  go_enter Try.func6, Try.ntmps6
  go_wp2_with fail
  refine calls_blk1 (fun W0 q1 hb => ?_)
  have HB := Lib.hid hb
  obtain ⟨a0, a1, a2, a3, a4, a5, a6, a7, a8, a9, a10⟩ := ext11 q1
  have hsz := ext_lt q1
  clear hb q1
  refine (extc_same (alive07 _)).mono ?_
  rintro x _ ⟨e1, rfl, rfl⟩
  go_wp2_with fail
  refine (extc (HM.out _)).mono ?_
  rintro x _ ⟨e2, rfl, rfl⟩
  go_wp2_with fail
  refine (extc (HW.out _ ((HR.out.below HB.out).ext e2))).mono ?_
  rintro x _ ⟨e3, rfl, A3, c3, rfl, hrow⟩
  have hlen : wi.length = NR + 10 := by rw [HWI.out, List.length_append, HNR.out]; simp
  obtain ⟨ga, rfl, hga, hcap, hcapm⟩ := row_some (n := NR + 10) hrow hlen (by omega)
  have hraw : ∀ k (h : k < ra.length) (W : World), Below e3.W.heap.size e3.W W → W.cell? ⟨ga, k, none⟩ = some (.int .u8 (ra[k] : Int)) := by
    intro k h W hW
    refine row_at hrow hW k ra[k] ?_
    rw [HWI.out, List.getElem?_append_left h, List.getElem?_eq_getElem h]
  have hcap2 : (NR : Int) ≤ (c3 : Int) := by omega
  have hcap3 : (c3 : Int) ≤ 9223372036854775807 := by omega
  have HRAW := Lib.hid hraw
  clear hraw hrow hcap hcapm hlen
  obtain ⟨gb, hgb⟩ : ∃ gb, e3.W.heap.size = gb := ⟨_, rfl⟩
  go_wp2_with fail
  have hbox0 : (e3.W.alloc (.cells #[.slice (some ⟨ga, 0, none⟩) nw c3, .int .i64 NH, .int .i64 ((NR : Int) + 1)] 29)).heap[gb]? = some (.cells #[.slice (some ⟨ga, 0, none⟩) nw c3, .int .i64 NH, .int .i64 ((NR : Int) + 1)] 29) := heap_new_at hgb.symm
  have HBOX0 := Lib.hid hbox0
  have HGB := Lib.hid hgb
  clear hbox0 hgb a0 a1 a2 a3 a4 a5 a6 a7 a8 a9 a10 hn300
  go_loopw [5, 32] (fun rv iv wr => ∃ k last r : Nat, k ≤ NR ∧ r ≤ 5 ∧ Hid (rawE 0 0 (ra.take k) = (last, r)) ∧ rv = .int .i64 r ∧ iv = .int .i64 k ∧ Hid (wr.heap[gb]? = some (.cells #[.slice (some ⟨ga, 0, none⟩) nw c3, .int .i64 NH, .int .i64 ((NR : Int) + 1)] 29)) ∧ Hid (Below e3.W.heap.size e3.W wr)) (fun _ iv _ => NR - (intOf iv).toNat)
  case atStart => exact ⟨0, 0, 0, by omega, by omega, rfl, rfl, rfl, HBOX0, below_alloc (Below.refl _ _) _⟩
  case round =>
    obtain ⟨k, last, r, hk, hr5, HE, rfl, rfl, HBX, HBW⟩ := hrel
    by_cases hkn : k < NR
    · have hkl : k < ra.length := by rw [HNR.out]; exact hkn
      have c0 := cell_of_heap HBX.out 0 _ rfl
      have c1 : wr.cell? ⟨gb, 1, none⟩ = some (.int .i64 NH) := cell_of_heap HBX.out 1 _ rfl
      have xk := HRAW.out k hkl wr HBW.out
      have hstep := rawE_step ra k hkl
      obtain ⟨h9, h5⟩ := HSEE.out k hkl
      rw [HE.out] at hstep h5 h9
      have hknw : (k : Int) < (nw : Int) := by omega
      cases k with
      | zero =>
        have hr0 : last = 0 ∧ r = 0 := by have := HE.out; simp [rawE] at this; omega
        obtain ⟨rfl, rfl⟩ := hr0
        obtain ⟨x, hx⟩ : ∃ x, ra[0] = x := ⟨_, rfl⟩
        rw [hx] at hstep xk
        have HST := Lib.hid hstep
        clear hstep h5 h9 hx
        go_wp2_with fail
        go_quiet (fail)
        go_wp2_with fail
        all_goals
          go_roundw
          case rel => exact ⟨1, x, 1, by omega, by omega, HST.out, rfl, by go_num, HBX, below_drewN HBW.out _⟩
          case measure => simp [intOf]; omega
      | succ j =>
        have hjl : j < ra.length := by omega
        have xj := HRAW.out j hjl wr HBW.out
        have hp := rawE_pos ra (j + 1) hkl (by omega)
        rw [HE.out] at hp
        simp only [Nat.add_sub_cancel] at hp
        obtain ⟨hp1, hp2⟩ := hp
        obtain ⟨x, hx⟩ : ∃ x, ra[j + 1] = x := ⟨_, rfl⟩
        obtain ⟨y, hy⟩ : ∃ y, ra[j] = y := ⟨_, rfl⟩
        rw [hx] at hstep xk h5 h9
        rw [hy] at xj hp1
        subst hp1
        have hjnw : (j : Int) < (nw : Int) := by omega
        have HST := Lib.hid hstep
        have hj1 : (0 : Int) < ((j + 1 : Nat) : Int) := by omega
        clear hstep hx hy
        by_cases hxy : x = last
        · have hse : seeN last r x = r + 1 := by unfold seeN; rw [if_pos ⟨by omega, hxy.symm⟩]
          rw [hse] at h5 h9 HST
          have hb : ((x : Int) == (last : Int)) = true := by rw [hxy]; simp
          have HXY := Lib.hid hxy
          have h9' : ¬ (5 : Int) < (r : Int) + 1 := by omega
          have h5' : ¬ ((((j + 1 : Nat) : Int) < (NH : Int)) ∧ (5 : Int) < (r : Int) + 1) := by omega
          have H5' := Lib.hid h5'
          by_cases hjh : ((j : Int) + 1 < (NH : Int))
          · have h5'' : ¬ (5 : Int) < (r : Int) + 1 := by omega
            clear hxy hse h5 h9 h5'
            go_wp2_with fail
            go_quiet (fail)
            go_wp2_with fail
            all_goals
              go_roundw
              case rel => exact ⟨j + 1 + 1, x, r + 1, by omega, by omega, HST.out, by go_num, by go_num, HBX, below_drewN HBW.out _⟩
              case measure => simp [intOf]; omega
          · clear hxy hse h5 h9 h5'
            go_wp2_with fail
            go_quiet (fail)
            go_wp2_with fail
            all_goals
              go_roundw
              case rel => exact ⟨j + 1 + 1, x, r + 1, by omega, by omega, HST.out, by go_num, by go_num, HBX, below_drewN HBW.out _⟩
              case measure => simp [intOf]; omega
        · have hse : seeN last r x = 1 := by unfold seeN; rw [if_neg (by omega)]
          rw [hse] at HST
          have hb : ((x : Int) == (last : Int)) = false := by rw [beq_eq_false_iff_ne]; omega
          have HXY := Lib.hid hxy
          clear hxy hse h5 h9
          go_wp2_with fail
          go_quiet (fail)
          go_wp2_with fail
          all_goals
            go_roundw
            case rel => exact ⟨j + 1 + 1, x, 1, by omega, by omega, HST.out, rfl, by go_num, HBX, below_drewN HBW.out _⟩
            case measure => simp [intOf]; omega
    · obtain rfl : NR = k := by omega
      go_wp2_with fail
      go_ret
      exact ⟨rfl, below_trans HB.out (below_trans e3.below HBW.out)⟩
set_option maxRecDepth 100000 in
set_option maxHeartbeats 2000000 in
theorem fdRuns_triv (f : Fr) (A : Option Addr) (c : Nat) (w : World) (hf : f.data.length ≤ 9223372036854775807) (h : ¬ (f.kind = 2 ∧ okF f = true) ∨ 300 < f.data.length) :
    Calls Try.prog 6 #[frv f (.slice A f.data.length c)] w fun e w' => e = .returned (.bool true) ∧ Below w.heap.size w w' := by
  have HM := Lib.hid (fun W => mine07_any f A c W hf)
  obtain ⟨b, hbb⟩ : ∃ b, (decide (f.kind = 2) && okF f) = b := ⟨_, rfl⟩
  have hcase : b = false ∨ (b = true ∧ 300 < f.data.length) := by
    cases b
    · exact .inl rfl
    · simp only [Bool.and_eq_true, decide_eq_true_eq] at hbb
      exact .inr ⟨rfl, h.resolve_left (fun h => h hbb)⟩
  rw [hbb] at HM
  obtain ⟨kind, id, ext, rtr, brs, esi, sec, sdt, vcid, af, data⟩ := f
  dsimp only [frv] at *
  generalize data.length = n at *
  clear hbb h
  rcases hcase with rfl | ⟨rfl, h3⟩
  · go_enter Try.func6, Try.ntmps6
    go_wp2_with fail
    refine calls_blk1 (fun W0 q1 hb => ?_)
    have HB := Lib.hid hb
    obtain ⟨a0, a1, a2, a3, a4, a5, a6, a7, a8, a9, a10⟩ := ext11 q1
    clear hb q1
    refine (extc_same (alive07 _)).mono ?_
    rintro x _ ⟨e1, rfl, rfl⟩
    go_wp2_with fail
    refine (extc (HM.out _)).mono ?_
    rintro x _ ⟨e2, rfl, rfl⟩
    go_wp2_with fail
    go_ret
    exact ⟨rfl, ext_end HB.out⟩
  · have hn300 : (300 : Int) < (n : Int) := by omega
    go_enter Try.func6, Try.ntmps6
    go_wp2_with fail
    refine calls_blk1 (fun W0 q1 hb => ?_)
    have HB := Lib.hid hb
    obtain ⟨a0, a1, a2, a3, a4, a5, a6, a7, a8, a9, a10⟩ := ext11 q1
    clear hb q1
    refine (extc_same (alive07 _)).mono ?_
    rintro x _ ⟨e1, rfl, rfl⟩
    go_wp2_with fail
    refine (extc (HM.out _)).mono ?_
    rintro x _ ⟨e2, rfl, rfl⟩
    go_wp2_with fail
    go_ret
    exact ⟨rfl, ext_end HB.out⟩
theorem fdRuns_walk (f : Fr) (A : Option Addr) (c : Nat) (w : World) (hl : f.data.length ≤ 9223372036854775807) (hf : FrN f) (hr : Rd w A (bys f.data)) :
    Calls Try.prog 6 #[frv f (.slice A f.data.length c)] w fun e w' => e = .returned (.bool true) ∧ Below w.heap.size w w' := by
  by_cases h : ¬ (f.kind = 2 ∧ okF f = true) ∨ 300 < f.data.length
  · exact fdRuns_triv f A c w hl h
  · have h1 : f.kind = 2 ∧ okF f = true := Classical.byContradiction fun hn => h (.inl hn)
    exact fdRuns_main f A c w (by omega) hf hr h1.1 h1.2
end Go.Proofs.Ytaknddanggdplaa
