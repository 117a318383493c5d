/- Ahead of its delimiter a Classic frame has never six bits alike in a row: the law ClassicRuns answers true. No condition. -/
import Derived.Test.YtbjeblffmgghgaaLaw06a
namespace Go.Proofs.Ytbjeblffmgghgaa
open Go.RowKit
theorem rawE_pos (l : List Nat) (k : Nat) (hk : k < l.length) (h0 : 0 < k) : (rawE 0 0 (l.take k)).1 = l[k - 1] ∧ 1 ≤ (rawE 0 0 (l.take k)).2 := by
  obtain ⟨j, rfl⟩ : ∃ j, k = j + 1 := ⟨k - 1, by omega⟩
  rw [rawE_step l j (by omega)]
  exact ⟨rfl, seeN_pos _ _ _⟩
set_option maxRecDepth 100000 in
set_option maxHeartbeats 4000000 in
theorem runs_walk (f : Fr) (A : Option Addr) (c : Nat) (w : World) (hf : f.data.length ≤ 9223372036854775807) (h0 : 0 ≤ f.id) (hr : Rd w A (bys f.data)) (hby : isBytes f.data) :
    Calls Try.prog 9 #[frv f (.slice A f.data.length c)] w fun e w' => e = .returned (.bool true) ∧ Below w.heap.size w w' := by
  have HM := Lib.hid (fun W => mine_any f A c W hf)
  by_cases hm : f.kind = 1 ∧ okF f = true
  · obtain ⟨hk, hok⟩ := hm
    have hl8 := okF_len1 f hk hok
    obtain ⟨NR, hNR⟩ : ∃ NR, (stuffN (bodyC f)).length = NR := ⟨_, rfl⟩
    obtain ⟨NH, hNH⟩ : ∃ NH, (stuffN (headL f)).length = NH := ⟨_, rfl⟩
    have hNR2 : NR ≤ 150 := by
      have h1 := stuffN_le (bodyC f)
      have h2 : (bodyC f).length ≤ 118 := by rw [bodyC_length]; split <;> omega
      omega
    have HW := Lib.hid (fun W (hW : Rd W A (bys f.data)) => Wire_ok f A c NR NH W hk hok h0 hW hby hNR hNH)
    have HWI : Hid (wireC f = stuffN (bodyC f) ++ List.replicate 10 1) := rfl
    have hruns := stuffN_runs (bodyC f)
    have hbits := stuffN_bits (bodyC f) (coreC_bitsB f)
    rw [hok, decide_eq_true hk] at HM
    have HR := Lib.hid hr
    obtain ⟨ra, hra⟩ : ∃ ra, stuffN (bodyC f) = ra := ⟨_, rfl⟩
    rw [hra] at HWI hruns hNR hbits
    obtain ⟨wi, hwi⟩ : ∃ wi, wireC f = wi := ⟨_, rfl⟩
    rw [hwi] at HWI HW
    obtain ⟨kind, id, ext, rtr, brs, esi, sec, sdt, vcid, af, data⟩ := f
    dsimp only [frv] at *
    generalize data.length = n at *
    obtain ⟨nw, hnw⟩ : ∃ nw, NR + 10 = nw := ⟨_, rfl⟩
    rw [hnw] at HW
    have hn300 : ¬ (300 : Int) < (n : Int) := by omega
    have hnw2 : nw ≤ 160 ∧ NR ≤ nw := by omega
    obtain ⟨hnw3, hnw4⟩ := hnw2
    have HNR := Lib.hid hNR
    have HRUNS := Lib.hid hruns
    have HBITS := Lib.hid hbits
    clear hr hNR hNH hok hk h0 hby hra hruns hwi hnw hbits
    go_enter Try.func9, Try.ntmps9
    go_wp2_with fail
    refine calls_blk1 (fun W0 q1 hb => ?_)
    have HB := Lib.hid hb
    obtain ⟨a0, a1, a2, a3, a4, a5, a6, a7, a8, a9, a10⟩ := ext11 q1
    have hsz := ext_lt q1
    clear hb q1
    refine (extc_same (alive06 _)).mono ?_
    rintro x _ ⟨e1, rfl, rfl⟩
    go_wp2_with fail
    refine (extc (HM.out _)).mono ?_
    rintro x _ ⟨e2, rfl, rfl⟩
    go_wp2_with fail
    refine (extc (HW.out _ ((HR.out.below HB.out).ext e2))).mono ?_
    rintro x _ ⟨e3, rfl, A3, c3, rfl, hrow⟩
    have hcap := hrow.cap
    have hcapm := hrow.capm
    have hlen : (bys wi).length = NR + 10 := by rw [HWI.out, bys_length, List.length_append, HNR.out]; simp
    obtain ⟨ga, hA⟩ := hrow.form
    have hA3 : A3 = some ⟨ga, 0, none⟩ := by
      rcases hA with h | h
      · exact h
      · omega
    subst hA3
    have hga : ga < e3.W.heap.size := by
      have hpos : 0 < (bys wi).length := by omega
      obtain ⟨ad, e, hc⟩ := hrow.rd 0 ((bys wi)[0]) (by simp [hpos])
      injection e with e
      subst e
      exact cell_lt hc
    have hraw : ∀ k (h : k < ra.length) (W : World), Below e3.W.heap.size e3.W W → W.cell? ⟨ga, k, none⟩ = some (.int .u8 (ra[k] : Int)) := by
      intro k h W hW
      have h1 : (bys wi)[k]? = some (.int .u8 (ra[k] : Int)) := by
        rw [HWI.out, bys_append, List.getElem?_append_left (by rw [bys_length]; exact h), bys_get ra k h]
      obtain ⟨ad, e, hc⟩ := hrow.rd k _ h1
      injection e with e
      subst e
      refine Below.cell_of hW ?_
      rw [← hc]
      unfold Addr.add
      by_cases hk0 : k = 0 <;> simp [hk0]
    have hcap2 : (NR : Int) ≤ (c3 : Int) := by omega
    have hcap3 : (c3 : Int) ≤ 9223372036854775807 := by omega
    have HRAW := Lib.hid hraw
    clear hraw hrow hcap hcapm hlen hA
    obtain ⟨gb, hgb⟩ : ∃ gb, e3.W.heap.size = gb := ⟨_, rfl⟩
    go_wp2_with fail
    have hbox0 : (e3.W.alloc (.cells #[.slice (some ⟨ga, 0, none⟩) nw c3, .int .i64 NH, .int .i64 ((NR : Int) + 1)] 66)).heap[gb]? = some (.cells #[.slice (some ⟨ga, 0, none⟩) nw c3, .int .i64 NH, .int .i64 ((NR : Int) + 1)] 66) := heap_new_at hgb.symm
    have HBOX0 := Lib.hid hbox0
    have HGB := Lib.hid hgb
    clear hbox0 hgb a0 a1 a2 a3 a4 a5 a6 a7 a8 a9 a10 hn300
    go_loopw [5, 32] (fun rv iv wr => ∃ k last r : Nat, k ≤ NR ∧ r ≤ 5 ∧ Hid (rawE 0 0 (ra.take k) = (last, r)) ∧ rv = .int .i64 r ∧ iv = .int .i64 k ∧ Hid (wr.heap[gb]? = some (.cells #[.slice (some ⟨ga, 0, none⟩) nw c3, .int .i64 NH, .int .i64 ((NR : Int) + 1)] 66)) ∧ Hid (Below e3.W.heap.size e3.W wr)) (fun _ iv _ => NR - (intOf iv).toNat)
    case atStart => exact ⟨0, 0, 0, by omega, by omega, rfl, rfl, rfl, HBOX0, below_alloc (Below.refl _ _) _⟩
    case round =>
      obtain ⟨k, last, r, hk, hr5, HE, rfl, rfl, HBX, HBW⟩ := hrel
      by_cases hkn : k < NR
      · have hkl : k < ra.length := by rw [HNR.out]; exact hkn
        have c0 := cell_of_heap HBX.out 0 _ rfl
        have c1 : wr.cell? ⟨gb, 1, none⟩ = some (.int .i64 NH) := cell_of_heap HBX.out 1 _ rfl
        have xk := HRAW.out k hkl wr HBW.out
        have hstep := rawE_step ra k hkl
        have h5 := runs_at ra HRUNS.out k hkl
        rw [HE.out] at hstep h5
        have hknw : (k : Int) < (nw : Int) := by omega
        cases k with
        | zero =>
          have hr0 : last = 0 ∧ r = 0 := by have := HE.out; simp [rawE] at this; omega
          obtain ⟨rfl, rfl⟩ := hr0
          obtain ⟨x, hx⟩ : ∃ x, ra[0] = x := ⟨_, rfl⟩
          rw [hx] at hstep xk
          have HST := Lib.hid hstep
          clear hstep h5 hx
          go_wp2_with fail
          go_quiet (fail)
          go_wp2_with fail
          all_goals
            go_roundw
            case rel => exact ⟨1, x, 1, by omega, by omega, HST.out, rfl, by go_num, HBX, below_drewN HBW.out _⟩
            case measure => simp [intOf]; omega
        | succ j =>
          have hjl : j < ra.length := by omega
          have xj := HRAW.out j hjl wr HBW.out
          have hp := rawE_pos ra (j + 1) hkl (by omega)
          rw [HE.out] at hp
          simp only [Nat.add_sub_cancel] at hp
          obtain ⟨hp1, hp2⟩ := hp
          obtain ⟨x, hx⟩ : ∃ x, ra[j + 1] = x := ⟨_, rfl⟩
          obtain ⟨y, hy⟩ : ∃ y, ra[j] = y := ⟨_, rfl⟩
          rw [hx] at hstep xk h5
          rw [hy] at xj hp1
          subst hp1
          have hjnw : (j : Int) < (nw : Int) := by omega
          have HST := Lib.hid hstep
          have hj1 : (0 : Int) < ((j + 1 : Nat) : Int) := by omega
          clear hstep hx hy
          by_cases hxy : x = last
          · have hse : seeN last r x = r + 1 := by unfold seeN; rw [if_pos ⟨by omega, hxy.symm⟩]
            rw [hse] at h5 HST
            have hb : ((x : Int) == (last : Int)) = true := by rw [hxy]; simp
            have HXY := Lib.hid hxy
            clear hxy hse
            go_wp2_with fail
            go_quiet (fail)
            go_wp2_with fail
            all_goals
              go_roundw
              case rel => exact ⟨j + 1 + 1, x, r + 1, by omega, by omega, HST.out, by go_num, by go_num, HBX, below_drewN HBW.out _⟩
              case measure => simp [intOf]; omega
          · have hse : seeN last r x = 1 := by unfold seeN; rw [if_neg (by omega)]
            rw [hse] at h5 HST
            have hb : ((x : Int) == (last : Int)) = false := by rw [beq_eq_false_iff_ne]; omega
            have HXY := Lib.hid hxy
            clear hxy hse
            go_wp2_with fail
            go_quiet (fail)
            go_wp2_with fail
            all_goals
              go_roundw
              case rel => exact ⟨j + 1 + 1, x, 1, by omega, by omega, HST.out, rfl, by go_num, HBX, below_drewN HBW.out _⟩
              case measure => simp [intOf]; omega
      · obtain rfl : NR = k := by omega
        go_wp2_with fail
        go_ret
        exact ⟨rfl, below_trans HB.out (below_trans e3.below HBW.out)⟩
  · have hd : (decide (f.kind = 1) && okF f) = false := by
      cases h : okF f with
      | false => simp
      | true => simp; exact fun hk => hm ⟨hk, h⟩
    rw [hd] at HM
    obtain ⟨kind, id, ext, rtr, brs, esi, sec, sdt, vcid, af, data⟩ := f
    dsimp only [frv] at *
    generalize data.length = n at *
    clear hm hd
    go_enter Try.func9, Try.ntmps9
    go_wp2_with fail
    refine calls_blk1 (fun W0 q1 hb => ?_)
    have HB := Lib.hid hb
    obtain ⟨a0, a1, a2, a3, a4, a5, a6, a7, a8, a9, a10⟩ := ext11 q1
    clear hb q1
    refine (extc_same (alive06 _)).mono ?_
    rintro x _ ⟨e1, rfl, rfl⟩
    go_wp2_with fail
    refine (extc (HM.out _)).mono ?_
    rintro x _ ⟨e2, rfl, rfl⟩
    go_wp2_with fail
    go_ret
    exact ⟨rfl, ext_end HB.out⟩
end Go.Proofs.Ytbjeblffmgghgaa
