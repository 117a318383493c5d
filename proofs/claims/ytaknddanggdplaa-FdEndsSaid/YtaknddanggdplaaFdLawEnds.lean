/- On the wire an FD frame begins and ends as it must: the law FdEnds answers true. No condition. -/
import Derived.Test.YtaknddanggdplaaFdMine
import Derived.Test.YtaknddanggdplaaFdEnd
namespace Go.Proofs.Ytaknddanggdplaa
open Go.RowKit
theorem wireD_bits (f : Fr) : ∀ x ∈ wireD f, x ≤ 1 := by
  intro x hx
  unfold wireD at hx
  rcases List.mem_append.1 hx with h | h
  · exact rawD_bits f x h
  · have := List.eq_of_mem_replicate h; omega
set_option maxRecDepth 100000 in
set_option maxHeartbeats 2000000 in
theorem fdEnds_no (f : Fr) (A : Option Addr) (c : Nat) (w : World) (hf : f.data.length ≤ 9223372036854775807) (hm : ¬ (f.kind = 2 ∧ okF f = true)) :
    Calls Try.prog 14 #[frv f (.slice A f.data.length c)] w fun e w' => e = .returned (.bool true) ∧ Below w.heap.size w w' := by
  have HM := Lib.hid (fun W => mine07_any f A c W hf)
  have HW := Lib.hid (fun W => FdWire_no f A c W hf hm)
  have hd := mine07_false hm
  rw [hd] at HM
  obtain ⟨kind, id, ext, rtr, brs, esi, sec, sdt, vcid, af, data⟩ := f
  dsimp only [frv] at *
  generalize data.length = n at *
  clear hm hd
  go_enter Try.func14, Try.ntmps14
  go_wp2_with fail
  refine calls_blk1 (fun W0 q1 hb => ?_)
  have HB := Lib.hid hb
  obtain ⟨a0, a1, a2, a3, a4, a5, a6, a7, a8, a9, a10⟩ := ext11 q1
  have hsz := ext_lt q1
  clear hb q1
  refine (extc_same (alive07 _)).mono ?_
  rintro x _ ⟨e1, rfl, rfl⟩
  go_wp2_with fail
  refine (extc (HW.out _)).mono ?_
  rintro x _ ⟨e3, rfl, rfl⟩
  go_wp2_with fail
  obtain ⟨gb, hgb⟩ : ∃ gb, e3.W.heap.size = gb := ⟨_, rfl⟩
  rw [hgb]
  refine calls_name (T := fun W1 => W1.heap[gb]? = some (.cells #[.slice none 0 0, .int .i64 0, .int .i64 0] 29) ∧ Below W0.heap.size W0 W1) ⟨heap_new_at hgb.symm, below_alloc e3.below _⟩ ?_
  rintro W1 ⟨q2, hb1⟩
  replace a0 := liftE hb1 a0
  replace a1 := liftE hb1 a1
  replace a2 := liftE hb1 a2
  replace a3 := liftE hb1 a3
  replace a4 := liftE hb1 a4
  replace a5 := liftE hb1 a5
  replace a6 := liftE hb1 a6
  replace a7 := liftE hb1 a7
  replace a8 := liftE hb1 a8
  replace a9 := liftE hb1 a9
  replace a10 := liftE hb1 a10
  have c0 := fun e : Ext W1 => cell_of_heap (heap_below e.below q2) 0 _ rfl
  have HB1 := Lib.hid hb1
  clear hsz hb1 q2 hgb
  go_wp2_with fail
  refine (extc_same (HM.out _)).mono ?_
  rintro x _ ⟨e2, rfl, rfl⟩
  go_wp2_with fail
  go_ret
  exact ⟨rfl, below_trans HB.out (below_trans HB1.out e2.below)⟩
set_option maxRecDepth 100000 in
set_option maxHeartbeats 4000000 in
theorem fdEnds_main (f : Fr) (A : Option Addr) (c : Nat) (w : World) (hlen : f.data.length ≤ 9223372036854775807) (hfn : FrN f) (hr : Rd w A (bys f.data)) (hk : f.kind = 2) (hok : okF f = true) :
    Calls Try.prog 14 #[frv f (.slice A f.data.length c)] w fun e w' => e = .returned (.bool true) ∧ Below w.heap.size w w' := by
  have HM := Lib.hid (fun W => mine07_any f A c W hlen)
  rw [mine07_true hk hok] at HM
  obtain ⟨NR, hNR⟩ : ∃ NR, (rawD f).length = NR := ⟨_, rfl⟩
  obtain ⟨NH, hNH⟩ : ∃ NH, (stuffN (headD f)).length = NH := ⟨_, rfl⟩
  obtain ⟨hNHR, hNR2, hNH2⟩ := fd_bound f hk hok
  rw [hNR, hNH] at hNHR
  rw [hNR] at hNR2
  rw [hNH] at hNH2
  have HW := Lib.hid (fun W (hW : Rd W A (bys f.data)) => FdWire_okN f A c NR NH W hk hok hfn hW hNR hNH)
  have HWI : Hid (wireD f = rawD f ++ List.replicate 10 1) := rfl
  have hbits := wireD_bits f
  obtain ⟨l0, hl0⟩ := rawD_zero f
  have HRUN5 := Lib.hid (rawD_end f)
  have HRUN10 := Lib.hid (run_tail (rawD f))
  have HR := Lib.hid hr
  obtain ⟨ra, hra⟩ : ∃ ra, rawD f = ra := ⟨_, rfl⟩
  rw [hra] at HWI HRUN5 HRUN10 hl0 hNR
  obtain ⟨wi, hwi⟩ : ∃ wi, wireD f = wi := ⟨_, rfl⟩
  rw [hwi] at HWI HW hbits
  rw [← HWI.out] at HRUN10
  have hl1 : wi.length = NR + 10 := by rw [HWI.out, List.length_append, hNR]; simp
  have hok2 : (if bitsOk wi then (0 : Int) else 2) = 0 := by
    rw [if_pos]
    unfold bitsOk
    rw [decide_eq_true hbits, decide_eq_true (by omega)]; rfl
  have hw0 : wi[0]? = some 0 := by rw [HWI.out, hl0]; rfl
  obtain ⟨kind, id, ext, rtr, brs, esi, sec, sdt, vcid, af, data⟩ := f
  dsimp only [frv] at *
  generalize data.length = n at *
  have HNR := Lib.hid hNR
  have HL1 := Lib.hid hl1
  have HOK2 := Lib.hid hok2
  have HW0 := Lib.hid hw0
  obtain ⟨nw, hnw⟩ : ∃ nw, NR + 10 = nw := ⟨_, rfl⟩
  rw [hnw] at HW HL1
  have hsub10 : IntKind.i64.wrap ((nw : Int) - 10) = (NR : Int) := by rw [IntWalk.i64_in _ (by omega)]; omega
  have hn30 : ¬ (nw : Int) < 30 := by omega
  have hack : ((NR : Int) + 1 != IntKind.i64.wrap ((nw : Int) - 9)) = false := by rw [IntWalk.i64_in _ (by omega)]; simp; omega
  have hnh12 : ¬ (NH : Int) < 12 := by omega
  have hnh3 : ¬ (IntKind.i64.wrap (((NR : Int) + 1) - 10)) < (NH : Int) := by rw [IntWalk.i64_in _ (by omega)]; omega
  have HS10 := Lib.hid hsub10
  have hq1 : ((NR : Int) + 1) = (nw : Int) - 9 := by omega
  have hq2 : (NH : Int) + 19 ≤ (NR : Int) := by omega
  have hNRnw : NR ≤ nw ∧ 0 < nw ∧ nw ≤ 40010 := by omega
  clear hr hNR hNH hok hk hfn hlen hra hwi hbits hl0 hl1 hok2 hw0 hnw hsub10 hack hnh3 hNR2 hNH2 hNHR
  go_enter Try.func14, Try.ntmps14
  go_wp2_with fail
  refine calls_blk1 (fun W0 q1 hb => ?_)
  have HB := Lib.hid hb
  obtain ⟨a0, a1, a2, a3, a4, a5, a6, a7, a8, a9, a10⟩ := ext11 q1
  have hsz := ext_lt q1
  clear hb q1
  refine (extc_same (alive07 _)).mono ?_
  rintro x _ ⟨e1, rfl, rfl⟩
  go_wp2_with fail
  refine (extc (HW.out _ ((HR.out.below HB.out).ext e1))).mono ?_
  rintro x _ ⟨e3, rfl, A4, c4, rfl, hrow4⟩
  obtain ⟨ga, rfl, hga, hca1, hca2⟩ := row_some (n := nw) hrow4 (by rw [HL1.out]) (by omega)
  have HROW4 := Lib.hid hrow4
  clear hrow4
  go_wp2_with fail
  obtain ⟨gb, hgb⟩ : ∃ gb, e3.W.heap.size = gb := ⟨_, rfl⟩
  rw [hgb]
  refine calls_name (T := fun W1 => W1.heap[gb]? = some (.cells #[.slice (some ⟨ga, 0, none⟩) nw c4, .int .i64 NH, .int .i64 ((nw : Int) - 9)] 29) ∧ Below W0.heap.size W0 W1 ∧ Below e3.W.heap.size e3.W W1) ⟨heap_new_at hgb.symm, below_alloc e3.below _, below_alloc (Below.refl _ _) _⟩ ?_
  rintro W1 ⟨q2, hb1, hb31⟩
  replace a0 := liftE hb1 a0
  replace a1 := liftE hb1 a1
  replace a2 := liftE hb1 a2
  replace a3 := liftE hb1 a3
  replace a4 := liftE hb1 a4
  replace a5 := liftE hb1 a5
  replace a6 := liftE hb1 a6
  replace a7 := liftE hb1 a7
  replace a8 := liftE hb1 a8
  replace a9 := liftE hb1 a9
  replace a10 := liftE hb1 a10
  have c0 := fun e : Ext W1 => cell_of_heap (heap_below e.below q2) 0 _ rfl
  have c1 : ∀ e : Ext W1, e.W.cell? ⟨gb, 1, none⟩ = some (.int .i64 NH) := fun e => cell_of_heap (heap_below e.below q2) 1 _ rfl
  have c2 : ∀ e : Ext W1, e.W.cell? ⟨gb, 2, none⟩ = some (.int .i64 ((nw : Int) - 9)) := fun e => cell_of_heap (heap_below e.below q2) 2 _ rfl
  have z0 : ∀ e : Ext W1, e.W.cell? ⟨ga, 0, none⟩ = some (.int .u8 0) := fun e => row_at HROW4.out (below_trans hb31 e.below) 0 0 HW0.out
  have HRD := Lib.hid (fun e : Ext W1 => (HROW4.out.rd.below hb31).ext e)
  have HB1 := Lib.hid hb1
  clear hsz hb1 q2 hgb hb31
  refine (extc_same (HM.out _)).mono ?_
  rintro x _ ⟨e2, rfl, rfl⟩
  go_wp2_with fail
  have hchk := BitsCheck_any (some ⟨ga, 0, none⟩) nw c4 wi e2.W (HRD.out e2) HL1.out (by omega)
  rw [HOK2.out] at hchk
  refine hchk.mono ?_
  rintro x _ ⟨rfl, rfl⟩
  clear hchk
  go_wp2_with fail
  refine (extc (runBits_any ga 0 nw c4 (some ⟨ga, 0, none⟩) wi e2.W (fun _ => rfl) HL1.out (by omega) (HRD.out e2))).mono ?_
  rintro x _ ⟨e5, rfl, r, rfl, hrun⟩
  have hr10 : (10 : Int) ≤ (r : Int) := by have := HRUN10.out r hrun; omega
  clear hrun
  go_wp2_with fail
  have hr2 : Rd e5.W (some ⟨ga, 0, none⟩) (bys ra) := rd_left (b := List.replicate 10 1) (by rw [← HWI.out]; exact HRD.out e5)
  have hnr : ra.length = nw - 10 := by have := HNR.out; omega
  refine (extc (runBits_any ga 0 (nw - 10) c4 (some ⟨ga, 0, none⟩) ra e5.W (fun _ => rfl) hnr (by omega) hr2)).mono ?_
  rintro x _ ⟨e6, rfl, r2, rfl, hrun⟩
  have hr5 : (r2 : Int) ≤ 5 := by have := HRUN5.out r2 hrun; omega
  clear hrun hr2 hnr
  go_wp2_with fail
  go_ret
  exact ⟨rfl, below_trans HB.out (below_trans HB1.out e6.below)⟩
theorem fdEnds_walk (f : Fr) (A : Option Addr) (c : Nat) (w : World) (hl : f.data.length ≤ 9223372036854775807) (hf : FrN f) (hr : Rd w A (bys f.data)) :
    Calls Try.prog 14 #[frv f (.slice A f.data.length c)] w fun e w' => e = .returned (.bool true) ∧ Below w.heap.size w w' := by
  by_cases hm : f.kind = 2 ∧ okF f = true
  · exact fdEnds_main f A c w hl hf hr hm.1 hm.2
  · exact fdEnds_no f A c w hl hm
end Go.Proofs.Ytaknddanggdplaa
