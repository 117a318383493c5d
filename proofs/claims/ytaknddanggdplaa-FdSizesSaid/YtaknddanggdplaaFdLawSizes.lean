/- On the wire an FD frame has no more bits than Most tells, and fewer ahead of all stuffing: the law FdSizes answers true. No condition. -/
import Derived.Test.YtaknddanggdplaaFdMine
import Derived.Test.YtaknddanggdplaaFdMost
namespace Go.Proofs.Ytaknddanggdplaa
open Go.RowKit
set_option maxRecDepth 100000 in
set_option maxHeartbeats 2000000 in
theorem fdSizes_walk (f : Fr) (A : Option Addr) (c : Nat) (w : World) (hf : f.data.length ≤ 9223372036854775807) (hfn : FrN f) (hr : Rd w A (bys f.data)) :
    Calls Try.prog 12 #[frv f (.slice A f.data.length c)] w fun e w' => e = .returned (.bool true) ∧ Below w.heap.size w w' := by
  have HM := Lib.hid (fun W => mine07_any f A c W hf)
  by_cases hm : f.kind = 2 ∧ okF f = true
  · obtain ⟨hk, hok⟩ := hm
    obtain ⟨NR, hNR⟩ : ∃ NR, (rawD f).length = NR := ⟨_, rfl⟩
    obtain ⟨NH, hNH⟩ : ∃ NH, (stuffN (headD f)).length = NH := ⟨_, rfl⟩
    obtain ⟨-, hNR2, -⟩ := fd_bound f hk hok
    obtain ⟨NB, hNB⟩ : ∃ NB, (bodyD f).length = NB := ⟨_, rfl⟩
    obtain ⟨mo, hMo1, hMo2, hMo3⟩ := fdMost_ok f hk hok
    rw [hNR] at hMo2 hMo3 hNR2
    rw [hNB] at hMo3
    have HW := Lib.hid (fun W (hW : Rd W A (bys f.data)) => FdWire_okN f A c NR NH W hk hok hfn hW hNR hNH)
    have HBd := Lib.hid (fun W (hW : Rd W A (bys f.data)) => FdBody_okN f A c NB W hk hok hfn hW hNB)
    have HMo := Lib.hid hMo1
    rw [mine07_true hk hok] at HM
    have HR := Lib.hid hr
    generalize wireD f = wi at *
    generalize bodyD f = bo at *
    obtain ⟨kind, id, ext, rtr, brs, esi, sec, sdt, vcid, af, data⟩ := f
    dsimp only [frv] at *
    generalize data.length = n at *
    clear hr hNR hNH hNB hok hk hfn hMo1
    have hfin : ((NR + 10 : Nat) : Int) ≤ (mo : Int) := by omega
    have hfin2 : ((NB : Int) < ((NR + 10 : Nat) : Int)) := by omega
    obtain ⟨nw, hnw⟩ : ∃ nw, NR + 10 = nw := ⟨_, rfl⟩
    rw [hnw] at hfin hfin2 HW
    clear hnw hMo2 hMo3
    go_enter Try.func12, Try.ntmps12
    go_wp2_with fail
    refine calls_blk1 (fun W0 q1 hb => ?_)
    have HB := Lib.hid hb
    obtain ⟨a0, a1, a2, a3, a4, a5, a6, a7, a8, a9, a10⟩ := ext11 q1
    have hsz := ext_lt q1
    clear hb q1
    refine (extc_same (alive07 _)).mono ?_
    rintro x _ ⟨e1, rfl, rfl⟩
    go_wp2_with fail
    refine (extc (HM.out _)).mono ?_
    rintro x _ ⟨e2, rfl, rfl⟩
    go_wp2_with fail
    refine (extc (HW.out _ ((HR.out.below HB.out).ext e2))).mono ?_
    rintro x _ ⟨e3, rfl, A3, c3, rfl, -⟩
    go_wp2_with fail
    obtain ⟨gb, hgb⟩ : ∃ gb, e3.W.heap.size = gb := ⟨_, rfl⟩
    have hbox : (e3.W.alloc (.cells #[.slice A3 nw c3, .int .i64 NH, .int .i64 (NR + 1 : Nat)] 29)).heap[gb]? = some (.cells #[.slice A3 nw c3, .int .i64 NH, .int .i64 (NR + 1 : Nat)] 29) := heap_new_at hgb.symm
    have hbel : Below W0.heap.size W0 (e3.W.alloc (.cells #[.slice A3 nw c3, .int .i64 NH, .int .i64 (NR + 1 : Nat)] 29)) := below_alloc e3.below _
    have HBOX := Lib.hid hbox
    have HBEL := Lib.hid hbel
    clear hbox hbel
    refine (HBd.out _ ((HR.out.below HB.out).below HBEL.out)).mono ?_
    rintro x w4 ⟨⟨A4, c4, rfl, -⟩, hb4⟩
    have b0 := cell_of_heap (heap_below hb4 HBOX.out) 0 _ rfl
    have hb5 : Below W0.heap.size W0 w4 := below_trans HBEL.out hb4
    have d10 := a10 ⟨w4, hb5⟩
    have HB5 := Lib.hid hb5
    dsimp only at d10
    rw [hgb]
    clear hb4 hb5 a0 a1 a2 a3 a4 a5 a6 a7 a8 a9 a10
    go_wp2_with fail
    refine (HMo.out _).mono ?_
    rintro x w6 ⟨rfl, hb6⟩
    have b06 := Below.cell_of hb6 b0
    have HB6 := Lib.hid hb6
    clear hb6 b0 d10
    go_wp2_with fail
    go_ret
    exact ⟨by first | rfl | simp, below_trans HB.out (below_trans HB5.out HB6.out)⟩
  · have hd := mine07_false hm
    rw [hd] at HM
    obtain ⟨kind, id, ext, rtr, brs, esi, sec, sdt, vcid, af, data⟩ := f
    dsimp only [frv] at *
    generalize data.length = n at *
    clear hm hd
    go_enter Try.func12, Try.ntmps12
    go_wp2_with fail
    refine calls_blk1 (fun W0 q1 hb => ?_)
    have HB := Lib.hid hb
    obtain ⟨a0, a1, a2, a3, a4, a5, a6, a7, a8, a9, a10⟩ := ext11 q1
    clear hb q1
    refine (extc_same (alive07 _)).mono ?_
    rintro x _ ⟨e1, rfl, rfl⟩
    go_wp2_with fail
    refine (extc (HM.out _)).mono ?_
    rintro x _ ⟨e2, rfl, rfl⟩
    go_wp2_with fail
    go_ret
    exact ⟨rfl, ext_end HB.out⟩
end Go.Proofs.Ytaknddanggdplaa
