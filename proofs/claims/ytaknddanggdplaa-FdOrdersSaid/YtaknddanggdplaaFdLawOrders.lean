/- Of two frames such as an FD frame with other identifiers the lower one is dominant where they first differ, within what arbitrates: the law FdOrders answers true. No condition. -/
import Derived.Test.YtaknddanggdplaaFdMine
namespace Go.Proofs.Ytaknddanggdplaa
open Go.RowKit
set_option maxRecDepth 100000 in
set_option maxHeartbeats 2000000 in
theorem fdOrders_triv (f : Fr) (id : Int) (A : Option Addr) (c : Nat) (w : World) (hf : f.data.length ≤ 9223372036854775807) (h : ¬ ((f.kind = 2 ∧ okF f = true) ∧ okF (withId f id) = true ∧ f.id ≠ id ∧ f.data.length ≤ 300)) :
    Calls Try.prog 7 #[frv f (.slice A f.data.length c), .int .u32 id] w fun e w' => e = .returned (.bool true) ∧ Below w.heap.size w w' := by
  have HM := Lib.hid (fun W => mine07_any f A c W hf)
  have HM2 := Lib.hid (fun W => mine07_any (withId f id) A c W hf)
  obtain ⟨b1, hb1⟩ : ∃ b, (decide (f.kind = 2) && okF f) = b := ⟨_, rfl⟩
  obtain ⟨b2, hb2⟩ : ∃ b, (decide ((withId f id).kind = 2) && okF (withId f id)) = b := ⟨_, rfl⟩
  have hcase : b1 = false ∨ (b1 = true ∧ b2 = false) ∨ (b1 = true ∧ b2 = true ∧ f.id = id) ∨ (b1 = true ∧ b2 = true ∧ f.id ≠ id ∧ 300 < f.data.length) := by
    cases b1
    · exact .inl rfl
    · cases b2
      · exact .inr (.inl ⟨rfl, rfl⟩)
      · simp only [Bool.and_eq_true, decide_eq_true_eq] at hb1 hb2
        by_cases hne : f.id = id
        · exact .inr (.inr (.inl ⟨rfl, rfl, hne⟩))
        · exact .inr (.inr (.inr ⟨rfl, rfl, hne, by
            refine Classical.byContradiction fun h3 => h ⟨hb1, hb2.2, hne, by omega⟩⟩))
  rw [hb1] at HM
  rw [hb2] at HM2
  obtain ⟨kind, idf, ext, rtr, brs, esi, sec, sdt, vcid, af, data⟩ := f
  dsimp only [frv, withId] at *
  generalize data.length = n at *
  clear hb1 hb2 h
  rcases hcase with rfl | ⟨rfl, rfl⟩ | ⟨rfl, rfl, rfl⟩ | ⟨rfl, rfl, hne, h3⟩
  · go_enter Try.func7, Try.ntmps7
    go_wp2_with fail
    refine calls_blk1 (fun W0 q1 hb => ?_)
    have HB := Lib.hid hb
    obtain ⟨a0, a1, a2, a3, a4, a5, a6, a7, a8, a9, a10⟩ := ext11 q1
    have hsz := ext_lt q1
    clear hb q1
    refine (extc_same (alive07 _)).mono ?_
    rintro x _ ⟨e1, rfl, rfl⟩
    go_wp2_with fail
    obtain ⟨gg, hgg⟩ : ∃ gg, e1.W.heap.size = gg := ⟨_, rfl⟩
    rw [hgg]
    refine calls_name (T := fun W1 => W1.heap[gg]? = some (.cells #[.int .i64 kind, .int .u32 id, .bool ext, .bool rtr, .bool brs, .bool esi, .bool sec, .int .u8 sdt, .int .u8 vcid, .int .u32 af, .slice A n c] 25) ∧ Below W0.heap.size W0 W1) ⟨heap_new_at hgg.symm, below_alloc e1.below _⟩ ?_
    rintro W1 ⟨q2, hb1⟩
    obtain ⟨b0, b1, b2, b3, b4, b5, b6, b7, b8, b9, b10⟩ := ext11 q2
    replace a0 := liftE hb1 a0
    replace a1 := liftE hb1 a1
    replace a2 := liftE hb1 a2
    replace a3 := liftE hb1 a3
    replace a4 := liftE hb1 a4
    replace a5 := liftE hb1 a5
    replace a6 := liftE hb1 a6
    replace a7 := liftE hb1 a7
    replace a8 := liftE hb1 a8
    replace a9 := liftE hb1 a9
    replace a10 := liftE hb1 a10
    have hsz2 := ext_lt q2
    have hsz1 : ∀ e : Ext W1, w.heap.size < e.W.heap.size := fun e => hsz ⟨e.W, below_trans hb1 e.below⟩
    have HB1 := Lib.hid hb1
    clear hsz hb1 q2 hgg
    refine (extc_same (HM.out _)).mono ?_
    rintro x _ ⟨e2, rfl, rfl⟩
    go_wp2_with fail
    go_ret
    exact ⟨rfl, below_trans HB.out (below_trans HB1.out e2.below)⟩
  · go_enter Try.func7, Try.ntmps7
    go_wp2_with fail
    refine calls_blk1 (fun W0 q1 hb => ?_)
    have HB := Lib.hid hb
    obtain ⟨a0, a1, a2, a3, a4, a5, a6, a7, a8, a9, a10⟩ := ext11 q1
    have hsz := ext_lt q1
    clear hb q1
    refine (extc_same (alive07 _)).mono ?_
    rintro x _ ⟨e1, rfl, rfl⟩
    go_wp2_with fail
    obtain ⟨gg, hgg⟩ : ∃ gg, e1.W.heap.size = gg := ⟨_, rfl⟩
    rw [hgg]
    refine calls_name (T := fun W1 => W1.heap[gg]? = some (.cells #[.int .i64 kind, .int .u32 id, .bool ext, .bool rtr, .bool brs, .bool esi, .bool sec, .int .u8 sdt, .int .u8 vcid, .int .u32 af, .slice A n c] 25) ∧ Below W0.heap.size W0 W1) ⟨heap_new_at hgg.symm, below_alloc e1.below _⟩ ?_
    rintro W1 ⟨q2, hb1⟩
    obtain ⟨b0, b1, b2, b3, b4, b5, b6, b7, b8, b9, b10⟩ := ext11 q2
    replace a0 := liftE hb1 a0
    replace a1 := liftE hb1 a1
    replace a2 := liftE hb1 a2
    replace a3 := liftE hb1 a3
    replace a4 := liftE hb1 a4
    replace a5 := liftE hb1 a5
    replace a6 := liftE hb1 a6
    replace a7 := liftE hb1 a7
    replace a8 := liftE hb1 a8
    replace a9 := liftE hb1 a9
    replace a10 := liftE hb1 a10
    have hsz2 := ext_lt q2
    have hsz1 : ∀ e : Ext W1, w.heap.size < e.W.heap.size := fun e => hsz ⟨e.W, below_trans hb1 e.below⟩
    have HB1 := Lib.hid hb1
    clear hsz hb1 q2 hgg
    refine (extc_same (HM.out _)).mono ?_
    rintro x _ ⟨e2, rfl, rfl⟩
    go_wp2_with fail
    refine (extc (HM2.out _)).mono ?_
    rintro x _ ⟨e3, rfl, rfl⟩
    go_wp2_with fail
    go_ret
    exact ⟨rfl, below_trans HB.out (below_trans HB1.out e3.below)⟩
  · go_enter Try.func7, Try.ntmps7
    go_wp2_with fail
    refine calls_blk1 (fun W0 q1 hb => ?_)
    have HB := Lib.hid hb
    obtain ⟨a0, a1, a2, a3, a4, a5, a6, a7, a8, a9, a10⟩ := ext11 q1
    have hsz := ext_lt q1
    clear hb q1
    refine (extc_same (alive07 _)).mono ?_
    rintro x _ ⟨e1, rfl, rfl⟩
    go_wp2_with fail
    obtain ⟨gg, hgg⟩ : ∃ gg, e1.W.heap.size = gg := ⟨_, rfl⟩
    rw [hgg]
    refine calls_name (T := fun W1 => W1.heap[gg]? = some (.cells #[.int .i64 kind, .int .u32 idf, .bool ext, .bool rtr, .bool brs, .bool esi, .bool sec, .int .u8 sdt, .int .u8 vcid, .int .u32 af, .slice A n c] 25) ∧ Below W0.heap.size W0 W1) ⟨heap_new_at hgg.symm, below_alloc e1.below _⟩ ?_
    rintro W1 ⟨q2, hb1⟩
    obtain ⟨b0, b1, b2, b3, b4, b5, b6, b7, b8, b9, b10⟩ := ext11 q2
    replace a0 := liftE hb1 a0
    replace a1 := liftE hb1 a1
    replace a2 := liftE hb1 a2
    replace a3 := liftE hb1 a3
    replace a4 := liftE hb1 a4
    replace a5 := liftE hb1 a5
    replace a6 := liftE hb1 a6
    replace a7 := liftE hb1 a7
    replace a8 := liftE hb1 a8
    replace a9 := liftE hb1 a9
    replace a10 := liftE hb1 a10
    have hsz2 := ext_lt q2
    have hsz1 : ∀ e : Ext W1, w.heap.size < e.W.heap.size := fun e => hsz ⟨e.W, below_trans hb1 e.below⟩
    have HB1 := Lib.hid hb1
    clear hsz hb1 q2 hgg
    refine (extc_same (HM.out _)).mono ?_
    rintro x _ ⟨e2, rfl, rfl⟩
    go_wp2_with fail
    refine (extc (HM2.out _)).mono ?_
    rintro x _ ⟨e3, rfl, rfl⟩
    go_wp2_with fail
    go_ret
    exact ⟨rfl, below_trans HB.out (below_trans HB1.out e3.below)⟩
  · have hidb : ((idf : Int) == id) = false := by rw [beq_eq_false_iff_ne]; exact hne
    have hn300 : (300 : Int) < (n : Int) := by omega
    clear hne
    go_enter Try.func7, Try.ntmps7
    go_wp2_with fail
    refine calls_blk1 (fun W0 q1 hb => ?_)
    have HB := Lib.hid hb
    obtain ⟨a0, a1, a2, a3, a4, a5, a6, a7, a8, a9, a10⟩ := ext11 q1
    have hsz := ext_lt q1
    clear hb q1
    refine (extc_same (alive07 _)).mono ?_
    rintro x _ ⟨e1, rfl, rfl⟩
    go_wp2_with fail
    obtain ⟨gg, hgg⟩ : ∃ gg, e1.W.heap.size = gg := ⟨_, rfl⟩
    rw [hgg]
    refine calls_name (T := fun W1 => W1.heap[gg]? = some (.cells #[.int .i64 kind, .int .u32 id, .bool ext, .bool rtr, .bool brs, .bool esi, .bool sec, .int .u8 sdt, .int .u8 vcid, .int .u32 af, .slice A n c] 25) ∧ Below W0.heap.size W0 W1) ⟨heap_new_at hgg.symm, below_alloc e1.below _⟩ ?_
    rintro W1 ⟨q2, hb1⟩
    obtain ⟨b0, b1, b2, b3, b4, b5, b6, b7, b8, b9, b10⟩ := ext11 q2
    replace a0 := liftE hb1 a0
    replace a1 := liftE hb1 a1
    replace a2 := liftE hb1 a2
    replace a3 := liftE hb1 a3
    replace a4 := liftE hb1 a4
    replace a5 := liftE hb1 a5
    replace a6 := liftE hb1 a6
    replace a7 := liftE hb1 a7
    replace a8 := liftE hb1 a8
    replace a9 := liftE hb1 a9
    replace a10 := liftE hb1 a10
    have hsz2 := ext_lt q2
    have hsz1 : ∀ e : Ext W1, w.heap.size < e.W.heap.size := fun e => hsz ⟨e.W, below_trans hb1 e.below⟩
    have HB1 := Lib.hid hb1
    clear hsz hb1 q2 hgg
    refine (extc_same (HM.out _)).mono ?_
    rintro x _ ⟨e2, rfl, rfl⟩
    go_wp2_with fail
    refine (extc (HM2.out _)).mono ?_
    rintro x _ ⟨e3, rfl, rfl⟩
    go_wp2_with fail
    go_ret
    exact ⟨rfl, below_trans HB.out (below_trans HB1.out e3.below)⟩
set_option maxRecDepth 100000 in
set_option maxHeartbeats 4000000 in
theorem fdOrders_main (f : Fr) (id : Int) (A : Option Addr) (c : Nat) (w : World) (hn3 : f.data.length ≤ 300) (hfn : FrN f) (h1 : 0 ≤ id) (hr : Rd w A (bys f.data)) (hk : f.kind = 2) (hok : okF f = true) (hok2 : okF (withId f id) = true) (hne : f.id ≠ id) :
    Calls Try.prog 7 #[frv f (.slice A f.data.length c), .int .u32 id] w fun e w' => e = .returned (.bool true) ∧ Below w.heap.size w w' := by
  have hgn : FrN (withId f id) := ⟨h1, hfn.sdt, hfn.vcid, hfn.af, hfn.data⟩
  have hl8 := hn3
  have HM := Lib.hid (fun W => mine07_any f A c W (by omega))
  have HM2 := Lib.hid (fun W => mine07_any (withId f id) A c W (by show f.data.length ≤ _; omega))
  rw [mine07_true hk hok] at HM
  rw [mine07_true (show (withId f id).kind = 2 from hk) hok2] at HM2
  obtain ⟨NR, hNR⟩ : ∃ NR, (rawD f).length = NR := ⟨_, rfl⟩
  obtain ⟨NH, hNH⟩ : ∃ NH, (stuffN (headD f)).length = NH := ⟨_, rfl⟩
  obtain ⟨MR, hMR⟩ : ∃ MR, (rawD (withId f id)).length = MR := ⟨_, rfl⟩
  obtain ⟨MH, hMH⟩ : ∃ MH, (stuffN (headD (withId f id))).length = MH := ⟨_, rfl⟩
  obtain ⟨hb1, hNR2, -⟩ := fd_bound f hk hok
  obtain ⟨hb2, hMR2, -⟩ := fd_bound (withId f id) hk hok2
  rw [hNR, hNH] at hb1
  rw [hNR] at hNR2
  rw [hMR, hMH] at hb2
  rw [hMR] at hMR2
  have HW := Lib.hid (fun W (hW : Rd W A (bys f.data)) => FdWire_okN f A c NR NH W hk hok hfn hW hNR hNH)
  have HW2 := Lib.hid (fun W (hW : Rd W A (bys f.data)) => FdWire_okN (withId f id) A c MR MH W hk hok2 hgn hW hMR hMH)
  obtain ⟨j, hj1, hj2, hj3, x, y, hx, hy, hxy, hdir⟩ := fdOrders_plain f (withId f id) hk hk hok hok2 hfn.id0 h1 hne
  have hl1 : (wireD f).length = NR + 10 := by unfold wireD; rw [List.length_append, hNR]; simp
  have hl2 : (wireD (withId f id)).length = MR + 10 := by unfold wireD; rw [List.length_append, hMR]; simp
  have hjl1 : j < NR + 10 := by rw [← hl1]; exact (List.getElem?_eq_some_iff.1 hx).1
  have hjl2 : j < MR + 10 := by rw [← hl2]; exact (List.getElem?_eq_some_iff.1 hy).1
  rw [hNH] at hj1
  rw [hMH] at hj2
  have hdir2 : (x = 0 ↔ f.id < id) := hdir
  have HR := Lib.hid hr
  obtain ⟨wi, hwi⟩ : ∃ wi, wireD f = wi := ⟨_, rfl⟩
  obtain ⟨wj, hwj⟩ : ∃ wj, wireD (withId f id) = wj := ⟨_, rfl⟩
  rw [hwi] at HW hj3 hx hl1
  rw [hwj] at HW2 hj3 hy hl2
  obtain ⟨kind, idf, ext, rtr, brs, esi, sec, sdt, vcid, af, data⟩ := f
  dsimp only [frv, withId] at *
  generalize data.length = n at *
  have hidb : ((idf : Int) == id) = false := by rw [beq_eq_false_iff_ne]; exact hne
  have hn300 : ¬ (300 : Int) < (n : Int) := by omega
  have HJ3 := Lib.hid hj3
  have HX := Lib.hid hx
  have HY := Lib.hid hy
  have HXY := Lib.hid hxy
  have HDIR := Lib.hid hdir2
  have HL1 := Lib.hid hl1
  have HL2 := Lib.hid hl2
  obtain ⟨nw, hnw⟩ : ∃ nw, NR + 10 = nw := ⟨_, rfl⟩
  obtain ⟨mw, hmw⟩ : ∃ mw, MR + 10 = mw := ⟨_, rfl⟩
  rw [hnw] at HW HL1 hjl1
  rw [hmw] at HW2 HL2 hjl2
  have hnw2 : nw ≤ 40010 ∧ NH ≤ nw := by omega
  have hmw2 : mw ≤ 40010 ∧ MH ≤ mw := by omega
  clear hr hNR hNH hMR hMH hok hok2 hk h1 hfn hgn hn3 hwi hwj hdir hdir2 hne hj3 hx hy hxy hl1 hl2 hnw hmw hb1 hb2 hl8 hNR2 hMR2
  go_enter Try.func7, Try.ntmps7
  go_wp2_with fail
  refine calls_blk1 (fun W0 q1 hb => ?_)
  have HB := Lib.hid hb
  obtain ⟨a0, a1, a2, a3, a4, a5, a6, a7, a8, a9, a10⟩ := ext11 q1
  have hsz := ext_lt q1
  clear hb q1
  refine (extc_same (alive07 _)).mono ?_
  rintro x _ ⟨e1, rfl, rfl⟩
  go_wp2_with fail
  obtain ⟨gg, hgg⟩ : ∃ gg, e1.W.heap.size = gg := ⟨_, rfl⟩
  rw [hgg]
  refine calls_name (T := fun W1 => W1.heap[gg]? = some (.cells #[.int .i64 kind, .int .u32 id, .bool ext, .bool rtr, .bool brs, .bool esi, .bool sec, .int .u8 sdt, .int .u8 vcid, .int .u32 af, .slice A n c] 25) ∧ Below W0.heap.size W0 W1) ⟨heap_new_at hgg.symm, below_alloc e1.below _⟩ ?_
  rintro W1 ⟨q2, hb1⟩
  obtain ⟨b0, b1, b2, b3, b4, b5, b6, b7, b8, b9, b10⟩ := ext11 q2
  replace a0 := liftE hb1 a0
  replace a1 := liftE hb1 a1
  replace a2 := liftE hb1 a2
  replace a3 := liftE hb1 a3
  replace a4 := liftE hb1 a4
  replace a5 := liftE hb1 a5
  replace a6 := liftE hb1 a6
  replace a7 := liftE hb1 a7
  replace a8 := liftE hb1 a8
  replace a9 := liftE hb1 a9
  replace a10 := liftE hb1 a10
  have hsz2 := ext_lt q2
  have hsz1 : ∀ e : Ext W1, w.heap.size < e.W.heap.size := fun e => hsz ⟨e.W, below_trans hb1 e.below⟩
  have HB1 := Lib.hid hb1
  clear hsz hb1 q2 hgg
  refine (extc_same (HM.out _)).mono ?_
  rintro x _ ⟨e2, rfl, rfl⟩
  go_wp2_with fail
  refine (extc (HM2.out _)).mono ?_
  rintro x _ ⟨e3, rfl, rfl⟩
  go_wp2_with fail
  have hrd1 : ∀ e : Ext W1, Rd e.W A (bys data) := fun e => ((HR.out.below HB.out).below HB1.out).ext e
  have HRD := Lib.hid hrd1
  clear hrd1
  refine (extc (HW.out _ (HRD.out e3))).mono ?_
  rintro x _ ⟨e4, rfl, A4, c4, rfl, hrow4⟩
  obtain ⟨ga, rfl, hga, hca1, hca2⟩ := row_some (n := nw) hrow4 (by rw [HL1.out]) (by omega)
  have HROW4 := Lib.hid hrow4
  clear hrow4
  go_wp2_with fail
  obtain ⟨p, hp⟩ : ∃ p, e4.W.heap.size = p := ⟨_, rfl⟩
  rw [hp]
  refine calls_name (T := fun W2 => W2.heap[p]? = some (.cells #[.slice (some ⟨ga, 0, none⟩) nw c4, .int .i64 NH, .int .i64 ((NR : Int) + 1)] 29) ∧ Below e4.W.heap.size e4.W W2) ⟨heap_new_at hp.symm, below_alloc (Below.refl _ _) _⟩ ?_
  rintro W2 ⟨r2, hb2⟩
  have hw12 : Below W1.heap.size W1 W2 := below_trans e4.below hb2
  refine (HW2.out W2 (HRD.out ⟨W2, hw12⟩)).mono ?_
  rintro x w5 ⟨⟨A5, c5, rfl, hrow5⟩, hb5⟩
  obtain ⟨gc, rfl, hgc, hcb1, hcb2⟩ := row_some (n := mw) hrow5 (by rw [HL2.out]) (by omega)
  have HROW5 := Lib.hid hrow5
  have HR2 := Lib.hid (heap_below hb5 r2)
  have HB45 := Lib.hid (below_trans hb2 hb5)
  have HB15 := Lib.hid (below_trans hw12 hb5)
  have HP := Lib.hid hp
  have b0' := cell_of_heap (heap_below hb5 r2) 0 _ rfl
  have b1' : w5.cell? ⟨p, 1, none⟩ = some (.int .i64 NH) := cell_of_heap (heap_below hb5 r2) 1 _ rfl
  have hpw : p < w5.heap.size := heap_lt (heap_below hb5 r2)
  have fa := a1 ⟨w5, HB15.out⟩
  have fb := b1 ⟨w5, HB15.out⟩
  dsimp only at fa fb
  have hs1 := hsz1 ⟨w5, HB15.out⟩
  have hs2 := hsz2 ⟨w5, HB15.out⟩
  dsimp only at hs1 hs2
  have HFA := Lib.hid fa
  have HFB := Lib.hid fb
  have hmin : (NH : Int) ≤ (MH : Int) ∨ (MH : Int) < (NH : Int) := by omega
  obtain ⟨p2, hp2⟩ : ∃ p2, w5.heap.size = p2 := ⟨_, rfl⟩
  have HP2 := Lib.hid hp2
  have hpp2 : p < p2 := by omega
  have hpn2 : ¬ p = p2 := by omega
  have hbox2 : (w5.alloc (.cells #[.slice (some ⟨gc, 0, none⟩) mw c5, .int .i64 MH, .int .i64 ((MR : Int) + 1)] 29)).heap[p2]? = some (.cells #[.slice (some ⟨gc, 0, none⟩) mw c5, .int .i64 MH, .int .i64 ((MR : Int) + 1)] 29) := heap_new_at hp2.symm
  have HBOX2 := Lib.hid hbox2
  clear hrow5 hb5 hb2 r2 hw12 hp hbox2 a0 a1 a2 a3 a4 a5 a6 a7 a8 a9 a10 b0 b1 b2 b3 b4 b5 b6 b7 b8 b9 b10 hsz1 hsz2 fa fb hn300 hidb HM HM2 HW HW2
  obtain ⟨MN, hMN1, hMN2⟩ : ∃ MN : Nat, j < MN ∧ MN = min NH MH := ⟨_, by omega, rfl⟩
  rcases hmin with hmin | hmin
  all_goals
    go_wp2_with fail
    go_loopw [58] (fun iv wr => ∃ k : Nat, k ≤ j ∧ iv = .int .i64 k ∧ Hid (wr.heap[p]? = some (.cells #[.slice (some ⟨ga, 0, none⟩) nw c4, .int .i64 NH, .int .i64 ((NR : Int) + 1)] 29)) ∧ Hid (wr.heap[p2]? = some (.cells #[.slice (some ⟨gc, 0, none⟩) mw c5, .int .i64 MH, .int .i64 ((MR : Int) + 1)] 29)) ∧ Hid (Below w5.heap.size w5 wr)) (fun iv _ => j + 1 - (intOf iv).toNat)
    case atStart => exact ⟨0, by omega, rfl, heap_push HR2.out, by rw [← HP2.out] at HBOX2 ⊢; exact HBOX2, below_alloc (Below.refl _ _) _⟩
    case round =>
      obtain ⟨k, hk, rfl, HX1, HX2, HBW⟩ := hrel
      have c0 := cell_of_heap HX1.out 0 _ rfl
      have d0 := cell_of_heap HX2.out 0 _ rfl
      have hbw1 : Below e4.W.heap.size e4.W wr := below_trans HB45.out HBW.out
      have f1 := Below.cell_of HBW.out HFA.out
      have g1 := Below.cell_of HBW.out HFB.out
      have hknw : (k : Int) < (nw : Int) := by omega
      have hkmw : (k : Int) < (mw : Int) := by omega
      have hkNH : (k : Int) < (NH : Int) := by omega
      have hkMH : (k : Int) < (MH : Int) := by omega
      by_cases hkj : k < j
      · obtain ⟨v, hv⟩ : ∃ v, wi[k]? = some v := ⟨_, List.getElem?_eq_getElem (by rw [HL1.out]; omega)⟩
        have x1 := row_at HROW4.out hbw1 k v hv
        have y1 := row_at HROW5.out HBW.out k v (by rw [← HJ3.out k hkj]; exact hv)
        clear hv hbw1
        go_wp2_with fail
        go_quiet (fail)
        go_wp2_with fail
        go_roundw
        case rel => exact ⟨k + 1, by omega, by go_num, HX1, HX2, below_drewN HBW.out _⟩
        case measure => simp [intOf]; omega
      · obtain rfl : j = k := by omega
        have x1 := row_at HROW4.out hbw1 j x HX.out
        have y1 := row_at HROW5.out HBW.out j y HY.out
        have hxy : ((x : Int) != (y : Int)) = true := by rw [bne_iff_ne]; have := HXY.out; omega
        have hdir : (((x : Int) == 0) == decide (idf < id)) = true := by
          have h := HDIR.out
          rw [beq_iff_eq]
          by_cases hx0 : x = 0
          · rw [decide_eq_true (h.1 hx0), hx0]; rfl
          · rw [decide_eq_false (fun hlt => hx0 (h.2 hlt)), beq_eq_false_iff_ne]; omega
        have HD := Lib.hid hdir
        clear hbw1 hdir
        go_wp2_with fail
        go_quiet (fail)
        go_wp2_with fail
        go_quiet (fail)
        go_wp2_with fail
        go_ret
        exact ⟨ret_bool HD.out, below_trans HB.out (below_trans HB1.out (below_trans HB15.out (below_drewN (below_drewN HBW.out _) _)))⟩
theorem fdOrders_walk (f : Fr) (id : Int) (A : Option Addr) (c : Nat) (w : World) (hl : f.data.length ≤ 9223372036854775807) (hf : FrN f) (h1 : 0 ≤ id) (hr : Rd w A (bys f.data)) :
    Calls Try.prog 7 #[frv f (.slice A f.data.length c), .int .u32 id] w fun e w' => e = .returned (.bool true) ∧ Below w.heap.size w w' := by
  by_cases h : ((f.kind = 2 ∧ okF f = true) ∧ okF (withId f id) = true ∧ f.id ≠ id ∧ f.data.length ≤ 300)
  · exact fdOrders_main f id A c w h.2.2.2 hf h1 hr h.1.1 h.1.2 h.2.1 h.2.2.1
  · exact fdOrders_triv f id A c w hl h
end Go.Proofs.Ytaknddanggdplaa
