/- Of two Classic frames with other identifiers the lower one is dominant where they first differ, within what arbitrates: the law ClassicOrders answers true. No condition. -/
import Derived.Test.YtbjeblffmgghgaaPClassic
namespace Go.Proofs.Ytbjeblffmgghgaa
open Go.RowKit
/-- A frame with another identifier. -/
def withId (f : Fr) (id : Int) : Fr := { f with id := id }
theorem row_at {w W : World} {base c ga : Nat} {l : List Nat} (hrow : Row w base 5 (some ⟨ga, 0, none⟩) c (bys l)) (hW : Below w.heap.size w W) (k v : Nat) (h : l[k]? = some v) : W.cell? ⟨ga, k, none⟩ = some (.int .u8 (v : Int)) := by
  have hk : k < l.length := (List.getElem?_eq_some_iff.1 h).1
  obtain ⟨ad, e, hc⟩ := hrow.rd k (.int .u8 (v : Int)) (by rw [bys_get l k hk, (List.getElem?_eq_some_iff.1 h).2])
  injection e with e
  subst e
  refine Below.cell_of hW ?_
  rw [← hc]
  unfold Addr.add
  by_cases hk0 : k = 0 <;> simp [hk0]
theorem row_some {w : World} {base c n : Nat} {A : Option Addr} {l : List Nat} (hrow : Row w base 5 A c (bys l)) (hl : l.length = n) (hn : 0 < n) : ∃ ga, A = some ⟨ga, 0, none⟩ ∧ ga < w.heap.size ∧ n ≤ c ∧ c ≤ 9223372036854775807 := by
  obtain ⟨ga, hA⟩ := hrow.form
  rcases hA with rfl | h
  · have h0 := row_at (W := w) hrow (Below.refl _ _) 0 (l[0]'(by omega)) (by simp)
    have hcap := hrow.cap
    rw [bys_length, hl] at hcap
    exact ⟨ga, rfl, cell_lt h0, hcap, hrow.capm⟩
  · rw [bys_length] at h; omega
theorem calls_name {P : Program} {f : FuncId} {args : Array Value} {W : World} {R : Ending → World → Prop} {T : World → Prop} (hT : T W) (h : ∀ W0, T W0 → Calls P f args W0 R) : Calls P f args W R := h W hT
set_option maxRecDepth 100000 in
set_option maxHeartbeats 2000000 in
theorem orders_triv (f : Fr) (id : Int) (A : Option Addr) (c : Nat) (w : World) (hf : f.data.length ≤ 9223372036854775807) (h : ¬ ((f.kind = 1 ∧ okF f = true) ∧ okF (withId f id) = true ∧ f.id ≠ id)) :
    Calls Try.prog 10 #[frv f (.slice A f.data.length c), .int .u32 id] w fun e w' => e = .returned (.bool true) ∧ Below w.heap.size w w' := by
  have HM := Lib.hid (fun W => mine_any f A c W hf)
  have HM2 := Lib.hid (fun W => mine_any (withId f id) A c W hf)
  obtain ⟨b1, hb1⟩ : ∃ b, (decide (f.kind = 1) && okF f) = b := ⟨_, rfl⟩
  obtain ⟨b2, hb2⟩ : ∃ b, (decide ((withId f id).kind = 1) && okF (withId f id)) = b := ⟨_, rfl⟩
  have hcase : b1 = false ∨ (b1 = true ∧ b2 = false) ∨ (b1 = true ∧ b2 = true ∧ f.id = id) := by
    cases b1
    · exact .inl rfl
    · cases b2
      · exact .inr (.inl ⟨rfl, rfl⟩)
      · refine .inr (.inr ⟨rfl, rfl, ?_⟩)
        simp only [Bool.and_eq_true, decide_eq_true_eq] at hb1 hb2
        exact Classical.byContradiction fun hne => h ⟨hb1, hb2.2, hne⟩
  rw [hb1] at HM
  rw [hb2] at HM2
  obtain ⟨kind, idf, ext, rtr, brs, esi, sec, sdt, vcid, af, data⟩ := f
  dsimp only [frv, withId] at *
  generalize data.length = n at *
  clear hb1 hb2 h
  rcases hcase with rfl | ⟨rfl, rfl⟩ | ⟨rfl, rfl, rfl⟩
  · go_enter Try.func10, Try.ntmps10
    go_wp2_with fail
    refine calls_blk1 (fun W0 q1 hb => ?_)
    have HB := Lib.hid hb
    obtain ⟨a0, a1, a2, a3, a4, a5, a6, a7, a8, a9, a10⟩ := ext11 q1
    have hsz := ext_lt q1
    clear hb q1
    refine (extc_same (alive06 _)).mono ?_
    rintro x _ ⟨e1, rfl, rfl⟩
    go_wp2_with fail
    obtain ⟨gg, hgg⟩ : ∃ gg, e1.W.heap.size = gg := ⟨_, rfl⟩
    rw [hgg]
    refine calls_name (T := fun W1 => W1.heap[gg]? = some (.cells #[.int .i64 kind, .int .u32 id, .bool ext, .bool rtr, .bool brs, .bool esi, .bool sec, .int .u8 sdt, .int .u8 vcid, .int .u32 af, .slice A n c] 25) ∧ Below W0.heap.size W0 W1) ⟨heap_new_at hgg.symm, below_alloc e1.below _⟩ ?_
    rintro W1 ⟨q2, hb1⟩
    obtain ⟨b0, b1, b2, b3, b4, b5, b6, b7, b8, b9, b10⟩ := ext11 q2
    replace a0 := liftE hb1 a0
    replace a1 := liftE hb1 a1
    replace a2 := liftE hb1 a2
    replace a3 := liftE hb1 a3
    replace a4 := liftE hb1 a4
    replace a5 := liftE hb1 a5
    replace a6 := liftE hb1 a6
    replace a7 := liftE hb1 a7
    replace a8 := liftE hb1 a8
    replace a9 := liftE hb1 a9
    replace a10 := liftE hb1 a10
    have hsz2 := ext_lt q2
    have hsz1 : ∀ e : Ext W1, w.heap.size < e.W.heap.size := fun e => hsz ⟨e.W, below_trans hb1 e.below⟩
    have HB1 := Lib.hid hb1
    clear hsz hb1 q2 hgg
    refine (extc_same (HM.out _)).mono ?_
    rintro x _ ⟨e2, rfl, rfl⟩
    go_wp2_with fail
    go_ret
    exact ⟨rfl, below_trans HB.out (below_trans HB1.out e2.below)⟩
  · go_enter Try.func10, Try.ntmps10
    go_wp2_with fail
    refine calls_blk1 (fun W0 q1 hb => ?_)
    have HB := Lib.hid hb
    obtain ⟨a0, a1, a2, a3, a4, a5, a6, a7, a8, a9, a10⟩ := ext11 q1
    have hsz := ext_lt q1
    clear hb q1
    refine (extc_same (alive06 _)).mono ?_
    rintro x _ ⟨e1, rfl, rfl⟩
    go_wp2_with fail
    obtain ⟨gg, hgg⟩ : ∃ gg, e1.W.heap.size = gg := ⟨_, rfl⟩
    rw [hgg]
    refine calls_name (T := fun W1 => W1.heap[gg]? = some (.cells #[.int .i64 kind, .int .u32 id, .bool ext, .bool rtr, .bool brs, .bool esi, .bool sec, .int .u8 sdt, .int .u8 vcid, .int .u32 af, .slice A n c] 25) ∧ Below W0.heap.size W0 W1) ⟨heap_new_at hgg.symm, below_alloc e1.below _⟩ ?_
    rintro W1 ⟨q2, hb1⟩
    obtain ⟨b0, b1, b2, b3, b4, b5, b6, b7, b8, b9, b10⟩ := ext11 q2
    replace a0 := liftE hb1 a0
    replace a1 := liftE hb1 a1
    replace a2 := liftE hb1 a2
    replace a3 := liftE hb1 a3
    replace a4 := liftE hb1 a4
    replace a5 := liftE hb1 a5
    replace a6 := liftE hb1 a6
    replace a7 := liftE hb1 a7
    replace a8 := liftE hb1 a8
    replace a9 := liftE hb1 a9
    replace a10 := liftE hb1 a10
    have hsz2 := ext_lt q2
    have hsz1 : ∀ e : Ext W1, w.heap.size < e.W.heap.size := fun e => hsz ⟨e.W, below_trans hb1 e.below⟩
    have HB1 := Lib.hid hb1
    clear hsz hb1 q2 hgg
    refine (extc_same (HM.out _)).mono ?_
    rintro x _ ⟨e2, rfl, rfl⟩
    go_wp2_with fail
    refine (extc (HM2.out _)).mono ?_
    rintro x _ ⟨e3, rfl, rfl⟩
    go_wp2_with fail
    go_ret
    exact ⟨rfl, below_trans HB.out (below_trans HB1.out e3.below)⟩
  · go_enter Try.func10, Try.ntmps10
    go_wp2_with fail
    refine calls_blk1 (fun W0 q1 hb => ?_)
    have HB := Lib.hid hb
    obtain ⟨a0, a1, a2, a3, a4, a5, a6, a7, a8, a9, a10⟩ := ext11 q1
    have hsz := ext_lt q1
    clear hb q1
    refine (extc_same (alive06 _)).mono ?_
    rintro x _ ⟨e1, rfl, rfl⟩
    go_wp2_with fail
    obtain ⟨gg, hgg⟩ : ∃ gg, e1.W.heap.size = gg := ⟨_, rfl⟩
    rw [hgg]
    refine calls_name (T := fun W1 => W1.heap[gg]? = some (.cells #[.int .i64 kind, .int .u32 idf, .bool ext, .bool rtr, .bool brs, .bool esi, .bool sec, .int .u8 sdt, .int .u8 vcid, .int .u32 af, .slice A n c] 25) ∧ Below W0.heap.size W0 W1) ⟨heap_new_at hgg.symm, below_alloc e1.below _⟩ ?_
    rintro W1 ⟨q2, hb1⟩
    obtain ⟨b0, b1, b2, b3, b4, b5, b6, b7, b8, b9, b10⟩ := ext11 q2
    replace a0 := liftE hb1 a0
    replace a1 := liftE hb1 a1
    replace a2 := liftE hb1 a2
    replace a3 := liftE hb1 a3
    replace a4 := liftE hb1 a4
    replace a5 := liftE hb1 a5
    replace a6 := liftE hb1 a6
    replace a7 := liftE hb1 a7
    replace a8 := liftE hb1 a8
    replace a9 := liftE hb1 a9
    replace a10 := liftE hb1 a10
    have hsz2 := ext_lt q2
    have hsz1 : ∀ e : Ext W1, w.heap.size < e.W.heap.size := fun e => hsz ⟨e.W, below_trans hb1 e.below⟩
    have HB1 := Lib.hid hb1
    clear hsz hb1 q2 hgg
    refine (extc_same (HM.out _)).mono ?_
    rintro x _ ⟨e2, rfl, rfl⟩
    go_wp2_with fail
    refine (extc (HM2.out _)).mono ?_
    rintro x _ ⟨e3, rfl, rfl⟩
    go_wp2_with fail
    go_ret
    exact ⟨rfl, below_trans HB.out (below_trans HB1.out e3.below)⟩
set_option maxRecDepth 100000 in
set_option maxHeartbeats 4000000 in
theorem orders_main (f : Fr) (id : Int) (A : Option Addr) (c : Nat) (w : World) (h0 : 0 ≤ f.id) (h1 : 0 ≤ id) (hr : Rd w A (bys f.data)) (hby : isBytes f.data) (hk : f.kind = 1) (hok : okF f = true) (hok2 : okF (withId f id) = true) (hne : f.id ≠ id) :
    Calls Try.prog 10 #[frv f (.slice A f.data.length c), .int .u32 id] w fun e w' => e = .returned (.bool true) ∧ Below w.heap.size w w' := by
  have hl8 := okF_len1 f hk hok
  have HM := Lib.hid (fun W => mine_any f A c W (by omega))
  have HM2 := Lib.hid (fun W => mine_any (withId f id) A c W (by show f.data.length ≤ _; omega))
  rw [hok, decide_eq_true hk] at HM
  rw [hok2, decide_eq_true (show (withId f id).kind = 1 from hk)] at HM2
  obtain ⟨NR, hNR⟩ : ∃ NR, (stuffN (bodyC f)).length = NR := ⟨_, rfl⟩
  obtain ⟨NH, hNH⟩ : ∃ NH, (stuffN (headL f)).length = NH := ⟨_, rfl⟩
  obtain ⟨MR, hMR⟩ : ∃ MR, (stuffN (bodyC (withId f id))).length = MR := ⟨_, rfl⟩
  obtain ⟨MH, hMH⟩ : ∃ MH, (stuffN (headL (withId f id))).length = MH := ⟨_, rfl⟩
  have hNR2 : NR ≤ 150 := by
    have h1 := stuffN_le (bodyC f)
    have h2 : (bodyC f).length ≤ 118 := by rw [bodyC_length]; split <;> omega
    omega
  have hMR2 : MR ≤ 150 := by
    have h1 := stuffN_le (bodyC (withId f id))
    have h2 : (bodyC (withId f id)).length ≤ 118 := by rw [bodyC_length]; have : (withId f id).data.length = f.data.length := rfl; split <;> omega
    omega
  have HW := Lib.hid (fun W (hW : Rd W A (bys f.data)) => Wire_ok f A c NR NH W hk hok h0 hW hby hNR hNH)
  have HW2 := Lib.hid (fun W (hW : Rd W A (bys f.data)) => Wire_ok (withId f id) A c MR MH W hk hok2 h1 hW hby hMR hMH)
  obtain ⟨j, hj1, hj2, hj3, x, y, hx, hy, hxy, hdir⟩ := orders_plain f (withId f id) rfl rfl h0 (okF_lim f hok) h1 (okF_lim _ hok2) hne
  have hl1 : (wireC f).length = NR + 10 := by unfold wireC; rw [List.length_append, hNR]; simp
  have hl2 : (wireC (withId f id)).length = MR + 10 := by unfold wireC; rw [List.length_append, hMR]; simp
  have hjl1 : j < NR + 10 := by rw [← hl1]; exact (List.getElem?_eq_some_iff.1 hx).1
  have hjl2 : j < MR + 10 := by rw [← hl2]; exact (List.getElem?_eq_some_iff.1 hy).1
  have hb1 : NH ≤ NR := by
    obtain ⟨l, e⟩ := bodyC_head f
    rw [← hNR, ← hNH, e]; unfold stuffN; rw [stf_append, List.length_append]; omega
  have hb2 : MH ≤ MR := by
    obtain ⟨l, e⟩ := bodyC_head (withId f id)
    rw [← hMR, ← hMH, e]; unfold stuffN; rw [stf_append, List.length_append]; omega
  rw [hNH] at hj1
  rw [hMH] at hj2
  have hdir2 : (x = 0 ↔ f.id < id) := hdir
  have HR := Lib.hid hr
  obtain ⟨wi, hwi⟩ : ∃ wi, wireC f = wi := ⟨_, rfl⟩
  obtain ⟨wj, hwj⟩ : ∃ wj, wireC (withId f id) = wj := ⟨_, rfl⟩
  rw [hwi] at HW hj3 hx hl1
  rw [hwj] at HW2 hj3 hy hl2
  obtain ⟨kind, idf, ext, rtr, brs, esi, sec, sdt, vcid, af, data⟩ := f
  dsimp only [frv, withId] at *
  generalize data.length = n at *
  have hidb : ((idf : Int) == id) = false := by rw [beq_eq_false_iff_ne]; exact hne
  have hn300 : ¬ (300 : Int) < (n : Int) := by omega
  have HJ3 := Lib.hid hj3
  have HX := Lib.hid hx
  have HY := Lib.hid hy
  have HXY := Lib.hid hxy
  have HDIR := Lib.hid hdir2
  have HL1 := Lib.hid hl1
  have HL2 := Lib.hid hl2
  obtain ⟨nw, hnw⟩ : ∃ nw, NR + 10 = nw := ⟨_, rfl⟩
  obtain ⟨mw, hmw⟩ : ∃ mw, MR + 10 = mw := ⟨_, rfl⟩
  rw [hnw] at HW HL1 hjl1
  rw [hmw] at HW2 HL2 hjl2
  have hnw2 : nw ≤ 160 ∧ NH ≤ nw := by omega
  have hmw2 : mw ≤ 160 ∧ MH ≤ mw := by omega
  clear hr hNR hNH hMR hMH hok hok2 hk h0 h1 hby hwi hwj hdir hdir2 hne hj3 hx hy hxy hl1 hl2 hnw hmw hb1 hb2 hl8 hNR2 hMR2
  go_enter Try.func10, Try.ntmps10
  go_wp2_with fail
  refine calls_blk1 (fun W0 q1 hb => ?_)
  have HB := Lib.hid hb
  obtain ⟨a0, a1, a2, a3, a4, a5, a6, a7, a8, a9, a10⟩ := ext11 q1
  have hsz := ext_lt q1
  clear hb q1
  refine (extc_same (alive06 _)).mono ?_
  rintro x _ ⟨e1, rfl, rfl⟩
  go_wp2_with fail
  obtain ⟨gg, hgg⟩ : ∃ gg, e1.W.heap.size = gg := ⟨_, rfl⟩
  rw [hgg]
  refine calls_name (T := fun W1 => W1.heap[gg]? = some (.cells #[.int .i64 kind, .int .u32 id, .bool ext, .bool rtr, .bool brs, .bool esi, .bool sec, .int .u8 sdt, .int .u8 vcid, .int .u32 af, .slice A n c] 25) ∧ Below W0.heap.size W0 W1) ⟨heap_new_at hgg.symm, below_alloc e1.below _⟩ ?_
  rintro W1 ⟨q2, hb1⟩
  obtain ⟨b0, b1, b2, b3, b4, b5, b6, b7, b8, b9, b10⟩ := ext11 q2
  replace a0 := liftE hb1 a0
  replace a1 := liftE hb1 a1
  replace a2 := liftE hb1 a2
  replace a3 := liftE hb1 a3
  replace a4 := liftE hb1 a4
  replace a5 := liftE hb1 a5
  replace a6 := liftE hb1 a6
  replace a7 := liftE hb1 a7
  replace a8 := liftE hb1 a8
  replace a9 := liftE hb1 a9
  replace a10 := liftE hb1 a10
  have hsz2 := ext_lt q2
  have hsz1 : ∀ e : Ext W1, w.heap.size < e.W.heap.size := fun e => hsz ⟨e.W, below_trans hb1 e.below⟩
  have HB1 := Lib.hid hb1
  clear hsz hb1 q2 hgg
  refine (extc_same (HM.out _)).mono ?_
  rintro x _ ⟨e2, rfl, rfl⟩
  go_wp2_with fail
  refine (extc (HM2.out _)).mono ?_
  rintro x _ ⟨e3, rfl, rfl⟩
  go_wp2_with fail
  have hrd1 : ∀ e : Ext W1, Rd e.W A (bys data) := fun e => ((HR.out.below HB.out).below HB1.out).ext e
  have HRD := Lib.hid hrd1
  clear hrd1
  refine (extc (HW.out _ (HRD.out e3))).mono ?_
  rintro x _ ⟨e4, rfl, A4, c4, rfl, hrow4⟩
  obtain ⟨ga, rfl, hga, hca1, hca2⟩ := row_some (n := nw) hrow4 (by rw [HL1.out]) (by omega)
  have HROW4 := Lib.hid hrow4
  clear hrow4
  go_wp2_with fail
  obtain ⟨p, hp⟩ : ∃ p, e4.W.heap.size = p := ⟨_, rfl⟩
  rw [hp]
  refine calls_name (T := fun W2 => W2.heap[p]? = some (.cells #[.slice (some ⟨ga, 0, none⟩) nw c4, .int .i64 NH, .int .i64 ((NR : Int) + 1)] 66) ∧ Below e4.W.heap.size e4.W W2) ⟨heap_new_at hp.symm, below_alloc (Below.refl _ _) _⟩ ?_
  rintro W2 ⟨r2, hb2⟩
  have hw12 : Below W1.heap.size W1 W2 := below_trans e4.below hb2
  refine (HW2.out W2 (HRD.out ⟨W2, hw12⟩)).mono ?_
  rintro x w5 ⟨⟨A5, c5, rfl, hrow5⟩, hb5⟩
  obtain ⟨gc, rfl, hgc, hcb1, hcb2⟩ := row_some (n := mw) hrow5 (by rw [HL2.out]) (by omega)
  have HROW5 := Lib.hid hrow5
  have HR2 := Lib.hid (heap_below hb5 r2)
  have HB45 := Lib.hid (below_trans hb2 hb5)
  have HB15 := Lib.hid (below_trans hw12 hb5)
  have HP := Lib.hid hp
  have b0' := cell_of_heap (heap_below hb5 r2) 0 _ rfl
  have b1' : w5.cell? ⟨p, 1, none⟩ = some (.int .i64 NH) := cell_of_heap (heap_below hb5 r2) 1 _ rfl
  have hpw : p < w5.heap.size := heap_lt (heap_below hb5 r2)
  have fa := a1 ⟨w5, HB15.out⟩
  have fb := b1 ⟨w5, HB15.out⟩
  dsimp only at fa fb
  have hs1 := hsz1 ⟨w5, HB15.out⟩
  have hs2 := hsz2 ⟨w5, HB15.out⟩
  dsimp only at hs1 hs2
  have HFA := Lib.hid fa
  have HFB := Lib.hid fb
  have hmin : (NH : Int) ≤ (MH : Int) ∨ (MH : Int) < (NH : Int) := by omega
  obtain ⟨p2, hp2⟩ : ∃ p2, w5.heap.size = p2 := ⟨_, rfl⟩
  have HP2 := Lib.hid hp2
  have hpp2 : p < p2 := by omega
  have hpn2 : ¬ p = p2 := by omega
  have hbox2 : (w5.alloc (.cells #[.slice (some ⟨gc, 0, none⟩) mw c5, .int .i64 MH, .int .i64 ((MR : Int) + 1)] 66)).heap[p2]? = some (.cells #[.slice (some ⟨gc, 0, none⟩) mw c5, .int .i64 MH, .int .i64 ((MR : Int) + 1)] 66) := heap_new_at hp2.symm
  have HBOX2 := Lib.hid hbox2
  clear hrow5 hb5 hb2 r2 hw12 hp hbox2 a0 a1 a2 a3 a4 a5 a6 a7 a8 a9 a10 b0 b1 b2 b3 b4 b5 b6 b7 b8 b9 b10 hsz1 hsz2 fa fb hn300 hidb HM HM2 HW HW2
  obtain ⟨MN, hMN1, hMN2⟩ : ∃ MN : Nat, j < MN ∧ MN = min NH MH := ⟨_, by omega, rfl⟩
  rcases hmin with hmin | hmin
  all_goals
    go_wp2_with fail
    go_loopw [58] (fun iv wr => ∃ k : Nat, k ≤ j ∧ iv = .int .i64 k ∧ Hid (wr.heap[p]? = some (.cells #[.slice (some ⟨ga, 0, none⟩) nw c4, .int .i64 NH, .int .i64 ((NR : Int) + 1)] 66)) ∧ Hid (wr.heap[p2]? = some (.cells #[.slice (some ⟨gc, 0, none⟩) mw c5, .int .i64 MH, .int .i64 ((MR : Int) + 1)] 66)) ∧ Hid (Below w5.heap.size w5 wr)) (fun iv _ => j + 1 - (intOf iv).toNat)
    case atStart => exact ⟨0, by omega, rfl, heap_push HR2.out, by rw [← HP2.out] at HBOX2 ⊢; exact HBOX2, below_alloc (Below.refl _ _) _⟩
    case round =>
      obtain ⟨k, hk, rfl, HX1, HX2, HBW⟩ := hrel
      have c0 := cell_of_heap HX1.out 0 _ rfl
      have d0 := cell_of_heap HX2.out 0 _ rfl
      have hbw1 : Below e4.W.heap.size e4.W wr := below_trans HB45.out HBW.out
      have f1 := Below.cell_of HBW.out HFA.out
      have g1 := Below.cell_of HBW.out HFB.out
      have hknw : (k : Int) < (nw : Int) := by omega
      have hkmw : (k : Int) < (mw : Int) := by omega
      have hkNH : (k : Int) < (NH : Int) := by omega
      have hkMH : (k : Int) < (MH : Int) := by omega
      by_cases hkj : k < j
      · obtain ⟨v, hv⟩ : ∃ v, wi[k]? = some v := ⟨_, List.getElem?_eq_getElem (by rw [HL1.out]; omega)⟩
        have x1 := row_at HROW4.out hbw1 k v hv
        have y1 := row_at HROW5.out HBW.out k v (by rw [← HJ3.out k hkj]; exact hv)
        clear hv hbw1
        go_wp2_with fail
        go_quiet (fail)
        go_wp2_with fail
        go_roundw
        case rel => exact ⟨k + 1, by omega, by go_num, HX1, HX2, below_drewN HBW.out _⟩
        case measure => simp [intOf]; omega
      · obtain rfl : j = k := by omega
        have x1 := row_at HROW4.out hbw1 j x HX.out
        have y1 := row_at HROW5.out HBW.out j y HY.out
        have hxy : ((x : Int) != (y : Int)) = true := by rw [bne_iff_ne]; have := HXY.out; omega
        have hdir : (((x : Int) == 0) == decide (idf < id)) = true := by
          have h := HDIR.out
          rw [beq_iff_eq]
          by_cases hx0 : x = 0
          · rw [decide_eq_true (h.1 hx0), hx0]; rfl
          · rw [decide_eq_false (fun hlt => hx0 (h.2 hlt)), beq_eq_false_iff_ne]; omega
        have HD := Lib.hid hdir
        clear hbw1 hdir
        go_wp2_with fail
        go_quiet (fail)
        go_wp2_with fail
        go_quiet (fail)
        go_wp2_with fail
        go_ret
        exact ⟨ret_bool HD.out, below_trans HB.out (below_trans HB1.out (below_trans HB15.out (below_drewN (below_drewN HBW.out _) _)))⟩
theorem orders_walk (f : Fr) (id : Int) (A : Option Addr) (c : Nat) (w : World) (hf : f.data.length ≤ 9223372036854775807) (h0 : 0 ≤ f.id) (h1 : 0 ≤ id) (hr : Rd w A (bys f.data)) (hby : isBytes f.data) :
    Calls Try.prog 10 #[frv f (.slice A f.data.length c), .int .u32 id] w fun e w' => e = .returned (.bool true) ∧ Below w.heap.size w w' := by
  by_cases h : ((f.kind = 1 ∧ okF f = true) ∧ okF (withId f id) = true ∧ f.id ≠ id)
  · exact orders_main f id A c w h0 h1 hr hby h.1.1 h.1.2 h.2.1 h.2.2
  · exact orders_triv f id A c w hf h
end Go.Proofs.Ytbjeblffmgghgaa
