/- The law ScanTurns answers true at every input, and leaves its input as it was. No condition. (With what it needs of its own.) -/
import Derived.Test.YtlmdkmflbhnlgaaGreatZScan11
-- LawScanFrames: The law ScanFrames answers true. No condition.
namespace Go.Proofs.YtlmdkmflbhnlgaaGreat
open Go.RowKit
/-- A row's beginning is a row of the same kind; a cell of it may be set. -/
theorem Row.take {w : World} {base t c : Nat} {A : Option Addr} {xs : List Value} (h : Row w base t A c xs) (k : Nat) (hk : k ≤ xs.length) : Row w base t A c (xs.take k) := by
  obtain ⟨h1, h2⟩ := h
  have hl : (xs.take k).length = k := by rw [List.length_take]; omega
  unfold Row
  rw [hl]
  refine ⟨by simp [hl], ?_⟩
  rcases h2 with ⟨hv, h0⟩ | ⟨g, cap, cur, hv, hg, hh, hn, hm, hs, ht⟩
  · left
    injection hv with e1 e2 e3
    exact ⟨by rw [e1, e3]; congr 1; omega, by omega⟩
  · right
    injection hv with e1 e2 e3
    refine ⟨g, cap, cur, by rw [e1, e3], hg, hh, by omega, hm, hs, ?_⟩
    have : (cur.toList.take (xs.length * 1)).take k = xs.take k := by rw [ht]
    rw [List.take_take] at this
    rw [← this]
    congr 1
    omega
theorem Row.setU {w : World} {base t c : Nat} {ad : Addr} {xs : List Value} (h : Row w base t (some ad) c xs) (k : Nat) (v : Value) : ad = ⟨ad.block, 0, none⟩ ∧ base ≤ ad.block ∧ w.frozen? ⟨ad.block, ad.off + k, none⟩ = false ∧ Row (w.setCell ⟨ad.block, ad.off + k, none⟩ v) base t (some ad) c (xs.set k v) := by
  obtain ⟨h1, h2⟩ := h
  unfold Row
  rw [List.length_set]
  rcases h2 with ⟨hv, -⟩ | ⟨g', cap, cur, hv, hg, hh, hn, hm, hs, ht⟩
  · cases hv
  · obtain rfl : ad = ⟨g', 0, none⟩ := by injection hv with e; injection e
    refine ⟨rfl, hg, by simp [World.frozen?, hh], by simp, ?_⟩
    refine .inr ⟨g', cap, _, hv, hg, heap_setCell hh (0 + k) v, hn, hm, by simpa using hs, ?_⟩
    rw [Array.toList_setIfInBounds, List.take_set, ht]
    congr 1
    omega
theorem Row.cellU {w : World} {base c : Nat} {ad : Addr} {l : List Nat} (h : Row w base 5 (some ad) c (bys l)) (k : Nat) (hk : k < l.length) : ∃ x : Nat, w.cell? ⟨ad.block, ad.off + k, none⟩ = some (.int .u8 (x : Int)) := by
  obtain ⟨e, -⟩ := h.setU 0 (.int .u8 0)
  obtain ⟨ad', e', hc⟩ := h.rd.at_ k hk
  obtain rfl : ad = ad' := by injection e'
  refine ⟨l[k], ?_⟩
  rw [← hc]
  unfold Addr.add
  rw [e]
  by_cases h0 : k = 0 <;> simp [h0]
set_option maxRecDepth 100000 in
set_option maxHeartbeats 4000000 in
theorem scanFrames_triv (w : World) (f : Fr) (A0 A1 : Option Addr) (c0 n1 c1 : Nat) (l1 : List Nat) (ack : Bool) (hf : f.data.length ≤ 9223372036854775807) (hr1 : Rd w A1 (bys l1)) (hn1 : l1.length = n1) (hm1 : n1 ≤ 9223372036854775807)
    (h : okF f = false ∨ (okF f = true ∧ 300 < f.data.length) ∨ (okF f = true ∧ f.data.length ≤ 300 ∧ 100 < n1) ∨ (okF f = true ∧ f.data.length ≤ 300 ∧ n1 ≤ 100 ∧ bitsOk l1 = false)) :
    Calls Tryz.prog 5 #[frv f (.slice A0 f.data.length c0), .bool ack, .slice A1 n1 c1] w fun e w' => e = .returned (.bool true) ∧ Below w.heap.size w w' := by
  have HAL := Lib.hid (fun W => alive09 W)
  have HC1 := Lib.hid (fun W => Check_any f A0 c0 W hf)
  have HCK := Lib.hid (fun W (hW : Rd W A1 (bys l1)) => BitsCheck_any A1 n1 c1 l1 W hW hn1 (by omega))
  have HR1 := Lib.hid hr1
  obtain ⟨o1, ho1⟩ : ∃ o, okF f = o := ⟨_, rfl⟩
  obtain ⟨o2, ho2⟩ : ∃ o, bitsOk l1 = o := ⟨_, rfl⟩
  rw [ho1] at HC1 h
  rw [ho2] at HCK h
  unfold errV at HC1
  obtain ⟨fk, fi, fe, fr, f4, f5, f6, f7, f8, f9, fd⟩ := f
  dsimp only [frv] at *
  generalize fd.length = n at *
  clear ho1 ho2 hr1 hn1
  rcases h with rfl | ⟨rfl, h3⟩ | ⟨rfl, h3, h4⟩ | ⟨rfl, h3, h4, rfl⟩
  · simp only [Bool.false_eq_true, if_false] at HC1
    go_enter Tryz.func5, Tryz.ntmps5
    go_wp2_with fail
    refine calls_blk1 (fun W0 q1 hb => ?_)
    have HB := Lib.hid hb
    obtain ⟨a0, a1, a2, a3, a4, a5, a6, a7, a8, a9, a10⟩ := ext11 q1
    clear hb q1
    refine (extc_same (HAL.out _)).mono ?_
    rintro x _ ⟨e1, rfl, rfl⟩
    go_wp2_with fail
    refine (extc (HC1.out _)).mono ?_
    rintro x _ ⟨e2, rfl, rfl⟩
    go_wp2_with fail
    go_ret
    exact ⟨rfl, ext_end HB.out⟩
  · have g3 : decide ((300 : Int) < (n : Int)) = true := by simp; omega
    simp only [if_true] at HC1
    go_enter Tryz.func5, Tryz.ntmps5
    go_wp2_with fail
    refine calls_blk1 (fun W0 q1 hb => ?_)
    have HB := Lib.hid hb
    obtain ⟨a0, a1, a2, a3, a4, a5, a6, a7, a8, a9, a10⟩ := ext11 q1
    clear hb q1
    refine (extc_same (HAL.out _)).mono ?_
    rintro x _ ⟨e1, rfl, rfl⟩
    go_wp2_with fail
    refine (extc (HC1.out _)).mono ?_
    rintro x _ ⟨e2, rfl, rfl⟩
    go_wp2_with fail
    go_ret
    exact ⟨rfl, ext_end HB.out⟩
  · have g3 : decide ((300 : Int) < (n : Int)) = false := by simp; omega
    have g4 : decide ((100 : Int) < (n1 : Int)) = true := by simp; omega
    simp only [if_true] at HC1
    go_enter Tryz.func5, Tryz.ntmps5
    go_wp2_with fail
    refine calls_blk1 (fun W0 q1 hb => ?_)
    have HB := Lib.hid hb
    obtain ⟨a0, a1, a2, a3, a4, a5, a6, a7, a8, a9, a10⟩ := ext11 q1
    clear hb q1
    refine (extc_same (HAL.out _)).mono ?_
    rintro x _ ⟨e1, rfl, rfl⟩
    go_wp2_with fail
    refine (extc (HC1.out _)).mono ?_
    rintro x _ ⟨e2, rfl, rfl⟩
    go_wp2_with fail
    go_ret
    exact ⟨rfl, ext_end HB.out⟩
  · have g3 : decide ((300 : Int) < (n : Int)) = false := by simp; omega
    have g4 : decide ((100 : Int) < (n1 : Int)) = false := by simp; omega
    simp only [if_true, Bool.false_eq_true, if_false] at HC1 HCK
    go_enter Tryz.func5, Tryz.ntmps5
    go_wp2_with fail
    refine calls_blk1 (fun W0 q1 hb => ?_)
    have HB := Lib.hid hb
    have HR2 := Lib.hid (HR1.out.below hb)
    obtain ⟨a0, a1, a2, a3, a4, a5, a6, a7, a8, a9, a10⟩ := ext11 q1
    clear hb q1
    refine (extc_same (HAL.out _)).mono ?_
    rintro x _ ⟨e1, rfl, rfl⟩
    go_wp2_with fail
    refine (extc (HC1.out _)).mono ?_
    rintro x _ ⟨e2, rfl, rfl⟩
    go_wp2_with fail
    refine (HCK.out _ (HR2.out.ext e2)).mono ?_
    rintro x _ ⟨rfl, rfl⟩
    go_wp2_with fail
    go_ret
    exact ⟨rfl, ext_end HB.out⟩
set_option maxRecDepth 100000 in
set_option maxHeartbeats 16000000 in
theorem scanFrames_main (w : World) (f : Fr) (A0 A1 : Option Addr) (c0 n1 c1 : Nat) (l1 : List Nat) (ack : Bool) (hr0 : Rd w A0 (bys f.data)) (hfn : FrN f) (hok : okF f = true) (hl : f.data.length ≤ 300) (hr1 : Rd w A1 (bys l1)) (hn1 : l1.length = n1) (hz1 : A1 = none → c1 = 0) (h100 : n1 ≤ 100) (hb1 : bitsOk l1 = true) :
    Calls Tryz.prog 5 #[frv f (.slice A0 f.data.length c0), .bool ack, .slice A1 n1 c1] w fun e w' => e = .returned (.bool true) ∧ Below w.heap.size w w' := by
  obtain ⟨i0, hi, hi0, hi1, hi2⟩ := info_parts info_u8
  obtain ⟨NR, NH, hNR, hNH, hWr⟩ := Wire09_ok f A0 c0 hok hfn
  have hNR2 : NR ≤ 4000 := by rw [← hNR]; exact rawA_len f hok hl
  have HAL := Lib.hid (fun W => alive09 W)
  have HC1 := Lib.hid (fun W => Check_any f A0 c0 W (by omega))
  have HCK := Lib.hid (fun W (hW : Rd W A1 (bys l1)) => BitsCheck_any A1 n1 c1 l1 W hW hn1 (by omega))
  have HWR := Lib.hid (fun W hW => hWr W hW)
  have HNW := Lib.hid (fun W => mNew true W)
  have HSAME := Lib.hid (fun W A c hW1 hW2 => Same_any f f A A0 c c0 W hW1 hW2 hfn.data hfn.data)
  have hsame : sameF f f = true := by unfold sameF; simp
  rw [hok] at HC1
  rw [hb1] at HCK
  rw [hsame] at HSAME
  simp only [if_true, errV] at HC1 HCK
  have HWO : Hid (∀ W e w', WireOk f NR NH W e w' ↔ ((∃ A' c', e = .returned (.tuple #[.agg #[.slice A' (NR + 10 : Nat) c', .int .i64 (NH : Nat), .int .i64 (NR + 1 : Nat)], .int .i64 0]) ∧ Row w' W.heap.size 5 A' c' (bys (wireB f 1))) ∧ Below W.heap.size W w')) := fun _ _ _ => Iff.rfl
  obtain ⟨R, hR⟩ : ∃ R, WireOk f NR NH = R := ⟨_, rfl⟩
  rw [hR] at HWR HWO
  clear hR
  have HK := Lib.hid (fun a i hi => wireB_kinds f a hok hfn NR hNR i hi)
  have HKB := Lib.hid (fun a => wireB_behind f a hok hfn NR hNR l1)
  have HLEN := Lib.hid (fun a => (show (wireB f a).length = NR + 10 by rw [wireB_len, hNR]))
  have HBITS := Lib.hid (fun a ha => wireB_bits f a ha)
  have HSET := Lib.hid (wireB_set f NR hNR)
  have HR0 := Lib.hid hr0
  have HR1 := Lib.hid hr1
  have HN1 := Lib.hid hn1
  have HB1 := Lib.hid hb1
  have HZ1 : Hid (bys l1 = [] → A1 = none → c1 = 0) := fun _ h => hz1 h
  clear hr0 hr1 hn1 hz1 hb1 hNR hNH hWr hok hsame
  obtain ⟨WB, hWB⟩ : ∃ WB, wireB f = WB := ⟨_, rfl⟩
  rw [hWB] at HWO HK HKB HLEN HBITS HSET
  clear hWB
  have hfd := hfn.data
  clear hfn
  obtain ⟨fk, fi, fe, fr, f4, f5, f6, f7, f8, f9, fd⟩ := f
  dsimp only [frv] at *
  obtain ⟨n, hn⟩ : ∃ n, fd.length = n := ⟨_, rfl⟩
  have HN := Lib.hid hn
  rw [hn] at HC1 HWR HSAME hl ⊢
  have g3 : decide ((300 : Int) < (n : Int)) = false := by simp; omega
  have g4 : decide ((100 : Int) < (n1 : Int)) = false := by simp; omega
  clear hn
  go_enter Tryz.func5, Tryz.ntmps5
  go_wp2_with fail
  refine calls_blk1 (fun W0 q0 hb0 => ?_)
  refine (HAL.out _).mono ?_
  rintro e w1 ⟨rfl, hb1⟩
  have Q1 := Lib.hid (heap_below hb1 q0)
  have HB1' := Lib.hid (below_trans hb0 hb1)
  obtain ⟨a0, a1, a2, a3, a4, a5, a6, a7, a8, a9, a10⟩ := cells11 Q1.out
  clear q0 hb0 hb1
  go_wp2_with fail
  refine (HC1.out _).mono ?_
  rintro e w2 ⟨rfl, hb2⟩
  have Q2 := Lib.hid (heap_below hb2 Q1.out)
  have HB2 := Lib.hid (below_trans HB1'.out hb2)
  clear hb2 Q1 HB1' a0 a1 a2 a3 a4 a5 a6 a7 a8 a9 a10
  obtain ⟨a0, a1, a2, a3, a4, a5, a6, a7, a8, a9, a10⟩ := cells11 Q2.out
  go_wp2_with fail
  refine (HCK.out _ (HR1.out.below HB2.out)).mono ?_
  rintro e _ ⟨rfl, rfl⟩
  go_wp2_with fail
  refine (HWR.out _ (HR0.out.below HB2.out)).mono ?_
  rintro e w3 hpost3
  obtain ⟨⟨A3, c3, rfl, hrow3⟩, hb3⟩ := (HWO.out _ _ _).1 hpost3
  have Q3 := Lib.hid (heap_below hb3 Q2.out)
  have HB3 := Lib.hid (below_trans HB2.out hb3)
  have HB02 := Lib.hid HB2.out
  have HROW3 := Lib.hid hrow3
  have hc3 := hrow3.cap
  have hlt3 := hrow3.lt_
  rw [bys_length, HLEN.out] at hc3
  have hp02 : w.heap.size < w2.heap.size := heap_lt Q2.out
  have hp23 : w2.heap.size ≤ w3.heap.size := hb3.size
  have HB23 := Lib.hid hb3
  clear hb3 HB2 a0 a1 a2 a3 a4 a5 a6 a7 a8 a9 a10 hrow3 hpost3
  go_upto_region 6 with (fail)
  obtain ⟨W4, hW4, q4, hb4⟩ : ∃ W4, w3.alloc (.cells #[.slice A3 (NR + 10) c3, .int .i64 NH, .int .i64 ((NR : Int) + 1)] 44) = W4 ∧ W4.heap[w3.heap.size]? = some (.cells #[.slice A3 (NR + 10) c3, .int .i64 NH, .int .i64 ((NR : Int) + 1)] 44 (0, 0)) ∧ Below w3.heap.size w3 W4 := ⟨_, rfl, heap_new_at rfl, below_alloc (Below.refl _ _) _⟩
  rw [hW4]
  have HB4 := Lib.hid (below_trans HB3.out hb4)
  have HROW4 := Lib.hid (HROW3.out.below hb4)
  have Q04 := Lib.hid (heap_below hb4 Q3.out)
  have Q4 := Lib.hid q4
  have hp34 : w3.heap.size < W4.heap.size := heap_lt q4
  have HB24 := Lib.hid (HB23.out.trans (hb4.mono hp23))
  clear hW4 q4 hb4 HB23 HROW3 Q3 HB3
  generalize w3.heap.size = p7 at *
  obtain ⟨ad, rfl, -⟩ := HROW4.out.rd.at_ 0 (by rw [HLEN.out]; omega)
  obtain ⟨hade, hadb, hadz, hset4⟩ := HROW4.out.setU (NR + 1) (.int .u8 0)
  have HST4 := Lib.hid hset4
  have HADE := Lib.hid hade
  clear hset4 hade
  cases ack
  case' true =>
    have t0 : W4.cell? ⟨p7, 0, none⟩ = some (.slice (some ad) (NR + 10) c3) := cell_of_heap Q4.out 0 _ rfl
    have t2 : W4.cell? ⟨p7, 2, none⟩ = some (.int .i64 ((NR : Int) + 1)) := cell_of_heap Q4.out 2 _ rfl
    obtain ⟨x4, cad⟩ := HROW4.out.cellU (NR + 1) (by rw [HLEN.out]; omega)
    go_upto_region 10 with (fail)
    have hadp : ad.block < p7 := hlt3 _ (by simp [blkA])
    obtain ⟨W5, hW5⟩ : ∃ W5, W4.setCell ⟨ad.block, ad.off + (NR + 1), none⟩ (.int .u8 0) = W5 := ⟨_, rfl⟩
    have hst := HST4.out
    rw [show (Value.int .u8 0) = .int .u8 ((0 : Nat) : Int) from rfl, bys_set, HSET.out, show (Value.int .u8 ((0 : Nat) : Int)) = .int .u8 0 from rfl, hW5] at hst
    have HB25 : Hid (Below w2.heap.size w2 W5) := by show Below _ _ _; rw [← hW5]; exact HB24.out.setCell (p := ⟨ad.block, ad.off + (NR + 1), none⟩) hadb _
    have Q5 : Hid (W5.heap[p7]? = some (.cells #[.slice (some ad) (NR + 10) c3, .int .i64 NH, .int .i64 ((NR : Int) + 1)] 44 (0, 0))) := by show _ = _; rw [← hW5]; exact (Below.heap_setCell W4 ⟨ad.block, ad.off + (NR + 1), none⟩ (.int .u8 0) p7 (show p7 ≠ ad.block by omega)).trans Q4.out
    have hsz5 : W5.heap.size = W4.heap.size := by rw [← hW5]; simp
    obtain ⟨av, hav, HROW5⟩ : ∃ av, av ≤ 1 ∧ Hid (Row W5 w2.heap.size 5 (some ad) c3 (bys (WB av))) := ⟨0, by omega, hst⟩
    rw [hW5]
    clear hst hW5 cad t0 t2
  case' false =>
    go_upto_region 10 with (fail)
    obtain ⟨W5, hW5⟩ : ∃ W5, W4 = W5 := ⟨_, rfl⟩
    have HB25 : Hid (Below w2.heap.size w2 W5) := by show Below _ _ _; rw [← hW5]; exact HB24.out
    have Q5 : Hid (W5.heap[p7]? = some (.cells #[.slice (some ad) (NR + 10) c3, .int .i64 NH, .int .i64 ((NR : Int) + 1)] 44 (0, 0))) := by show _ = _; rw [← hW5]; exact Q4.out
    have hsz5 : W5.heap.size = W4.heap.size := by rw [← hW5]
    obtain ⟨av, hav, HROW5⟩ : ∃ av, av ≤ 1 ∧ Hid (Row W5 w2.heap.size 5 (some ad) c3 (bys (WB av))) := ⟨1, by omega, by show Row _ _ _ _ _ _; rw [← hW5]; exact HROW4.out⟩
    rw [hW5]
    clear hW5
  all_goals
    have Q05 := Lib.hid (heap_belowG HB25.out hp02 Q2.out)
    have hp5 : p7 < W5.heap.size := heap_lt Q5.out
    clear HB24 HROW4 HST4 Q4 HB4 hadz hlt3 hsz5 Q04
    go_wp2_with fail
    refine (HNW.out _).mono ?_
    rintro e w6 ⟨rfl, ⟨s6, a6, h6, n6⟩, hb6⟩
    have HM6 : Hid (∃ s a, MR w6 s W5.heap.size (scanM true ((WB av).take 0)) a ∧ ∀ k ∈ s, W5.heap.size ≤ k) := ⟨s6, a6, h6, n6⟩
    have HB6 := Lib.hid hb6
    have t0 : w6.cell? ⟨p7, 0, none⟩ = some (.slice (some ad) (NR + 10) c3) := cell_of_heap (heap_below hb6 Q5.out) 0 _ rfl
    clear h6 n6 hb6
    obtain ⟨mp, hmp⟩ : ∃ mp, W5.heap.size = mp := ⟨_, rfl⟩
    have HMP := Lib.hid hmp
    rw [hmp] at HM6 HB6 hp5 ⊢
    clear hmp
    go_wp2_with fail
    go_loopw [60] (fun iv wr => ∃ k : Nat, k ≤ NR + 9 ∧ iv = .int .i64 k ∧ Hid (∃ s a, MR wr s mp (scanM true ((WB av).take k)) a ∧ ∀ j ∈ s, mp ≤ j) ∧ Hid (Below mp W5 wr)) (fun iv _ => NR + 9 - (intOf iv).toNat)
    case atStart => exact ⟨0, by omega, rfl, HM6, HB6⟩
    case round =>
      obtain ⟨k, hk, rfl, HM, HW⟩ := hrel
      have hbw : Below W5.heap.size W5 wr := by rw [HMP.out]; exact HW.out
      by_cases hkn : k < NR + 9
      · have hkl : k < (WB av).length := by rw [HLEN.out]; omega
        obtain ⟨x, ca⟩ : ∃ x, wr.cell? (ad.add k) = some (.int .u8 (x : Nat)) ∧ x = (WB av)[k] := by
          obtain ⟨ad', e', hc⟩ := (HROW5.out.below hbw).rd.at_ k hkl
          obtain rfl : ad = ad' := by injection e'
          exact ⟨_, hc, rfl⟩
        obtain ⟨ca, hxe⟩ := ca
        have hx : x ≤ 1 := by rw [hxe]; exact HBITS.out av hav _ (List.getElem_mem hkl)
        have htk : (WB av).take (k + 1) = (WB av).take k ++ [x] := by rw [hxe]; exact List.take_succ_eq_append_getElem hkl
        obtain ⟨s3, a3, h3, n3⟩ := HM.out
        have hseen : (scanM true ((WB av).take k)).seen ≤ 29000 := by rw [scanM_seen, List.length_take]; omega
        have hsee := mSee h3 (scanM_ok true _ fun y hy => HBITS.out av hav y (List.mem_of_mem_take hy)) hseen x hx
        rw [← scanM_snoc, ← htk] at hsee
        obtain ⟨k1, k2, k3⟩ := HK.out av k hkn
        obtain ⟨S, hS⟩ : ∃ S, scanM true ((WB av).take (k + 1)) = S := ⟨_, rfl⟩
        rw [hS] at hsee k1 k2 k3
        have HS := Lib.hid hS
        have HSEE := Lib.hid hsee
        have N3 := Lib.hid n3
        have hm3 := h3.lt
        clear hS hsee hseen htk hxe hkl hx h3 n3 HM hbw
        go_wp2_with fail
        refine HSEE.out.mono ?_
        rintro e w7 ⟨A7, c7, s7, a7', rfl, h7, n7, t7, hrow7, hap7⟩
        have hnew7 : ∀ j ∈ s7, mp ≤ j := fun j hj => (n7 j hj).elim (N3.out j) (fun h => by omega)
        have HW7 : Hid (Below mp W5 w7) := HW.out.trans (t7.below N3.out (by omega))
        have H7 : Hid (∃ s a, MR w7 s mp (scanM true ((WB av).take (k + 1))) a ∧ ∀ j ∈ s, mp ≤ j) := ⟨s7, a7', by rw [HS.out]; exact h7, hnew7⟩
        have HR7 := Lib.hid hrow7.rd
        have hm7 := h7.lt
        clear h7 n7 t7 hrow7 hap7 hnew7 ca
        obtain ⟨tk, htk⟩ : ∃ tk, S.kind = tk := ⟨_, rfl⟩
        obtain ⟨te, hte⟩ : ∃ te, S.err = te := ⟨_, rfl⟩
        obtain ⟨F, htf⟩ : ∃ F, S.sf = F := ⟨_, rfl⟩
        rw [htk] at k1
        rw [hte] at k2
        rw [htf] at k3
        rw [htf] at HR7
        simp only [stL, htk, hte, htf]
        clear htk hte htf HS
        subst k2
        have HKF := Lib.hid k3
        have HK1 := Lib.hid k1
        clear k3 k1
        go_upto_region 15 with (fail)
        obtain ⟨W8, hW8, q8, hb8⟩ : ∃ W8, w7.alloc (.cells #[.int .i64 tk, .int .i64 0, .int .i64 F.kind, .int .u32 F.id, .bool F.ext, .bool F.rtr, .bool F.brs, .bool F.esi, .bool F.sec, .int .u8 F.sdt, .int .u8 F.vcid, .int .u32 F.af, .slice A7 F.data.length c7] 30) = W8 ∧ W8.heap[w7.heap.size]? = some (.cells #[.int .i64 tk, .int .i64 0, .int .i64 F.kind, .int .u32 F.id, .bool F.ext, .bool F.rtr, .bool F.brs, .bool F.esi, .bool F.sec, .int .u8 F.sdt, .int .u8 F.vcid, .int .u32 F.af, .slice A7 F.data.length c7] 30 (0, 0)) ∧ Below w7.heap.size w7 W8 := ⟨_, rfl, heap_new_at rfl, below_alloc (Below.refl _ _) _⟩
        rw [hW8]
        have H8 : Hid (∃ s a, MR W8 s mp (scanM true ((WB av).take (k + 1))) a ∧ ∀ j ∈ s, mp ≤ j) := by obtain ⟨s, a, h, hn⟩ := H7.out; exact ⟨s, a, h.below hb8, hn⟩
        have HW8 := Lib.hid (HW7.out.trans (hb8.mono (by omega)))
        have HR8 := Lib.hid (HR7.out.below hb8)
        obtain ⟨z0, z1, z2, z3, z4, z5, z6, z7, z8, z9, z10, z11, z12⟩ := cells13 q8
        have hm8 : mp < W8.heap.size := by have := hb8.size; omega
        clear hW8 q8 hb8 H7 HW7 HR7
        generalize w7.heap.size = p9 at *
        have t0 : W8.cell? ⟨p7, 0, none⟩ = some (.slice (some ad) (NR + 10) c3) := cell_of_heap (heap_belowG HW8.out hp5 Q5.out) 0 _ rfl
        have t2 : W8.cell? ⟨p7, 2, none⟩ = some (.int .i64 ((NR : Int) + 1)) := cell_of_heap (heap_belowG HW8.out hp5 Q5.out) 2 _ rfl
        rcases (by omega : k = NR ∨ k = NR + 8 ∨ (k ≠ NR ∧ k ≠ NR + 8)) with h1 | h1 | ⟨h1, h2⟩
        · have k1 := HK1.out
          clear HK1
          rw [if_pos h1] at k1
          subst k1
          have g5 : ((k : Int) == (NR : Int)) = true := by simp; omega
          clear HKF
          go_wp2_with fail
          go_roundw
          case rel => exact ⟨k + 1, by omega, by go_num, H8, HW8⟩
          case measure => simp [intOf]; omega
        · have k1 := HK1.out
          clear HK1
          rw [if_neg (by omega), if_pos h1] at k1
          subst k1
          have hF := HKF.out h1
          subst hF
          have hh1 := Lib.hid h1
          have g5 : ((k : Int) == (NR : Int)) = false := by simp; omega
          have g6 : ((k : Int) == (NR : Int) + 8) = true := by simp; omega
          clear HKF h1
          dsimp only at z2 z3 z4 z5 z6 z7 z8 z9 z10 z11 z12 HR8
          rw [HN.out] at z12
          have Q08 := heap_belowG HW8.out (show w.heap.size < mp by omega) Q05.out
          obtain ⟨b0, b1, b2, b3, b4, b5, b6, b7, b8, b9, b10⟩ := cells11 Q08
          have HB08 := Lib.hid (HB25.out.trans (HW8.out.mono (by omega)))
          have HSM := Lib.hid (HSAME.out W8 A7 c7 HR8.out ((HR0.out.below HB02.out).below (HB08.out.mono (by omega))))
          clear Q08
          go_wp2_with fail
          refine HSM.out.mono ?_
          rintro e w9 ⟨rfl, hb9⟩
          have H9 : Hid (∃ s a, MR w9 s mp (scanM true ((WB av).take (k + 1))) a ∧ ∀ j ∈ s, mp ≤ j) := by obtain ⟨s, a, h, hn⟩ := H8.out; exact ⟨s, a, h.below hb9, hn⟩
          have HW9 := Lib.hid (HW8.out.trans (hb9.mono (by omega)))
          clear hb9
          go_wp2_with fail
          go_roundw
          case rel => (repeat apply Exists.intro); exact ⟨⟨k + 1, by have := hh1.out; omega, by go_num, H9, HW9⟩, rfl⟩
          case measure => simp [intOf]; have := hh1.out; omega
        · have k1 := HK1.out
          clear HK1
          rw [if_neg h1, if_neg h2] at k1
          subst k1
          have g5 : ((k : Int) == (NR : Int)) = false := by simp; omega
          have g6 : ((k : Int) == (NR : Int) + 8) = false := by simp; omega
          clear HKF
          go_wp2_with fail
          go_roundw
          case rel => exact ⟨k + 1, by omega, by go_num, H8, HW8⟩
          case measure => simp [intOf]; omega
      · obtain rfl : k = NR + 9 := by omega
        have t0 : wr.cell? ⟨p7, 0, none⟩ = some (.slice (some ad) (NR + 10) c3) := cell_of_heap (heap_below hbw Q5.out) 0 _ rfl
        have HRT : Hid (Row wr w2.heap.size 5 (some ad) c3 (bys ((WB av).take (NR + 9)))) := by
          have h := (HROW5.out.below hbw).take (NR + 9) (by rw [bys_length, HLEN.out]; omega)
          show Row _ _ _ _ _ _
          unfold bys at h ⊢
          rw [List.map_take]
          exact h
        have hlt : (bys ((WB av).take (NR + 9))).length = NR + 9 := by rw [bys_length, List.length_take, HLEN.out]; omega
        have hlt' : ((WB av).take (NR + 9)).length = NR + 9 := by rw [← bys_length]; exact hlt
        have hl1 : (bys l1).length = n1 := by rw [bys_length]; exact HN1.out
        have hb2r : Below w2.heap.size w2 wr := HB25.out.trans (HW.out.mono (by omega))
        have HBR := Lib.hid hb2r
        have HR1w := Lib.hid ((HR1.out.below HB02.out).below hb2r)
        have hw2r := hb2r.size
        obtain ⟨S, hS⟩ : ∃ S, scanM true ((WB av).take (NR + 9) ++ l1) = S := ⟨_, rfl⟩
        obtain ⟨k1, k2, k3⟩ := HKB.out av
        rw [hS] at k1 k2 k3
        have hbo : bitsOk ((WB av).take (NR + 9) ++ l1) = true := by
          refine bitsOk_app ?_ HB1.out (by rw [hlt', HN1.out]; omega)
          unfold bitsOk
          rw [Bool.and_eq_true, decide_eq_true_eq, decide_eq_true_eq, hlt']
          exact ⟨by omega, fun x hx => HBITS.out av hav x (List.mem_of_mem_take hx)⟩
        have HSC := Lib.hid (fun W A c hW => scan_bits W A c (NR + 9 + n1) ((WB av).take (NR + 9) ++ l1) true S hS hbo hW (by rw [List.length_append, hlt', HN1.out]) (by omega))
        rw [k1, k2, k3] at HSC
        dsimp only at HSC
        rw [HN.out] at HSC
        have HLT := Lib.hid hlt
        have HL1 := Lib.hid hl1
        clear k1 k2 k3 hS hbo hlt hlt' hl1 hb2r HM hbw
        go_wp2_with (first
          | (at_builtin; refine wpList_appB rfl (.tmp 115) (.tmp 116) 22 rfl w2.heap.size 5 i0 (.int .u8 0) 1 Tryz.underlying22 hi hi0 hi1 hi2 rfl (some ad) (NR + 9) c3 (bys ((WB av).take (NR + 9))) (by kernel_rfl) HLT.out HRT.out A1 n1 c1 (bys l1) (by kernel_rfl) HL1.out HR1w.out (bys_one _) HZ1.out (NR + 9 + n1) rfl (by unfold maxLen; omega) (by omega) (by omega) ?_; intro W9 A9 c9 HROW9 HB9)
          | fail)
        have hrd9 := HROW9.out.rd
        rw [← bys_append] at hrd9
        have HB29 := Lib.hid (HBR.out.trans HB9.out)
        refine (HSC.out _ _ _ hrd9).mono ?_
        rintro e w10 ⟨⟨A10, c10, rfl, hrow10⟩, hb10⟩
        have HRD10 := Lib.hid hrow10.rd
        have HB210 := Lib.hid (HB29.out.trans (hb10.mono (by have := HB29.out.size; omega)))
        clear hrow10 hb10 hrd9 HROW9 HB9 HB29 HRT HBR HR1w HSC
        go_upto_region 25 with (fail)
        obtain ⟨W11, hW11, q11, hb11⟩ : ∃ W11, w10.alloc (.cells #[.int .i64 2, .int .i64 0, .int .i64 fk, .int .u32 fi, .bool fe, .bool fr, .bool f4, .bool f5, .bool f6, .int .u8 f7, .int .u8 f8, .int .u32 f9, .slice A10 n c10] 30) = W11 ∧ W11.heap[w10.heap.size]? = some (.cells #[.int .i64 2, .int .i64 0, .int .i64 fk, .int .u32 fi, .bool fe, .bool fr, .bool f4, .bool f5, .bool f6, .int .u8 f7, .int .u8 f8, .int .u32 f9, .slice A10 n c10] 30 (0, 0)) ∧ Below w10.heap.size w10 W11 := ⟨_, rfl, heap_new_at rfl, below_alloc (Below.refl _ _) _⟩
        rw [hW11]
        have hb211 := HB210.out.trans (hb11.mono HB210.out.size)
        have HB211 := Lib.hid hb211
        have HR11 := Lib.hid (HRD10.out.below hb11)
        obtain ⟨z0, z1, z2, z3, z4, z5, z6, z7, z8, z9, z10, z11, z12⟩ := cells13 q11
        have Q011 := heap_belowG hb211 hp02 Q2.out
        obtain ⟨b0, b1, b2, b3, b4, b5, b6, b7, b8, b9, b10⟩ := cells11 Q011
        have HSM := Lib.hid (HSAME.out W11 A10 c10 HR11.out ((HR0.out.below HB02.out).below hb211))
        clear hW11 q11 hb11 hb211 HB210 HRD10 Q011
        generalize w10.heap.size = p11 at *
        go_wp2_with fail
        refine HSM.out.mono ?_
        rintro e w12 ⟨rfl, hb12⟩
        have HB12 := Lib.hid (below_trans (below_trans HB02.out HB211.out) hb12)
        clear hb12
        go_wp2_with fail
        go_ret
        exact ⟨by first | rfl | simp, HB12.out⟩
theorem scanFrames_walk (w : World) (f : Fr) (A0 A1 : Option Addr) (c0 n1 c1 : Nat) (l1 : List Nat) (ack : Bool) (hf : f.data.length ≤ 9223372036854775807) (hr0 : Rd w A0 (bys f.data)) (hfn : FrN f) (hr1 : Rd w A1 (bys l1)) (hn1 : l1.length = n1) (hz1 : A1 = none → c1 = 0) (hm1 : n1 ≤ 9223372036854775807) :
    Calls Tryz.prog 5 #[frv f (.slice A0 f.data.length c0), .bool ack, .slice A1 n1 c1] w fun e w' => e = .returned (.bool true) ∧ Below w.heap.size w w' := by
  cases h1 : okF f
  · exact scanFrames_triv w f A0 A1 c0 n1 c1 l1 ack hf hr1 hn1 hm1 (.inl h1)
  · by_cases h2 : f.data.length ≤ 300
    · by_cases h3 : n1 ≤ 100
      · cases h4 : bitsOk l1
        · exact scanFrames_triv w f A0 A1 c0 n1 c1 l1 ack hf hr1 hn1 hm1 (.inr (.inr (.inr ⟨h1, h2, h3, h4⟩)))
        · exact scanFrames_main w f A0 A1 c0 n1 c1 l1 ack hr0 hfn h1 h2 hr1 hn1 hz1 h3 h4
      · exact scanFrames_triv w f A0 A1 c0 n1 c1 l1 ack hf hr1 hn1 hm1 (.inr (.inr (.inl ⟨h1, h2, by omega⟩)))
    · exact scanFrames_triv w f A0 A1 c0 n1 c1 l1 ack hf hr1 hn1 hm1 (.inr (.inl ⟨h1, by omega⟩))
end Go.Proofs.YtlmdkmflbhnlgaaGreat
-- ScanOne: One turned bit: what a machine that is done has seen, and that two rows with good sums never differ in one bit (plain). No condition.
namespace Go.Proofs.YtlmdkmflbhnlgaaGreat
open Go.RowKit
/-! ### two rows that differ at one place -/
structure D1 (k : Nat) (l m : List Nat) : Prop where
  len : l.length = m.length
  lt : k < l.length
  ne : l[k]? ≠ m[k]?
  eq : ∀ j, j ≠ k → l[j]? = m[j]?
theorem D1.irr {k : Nat} {l : List Nat} (h : D1 k l l) : False := h.ne rfl
theorem D1.app {k : Nat} {a b a' b' : List Nat} (h : D1 k (a ++ b) (a' ++ b')) (hl : a.length = a'.length) : (k < a.length ∧ D1 k a a' ∧ b = b') ∨ (a.length ≤ k ∧ a = a' ∧ D1 (k - a.length) b b') := by
  have hlen := h.len
  have hlt := h.lt
  rw [List.length_append, List.length_append] at hlen
  rw [List.length_append] at hlt
  have hne := h.ne
  have heq := h.eq
  have left : ∀ j, j < a.length → (a ++ b)[j]? = a[j]? ∧ (a' ++ b')[j]? = a'[j]? := fun j hj => ⟨List.getElem?_append_left hj, List.getElem?_append_left (by omega)⟩
  have right : ∀ j, a.length ≤ j → (a ++ b)[j]? = b[j - a.length]? ∧ (a' ++ b')[j]? = b'[j - a.length]? := fun j hj => ⟨List.getElem?_append_right hj, by rw [List.getElem?_append_right (by omega), hl]⟩
  by_cases hk : k < a.length
  · left
    refine ⟨hk, ⟨hl, hk, ?_, fun j hj => ?_⟩, List.ext_getElem? fun j => ?_⟩
    · rw [(left k hk).1, (left k hk).2] at hne; exact hne
    · by_cases hja : j < a.length
      · have := heq j hj; rw [(left j hja).1, (left j hja).2] at this; exact this
      · rw [List.getElem?_eq_none (by omega), List.getElem?_eq_none (by omega)]
    · have := heq (a.length + j) (by omega)
      rw [(right _ (by omega)).1, (right _ (by omega)).2, Nat.add_sub_cancel_left] at this
      exact this
  · right
    refine ⟨by omega, List.ext_getElem? fun j => ?_, ⟨by omega, by omega, ?_, fun j hj => ?_⟩⟩
    · by_cases hja : j < a.length
      · have := heq j (by omega); rw [(left j hja).1, (left j hja).2] at this; exact this
      · rw [List.getElem?_eq_none (by omega), List.getElem?_eq_none (by omega)]
    · rw [(right k (by omega)).1, (right k (by omega)).2] at hne; exact hne
    · have := heq (a.length + j) (by omega)
      rw [(right _ (by omega)).1, (right _ (by omega)).2, Nat.add_sub_cancel_left] at this
      exact this
theorem D1.pre {k : Nat} {a b : List Nat} (p : List Nat) (h : D1 k a b) : D1 (p.length + k) (p ++ a) (p ++ b) := by
  refine ⟨by rw [List.length_append, List.length_append, h.len], by rw [List.length_append]; have := h.lt; omega, ?_, fun j hj => ?_⟩
  · rw [List.getElem?_append_right (by omega), List.getElem?_append_right (by omega), Nat.add_sub_cancel_left]
    exact h.ne
  · by_cases hp : j < p.length
    · rw [List.getElem?_append_left hp, List.getElem?_append_left hp]
    · rw [List.getElem?_append_right (by omega), List.getElem?_append_right (by omega)]
      exact h.eq _ (by omega)
theorem D1.cons {k x y : Nat} {a b : List Nat} (h : D1 k (x :: a) (y :: b)) : (k = 0 ∧ x ≠ y ∧ a = b) ∨ (1 ≤ k ∧ x = y ∧ D1 (k - 1) a b) := by
  rcases D1.app (a := [x]) (b := a) (a' := [y]) (b' := b) h rfl with ⟨h1, h2, h3⟩ | ⟨h1, h2, h3⟩
  · have hk : k = 0 := by simp at h1; exact h1
    subst hk
    exact .inl ⟨rfl, fun e => h2.ne (by rw [e]), h3⟩
  · exact .inr ⟨h1, by simpa using h2, h3⟩
/-! ### sums -/
theorem xor_zero_eq {a b : Nat} (h : a ^^^ b = 0) : a = b := by
  have e := congrArg (· ^^^ b) h
  simpa [Nat.xor_assoc] using e
theorem oneN_ne (size poly s t b : Nat) (h1 : 1 ≤ size) (hodd : poly % 2 = 1) (hb : b ≤ 1) (hs : s < 2 ^ size) (ht : t < 2 ^ size) (h : s ≠ t) : oneN size poly s b ≠ oneN size poly t b := by
  intro e
  have hx := oneN_xor size poly s t b b hb hb
  rw [e, Nat.xor_self, Nat.xor_self] at hx
  obtain ⟨u, hu⟩ : ∃ u, s ^^^ t = u := ⟨_, rfl⟩
  have hu0 : u ≠ 0 := by
    rintro rfl
    exact h (xor_zero_eq hu)
  have hlt : u < 2 ^ size := by rw [← hu]; exact Nat.xor_lt_two_pow hs ht
  rw [hu] at hx
  unfold oneN at hx
  obtain ⟨k, rfl⟩ : ∃ k, size = k + 1 := ⟨size - 1, by omega⟩
  rw [Nat.add_sub_cancel] at hx
  have hp : 2 ^ (k + 1) = 2 * 2 ^ k := by rw [Nat.pow_succ]; omega
  by_cases h0 : u / 2 ^ k % 2 = 0
  · rw [if_pos h0, Nat.xor_zero] at hx
    have hq : u / 2 ^ k < 2 := by rw [Nat.div_lt_iff_lt_mul (Nat.two_pow_pos k), ← hp]; exact hlt
    have hul : u < 2 ^ k := by
      have : u / 2 ^ k = 0 := (by omega : ∀ q : Nat, q < 2 → q % 2 = 0 → q = 0) _ hq h0
      rcases Nat.lt_or_ge u (2 ^ k) with h' | h'
      · exact h'
      · have := Nat.div_pos h' (Nat.two_pow_pos k); omega
    rw [Nat.mod_eq_of_lt (by omega)] at hx
    omega
  · rw [if_neg h0] at hx
    have h2 := xor_zero_eq hx
    have h3 : u * 2 % 2 ^ (k + 1) % 2 = 0 := by rw [hp, Nat.mod_mul_right_mod]; omega
    omega
theorem oneN_bits (size poly s x y : Nat) (_h1 : 1 ≤ size) (hodd : poly % 2 = 1) (hx : x ≤ 1) (hy : y ≤ 1) (h : x ≠ y) : oneN size poly s x ≠ oneN size poly s y := by
  intro e
  have hxr := oneN_xor size poly s s x y hx hy
  rw [e, Nat.xor_self, Nat.xor_self] at hxr
  have hxy : x ^^^ y = 1 := by
    rcases (by omega : (x = 0 ∧ y = 1) ∨ (x = 1 ∧ y = 0)) with ⟨rfl, rfl⟩ | ⟨rfl, rfl⟩ <;> rfl
  rw [hxy] at hxr
  unfold oneN at hxr
  simp only [Nat.zero_mul, Nat.zero_mod, Nat.zero_div] at hxr
  rw [if_neg (by omega), Nat.zero_xor] at hxr
  omega
theorem crcN_ne (size poly : Nat) (h1 : 1 ≤ size) (hodd : poly % 2 = 1) (hp : poly < 2 ^ size) : ∀ (l : List Nat) (s t : Nat), (∀ x ∈ l, x ≤ 1) → s < 2 ^ size → t < 2 ^ size → s ≠ t → crcN size poly s l ≠ crcN size poly t l
  | [], _, _, _, _, _, h => h
  | b :: l, s, t, h01, hs, ht, h => by
    rw [crcN_cons, crcN_cons]
    exact crcN_ne size poly h1 hodd hp l _ _ (fun x hx => h01 x (List.mem_cons_of_mem _ hx)) (oneN_lt size poly s b hp) (oneN_lt size poly t b hp) (oneN_ne size poly s t b h1 hodd (h01 b (List.mem_cons_self ..)) hs ht h)
theorem crcN_d1 (size poly : Nat) (h1 : 1 ≤ size) (hodd : poly % 2 = 1) (hp : poly < 2 ^ size) : ∀ (l m : List Nat) (k s : Nat), (∀ x ∈ l, x ≤ 1) → (∀ x ∈ m, x ≤ 1) → s < 2 ^ size → D1 k l m → crcN size poly s l ≠ crcN size poly s m
  | [], m, k, s, _, _, _, h => by have := h.lt; simp at this
  | x :: l, [], k, s, _, _, _, h => by have := h.len; simp at this
  | x :: l, y :: m, k, s, hl, hm, hs, h => by
    rw [crcN_cons, crcN_cons]
    rcases h.cons with ⟨-, hne, rfl⟩ | ⟨-, rfl, h3⟩
    · exact crcN_ne size poly h1 hodd hp l _ _ (fun x hx => hl x (List.mem_cons_of_mem _ hx)) (oneN_lt size poly s x hp) (oneN_lt size poly s y hp) (oneN_bits size poly s x y h1 hodd (hl x (List.mem_cons_self ..)) (hm y (List.mem_cons_self ..)) hne)
    · exact crcN_d1 size poly h1 hodd hp l m (k - 1) _ (fun x hx => hl x (List.mem_cons_of_mem _ hx)) (fun x hx => hm x (List.mem_cons_of_mem _ hx)) (oneN_lt size poly s x hp) h3
theorem numN_inj : ∀ (l m : List Nat), (∀ x ∈ l, x ≤ 1) → (∀ x ∈ m, x ≤ 1) → l.length = m.length → numN l = numN m → l = m
  | [], [], _, _, _, _ => rfl
  | [], y :: m, _, _, h, _ => by simp at h
  | x :: l, [], _, _, h, _ => by simp at h
  | x :: l, y :: m, hl, hm, h, e => by
    have hlen : l.length = m.length := by simpa using h
    rw [numN_cons, numN_cons, hlen] at e
    have h1 := numN_lt l (fun x hx => hl x (List.mem_cons_of_mem _ hx))
    have h2 := numN_lt m (fun x hx => hm x (List.mem_cons_of_mem _ hx))
    rw [hlen] at h1
    have hx := hl x (List.mem_cons_self ..)
    have hy := hm y (List.mem_cons_self ..)
    have hxy : x = y := by
      rcases (by omega : x = 0 ∨ x = 1) with rfl | rfl <;> rcases (by omega : y = 0 ∨ y = 1) with rfl | rfl
      · rfl
      · omega
      · omega
      · rfl
    subst hxy
    rw [numN_inj l m (fun x hx => hl x (List.mem_cons_of_mem _ hx)) (fun x hx => hm x (List.mem_cons_of_mem _ hx)) hlen (by omega)]
/-- Two rows whose sums fit never differ in one bit. -/
theorem fits_d1 (size poly start k : Nat) (l m : List Nat) (h1 : 1 ≤ size) (hodd : poly % 2 = 1) (hp : poly < 2 ^ size) (hs : start < 2 ^ size) (hl : ∀ x ∈ l, x ≤ 1) (hm : ∀ x ∈ m, x ≤ 1) (hd : D1 k l m) (f1 : fitsC size poly start l = true) (f2 : fitsC size poly start m = true) : False := by
  unfold fitsC at f1 f2
  rw [decide_eq_true_eq] at f1 f2
  have hlen := hd.len
  rw [← hlen] at f2
  have e := hd
  rw [← List.take_append_drop (l.length - size) l, ← List.take_append_drop (l.length - size) m] at e
  have hll : (l.take (l.length - size)).length = (m.take (l.length - size)).length := by rw [List.length_take, List.length_take, hlen]
  rcases e.app hll with ⟨-, h2, h3⟩ | ⟨-, h2, h3⟩
  · rw [h3, ← f2] at f1
    exact crcN_d1 size poly h1 hodd hp _ _ k start (fun x hx => hl x (List.mem_of_mem_take hx)) (fun x hx => hm x (List.mem_of_mem_take hx)) hs h2 f1
  · rw [h2, f2] at f1
    have := numN_inj _ _ (fun x hx => hm x (List.mem_of_mem_drop hx)) (fun x hx => hl x (List.mem_of_mem_drop hx)) (by rw [List.length_drop, List.length_drop, hlen]) f1
    rw [this] at h3
    exact h3.irr
/-! ### fixed stuffing -/
theorem fixE_eq (ev : Nat) : ∀ (l m : List Nat) (last last' left : Nat), l.length = m.length → fixE ev last left l = fixE ev last' left m → l = m
  | [], [], _, _, _, _, _ => rfl
  | [], y :: m, _, _, _, h, _ => by simp at h
  | x :: l, [], _, _, _, h, _ => by simp at h
  | x :: l, y :: m, last, last', left, h, e => by
    have hlen : l.length = m.length := by simpa using h
    unfold fixE at e
    by_cases h0 : left = 0
    · rw [if_pos h0, if_pos h0] at e
      simp only [List.cons.injEq] at e
      obtain ⟨-, rfl, e⟩ := e
      rw [fixE_eq ev l m x x (ev - 1) hlen e]
    · rw [if_neg h0, if_neg h0] at e
      simp only [List.cons.injEq] at e
      obtain ⟨rfl, e⟩ := e
      rw [fixE_eq ev l m x x (left - 1) hlen e]
theorem fixE_d1 (ev : Nat) : ∀ (l m : List Nat) (last left k : Nat), l.length = m.length → D1 k (fixE ev last left l) (fixE ev last left m) → ∃ j, D1 j l m
  | [], [], _, _, _, _, h => h.irr.elim
  | [], y :: m, _, _, _, h, _ => by simp at h
  | x :: l, [], _, _, _, h, _ => by simp at h
  | x :: l, y :: m, last, left, k, h, hd => by
    have hlen : l.length = m.length := by simpa using h
    have key : ∀ (le k' : Nat), D1 k' (x :: fixE ev x le l) (y :: fixE ev y le m) → ∃ j, D1 j (x :: l) (y :: m) := by
      intro le k' hd'
      rcases hd'.cons with ⟨-, hne, e⟩ | ⟨-, rfl, h3⟩
      · have := fixE_eq ev l m x y le hlen e
        subst this
        exact ⟨0, ⟨rfl, by simp, by simpa using hne, fun j hj => by obtain ⟨i, rfl⟩ : ∃ i, j = i + 1 := ⟨j - 1, by omega⟩; rfl⟩⟩
      · obtain ⟨j, hj⟩ := fixE_d1 ev l m x le _ hlen h3
        exact ⟨1 + j, hj.pre [x]⟩
    unfold fixE at hd
    by_cases h0 : left = 0
    · rw [if_pos h0, if_pos h0] at hd
      rcases hd.cons with ⟨-, hne, -⟩ | ⟨-, -, h3⟩
      · exact absurd rfl hne
      · exact key _ _ h3
    · rw [if_neg h0, if_neg h0] at hd
      exact key _ _ hd
/-- What was told without a fault was stuffed so. -/
theorem fgetE_ok (ev : Nat) (he : 1 ≤ ev) : ∀ (r : List Nat) (last left : Nat) (due : Bool) (out : List Nat), (fgetE ev last left due out r).1 = 0 → ∃ l, (fgetE ev last left due out r).2 = out ++ l ∧ r = fixE ev last left l ∧ (due = true → l ≠ [])
  | [], last, left, due, out, h => by
    cases due
    · exact ⟨[], by simp [fgetE], rfl, fun h => by cases h⟩
    · simp [fgetE] at h
  | b :: r, last, left, due, out, h => by
    unfold fgetE at h ⊢
    by_cases h0 : left = 0
    · subst h0
      rw [if_pos rfl] at h ⊢
      by_cases hb : 1 - last = b
      · rw [if_pos hb] at h ⊢
        obtain ⟨l, k1, k2, k3⟩ := fgetE_ok ev he r (1 - last) ev true out h
        refine ⟨l, k1, ?_, fun _ => k3 rfl⟩
        match l, k3 rfl with
        | x :: l', _ =>
          unfold fixE at k2 ⊢
          rw [if_neg (by omega)] at k2
          rw [if_pos rfl, k2, hb]
      · rw [if_neg hb] at h
        exact absurd h (by show ¬ (4 : Int) = 0; decide)
    · rw [if_neg h0] at h ⊢
      obtain ⟨l, k1, k2, k3⟩ := fgetE_ok ev he r b (left - 1) false (out ++ [b]) h
      refine ⟨b :: l, by rw [k1, List.append_assoc]; rfl, ?_, fun _ => by simp⟩
      unfold fixE
      rw [if_neg h0, ← k2]
theorem fgetN_ok (ev : Nat) (he : 1 ≤ ev) (ah : Bool) (prev : Nat) (r : List Nat) (h : (fgetN ev ah prev r).1 = 0) : r = fixN ev ah prev (fgetN ev ah prev r).2 := by
  obtain ⟨l, k1, k2, -⟩ := fgetE_ok ev he r prev (if ah then 0 else ev) false [] h
  unfold fgetN fixN
  rw [k1, List.nil_append]
  exact k2
/-! ### a machine that is done -/
theorem not_bad {S : MS} {X : List Nat} {b : Nat} (hd : ((b :: X).foldl seeM S).kind = 2) : (seeM S b).kind ≤ 2 := by
  rw [List.foldl_cons] at hd
  rcases Nat.lt_or_ge (seeM S b).kind 2 with h | h
  · omega
  · rw [(foldM_stays X h).1] at hd; omega
theorem mark_inv {S : MS} {l : List Nat} {x : Aft} (hs : S.step = .mark l x) (hk : S.kind < 2) (X : List Nat) (hd : (X.foldl seeM S).kind = 2) :
    ∃ X', X = l.getD S.at_ 0 :: X' ∧ (X'.foldl seeM (if S.at_ + 1 = l.length then aftM { S with seen := S.seen + 1, at_ := S.at_ + 1 } x else { S with seen := S.seen + 1, at_ := S.at_ + 1 })).kind = 2 := by
  cases X with
  | nil => rw [List.foldl_nil] at hd; omega
  | cons b X =>
    by_cases hb : b = l.getD S.at_ 0
    · refine ⟨X, by rw [hb], ?_⟩
      rw [List.foldl_cons, mark_bit S l x b hs hk hb] at hd
      exact hd
    · have h := not_bad hd
      unfold seeM at h
      rw [if_pos hk, stepM_mark (S := { S with seen := S.seen + 1 }) hs] at h
      unfold markStepM at h
      rw [if_neg hb] at h
      have : (3 : Nat) ≤ 2 := h
      omega
theorem mark4_inv {S : MS} {a b c d : Nat} {x : Aft} (hs : S.step = .mark [a, b, c, d] x) (hk : S.kind < 2) (h0 : S.at_ = 0) (X : List Nat) (hd : (X.foldl seeM S).kind = 2) :
    ∃ X', X = [a, b, c, d] ++ X' ∧ (X'.foldl seeM (aftM { S with seen := S.seen + 4, at_ := 4 } x)).kind = 2 := by
  obtain ⟨X1, rfl, h1⟩ := mark_inv hs hk X hd
  rw [h0] at h1
  rw [if_neg (by show ¬ 0 + 1 = 4; omega)] at h1
  obtain ⟨X2, rfl, h2⟩ := mark_inv (S := { S with seen := S.seen + 1, at_ := 0 + 1 }) hs hk X1 h1
  rw [if_neg (by show ¬ 0 + 1 + 1 = 4; omega)] at h2
  obtain ⟨X3, rfl, h3⟩ := mark_inv (S := { S with seen := S.seen + 1 + 1, at_ := 0 + 1 + 1 }) hs hk X2 h2
  rw [if_neg (by show ¬ 0 + 1 + 1 + 1 = 4; omega)] at h3
  obtain ⟨X4, rfl, h4⟩ := mark_inv (S := { S with seen := S.seen + 1 + 1 + 1, at_ := 0 + 1 + 1 + 1 }) hs hk X3 h3
  rw [if_pos (by rfl)] at h4
  exact ⟨X4, by rw [h0]; rfl, h4⟩
theorem part_inv (prev ev size : Nat) (ah : Bool) (d : Do) : ∀ (X : List Nat) (S : MS), S.step = .part prev ev ah size d → S.kind < 2 → S.own.length < size → (X.foldl seeM S).kind = 2 →
    ∃ X1 X2, X = X1 ++ X2 ∧ S.own.length + X1.length = size ∧ (fgetN ev ah prev (S.own ++ X1)).1 ≠ 4 ∧ (X2.foldl seeM (doM { S with seen := S.seen + X1.length, own := S.own ++ X1 } d (fgetN ev ah prev (S.own ++ X1)).2)).kind = 2
  | [], S, _, hk, _, hd => by rw [List.foldl_nil] at hd; omega
  | b :: X, S, hs, hk, ho, hd => by
    by_cases h4 : (fgetN ev ah prev (S.own ++ [b])).1 = 4
    · have h := not_bad hd
      unfold seeM at h
      rw [if_pos hk, stepM_part (S := { S with seen := S.seen + 1 }) hs] at h
      unfold partStepM at h
      dsimp only at h
      rw [if_pos h4] at h
      have : (3 : Nat) ≤ 2 := h
      omega
    · rw [List.foldl_cons, part_bit S prev ev size ah d b hs hk h4] at hd
      by_cases hz : S.own.length + 1 = size
      · rw [if_pos hz] at hd
        exact ⟨[b], X, rfl, hz, h4, hd⟩
      · rw [if_neg hz] at hd
        obtain ⟨X1, X2, e1, e2, e3, e4⟩ := part_inv prev ev size ah d X { S with seen := S.seen + 1, own := S.own ++ [b] } hs hk (by show (S.own ++ [b]).length < size; rw [List.length_append]; show _ + 1 < _; omega) hd
        have eo : S.own ++ [b] ++ X1 = S.own ++ b :: X1 := by rw [List.append_assoc]; rfl
        have es : S.seen + 1 + X1.length = S.seen + (b :: X1).length := by rw [List.length_cons]; omega
        refine ⟨b :: X1, X2, by rw [e1]; rfl, ?_, ?_, ?_⟩
        · have : (S.own ++ [b]).length + X1.length = size := e2
          rw [List.length_append] at this
          rw [List.length_cons]
          simp at this
          omega
        · rw [← eo]; exact e3
        · rw [← eo, ← es]; exact e4
theorem last_inv : ∀ (X : List Nat) (S : MS), S.step = .last → S.kind < 2 → S.at_ < 9 → (∀ x ∈ X, x ≤ 1) → (X.foldl seeM S).kind = 2 →
    (∀ j, S.at_ + j < 9 → S.at_ + j ≠ 1 → X[j]? = some 1) ∧ (S.at_ ≤ 2 → S.fits = true)
  | [], S, _, hk, _, _, hd => by rw [List.foldl_nil] at hd; omega
  | b :: X, S, hs, hk, ha, h01, hd => by
    have hnb := not_bad hd
    have hb := h01 b (List.mem_cons_self ..)
    have hsee : seeM S b = lastM { S with seen := S.seen + 1 } b := by
      unfold seeM
      rw [if_pos hk]
      unfold stepM
      show (match S.step with | .dynamic => _ | .part p e a n d => _ | .mark l x => _ | .last => _) = _
      rw [hs]
    rw [List.foldl_cons] at hd
    rw [hsee] at hd hnb
    unfold lastM at hd hnb
    dsimp only at hd hnb
    by_cases h1 : S.at_ = 2 ∧ S.fits = false
    · rw [if_pos h1] at hnb
      have : (3 : Nat) ≤ 2 := hnb
      omega
    rw [if_neg h1] at hd hnb
    by_cases h2 : S.at_ ≠ 1 ∧ b = 0
    · rw [if_pos h2] at hnb
      have : (3 : Nat) ≤ 2 := hnb
      omega
    rw [if_neg h2] at hd
    have hb1 : S.at_ ≠ 1 → b = 1 := fun h => by
      rcases (by omega : b = 0 ∨ b = 1) with h0 | h0
      · exact absurd ⟨h, h0⟩ h2
      · exact h0
    have hX := fun x hx => h01 x (List.mem_cons_of_mem b hx)
    have fin : S.at_ + 1 < 9 → (∀ S' : MS, (X.foldl seeM S').kind = 2 → S'.step = .last → S'.kind < 2 → S'.at_ = S.at_ + 1 → S'.fits = S.fits → (∀ j, S.at_ + j < 9 → S.at_ + j ≠ 1 → (b :: X)[j]? = some 1) ∧ (S.at_ ≤ 2 → S.fits = true)) := by
      intro h9 S' k5 k1 k2 k3 k4
      obtain ⟨r1, r2⟩ := last_inv X S' k1 k2 (by omega) hX k5
      refine ⟨fun j hj hj1 => ?_, fun hle => ?_⟩
      · cases j with
        | zero => simp; exact hb1 hj1
        | succ i => simp only [List.getElem?_cons_succ]; exact r1 i (by omega) (by omega)
      · rcases Nat.lt_or_ge S.at_ 2 with h | h
        · rw [← k4]; exact r2 (by omega)
        · have e2 : S.at_ = 2 := by omega
          cases hf : S.fits
          · exact absurd ⟨e2, hf⟩ h1
          · rfl
    by_cases h3 : S.at_ = 0 ∧ S.fits = true
    · rw [if_pos h3] at hd
      exact fin (by omega) _ hd hs (by show 1 < 2; omega) rfl rfl
    rw [if_neg h3] at hd
    by_cases h5 : S.at_ + 1 = 9
    · refine ⟨fun j hj hj1 => ?_, fun hle => by omega⟩
      have : j = 0 := by omega
      subst this
      simp
      exact hb1 (by omega)
    rw [if_neg h5] at hd
    exact fin (by omega) _ hd hs (by show 0 < 2; omega) rfl rfl
/-- A part that is there, whole. -/
theorem part_whole (prev ev size : Nat) (ah : Bool) (d : Do) (he : 1 ≤ ev) (X : List Nat) (hf : DoFits ev ah size d) (hl : X.length = size) (h4 : (fgetN ev ah prev X).1 ≠ 4) : X = fixN ev ah prev (fgetN ev ah prev X).2 ∧ (fgetN ev ah prev X).2.length = doN d := by
  obtain ⟨h1, h2⟩ := fget_full ev prev size ah d X hf hl h4
  exact ⟨fgetN_ok ev he ah prev X h1, h2⟩
theorem fitsK_d1 (kd k : Nat) (hkd : kd = 2 ∨ kd = 3) (l m : List Nat) (hl : ∀ x ∈ l, x ≤ 1) (hm : ∀ x ∈ m, x ≤ 1) (hd : D1 k l m) (f1 : fitsK kd l = true) (f2 : fitsK kd m = true) : False := by
  unfold fitsK at f1 f2
  rcases hkd with rfl | rfl
  · rw [if_pos rfl] at f1 f2
    exact fits_d1 17 92251 65536 k l m (by omega) (by decide) (by decide) (by decide) hl hm hd f1 f2
  · rw [if_neg (by decide)] at f1 f2
    exact fits_d1 21 1058969 1048576 k l m (by omega) (by decide) (by decide) (by decide) hl hm hd f1 f2
/-! ### frames -/
/-- One of the last bits is turned. -/
theorem turn_last (R T : List Nat) (S : MS) (hS : scanM true R = endM S) (hk : S.kind = 0) (hT : ∀ x ∈ T, x ≤ 1) (j : Nat) (hj : j < 9) (hj1 : j ≠ 1) (hd : D1 j [1, 1, 1, 1, 1, 1, 1, 1, 1, 1] T) : (scanM true (R ++ T)).kind ≠ 2 := by
  intro h
  rw [scanM_app, hS] at h
  obtain ⟨h1, -⟩ := last_inv T (endM S) rfl (by show S.kind < 2; omega) (by show 0 < 9; omega) hT h
  have e := h1 j (by show 0 + j < 9; omega) (by show 0 + j ≠ 1; omega)
  apply hd.ne
  rw [e]
  rcases (by omega : j = 0 ∨ j = 2 ∨ j = 3 ∨ j = 4 ∨ j = 5 ∨ j = 6 ∨ j = 7 ∨ j = 8) with rfl | rfl | rfl | rfl | rfl | rfl | rfl | rfl <;> rfl
/-- One bit of an FD frame's fixed part is turned. -/
theorem turn_d (f : Fr) (hk : f.kind = 2) (hok : okF f = true) (hf : FrN f) (raw : List Nat) (hb : ∀ x ∈ raw, x ≤ 1) (k : Nat) (hd : D1 k (wireB f 1) raw) (h0 : (raw0D f).length ≤ k) (h1 : k < (rawD f).length) : (scanM true raw).kind ≠ 2 := by
  intro h
  have hlim := okF_lim f hok
  have hext := ((okF_iff f).1 hok).ext (by omega)
  unfold limF at hlim
  rw [hext] at hlim
  simp only [Bool.false_eq_true, if_false] at hlim
  have hcode := code_of hok
  rw [hk] at hcode
  obtain ⟨c1, c2⟩ := code_fd f.data.length hcode
  have hcd : codeD f = ((codeF 2 f.data.length).getD 0).toNat := by unfold codeD; rw [hk]
  rw [← hcd] at c1 c2
  have hid0 := hf.id0
  obtain ⟨nx, hdec⟩ := dec_fd true f (by omega) c1 c2 hf.data
  obtain ⟨n, hnn⟩ : ∃ n, f.data.length = n := ⟨_, rfl⟩
  have hw : wireB f 1 = raw0D f ++ (closeD (raw0D f) ((raw0D f).length - (bodyD f).length) n ++ [1, 1, 1, 1, 1, 1, 1, 1, 1, 1]) := by
    unfold wireB rawA
    rw [if_pos hk]
    unfold rawD
    rw [hnn, List.append_assoc]
  have hR0 : stuffN (bodyD f) = raw0D f := rfl
  have hb0 := raw0D_bits f
  have hlr : (rawD f).length = (raw0D f).length + (closeD (raw0D f) ((raw0D f).length - (bodyD f).length) n).length := by unfold rawD; rw [hnn, List.length_append]
  have hlen := hd.len
  rw [hw] at hd hlen
  rw [hR0, hnn] at hdec
  obtain ⟨kd, hkd⟩ : ∃ kd, (if 16 < n then 3 else 2) = kd := ⟨_, rfl⟩
  have hkd2 : kd = 2 ∨ kd = 3 := by rw [← hkd]; split <;> omega
  rw [hkd] at hdec
  have hks : kSize kd = sizeS n := by rw [← hkd]; exact kSize_size n
  generalize hst : (raw0D f).length - (bodyD f).length = st at *
  have hfk : fitsK kd (raw0D f ++ sealD (raw0D f) st n) = true := by rw [← hkd]; exact fitsK_seal n _ st
  have hcl : closeD (raw0D f) st n = fixN 4 true (lastN (raw0D f)) (sealD (raw0D f) st n) := rfl
  have hsl := sealD_length (raw0D f) st n
  have hsb := sealD_bits (raw0D f) st n
  have hclen := closeD_length (raw0D f) st n
  rw [← List.take_append_drop (raw0D f).length raw] at hd h
  have htl : (raw0D f).length = (raw.take (raw0D f).length).length := by rw [List.length_take]; rw [List.length_append] at hlen; omega
  have hYb : ∀ x ∈ raw.drop (raw0D f).length, x ≤ 1 := fun x hx => hb x (List.mem_of_mem_drop hx)
  generalize raw.drop (raw0D f).length = Y at *
  generalize raw.take (raw0D f).length = P at *
  rcases hd.app htl with ⟨h2, -, -⟩ | ⟨-, rfl, hdY⟩
  · omega
  rw [scanM_app, hdec] at h
  have hown : partM { dynS true (bodyD f) (22 + 8 * n) nx { zFr with kind := 2, id := (f.id.toNat : Int), brs := f.brs, esi := f.esi, data := f.data } with next := nx } 4 true (4 + kSize kd) (.fd kd) =
      { dynS true (bodyD f) (22 + 8 * n) nx { zFr with kind := 2, id := (f.id.toNat : Int), brs := f.brs, esi := f.esi, data := f.data } with step := .part (lastN (raw0D f)) 4 true (fsize (4 + kSize kd) 4 true) (.fd kd) } := by
    unfold partM
    show ({ dynS true (bodyD f) (22 + 8 * n) nx _ with step := .part (if true = true then (stuffN (bodyD f)).getD ((stuffN (bodyD f)).length - 1) 0 else 1) 4 true _ _ } : MS) = _
    rw [if_pos rfl, lastN_getD, hR0]
    rfl
  rw [hown] at h
  have hfs : fsize (4 + kSize kd) 4 true = (closeD (raw0D f) st n).length := by
    unfold fsize
    rw [if_neg (by omega), if_pos rfl, hclen, hks]
    omega
  obtain ⟨X1, X2, e1, e2, e3, e4⟩ := part_inv (lastN (raw0D f)) 4 (fsize (4 + kSize kd) 4 true) true (.fd kd) Y _ rfl (by show 0 < 2; omega) (by show 0 < _; rw [hfs, hclen]; omega) h
  have e2' : X1.length = fsize (4 + kSize kd) 4 true := by have : 0 + X1.length = _ := e2; omega
  obtain ⟨w1, w2⟩ := part_whole (lastN (raw0D f)) 4 _ true (.fd kd) (by omega) X1 ⟨hkd2, rfl, rfl, rfl⟩ e2' e3
  obtain ⟨-, hfit⟩ := last_inv X2 _ rfl (by show 0 < 2; omega) (by show 0 < 9; omega) (fun x hx => hYb x (by rw [e1]; exact List.mem_append_right _ hx)) e4
  have hfit2 : (tellsM (stuffN (bodyD f)) ((fgetN 4 true (lastN (raw0D f)) X1).2.take 4) && fitsK kd (stuffN (bodyD f) ++ (fgetN 4 true (lastN (raw0D f)) X1).2)) = true := hfit (by show 0 ≤ 2; omega)
  rw [Bool.and_eq_true, hR0] at hfit2
  have hXb : ∀ x ∈ (fgetN 4 true (lastN (raw0D f)) X1).2, x ≤ 1 := fgetE_bits 4 X1 _ _ _ _ (fun x hx => hYb x (by rw [e1]; exact List.mem_append_left _ hx)) (by intro x hx; cases hx)
  generalize (fgetN 4 true (lastN (raw0D f)) X1).2 = L' at *
  rw [e1] at hdY
  rcases hdY.app (by rw [e2', hfs]) with ⟨-, hdX, -⟩ | ⟨h2, -, -⟩
  · rw [hcl, w1] at hdX
    obtain ⟨j, hj⟩ := fixE_d1 4 _ _ _ _ _ (by rw [hsl, w2]; show _ = 4 + kSize kd; rw [hks]) hdX
    refine fitsK_d1 kd _ hkd2 _ _ (fun x hx => ?_) (fun x hx => ?_) (hj.pre (raw0D f)) hfk hfit2.2
    · exact (List.mem_append.1 hx).elim (hb0 x) (hsb x)
    · exact (List.mem_append.1 hx).elim (hb0 x) (hXb x)
  · omega
theorem fix_take (ev : Nat) (prev k : Nat) (l : List Nat) : ∃ q, fixN ev false prev l = fixN ev false prev (l.take k) ++ q := by
  have h := List.take_append_drop k l
  obtain ⟨q, hq⟩ := fixE_append ev (l.take k) (l.drop k) prev ev
  rw [h] at hq
  exact ⟨q, hq⟩
/-- One bit of an XL frame behind what arbitrates, ahead of its delimiter, is turned. -/
theorem turn_x (f : Fr) (hk : f.kind = 3) (hok : okF f = true) (hf : FrN f) (raw : List Nat) (hb : ∀ x ∈ raw, x ≤ 1) (k : Nat) (hd : D1 k (wireB f 1) raw) (h0 : (stuffN (headX f)).length ≤ k) (h1 : k < (rawX f).length) : (scanM true raw).kind ≠ 2 := by
  intro h
  obtain ⟨hid, -⟩ := okX f hk hok
  have hid0 := hf.id0
  have hcode := code_of hok
  rw [hk] at hcode
  obtain ⟨c1, c2⟩ := code_xl f.data.length hcode
  have hcd : codeX f = ((codeF 3 f.data.length).getD 0).toNat := by unfold codeX; rw [hk]
  rw [← hcd] at c1 c2
  obtain ⟨n, hnn⟩ : ∃ n, f.data.length = n := ⟨_, rfl⟩
  have hsdt := hf.sdt
  have hvcid := hf.vcid
  have haf := hf.af
  obtain ⟨x1, -, -, -, -, -, -, x8⟩ := xl_fields f n hnn c1 (by omega) (by omega) (by omega) hf.data
  rw [hnn] at c2
  obtain ⟨F0, -, -, -, hS0⟩ := head_xl f (by omega)
  have hw : wireB f 1 = stuffN (headX f) ++ ([1, 0, 0, 1] ++ (fixN 8 false 1 (bodyX f) ++ ([0, 1, 1, 0] ++ [1, 1, 1, 1, 1, 1, 1, 1, 1, 1]))) := by
    unfold wireB rawA
    rw [if_neg (by omega), if_pos hk]
    unfold rawX
    simp only [List.append_assoc]
  have hlr : (rawX f).length = (stuffN (headX f)).length + (4 + ((fixN 8 false 1 (bodyX f)).length + 4)) := by
    unfold rawX
    rw [List.length_append, List.length_append, List.length_append]
    show _ + 4 + _ + 4 = _
    omega
  have hf1 : fitsC 13 6631 1 (headX f ++ part2X f) = true := by
    have e := crcN_fits 13 6631 1 (headX f ++ part1X f) (crcN_lt 13 6631 _ (by decide) 1 (by decide))
    unfold addN at e
    rw [List.append_assoc] at e
    exact e
  have hf2 : fitsC 32 4104977171 1 (bodyX f) = true := crcN_fits 32 4104977171 1 (part3X f) (crcN_lt 32 4104977171 _ (by decide) 1 (by decide))
  rw [← x8] at hf1
  have hBl : (bodyX f).length = 109 + 8 * n := by rw [bodyX_length, hnn]
  have hBb := bodyX_bits f
  have hHb := headX_bits f
  have hlen := hd.len
  rw [hw] at hd hlen
  rw [hlr] at h1
  rw [← List.take_append_drop (stuffN (headX f)).length raw] at hd h
  have htl : (stuffN (headX f)).length = (raw.take (stuffN (headX f)).length).length := by rw [List.length_take]; rw [List.length_append] at hlen; omega
  have hYb : ∀ x ∈ raw.drop (stuffN (headX f)).length, x ≤ 1 := fun x hx => hb x (List.mem_of_mem_drop hx)
  generalize raw.drop (stuffN (headX f)).length = Y at *
  generalize raw.take (stuffN (headX f)).length = P at *
  rcases hd.app htl with ⟨h2, -, -⟩ | ⟨-, rfl, hdY⟩
  · omega
  rw [scanM_app, hS0] at h
  clear hS0 hd htl hlen hb hw hlr x8
  generalize headX f = H at *
  generalize bodyX f = B at *
  obtain ⟨k', hk'⟩ : ∃ k', k - (stuffN H).length = k' := ⟨_, rfl⟩
  rw [hk'] at hdY
  obtain ⟨Y1, rfl, g1⟩ := mark4_inv (S := markM (dynS true H 17 .xlHead { F0 with kind := 3 }) [1, 0, 0, 1] .xlCode) rfl (by show 0 < 2; omega) rfl Y h
  rcases hdY.app rfl with ⟨-, h2, -⟩ | ⟨h4, -, hd1⟩
  · exact h2.irr
  have h4' : 4 ≤ k' := h4
  have hk4 : k' - [1, 0, 0, 1].length = k' - 4 := rfl
  rw [hk4] at hd1
  obtain ⟨S1, hS1⟩ : ∃ S1 : MS, S1 = aftM { markM (dynS true H 17 .xlHead { F0 with kind := 3 }) [1, 0, 0, 1] .xlCode with seen := (markM (dynS true H 17 .xlHead { F0 with kind := 3 }) [1, 0, 0, 1] .xlCode).seen + 4, at_ := 4 } .xlCode := ⟨_, rfl⟩
  rw [← hS1] at g1
  have a1 : S1.step = .part 1 8 false 22 .xl1 ∧ S1.kind = 0 ∧ S1.own = [] ∧ S1.l = H := by rw [hS1]; exact ⟨rfl, rfl, rfl, rfl⟩
  obtain ⟨a2, a3, a4, a5⟩ := a1
  clear hS1
  obtain ⟨X1, Y2, e1, e2, e3, g2⟩ := part_inv 1 8 22 false .xl1 Y1 S1 a2 (by omega) (by rw [a4]; show 0 < 22; omega) g1
  rw [a4, List.nil_append] at e3 g2
  rw [a4] at e2
  have e2' : X1.length = 22 := by have : 0 + X1.length = 22 := e2; omega
  obtain ⟨w1, w2⟩ := part_whole 1 8 22 false .xl1 (by omega) X1 ⟨rfl, rfl, rfl⟩ e2' e3
  have hX1b : ∀ x ∈ (fgetN 8 false 1 X1).2, x ≤ 1 := fgetE_bits 8 X1 _ _ _ _ (fun x hx => hYb x (by rw [e1]; exact List.mem_append_right _ (List.mem_append_left _ hx))) (by intro x hx; cases hx)
  generalize (fgetN 8 false 1 X1).2 = L1 at *
  have w2' : L1.length = 20 := w2
  obtain ⟨z, hz⟩ : ∃ z, numN (L1.drop 9) + 1 = z := ⟨_, rfl⟩
  have hz1 : 1 ≤ z ∧ z ≤ 2048 := by
    have := numN_lt (L1.drop 9) (fun x hx => hX1b x (List.mem_of_mem_drop hx))
    rw [List.length_drop, w2'] at this
    have e : (2 : Nat) ^ (20 - 9) = 2048 := rfl
    omega
  obtain ⟨S2, hS2⟩ : ∃ S2 : MS, S2 = doM { S1 with seen := S1.seen + X1.length, own := X1 } .xl1 L1 := ⟨_, rfl⟩
  rw [← hS2] at g2
  have b1 : S2.step = .part 1 8 false (fsize (109 + 8 * z) 8 false) (.xl2 z) ∧ S2.kind = 0 ∧ S2.own = X1 ∧ S2.l = H := by
    have e : S2 = partM { S1 with seen := S1.seen + X1.length, own := X1 } 8 false (109 + 8 * (numN (L1.drop 9) + 1)) (.xl2 (numN (L1.drop 9) + 1)) := hS2
    rw [hz] at e
    rw [e]
    exact ⟨rfl, a3, rfl, a5⟩
  obtain ⟨b2, b3, b4, b5⟩ := b1
  clear hS2
  have hfz : fsize (109 + 8 * z) 8 false = 122 + 9 * z := by unfold fsize; rw [if_neg (by omega), if_neg (by simp)]; omega
  obtain ⟨X2, Y3, e4, e5, e6, g3⟩ := part_inv 1 8 _ false (.xl2 z) Y2 S2 b2 (by omega) (by rw [b4, e2', hfz]; omega) g2
  rw [b4] at e5 e6 g3
  obtain ⟨w3, w4⟩ := part_whole 1 8 _ false (.xl2 z) (by omega) (X1 ++ X2) ⟨hz1.1, hz1.2, rfl, rfl, rfl⟩ (by rw [List.length_append]; exact e5) e6
  have hX2b : ∀ x ∈ (fgetN 8 false 1 (X1 ++ X2)).2, x ≤ 1 := fgetE_bits 8 (X1 ++ X2) _ _ _ _ (fun x hx => hYb x (by rw [e1, e4, ← List.append_assoc X1]; exact List.mem_append_right _ (List.mem_append_left _ hx))) (by intro x hx; cases hx)
  generalize (fgetN 8 false 1 (X1 ++ X2)).2 = L at *
  have w4' : L.length = 109 + 8 * z := w4
  -- the first twenty
  have hL1 : L1 = L.take 20 := by
    obtain ⟨q, hq⟩ := fix_take 8 1 20 L
    rw [← w3] at hq
    have hl20 : (fixN 8 false 1 (L.take 20)).length = 22 := by
      rw [fixN_length 8 false _ _ (by decide), List.length_take, w4', Nat.min_eq_left (by omega)]
      rfl
    have he : X1 = fixN 8 false 1 (L.take 20) := by
      have := congrArg (List.take 22) hq
      rw [List.take_append_of_le_length (by omega), List.take_append_of_le_length (by omega), List.take_of_length_le (by omega), List.take_of_length_le (by omega)] at this
      exact this
    have h2 := fgetN_fixN 8 (by omega) false 1 L1
    have h3 := fgetN_fixN 8 (by omega) false 1 (L.take 20)
    rw [← he, w1, h2] at h3
    exact congrArg Prod.snd h3
  obtain ⟨S3, hS3⟩ : ∃ S3 : MS, S3 = doM { S2 with seen := S2.seen + X2.length, own := X1 ++ X2 } (.xl2 z) L := ⟨_, rfl⟩
  rw [← hS3] at g3
  have cc : S3.step = .mark [0, 1, 1, 0] .fin ∧ S3.kind = 0 ∧ S3.at_ = 0 ∧ (S3.fits = true → fitsC 13 6631 1 (H ++ L.take 37) = true ∧ fitsC 32 4104977171 1 L = true) := by
    have e : S3 = markM (xlDataM { S2 with seen := S2.seen + X2.length, own := X1 ++ X2 } L z) [0, 1, 1, 0] .fin := hS3
    rw [e]
    refine ⟨rfl, b3, rfl, fun hfits => ?_⟩
    have hfits2 : (tellsM S2.raw ((L.take 24).drop 20) && fitsC 13 6631 1 (S2.l ++ L.take 37) && fitsC 32 4104977171 1 L) = true := hfits
    rw [Bool.and_eq_true, Bool.and_eq_true, b5] at hfits2
    exact ⟨hfits2.1.2, hfits2.2⟩
  obtain ⟨c3, c4, c5, c6⟩ := cc
  clear hS3
  obtain ⟨Y4, e7, g4⟩ := mark4_inv c3 (by omega) c5 Y3 g3
  obtain ⟨-, hfit⟩ := last_inv Y4 _ rfl (by show S3.kind < 2; omega) (by show 0 < 9; omega) (fun x hx => hYb x (by rw [e1, e4, e7]; exact List.mem_append_right _ (List.mem_append_right _ (List.mem_append_right _ (List.mem_append_right _ hx))))) g4
  obtain ⟨q1, q2⟩ := c6 (hfit (by show 0 ≤ 2; omega))
  have hY1 : Y1 = fixN 8 false 1 L ++ ([0, 1, 1, 0] ++ Y4) := by rw [e1, e4, e7, ← w3, List.append_assoc]
  rw [hY1] at hd1
  clear g1 g2 g3 g4 e1 e2 e3 e4 e5 e6 e7 hY1 hfit c3 c4 c5 c6 b2 b3 b4 b5 a2 a3 a4 a5 w1 w2 w3 w4 h
  -- the first thirty-seven
  obtain ⟨r, hr⟩ := fix_take 8 1 37 B
  obtain ⟨r', hr'⟩ := fix_take 8 1 37 L
  have l37 : (fixN 8 false 1 (B.take 37)).length = 41 := by
    rw [fixN_length 8 false _ _ (by decide), List.length_take, hBl, Nat.min_eq_left (by omega)]
    rfl
  have l37' : (fixN 8 false 1 (L.take 37)).length = 41 := by
    rw [fixN_length 8 false _ _ (by decide), List.length_take, w4', Nat.min_eq_left (by omega)]
    rfl
  have hd2 := hd1
  rw [hr, hr', List.append_assoc, List.append_assoc] at hd2
  have tb : (B.take 37).length = (L.take 37).length := by rw [List.length_take, List.length_take, hBl, w4', Nat.min_eq_left (by omega), Nat.min_eq_left (by omega)]
  rcases hd2.app (by rw [l37, l37']) with ⟨-, h2, -⟩ | ⟨-, h2, -⟩
  · obtain ⟨j, hj⟩ := fixE_d1 8 _ _ _ _ _ tb h2
    refine fits_d1 13 6631 1 _ _ _ (by omega) (by decide) (by decide) (by decide) (fun x hx => ?_) (fun x hx => ?_) (hj.pre H) hf1 q1
    · exact (List.mem_append.1 hx).elim (hHb x) (fun hx => hBb x (List.mem_of_mem_take hx))
    · exact (List.mem_append.1 hx).elim (hHb x) (fun hx => hX2b x (List.mem_of_mem_take hx))
  · have e37 : B.take 37 = L.take 37 := fixE_eq 8 _ _ 1 1 8 tb h2
    have e20 : B.take 20 = L.take 20 := by
      have := congrArg (List.take 20) e37
      rw [List.take_take, List.take_take] at this
      exact this
    have hzn : z = n := by rw [← hz, hL1, ← e20, x1]; exact c2
    subst hzn
    have tl : B.length = L.length := by rw [hBl, w4']
    rcases hd1.app (by rw [fixN_length 8 false _ _ (by decide), fixN_length 8 false _ _ (by decide), tl]) with ⟨-, h3, -⟩ | ⟨h5, -, h3⟩
    · obtain ⟨j, hj⟩ := fixE_d1 8 _ _ _ _ _ tl h3
      exact fits_d1 32 4104977171 1 j B L (by omega) (by decide) (by decide) (by decide) hBb hX2b hj hf2 q2
    · rcases h3.app rfl with ⟨-, h6, -⟩ | ⟨h6, -, -⟩
      · exact h6.irr
      · have h6' : 4 ≤ k' - 4 - (fixN 8 false 1 B).length := h6
        omega
end Go.Proofs.YtlmdkmflbhnlgaaGreat
-- LawScanTurns: The law ScanTurns answers true. No condition.
namespace Go.Proofs.YtlmdkmflbhnlgaaGreat
open Go.RowKit
/-- From where a turned bit is told. -/
def fromA (f : Fr) : Nat := if f.kind = 3 then (stuffN (headX f)).length else if f.kind = 2 then (raw0D f).length else (rawA f).length
theorem fromA_le (f : Fr) (hok : okF f = true) : fromA f ≤ (rawA f).length := by
  unfold fromA
  split
  · rename_i h
    have hw : rawA f = rawX f := by unfold rawA; rw [if_neg (by omega), if_pos h]
    rw [hw]
    unfold rawX
    rw [List.length_append, List.length_append, List.length_append]
    omega
  · split
    · rename_i h
      have hw : rawA f = rawD f := by unfold rawA; rw [if_pos h]
      rw [hw, rawD_len]
      omega
    · exact Nat.le_refl _
theorem turn_any (f : Fr) (hok : okF f = true) (hf : FrN f) (raw : List Nat) (hb : ∀ x ∈ raw, x ≤ 1) (NR k : Nat) (hNR : (rawA f).length = NR) (hd : D1 k (wireB f 1) raw) (h0 : fromA f ≤ k) (h1 : k < NR + 9) (h2 : k ≠ NR + 1) : (scanM true raw).kind ≠ 2 := by
  subst hNR
  by_cases hk : (rawA f).length ≤ k
  · obtain ⟨S, hS, hS0, -⟩ := done_any f hok hf
    have hlen := hd.len
    rw [wireB_len] at hlen
    have hd2 := hd
    have hw : wireB f 1 = rawA f ++ [1, 1, 1, 1, 1, 1, 1, 1, 1, 1] := rfl
    rw [hw, ← List.take_append_drop (rawA f).length raw] at hd2
    rcases hd2.app (by rw [List.length_take]; omega) with ⟨h3, -, -⟩ | ⟨-, h4, h5⟩
    · omega
    · rw [← List.take_append_drop (rawA f).length raw, ← h4]
      exact turn_last (rawA f) _ { S with fits := true } hS hS0 (fun x hx => hb x (List.mem_of_mem_drop hx)) (k - (rawA f).length) (by omega) (by omega) h5
  · unfold fromA at h0
    split at h0
    · rename_i h
      have hw : rawA f = rawX f := by unfold rawA; rw [if_neg (by omega), if_pos h]
      exact turn_x f h hok hf raw hb k hd h0 (by rw [← hw]; omega)
    · split at h0
      · rename_i h
        have hw : rawA f = rawD f := by unfold rawA; rw [if_pos h]
        exact turn_d f h hok hf raw hb k hd h0 (by rw [← hw]; omega)
      · omega
theorem d1_set (l : List Nat) (k y : Nat) (hk : k < l.length) (hne : l[k] ≠ y) : D1 k l (l.set k y) := by
  refine ⟨by rw [List.length_set], hk, ?_, fun j hj => ?_⟩
  · rw [List.getElem?_set_self hk, List.getElem?_eq_getElem hk]
    intro e
    injection e with e
    exact hne e
  · rw [List.getElem?_set_ne (by omega)]
/-- The turned wire's answer. -/
theorem turn_ans (f : Fr) (hok : okF f = true) (hf : FrN f) (NR k x : Nat) (hNR : (rawA f).length = NR) (h0 : fromA f ≤ k) (h1 : k < NR + 9) (hx : (wireB f 1)[k]? = some x) :
    (∀ y ∈ (wireB f 1).set k (1 - x), y ≤ 1) ∧ (k ≠ NR + 1 → (scanM true ((wireB f 1).set k (1 - x))).kind ≠ 2) ∧ (k = NR + 1 → (scanM true ((wireB f 1).set k (1 - x))).kind = 2 ∧ (scanM true ((wireB f 1).set k (1 - x))).sf = f) := by
  have hb := wireB_bits f 1 (by omega)
  obtain ⟨hkl, hxe⟩ := List.getElem?_eq_some_iff.1 hx
  have hb2 : ∀ y ∈ (wireB f 1).set k (1 - x), y ≤ 1 := by
    intro y hy
    rcases List.mem_or_eq_of_mem_set hy with h | h
    · exact hb y h
    · omega
  have hx1 : x ≤ 1 := by rw [← hxe]; exact hb _ (List.getElem_mem hkl)
  refine ⟨hb2, fun h2 => turn_any f hok hf _ hb2 NR k hNR (d1_set _ _ _ hkl (by rw [hxe]; omega)) h0 h1 h2, fun h2 => ?_⟩
  subst h2
  have hx2 : x = 1 := by
    have e : (wireB f 1)[NR + 1]? = some 1 := by
      unfold wireB
      rw [List.getElem?_append_right (by omega), hNR, show NR + 1 - NR = 1 by omega]
      rfl
    rw [e] at hx
    injection hx with hx
    exact hx.symm
  subst hx2
  rw [show 1 - 1 = 0 from rfl, wireB_set f NR hNR]
  have e : wireB f 0 = (wireB f 0).take (NR + 9) ++ [1] := by
    rw [← hNR, wireB_take]
    unfold wireB
    rw [List.append_assoc]
    rfl
  obtain ⟨k1, -, k3⟩ := wireB_behind f 0 hok hf NR hNR [1]
  rw [← e] at k1 k3
  exact ⟨k1, k3⟩
set_option maxRecDepth 100000 in
set_option maxHeartbeats 4000000 in
theorem scanTurns_triv (w : World) (f : Fr) (A0 : Option Addr) (c0 at0 : Nat) (hf : f.data.length ≤ 9223372036854775807) (h : okF f = false ∨ (okF f = true ∧ 100 < f.data.length)) :
    Calls Tryz.prog 6 #[frv f (.slice A0 f.data.length c0), .int .u16 at0] w fun e w' => e = .returned (.bool true) ∧ Below w.heap.size w w' := by
  have HAL := Lib.hid (fun W => alive09 W)
  have HC1 := Lib.hid (fun W => Check_any f A0 c0 W hf)
  obtain ⟨o1, ho1⟩ : ∃ o, okF f = o := ⟨_, rfl⟩
  rw [ho1] at HC1 h
  unfold errV at HC1
  obtain ⟨fk, fi, fe, fr, f4, f5, f6, f7, f8, f9, fd⟩ := f
  dsimp only [frv] at *
  generalize fd.length = n at *
  clear ho1
  rcases h with rfl | ⟨rfl, h3⟩
  · simp only [Bool.false_eq_true, if_false] at HC1
    go_enter Tryz.func6, Tryz.ntmps6
    go_wp2_with fail
    refine calls_blk1 (fun W0 q1 hb => ?_)
    have HB := Lib.hid hb
    obtain ⟨a0, a1, a2, a3, a4, a5, a6, a7, a8, a9, a10⟩ := ext11 q1
    clear hb q1
    refine (extc_same (HAL.out _)).mono ?_
    rintro x _ ⟨e1, rfl, rfl⟩
    go_wp2_with fail
    refine (extc (HC1.out _)).mono ?_
    rintro x _ ⟨e2, rfl, rfl⟩
    go_wp2_with fail
    go_ret
    exact ⟨rfl, ext_end HB.out⟩
  · have g3 : decide ((100 : Int) < (n : Int)) = true := by simp; omega
    simp only [if_true] at HC1
    go_enter Tryz.func6, Tryz.ntmps6
    go_wp2_with fail
    refine calls_blk1 (fun W0 q1 hb => ?_)
    have HB := Lib.hid hb
    obtain ⟨a0, a1, a2, a3, a4, a5, a6, a7, a8, a9, a10⟩ := ext11 q1
    clear hb q1
    refine (extc_same (HAL.out _)).mono ?_
    rintro x _ ⟨e1, rfl, rfl⟩
    go_wp2_with fail
    refine (extc (HC1.out _)).mono ?_
    rintro x _ ⟨e2, rfl, rfl⟩
    go_wp2_with fail
    go_ret
    exact ⟨rfl, ext_end HB.out⟩
theorem addU {w : World} {base t c : Nat} {ad : Addr} {xs : List Value} (h : Row w base t (some ad) c xs) (k : Nat) : ad.add k = ⟨ad.block, ad.off + k, none⟩ := by
  obtain ⟨e, -⟩ := h.setU 0 (.int .u8 0)
  unfold Addr.add
  rw [e]
  by_cases h0 : k = 0 <;> simp [h0]
set_option maxRecDepth 100000 in
set_option maxHeartbeats 16000000 in
theorem scanTurns_main (w : World) (f : Fr) (A0 : Option Addr) (c0 at0 : Nat) (hat : at0 < 65536) (hr0 : Rd w A0 (bys f.data)) (hfn : FrN f) (hok : okF f = true) (hl : f.data.length ≤ 100) :
    Calls Tryz.prog 6 #[frv f (.slice A0 f.data.length c0), .int .u16 at0] w fun e w' => e = .returned (.bool true) ∧ Below w.heap.size w w' := by
  obtain ⟨NR, NH, hNR, hNH, hWr⟩ := Wire09_ok f A0 c0 hok hfn
  have hNR2 : NR ≤ 4000 := by rw [← hNR]; exact rawA_len f hok (by omega)
  have hk3 := ((okF_iff f).1 hok).kind
  obtain ⟨FR, hFR⟩ : ∃ FR, fromA f = FR := ⟨_, rfl⟩
  have hFRle : FR ≤ NR := by rw [← hFR, ← hNR]; exact fromA_le f hok
  obtain ⟨k, hk⟩ : ∃ k, FR + at0 % (NR + 9 - FR) = k := ⟨_, rfl⟩
  have hk1 : FR ≤ k := by omega
  have hk2 : k < NR + 9 := by have := Nat.mod_lt at0 (show 0 < NR + 9 - FR by omega); omega
  have hki : (k : Int) < (NR : Int) + 10 := by omega
  obtain ⟨x, hx⟩ : ∃ x, (wireB f 1)[k]? = some x := ⟨_, List.getElem?_eq_getElem (by rw [wireB_len, hNR]; omega)⟩
  obtain ⟨t1, t2, t3⟩ := turn_ans f hok hfn NR k x hNR (by rw [hFR]; exact hk1) hk2 hx
  have hx1 : x ≤ 1 := wireB_bits f 1 (by omega) x (List.mem_of_getElem? hx)
  obtain ⟨y, hy⟩ : ∃ y, 1 - x = y := ⟨_, rfl⟩
  have hbx : bits BinOp.xor IntKind.u8 (x : Int) 1 = (y : Int) := by
    rcases (by omega : x = 0 ∨ x = 1) with rfl | rfl
    · rw [← hy]; rfl
    · rw [← hy]; rfl
  obtain ⟨TL, hTL⟩ : ∃ l, (wireB f 1).set k (1 - x) = l := ⟨_, rfl⟩
  have hTLl : TL.length = NR + 10 := by rw [← hTL, List.length_set, wireB_len, hNR]
  rw [hTL] at t1 t2 t3
  rw [hy] at hTL
  have hbits : bitsOk TL = true := by
    unfold bitsOk
    rw [Bool.and_eq_true, decide_eq_true_eq, decide_eq_true_eq, hTLl]
    exact ⟨by omega, t1⟩
  obtain ⟨S, hS⟩ : ∃ S, scanM true TL = S := ⟨_, rfl⟩
  rw [hS] at t2 t3
  have HSC := Lib.hid (fun W A c (hW : Rd W A (bys TL)) => scan_bits W A c (NR + 10) TL true S hS hbits hW hTLl (by omega))
  have HAL := Lib.hid (fun W => alive09 W)
  have HC1 := Lib.hid (fun W => Check_any f A0 c0 W (by omega))
  have HSAME := Lib.hid (fun W A c hW1 hW2 => Same_any f f A A0 c c0 W hW1 hW2 hfn.data hfn.data)
  have hsame : sameF f f = true := by unfold sameF; simp
  rw [hok] at HC1
  rw [hsame] at HSAME
  simp only [if_true, errV] at HC1
  have HBD : Hid (f.kind = 2 → ∃ NB, (bodyD f).length = NB ∧ (∀ W, Rd W A0 (bys f.data) → Calls Tryz.prog 19 #[frv f (.slice A0 f.data.length c0)] W fun e w' => (∃ A' c', e = .returned (.tuple #[.slice A' NB c', .int .i64 0]) ∧ Row w' W.heap.size 5 A' c' (bys (bodyD f))) ∧ Below W.heap.size W w') ∧
      ∀ W A c, Rd W A (bys (bodyD f)) → Calls Tryz.prog 20 #[.slice A NB c] W fun e w' => (∃ A' c', e = .returned (.tuple #[.slice A' FR c', .int .i64 0]) ∧ Row w' W.heap.size 5 A' c' (bys (raw0D f))) ∧ Below W.heap.size W w') := by
    show f.kind = 2 → _
    intro hk2
    refine ⟨_, rfl, fun W hW => FdBody_ok f A0 c0 _ W hk2 hok hfn.id0 hW hfn.data rfl, fun W A c hW => StuffPut_any W A c _ FR (bodyD f) hW rfl (by rw [bodyD_length]; omega) (bodyD_bits f) ?_⟩
    rw [← hFR]
    unfold fromA
    rw [if_neg (by omega), if_pos hk2]
    rfl
  have HRB : Hid (f.kind = 2 → FR < NR) := by
    show f.kind = 2 → _
    intro hk2
    have hw : rawA f = rawD f := by unfold rawA; rw [if_pos hk2]
    rw [← hNR, ← hFR, hw, rawD_len]
    unfold fromA
    rw [if_neg (by omega), if_pos hk2]
    omega
  have HF3 : Hid (f.kind = 3 → FR = NH) := by
    show f.kind = 3 → _
    intro hk
    rw [← hFR, ← hNH]
    unfold fromA hdS
    rw [if_pos hk, if_neg (by omega), if_pos hk]
  have HF1 : Hid (f.kind = 1 → FR = NR) := by
    show f.kind = 1 → _
    intro hk
    rw [← hFR, ← hNR]
    unfold fromA
    rw [if_neg (by omega), if_neg (by omega)]
  have HWR : Hid (∀ W, Rd W A0 (bys f.data) → Calls Tryz.prog 17 #[frv f (.slice A0 f.data.length c0)] W (WireOk f NR NH W)) := hWr
  obtain ⟨WL, hWL⟩ : ∃ l, wireB f 1 = l := ⟨_, rfl⟩
  unfold WireOk at HWR
  rw [hWL] at hx hTL HWR
  have HTL := Lib.hid hTL
  have HX := Lib.hid hx
  have HWLl : Hid (WL.length = NR + 10) := by show _ = _; rw [← hWL, wireB_len, hNR]
  have HK := Lib.hid hk
  have HT2 := Lib.hid t2
  have HT3 := Lib.hid t3
  have HR0 := Lib.hid hr0
  have HK3 := Lib.hid hk3
  have HTLL := Lib.hid hTLl
  clear hr0 hNR hNH hWr hok hsame hFR hWL hx hTL hTLl hbits t1 t2 t3 hS hk hk3 hfn
  generalize bodyD f = BD at *
  generalize raw0D f = RD at *
  obtain ⟨tk, htk⟩ : ∃ tk, S.kind = tk := ⟨_, rfl⟩
  obtain ⟨te, hte⟩ : ∃ te, S.err = te := ⟨_, rfl⟩
  obtain ⟨F, htf⟩ : ∃ F, S.sf = F := ⟨_, rfl⟩
  rw [htk] at HT2
  rw [htk, htf] at HT3
  rw [htk, hte, htf] at HSC
  clear htk hte htf
  obtain ⟨fk, fi, fe, fr, f4, f5, f6, f7, f8, f9, fd⟩ := f
  dsimp only [frv] at *
  obtain ⟨n, hn⟩ : ∃ n, fd.length = n := ⟨_, rfl⟩
  have HN := Lib.hid hn
  rw [hn] at HC1 HWR HSAME HBD hl ⊢
  have g3 : decide ((100 : Int) < (n : Int)) = false := by simp; omega
  clear hn
  go_enter Tryz.func6, Tryz.ntmps6
  go_wp2_with fail
  refine calls_blk1 (fun W0 q0 hb0 => ?_)
  refine (HAL.out _).mono ?_
  rintro e w1 ⟨rfl, hb1⟩
  have Q1 := Lib.hid (heap_below hb1 q0)
  have HB1' := Lib.hid (below_trans hb0 hb1)
  obtain ⟨a0, a1, a2, a3, a4, a5, a6, a7, a8, a9, a10⟩ := cells11 Q1.out
  clear q0 hb0 hb1
  go_wp2_with fail
  refine (HC1.out _).mono ?_
  rintro e w2 ⟨rfl, hb2⟩
  have Q2 := Lib.hid (heap_below hb2 Q1.out)
  have HB2 := Lib.hid (below_trans HB1'.out hb2)
  clear hb2 Q1 HB1' a0 a1 a2 a3 a4 a5 a6 a7 a8 a9 a10
  obtain ⟨a0, a1, a2, a3, a4, a5, a6, a7, a8, a9, a10⟩ := cells11 Q2.out
  go_wp2_with fail
  refine (HWR.out _ (HR0.out.below HB2.out)).mono ?_
  rintro e w3 ⟨⟨A3, c3, rfl, hrow3⟩, hb3⟩
  have Q3 := Lib.hid (heap_below hb3 Q2.out)
  have HB02 := Lib.hid HB2.out
  have HROW3 := Lib.hid hrow3
  have hc3 := hrow3.cap
  have hlt3 := hrow3.lt_
  rw [bys_length, HWLl.out] at hc3
  have hp02 : w.heap.size < w2.heap.size := heap_lt Q2.out
  have hp23 : w2.heap.size ≤ w3.heap.size := hb3.size
  have HB23 := Lib.hid hb3
  clear hb3 a0 a1 a2 a3 a4 a5 a6 a7 a8 a9 a10 hrow3
  go_upto_region 6 with (fail)
  obtain ⟨W4, hW4, q4, hb4⟩ : ∃ W4, w3.alloc (.cells #[.slice A3 (NR + 10) c3, .int .i64 NH, .int .i64 ((NR : Int) + 1)] 44) = W4 ∧ W4.heap[w3.heap.size]? = some (.cells #[.slice A3 (NR + 10) c3, .int .i64 NH, .int .i64 ((NR : Int) + 1)] 44 (0, 0)) ∧ Below w3.heap.size w3 W4 := ⟨_, rfl, heap_new_at rfl, below_alloc (Below.refl _ _) _⟩
  rw [hW4]
  have HROW4 := Lib.hid (HROW3.out.below hb4)
  have Q4 := Lib.hid q4
  have hp34 : w3.heap.size < W4.heap.size := heap_lt q4
  have HB24 := Lib.hid (HB23.out.trans (hb4.mono hp23))
  clear hW4 q4 hb4 HB23 HROW3 Q3 HB2
  generalize w3.heap.size = p7 at *
  obtain ⟨ad, rfl, -⟩ := HROW4.out.rd.at_ 0 (by rw [HWLl.out]; omega)
  have hadp : ad.block < p7 := hlt3 _ (by simp [blkA])
  clear hlt3
  have hW12 : wrap64 ((FR : Int) + (at0 : Int) % ((NR : Int) + 10 - 1 - (FR : Int))) = (k : Int) := by
    have e := HK.out
    have e2 : ((at0 % (NR + 9 - FR) : Nat) : Int) = (at0 : Int) % ((NR : Int) + 10 - 1 - (FR : Int)) := by
      rw [Int.natCast_emod]
      congr 1
      omega
    rw [← e2]
    unfold wrap64
    omega
  have HW12 := Lib.hid hW12
  clear hW12
  rcases HK3.out with h1 | h2 | h3
  · subst h1
    obtain rfl : FR = NR := HF1.out rfl
    have t2 : W4.cell? ⟨p7, 2, none⟩ = some (.int .i64 ((FR : Int) + 1)) := cell_of_heap Q4.out 2 _ rfl
    have t1 : W4.cell? ⟨p7, 1, none⟩ = some (.int .i64 NH) := cell_of_heap Q4.out 1 _ rfl
    have a0 : W4.cell? ⟨w.heap.size, 0, none⟩ = some (.int .i64 1) := cell_of_heap (heap_belowG HB24.out hp02 Q2.out) 0 _ rfl
    have t0 : W4.cell? ⟨p7, 0, none⟩ = some (.slice (some ad) (FR + 10) c3) := cell_of_heap Q4.out 0 _ rfl
    go_upto_region 19 with (fail)
    have HROWV := HROW4
    have HB24V := HB24
    rw [HW12.out]
    have hfz : W4.frozen? (ad.add k) = false := by rw [addU HROWV.out]; exact (HROWV.out.setU k (.int .u8 0)).2.2.1
    have hcx : W4.cell? (ad.add k) = some (.int .u8 (x : Nat)) := by
      obtain ⟨ad', e', hc⟩ := HROWV.out.rd k (.int .u8 (x : Nat)) (by unfold bys; rw [List.getElem?_map, HX.out]; rfl)
      obtain rfl : ad = ad' := by injection e'
      exact hc
    have hadb := (HROWV.out.setU k (.int .u8 0)).2.1
    have hpV := heap_lt Q4.out
    clear HW12
    go_upto_region 20 with (fail)
    rw [addU HROWV.out k]
    have hset := (HROWV.out.setU k (.int .u8 (y : Int))).2.2.2
    rw [bys_set, HTL.out] at hset
    have hb5 := HB24V.out.setCell (p := ⟨ad.block, ad.off + k, none⟩) hadb (.int .u8 (y : Int))
    have hq5 := (Below.heap_setCell W4 ⟨ad.block, ad.off + k, none⟩ (.int .u8 (y : Int)) p7 (show p7 ≠ ad.block by omega)).trans Q4.out
    obtain ⟨W5, hW5⟩ : ∃ W5, W4.setCell ⟨ad.block, ad.off + k, none⟩ (.int .u8 (y : Int)) = W5 := ⟨_, rfl⟩
    rw [hW5] at hset hb5 hq5 ⊢
    have HR5 := Lib.hid hset.rd
    have HB25 := Lib.hid hb5
    have Q5 := Lib.hid hq5
    have t0 : W5.cell? ⟨p7, 0, none⟩ = some (.slice (some ad) (FR + 10) c3) := cell_of_heap hq5 0 _ rfl
    clear hset hb5 hq5 hcx hfz hW5
    go_wp2_with fail
    refine (HSC.out _ _ _ HR5.out).mono ?_
    rintro e w6 ⟨⟨A6, c6, rfl, hrow6⟩, hb6⟩
    have HRD6 := Lib.hid hrow6.rd
    have HB26 := Lib.hid (HB25.out.trans (hb6.mono HB25.out.size))
    have Q6 := Lib.hid (heap_below hb6 Q5.out)
    clear hrow6 hb6 t0
    go_upto_region 21 with (fail)
    obtain ⟨W7, hW7, q7, hb7⟩ : ∃ W7, w6.alloc (.cells #[.int .i64 tk, .int .i64 te, .int .i64 F.kind, .int .u32 F.id, .bool F.ext, .bool F.rtr, .bool F.brs, .bool F.esi, .bool F.sec, .int .u8 F.sdt, .int .u8 F.vcid, .int .u32 F.af, .slice A6 F.data.length c6] 30) = W7 ∧ W7.heap[w6.heap.size]? = some (.cells #[.int .i64 tk, .int .i64 te, .int .i64 F.kind, .int .u32 F.id, .bool F.ext, .bool F.rtr, .bool F.brs, .bool F.esi, .bool F.sec, .int .u8 F.sdt, .int .u8 F.vcid, .int .u32 F.af, .slice A6 F.data.length c6] 30 (0, 0)) ∧ Below w6.heap.size w6 W7 := ⟨_, rfl, heap_new_at rfl, below_alloc (Below.refl _ _) _⟩
    rw [hW7]
    have HRD7 := Lib.hid (HRD6.out.below hb7)
    have HB27 := Lib.hid (HB26.out.trans (hb7.mono HB26.out.size))
    have t2 : W7.cell? ⟨p7, 2, none⟩ = some (.int .i64 ((FR : Int) + 1)) := cell_of_heap (heap_below hb7 Q6.out) 2 _ rfl
    have Q07 := heap_belowG HB27.out hp02 Q2.out
    obtain ⟨z0, z1, z2, z3, z4, z5, z6, z7, z8, z9, z10, z11, z12⟩ := cells13 q7
    obtain ⟨b0, b1, b2, b3, b4, b5, b6, b7, b8, b9, b10⟩ := cells11 Q07
    clear hW7 q7 hb7 HRD6 HB26 Q6 Q07
    generalize w6.heap.size = p13 at *
    by_cases hack : k = FR + 1
    · obtain ⟨k1, k2⟩ := HT3.out hack
      subst k1
      subst k2
      have gk : ((k : Int) == (FR : Int) + 1) = true := by simp; omega
      clear hack HT2 HT3
      dsimp only at z2 z3 z4 z5 z6 z7 z8 z9 z10 z11 z12 HRD7
      rw [HN.out] at z12
      have HSM := Lib.hid (HSAME.out W7 A6 c6 HRD7.out ((HR0.out.below HB02.out).below HB27.out))
      go_wp2_with fail
      refine HSM.out.mono ?_
      rintro e w8 ⟨rfl, hb8⟩
      have HB8 := Lib.hid (below_trans (below_trans HB02.out HB27.out) hb8)
      clear hb8
      go_wp2_with fail
      go_ret
      exact ⟨by first | rfl | simp, HB8.out⟩
    · have k1 := HT2.out hack
      have gk : ((k : Int) == (FR : Int) + 1) = false := by simp; omega
      have gt : ((tk : Int) == 2) = false := by simp; omega
      have HKT := Lib.hid k1
      clear hack HT2 HT3 k1
      go_wp2_with fail
      go_ret
      exact ⟨by simp; have := HKT.out; omega, below_trans HB02.out HB27.out⟩
  · subst h2
    have hFRN := HRB.out rfl
    obtain ⟨NB, -, hbd, hsp⟩ := HBD.out rfl
    have HBDY := Lib.hid hbd
    have HSPT := Lib.hid hsp
    clear hbd hsp HBD
    have Q04 := heap_belowG HB24.out hp02 Q2.out
    obtain ⟨a0, a1, a2, a3, a4, a5, a6, a7, a8, a9, a10⟩ := cells11 Q04
    have t2 : W4.cell? ⟨p7, 2, none⟩ = some (.int .i64 ((NR : Int) + 1)) := cell_of_heap Q4.out 2 _ rfl
    clear Q04
    go_wp2_with fail
    refine (HBDY.out _ ((HR0.out.below HB02.out).below HB24.out)).mono ?_
    rintro e v5 ⟨⟨A5, c5, rfl, hrow5⟩, hb5⟩
    have HRB5 := Lib.hid hrow5.rd
    have Q45 := Lib.hid (heap_below hb5 Q4.out)
    have HB25A := Lib.hid (HB24.out.trans (hb5.mono HB24.out.size))
    have HROW5A := Lib.hid (HROW4.out.below hb5)
    clear hrow5 hb5 t2 a0 a1 a2 a3 a4 a5 a6 a7 a8 a9 a10
    go_wp2_with fail
    refine (HSPT.out _ _ _ HRB5.out).mono ?_
    rintro e v6 ⟨⟨A6', c6', rfl, hrow6⟩, hb6⟩
    have Q46 := Lib.hid (heap_below hb6 Q45.out)
    have HB24V := Lib.hid (HB25A.out.trans (hb6.mono HB25A.out.size))
    have HROWV := Lib.hid (HROW5A.out.below hb6)
    have gfr : decide ((NR : Int) ≤ (FR : Int)) = false := by simp; omega
    clear hrow6 hb6 HRB5 Q45 HB25A HROW5A HBDY HSPT
    have t2 : v6.cell? ⟨p7, 2, none⟩ = some (.int .i64 ((NR : Int) + 1)) := cell_of_heap Q46.out 2 _ rfl
    have t1 : v6.cell? ⟨p7, 1, none⟩ = some (.int .i64 NH) := cell_of_heap Q46.out 1 _ rfl
    have a0 : v6.cell? ⟨w.heap.size, 0, none⟩ = some (.int .i64 2) := cell_of_heap (heap_belowG HB24V.out hp02 Q2.out) 0 _ rfl
    have t0 : v6.cell? ⟨p7, 0, none⟩ = some (.slice (some ad) (NR + 10) c3) := cell_of_heap Q46.out 0 _ rfl
    go_upto_region 19 with (fail)
    rw [HW12.out]
    have hfz : v6.frozen? (ad.add k) = false := by rw [addU HROWV.out]; exact (HROWV.out.setU k (.int .u8 0)).2.2.1
    have hcx : v6.cell? (ad.add k) = some (.int .u8 (x : Nat)) := by
      obtain ⟨ad', e', hc⟩ := HROWV.out.rd k (.int .u8 (x : Nat)) (by unfold bys; rw [List.getElem?_map, HX.out]; rfl)
      obtain rfl : ad = ad' := by injection e'
      exact hc
    have hadb := (HROWV.out.setU k (.int .u8 0)).2.1
    have hpV := heap_lt Q46.out
    clear HW12
    go_upto_region 20 with (fail)
    rw [addU HROWV.out k]
    have hset := (HROWV.out.setU k (.int .u8 (y : Int))).2.2.2
    rw [bys_set, HTL.out] at hset
    have hb5 := HB24V.out.setCell (p := ⟨ad.block, ad.off + k, none⟩) hadb (.int .u8 (y : Int))
    have hq5 := (Below.heap_setCell v6 ⟨ad.block, ad.off + k, none⟩ (.int .u8 (y : Int)) p7 (show p7 ≠ ad.block by omega)).trans Q46.out
    obtain ⟨W5, hW5⟩ : ∃ W5, v6.setCell ⟨ad.block, ad.off + k, none⟩ (.int .u8 (y : Int)) = W5 := ⟨_, rfl⟩
    rw [hW5] at hset hb5 hq5 ⊢
    have HR5 := Lib.hid hset.rd
    have HB25 := Lib.hid hb5
    have Q5 := Lib.hid hq5
    have t0 : W5.cell? ⟨p7, 0, none⟩ = some (.slice (some ad) (NR + 10) c3) := cell_of_heap hq5 0 _ rfl
    clear hset hb5 hq5 hcx hfz hW5
    go_wp2_with fail
    refine (HSC.out _ _ _ HR5.out).mono ?_
    rintro e w6 ⟨⟨A6, c6, rfl, hrow6⟩, hb6⟩
    have HRD6 := Lib.hid hrow6.rd
    have HB26 := Lib.hid (HB25.out.trans (hb6.mono HB25.out.size))
    have Q6 := Lib.hid (heap_below hb6 Q5.out)
    clear hrow6 hb6 t0
    go_upto_region 21 with (fail)
    obtain ⟨W7, hW7, q7, hb7⟩ : ∃ W7, w6.alloc (.cells #[.int .i64 tk, .int .i64 te, .int .i64 F.kind, .int .u32 F.id, .bool F.ext, .bool F.rtr, .bool F.brs, .bool F.esi, .bool F.sec, .int .u8 F.sdt, .int .u8 F.vcid, .int .u32 F.af, .slice A6 F.data.length c6] 30) = W7 ∧ W7.heap[w6.heap.size]? = some (.cells #[.int .i64 tk, .int .i64 te, .int .i64 F.kind, .int .u32 F.id, .bool F.ext, .bool F.rtr, .bool F.brs, .bool F.esi, .bool F.sec, .int .u8 F.sdt, .int .u8 F.vcid, .int .u32 F.af, .slice A6 F.data.length c6] 30 (0, 0)) ∧ Below w6.heap.size w6 W7 := ⟨_, rfl, heap_new_at rfl, below_alloc (Below.refl _ _) _⟩
    rw [hW7]
    have HRD7 := Lib.hid (HRD6.out.below hb7)
    have HB27 := Lib.hid (HB26.out.trans (hb7.mono HB26.out.size))
    have t2 : W7.cell? ⟨p7, 2, none⟩ = some (.int .i64 ((NR : Int) + 1)) := cell_of_heap (heap_below hb7 Q6.out) 2 _ rfl
    have Q07 := heap_belowG HB27.out hp02 Q2.out
    obtain ⟨z0, z1, z2, z3, z4, z5, z6, z7, z8, z9, z10, z11, z12⟩ := cells13 q7
    obtain ⟨b0, b1, b2, b3, b4, b5, b6, b7, b8, b9, b10⟩ := cells11 Q07
    clear hW7 q7 hb7 HRD6 HB26 Q6 Q07
    generalize w6.heap.size = p13 at *
    by_cases hack : k = NR + 1
    · obtain ⟨k1, k2⟩ := HT3.out hack
      subst k1
      subst k2
      have gk : ((k : Int) == (NR : Int) + 1) = true := by simp; omega
      clear hack HT2 HT3
      dsimp only at z2 z3 z4 z5 z6 z7 z8 z9 z10 z11 z12 HRD7
      rw [HN.out] at z12
      have HSM := Lib.hid (HSAME.out W7 A6 c6 HRD7.out ((HR0.out.below HB02.out).below HB27.out))
      go_wp2_with fail
      refine HSM.out.mono ?_
      rintro e w8 ⟨rfl, hb8⟩
      have HB8 := Lib.hid (below_trans (below_trans HB02.out HB27.out) hb8)
      clear hb8
      go_wp2_with fail
      go_ret
      exact ⟨by first | rfl | simp, HB8.out⟩
    · have k1 := HT2.out hack
      have gk : ((k : Int) == (NR : Int) + 1) = false := by simp; omega
      have gt : ((tk : Int) == 2) = false := by simp; omega
      have HKT := Lib.hid k1
      clear hack HT2 HT3 k1
      go_wp2_with fail
      go_ret
      exact ⟨by simp; have := HKT.out; omega, below_trans HB02.out HB27.out⟩
  · subst h3
    obtain rfl : FR = NH := HF3.out rfl
    have t2 : W4.cell? ⟨p7, 2, none⟩ = some (.int .i64 ((NR : Int) + 1)) := cell_of_heap Q4.out 2 _ rfl
    have t1 : W4.cell? ⟨p7, 1, none⟩ = some (.int .i64 FR) := cell_of_heap Q4.out 1 _ rfl
    have a0 : W4.cell? ⟨w.heap.size, 0, none⟩ = some (.int .i64 3) := cell_of_heap (heap_belowG HB24.out hp02 Q2.out) 0 _ rfl
    have t0 : W4.cell? ⟨p7, 0, none⟩ = some (.slice (some ad) (NR + 10) c3) := cell_of_heap Q4.out 0 _ rfl
    go_upto_region 19 with (fail)
    have HROWV := HROW4
    have HB24V := HB24
    rw [HW12.out]
    have hfz : W4.frozen? (ad.add k) = false := by rw [addU HROWV.out]; exact (HROWV.out.setU k (.int .u8 0)).2.2.1
    have hcx : W4.cell? (ad.add k) = some (.int .u8 (x : Nat)) := by
      obtain ⟨ad', e', hc⟩ := HROWV.out.rd k (.int .u8 (x : Nat)) (by unfold bys; rw [List.getElem?_map, HX.out]; rfl)
      obtain rfl : ad = ad' := by injection e'
      exact hc
    have hadb := (HROWV.out.setU k (.int .u8 0)).2.1
    have hpV := heap_lt Q4.out
    clear HW12
    go_upto_region 20 with (fail)
    rw [addU HROWV.out k]
    have hset := (HROWV.out.setU k (.int .u8 (y : Int))).2.2.2
    rw [bys_set, HTL.out] at hset
    have hb5 := HB24V.out.setCell (p := ⟨ad.block, ad.off + k, none⟩) hadb (.int .u8 (y : Int))
    have hq5 := (Below.heap_setCell W4 ⟨ad.block, ad.off + k, none⟩ (.int .u8 (y : Int)) p7 (show p7 ≠ ad.block by omega)).trans Q4.out
    obtain ⟨W5, hW5⟩ : ∃ W5, W4.setCell ⟨ad.block, ad.off + k, none⟩ (.int .u8 (y : Int)) = W5 := ⟨_, rfl⟩
    rw [hW5] at hset hb5 hq5 ⊢
    have HR5 := Lib.hid hset.rd
    have HB25 := Lib.hid hb5
    have Q5 := Lib.hid hq5
    have t0 : W5.cell? ⟨p7, 0, none⟩ = some (.slice (some ad) (NR + 10) c3) := cell_of_heap hq5 0 _ rfl
    clear hset hb5 hq5 hcx hfz hW5
    go_wp2_with fail
    refine (HSC.out _ _ _ HR5.out).mono ?_
    rintro e w6 ⟨⟨A6, c6, rfl, hrow6⟩, hb6⟩
    have HRD6 := Lib.hid hrow6.rd
    have HB26 := Lib.hid (HB25.out.trans (hb6.mono HB25.out.size))
    have Q6 := Lib.hid (heap_below hb6 Q5.out)
    clear hrow6 hb6 t0
    go_upto_region 21 with (fail)
    obtain ⟨W7, hW7, q7, hb7⟩ : ∃ W7, w6.alloc (.cells #[.int .i64 tk, .int .i64 te, .int .i64 F.kind, .int .u32 F.id, .bool F.ext, .bool F.rtr, .bool F.brs, .bool F.esi, .bool F.sec, .int .u8 F.sdt, .int .u8 F.vcid, .int .u32 F.af, .slice A6 F.data.length c6] 30) = W7 ∧ W7.heap[w6.heap.size]? = some (.cells #[.int .i64 tk, .int .i64 te, .int .i64 F.kind, .int .u32 F.id, .bool F.ext, .bool F.rtr, .bool F.brs, .bool F.esi, .bool F.sec, .int .u8 F.sdt, .int .u8 F.vcid, .int .u32 F.af, .slice A6 F.data.length c6] 30 (0, 0)) ∧ Below w6.heap.size w6 W7 := ⟨_, rfl, heap_new_at rfl, below_alloc (Below.refl _ _) _⟩
    rw [hW7]
    have HRD7 := Lib.hid (HRD6.out.below hb7)
    have HB27 := Lib.hid (HB26.out.trans (hb7.mono HB26.out.size))
    have t2 : W7.cell? ⟨p7, 2, none⟩ = some (.int .i64 ((NR : Int) + 1)) := cell_of_heap (heap_below hb7 Q6.out) 2 _ rfl
    have Q07 := heap_belowG HB27.out hp02 Q2.out
    obtain ⟨z0, z1, z2, z3, z4, z5, z6, z7, z8, z9, z10, z11, z12⟩ := cells13 q7
    obtain ⟨b0, b1, b2, b3, b4, b5, b6, b7, b8, b9, b10⟩ := cells11 Q07
    clear hW7 q7 hb7 HRD6 HB26 Q6 Q07
    generalize w6.heap.size = p13 at *
    by_cases hack : k = NR + 1
    · obtain ⟨k1, k2⟩ := HT3.out hack
      subst k1
      subst k2
      have gk : ((k : Int) == (NR : Int) + 1) = true := by simp; omega
      clear hack HT2 HT3
      dsimp only at z2 z3 z4 z5 z6 z7 z8 z9 z10 z11 z12 HRD7
      rw [HN.out] at z12
      have HSM := Lib.hid (HSAME.out W7 A6 c6 HRD7.out ((HR0.out.below HB02.out).below HB27.out))
      go_wp2_with fail
      refine HSM.out.mono ?_
      rintro e w8 ⟨rfl, hb8⟩
      have HB8 := Lib.hid (below_trans (below_trans HB02.out HB27.out) hb8)
      clear hb8
      go_wp2_with fail
      go_ret
      exact ⟨by first | rfl | simp, HB8.out⟩
    · have k1 := HT2.out hack
      have gk : ((k : Int) == (NR : Int) + 1) = false := by simp; omega
      have gt : ((tk : Int) == 2) = false := by simp; omega
      have HKT := Lib.hid k1
      clear hack HT2 HT3 k1
      go_wp2_with fail
      go_ret
      exact ⟨by simp; have := HKT.out; omega, below_trans HB02.out HB27.out⟩
theorem scanTurns_walk (w : World) (f : Fr) (A0 : Option Addr) (c0 at0 : Nat) (hat : at0 < 65536) (hf : f.data.length ≤ 9223372036854775807) (hr0 : Rd w A0 (bys f.data)) (hfn : FrN f) :
    Calls Tryz.prog 6 #[frv f (.slice A0 f.data.length c0), .int .u16 at0] w fun e w' => e = .returned (.bool true) ∧ Below w.heap.size w w' := by
  cases h1 : okF f
  · exact scanTurns_triv w f A0 c0 at0 hf (.inl h1)
  · by_cases h2 : f.data.length ≤ 100
    · exact scanTurns_main w f A0 c0 at0 hat hr0 hfn h1 h2
    · exact scanTurns_triv w f A0 c0 at0 hf (.inr ⟨h1, by omega⟩)
theorem scanTurns_walkZ (w : World) (f : Fr) (A0 : Option Addr) (c0 : Nat) (z : Int) (hz : 0 ≤ z ∧ z < 65536) (hf : f.data.length ≤ 9223372036854775807) (hr0 : Rd w A0 (bys f.data)) (hfn : FrN f) :
    Calls Tryz.prog 6 #[frv f (.slice A0 f.data.length c0), .int .u16 z] w fun e w' => e = .returned (.bool true) ∧ Below w.heap.size w w' := by
  obtain ⟨m, rfl⟩ := Int.eq_ofNat_of_zero_le hz.1
  exact scanTurns_walk w f A0 c0 m (by omega) hf hr0 hfn
end Go.Proofs.YtlmdkmflbhnlgaaGreat
-- RowScanTurns: The law ScanTurns answers true at every input, and leaves its input as it was. No condition.
namespace Go.Proofs.YtlmdkmflbhnlgaaGreat
open Go.ChangeShapes Go.WideShapes Go.ChangeAt Go.RowKit
set_option maxRecDepth 100000 in
theorem scanTurns_lifted (os : Os) (started : os.Started) (H : Type) (enc : TypeId × Value → H) :
    ReturnsInHanded {} Tryz.checked os 6 .any (Rows.scanTurnsSpec.pre6 enc Tryz.prog Tryz.f6 Rows.scanTurnsRow.domain false) (Rows.scanTurnsSpec.post enc Tryz.prog Tryz.f6 false true false false) := by
  refine returnsInHanded_of_change (C := Tryz.checked) own started (by kernel_rfl) Tryz.func6
    (ChangeSpec.witness6 (enc := enc) (C := Tryz.checked) false ⟨#[], #[zeroV, .int .u16 0], []⟩ 8 (by kernel_rfl) (by kernel_rfl) (by kernel_rfl) (by kernel_rfl)) ?_
  intro W base args ds gs before hval0 hW hcnd _
  have hval : ∀ (j : Nat) t v, Tryz.f6.params[j]? = some t → args[j]? = some v → Value.okWide Tryz.prog W .any base t v := hval0
  have hW' := hW
  obtain ⟨p, q, hA0, hV, rfl, hfz, hnd⟩ := hW
  have hA : DataW.TrodAll enc Tryz.prog W 0 (fun _ => true) true Tryz.f6.params.toList args.toList ds p := hA0
  rw [Tryz.params6] at hA hval
  obtain ⟨v0, vs0, d0, ds0, p0, q0, hargs, rfl, rfl, h0, r0⟩ := trodAll_cons hA
  obtain ⟨v1, vs1, d1, ds1, p1, q1, rfl, rfl, rfl, h1, r1⟩ := trodAll_cons r0
  obtain ⟨rfl, rfl, rfl⟩ := trodAll_nil r1
  obtain rfl : args = #[v0, v1] := by cases args; simp_all
  obtain ⟨rfl, rfl⟩ := trodVars_none hV
  have k0 := h0
  have lt0 : ∀ x ∈ p0, x.block < W.heap.size := by obtain ⟨m, hm⟩ := k0; exact DataW.trod_lt m _ _ _ hm
  obtain ⟨f0, A0, c0, rfl, rd0, wf0, hc0⟩ := open_frame (hval 0 28 v0 rfl rfl) h0
  have k1 := h1
  have lt1 : ∀ x ∈ p1, x.block < W.heap.size := by obtain ⟨m, hm⟩ := k1; exact DataW.trod_lt m _ _ _ hm
  obtain ⟨n1, rfl, -, -, wn1⟩ := open_int Tryz.underlying49 (hval 1 49 v1 rfl rfl) h1
  clear hA0 hval0
  refine (scanTurns_walkZ W f0 A0 c0 n1 ⟨(bounds_u16 wn1).1, by have := (bounds_u16 wn1).2; omega⟩ wf0.len rd0 ⟨wf0.id0, ⟨wf0.sdt0, wf0.sdt1⟩, ⟨wf0.vcid0, wf0.vcid1⟩, ⟨wf0.af0, wf0.af1⟩, wf0.data⟩).mono fun e W' ⟨he, bel⟩ => ?_
  subst he
  exact ⟨_, rfl, _, _, _, [], _, [], hW', trodAll_mk1 (shut_bool Tryz.underlying4 _), (trodAll_cons_mk (Below.trod laidOut (by kernel_rfl) (of_decide_eq_true (by kernel_rfl)) k0 bel lt0) (trodAll_cons_mk (Below.trod laidOut (by kernel_rfl) (of_decide_eq_true (by kernel_rfl)) k1 bel lt1) trodAll_mk0)), rfl, bel.frame _, fun h => by cases h⟩
theorem scanTurns_holds : Rows.ScanTurnsSaid :=
  OpenClaim.holds_of_wide 6 Tryz.f6 rfl rfl rfl rfl rfl rfl rfl ⟨rfl, rfl, rfl, rfl, rfl⟩ rfl rfl rfl rfl rfl (by kernel_rfl) Tryz.func6 (by kernel_rfl)
    (of_decide_eq_true (by kernel_rfl)) (by unfold Func.isWrapper; rw [if_neg (of_decide_eq_false (by kernel_rfl))]; exact ⟨rfl, rfl⟩)
    (fun os started H enc _ => scanTurns_lifted os started H enc)
end Go.Proofs.YtlmdkmflbhnlgaaGreat
