/- The law ScanFrames answers true at every input, and leaves its input as it was. No condition. (With what it needs of its own.) -/
import Derived.Test.YtlmdkmflbhnlgaaGreatZScan11
-- LawScanFrames: The law ScanFrames answers true. No condition.
namespace Go.Proofs.YtlmdkmflbhnlgaaGreat
open Go.RowKit
/-- A row's beginning is a row of the same kind; a cell of it may be set. -/
theorem Row.take {w : World} {base t c : Nat} {A : Option Addr} {xs : List Value} (h : Row w base t A c xs) (k : Nat) (hk : k ≤ xs.length) : Row w base t A c (xs.take k) := by
  obtain ⟨h1, h2⟩ := h
  have hl : (xs.take k).length = k := by rw [List.length_take]; omega
  unfold Row
  rw [hl]
  refine ⟨by simp [hl], ?_⟩
  rcases h2 with ⟨hv, h0⟩ | ⟨g, cap, cur, hv, hg, hh, hn, hm, hs, ht⟩
  · left
    injection hv with e1 e2 e3
    exact ⟨by rw [e1, e3]; congr 1; omega, by omega⟩
  · right
    injection hv with e1 e2 e3
    refine ⟨g, cap, cur, by rw [e1, e3], hg, hh, by omega, hm, hs, ?_⟩
    have : (cur.toList.take (xs.length * 1)).take k = xs.take k := by rw [ht]
    rw [List.take_take] at this
    rw [← this]
    congr 1
    omega
theorem Row.setU {w : World} {base t c : Nat} {ad : Addr} {xs : List Value} (h : Row w base t (some ad) c xs) (k : Nat) (v : Value) : ad = ⟨ad.block, 0, none⟩ ∧ base ≤ ad.block ∧ w.frozen? ⟨ad.block, ad.off + k, none⟩ = false ∧ Row (w.setCell ⟨ad.block, ad.off + k, none⟩ v) base t (some ad) c (xs.set k v) := by
  obtain ⟨h1, h2⟩ := h
  unfold Row
  rw [List.length_set]
  rcases h2 with ⟨hv, -⟩ | ⟨g', cap, cur, hv, hg, hh, hn, hm, hs, ht⟩
  · cases hv
  · obtain rfl : ad = ⟨g', 0, none⟩ := by injection hv with e; injection e
    refine ⟨rfl, hg, by simp [World.frozen?, hh], by simp, ?_⟩
    refine .inr ⟨g', cap, _, hv, hg, heap_setCell hh (0 + k) v, hn, hm, by simpa using hs, ?_⟩
    rw [Array.toList_setIfInBounds, List.take_set, ht]
    congr 1
    omega
theorem Row.cellU {w : World} {base c : Nat} {ad : Addr} {l : List Nat} (h : Row w base 5 (some ad) c (bys l)) (k : Nat) (hk : k < l.length) : ∃ x : Nat, w.cell? ⟨ad.block, ad.off + k, none⟩ = some (.int .u8 (x : Int)) := by
  obtain ⟨e, -⟩ := h.setU 0 (.int .u8 0)
  obtain ⟨ad', e', hc⟩ := h.rd.at_ k hk
  obtain rfl : ad = ad' := by injection e'
  refine ⟨l[k], ?_⟩
  rw [← hc]
  unfold Addr.add
  rw [e]
  by_cases h0 : k = 0 <;> simp [h0]
set_option maxRecDepth 100000 in
set_option maxHeartbeats 4000000 in
theorem scanFrames_triv (w : World) (f : Fr) (A0 A1 : Option Addr) (c0 n1 c1 : Nat) (l1 : List Nat) (ack : Bool) (hf : f.data.length ≤ 9223372036854775807) (hr1 : Rd w A1 (bys l1)) (hn1 : l1.length = n1) (hm1 : n1 ≤ 9223372036854775807)
    (h : okF f = false ∨ (okF f = true ∧ 300 < f.data.length) ∨ (okF f = true ∧ f.data.length ≤ 300 ∧ 100 < n1) ∨ (okF f = true ∧ f.data.length ≤ 300 ∧ n1 ≤ 100 ∧ bitsOk l1 = false)) :
    Calls Tryz.prog 5 #[frv f (.slice A0 f.data.length c0), .bool ack, .slice A1 n1 c1] w fun e w' => e = .returned (.bool true) ∧ Below w.heap.size w w' := by
  have HAL := Lib.hid (fun W => alive09 W)
  have HC1 := Lib.hid (fun W => Check_any f A0 c0 W hf)
  have HCK := Lib.hid (fun W (hW : Rd W A1 (bys l1)) => BitsCheck_any A1 n1 c1 l1 W hW hn1 (by omega))
  have HR1 := Lib.hid hr1
  obtain ⟨o1, ho1⟩ : ∃ o, okF f = o := ⟨_, rfl⟩
  obtain ⟨o2, ho2⟩ : ∃ o, bitsOk l1 = o := ⟨_, rfl⟩
  rw [ho1] at HC1 h
  rw [ho2] at HCK h
  unfold errV at HC1
  obtain ⟨fk, fi, fe, fr, f4, f5, f6, f7, f8, f9, fd⟩ := f
  dsimp only [frv] at *
  generalize fd.length = n at *
  clear ho1 ho2 hr1 hn1
  rcases h with rfl | ⟨rfl, h3⟩ | ⟨rfl, h3, h4⟩ | ⟨rfl, h3, h4, rfl⟩
  · simp only [Bool.false_eq_true, if_false] at HC1
    go_enter Tryz.func5, Tryz.ntmps5
    go_wp2_with fail
    refine calls_blk1 (fun W0 q1 hb => ?_)
    have HB := Lib.hid hb
    obtain ⟨a0, a1, a2, a3, a4, a5, a6, a7, a8, a9, a10⟩ := ext11 q1
    clear hb q1
    refine (extc_same (HAL.out _)).mono ?_
    rintro x _ ⟨e1, rfl, rfl⟩
    go_wp2_with fail
    refine (extc (HC1.out _)).mono ?_
    rintro x _ ⟨e2, rfl, rfl⟩
    go_wp2_with fail
    go_ret
    exact ⟨rfl, ext_end HB.out⟩
  · have g3 : decide ((300 : Int) < (n : Int)) = true := by simp; omega
    simp only [if_true] at HC1
    go_enter Tryz.func5, Tryz.ntmps5
    go_wp2_with fail
    refine calls_blk1 (fun W0 q1 hb => ?_)
    have HB := Lib.hid hb
    obtain ⟨a0, a1, a2, a3, a4, a5, a6, a7, a8, a9, a10⟩ := ext11 q1
    clear hb q1
    refine (extc_same (HAL.out _)).mono ?_
    rintro x _ ⟨e1, rfl, rfl⟩
    go_wp2_with fail
    refine (extc (HC1.out _)).mono ?_
    rintro x _ ⟨e2, rfl, rfl⟩
    go_wp2_with fail
    go_ret
    exact ⟨rfl, ext_end HB.out⟩
  · have g3 : decide ((300 : Int) < (n : Int)) = false := by simp; omega
    have g4 : decide ((100 : Int) < (n1 : Int)) = true := by simp; omega
    simp only [if_true] at HC1
    go_enter Tryz.func5, Tryz.ntmps5
    go_wp2_with fail
    refine calls_blk1 (fun W0 q1 hb => ?_)
    have HB := Lib.hid hb
    obtain ⟨a0, a1, a2, a3, a4, a5, a6, a7, a8, a9, a10⟩ := ext11 q1
    clear hb q1
    refine (extc_same (HAL.out _)).mono ?_
    rintro x _ ⟨e1, rfl, rfl⟩
    go_wp2_with fail
    refine (extc (HC1.out _)).mono ?_
    rintro x _ ⟨e2, rfl, rfl⟩
    go_wp2_with fail
    go_ret
    exact ⟨rfl, ext_end HB.out⟩
  · have g3 : decide ((300 : Int) < (n : Int)) = false := by simp; omega
    have g4 : decide ((100 : Int) < (n1 : Int)) = false := by simp; omega
    simp only [if_true, Bool.false_eq_true, if_false] at HC1 HCK
    go_enter Tryz.func5, Tryz.ntmps5
    go_wp2_with fail
    refine calls_blk1 (fun W0 q1 hb => ?_)
    have HB := Lib.hid hb
    have HR2 := Lib.hid (HR1.out.below hb)
    obtain ⟨a0, a1, a2, a3, a4, a5, a6, a7, a8, a9, a10⟩ := ext11 q1
    clear hb q1
    refine (extc_same (HAL.out _)).mono ?_
    rintro x _ ⟨e1, rfl, rfl⟩
    go_wp2_with fail
    refine (extc (HC1.out _)).mono ?_
    rintro x _ ⟨e2, rfl, rfl⟩
    go_wp2_with fail
    refine (HCK.out _ (HR2.out.ext e2)).mono ?_
    rintro x _ ⟨rfl, rfl⟩
    go_wp2_with fail
    go_ret
    exact ⟨rfl, ext_end HB.out⟩
set_option maxRecDepth 100000 in
set_option maxHeartbeats 16000000 in
theorem scanFrames_main (w : World) (f : Fr) (A0 A1 : Option Addr) (c0 n1 c1 : Nat) (l1 : List Nat) (ack : Bool) (hr0 : Rd w A0 (bys f.data)) (hfn : FrN f) (hok : okF f = true) (hl : f.data.length ≤ 300) (hr1 : Rd w A1 (bys l1)) (hn1 : l1.length = n1) (hz1 : A1 = none → c1 = 0) (h100 : n1 ≤ 100) (hb1 : bitsOk l1 = true) :
    Calls Tryz.prog 5 #[frv f (.slice A0 f.data.length c0), .bool ack, .slice A1 n1 c1] w fun e w' => e = .returned (.bool true) ∧ Below w.heap.size w w' := by
  obtain ⟨i0, hi, hi0, hi1, hi2⟩ := info_parts info_u8
  obtain ⟨NR, NH, hNR, hNH, hWr⟩ := Wire09_ok f A0 c0 hok hfn
  have hNR2 : NR ≤ 4000 := by rw [← hNR]; exact rawA_len f hok hl
  have HAL := Lib.hid (fun W => alive09 W)
  have HC1 := Lib.hid (fun W => Check_any f A0 c0 W (by omega))
  have HCK := Lib.hid (fun W (hW : Rd W A1 (bys l1)) => BitsCheck_any A1 n1 c1 l1 W hW hn1 (by omega))
  have HWR := Lib.hid (fun W hW => hWr W hW)
  have HNW := Lib.hid (fun W => mNew true W)
  have HSAME := Lib.hid (fun W A c hW1 hW2 => Same_any f f A A0 c c0 W hW1 hW2 hfn.data hfn.data)
  have hsame : sameF f f = true := by unfold sameF; simp
  rw [hok] at HC1
  rw [hb1] at HCK
  rw [hsame] at HSAME
  simp only [if_true, errV] at HC1 HCK
  have HWO : Hid (∀ W e w', WireOk f NR NH W e w' ↔ ((∃ A' c', e = .returned (.tuple #[.agg #[.slice A' (NR + 10 : Nat) c', .int .i64 (NH : Nat), .int .i64 (NR + 1 : Nat)], .int .i64 0]) ∧ Row w' W.heap.size 5 A' c' (bys (wireB f 1))) ∧ Below W.heap.size W w')) := fun _ _ _ => Iff.rfl
  obtain ⟨R, hR⟩ : ∃ R, WireOk f NR NH = R := ⟨_, rfl⟩
  rw [hR] at HWR HWO
  clear hR
  have HK := Lib.hid (fun a i hi => wireB_kinds f a hok hfn NR hNR i hi)
  have HKB := Lib.hid (fun a => wireB_behind f a hok hfn NR hNR l1)
  have HLEN := Lib.hid (fun a => (show (wireB f a).length = NR + 10 by rw [wireB_len, hNR]))
  have HBITS := Lib.hid (fun a ha => wireB_bits f a ha)
  have HSET := Lib.hid (wireB_set f NR hNR)
  have HR0 := Lib.hid hr0
  have HR1 := Lib.hid hr1
  have HN1 := Lib.hid hn1
  have HB1 := Lib.hid hb1
  have HZ1 : Hid (bys l1 = [] → A1 = none → c1 = 0) := fun _ h => hz1 h
  clear hr0 hr1 hn1 hz1 hb1 hNR hNH hWr hok hsame
  obtain ⟨WB, hWB⟩ : ∃ WB, wireB f = WB := ⟨_, rfl⟩
  rw [hWB] at HWO HK HKB HLEN HBITS HSET
  clear hWB
  have hfd := hfn.data
  clear hfn
  obtain ⟨fk, fi, fe, fr, f4, f5, f6, f7, f8, f9, fd⟩ := f
  dsimp only [frv] at *
  obtain ⟨n, hn⟩ : ∃ n, fd.length = n := ⟨_, rfl⟩
  have HN := Lib.hid hn
  rw [hn] at HC1 HWR HSAME hl ⊢
  have g3 : decide ((300 : Int) < (n : Int)) = false := by simp; omega
  have g4 : decide ((100 : Int) < (n1 : Int)) = false := by simp; omega
  clear hn
  go_enter Tryz.func5, Tryz.ntmps5
  go_wp2_with fail
  refine calls_blk1 (fun W0 q0 hb0 => ?_)
  refine (HAL.out _).mono ?_
  rintro e w1 ⟨rfl, hb1⟩
  have Q1 := Lib.hid (heap_below hb1 q0)
  have HB1' := Lib.hid (below_trans hb0 hb1)
  obtain ⟨a0, a1, a2, a3, a4, a5, a6, a7, a8, a9, a10⟩ := cells11 Q1.out
  clear q0 hb0 hb1
  go_wp2_with fail
  refine (HC1.out _).mono ?_
  rintro e w2 ⟨rfl, hb2⟩
  have Q2 := Lib.hid (heap_below hb2 Q1.out)
  have HB2 := Lib.hid (below_trans HB1'.out hb2)
  clear hb2 Q1 HB1' a0 a1 a2 a3 a4 a5 a6 a7 a8 a9 a10
  obtain ⟨a0, a1, a2, a3, a4, a5, a6, a7, a8, a9, a10⟩ := cells11 Q2.out
  go_wp2_with fail
  refine (HCK.out _ (HR1.out.below HB2.out)).mono ?_
  rintro e _ ⟨rfl, rfl⟩
  go_wp2_with fail
  refine (HWR.out _ (HR0.out.below HB2.out)).mono ?_
  rintro e w3 hpost3
  obtain ⟨⟨A3, c3, rfl, hrow3⟩, hb3⟩ := (HWO.out _ _ _).1 hpost3
  have Q3 := Lib.hid (heap_below hb3 Q2.out)
  have HB3 := Lib.hid (below_trans HB2.out hb3)
  have HB02 := Lib.hid HB2.out
  have HROW3 := Lib.hid hrow3
  have hc3 := hrow3.cap
  have hlt3 := hrow3.lt_
  rw [bys_length, HLEN.out] at hc3
  have hp02 : w.heap.size < w2.heap.size := heap_lt Q2.out
  have hp23 : w2.heap.size ≤ w3.heap.size := hb3.size
  have HB23 := Lib.hid hb3
  clear hb3 HB2 a0 a1 a2 a3 a4 a5 a6 a7 a8 a9 a10 hrow3 hpost3
  go_upto_region 6 with (fail)
  obtain ⟨W4, hW4, q4, hb4⟩ : ∃ W4, w3.alloc (.cells #[.slice A3 (NR + 10) c3, .int .i64 NH, .int .i64 ((NR : Int) + 1)] 44) = W4 ∧ W4.heap[w3.heap.size]? = some (.cells #[.slice A3 (NR + 10) c3, .int .i64 NH, .int .i64 ((NR : Int) + 1)] 44 (0, 0)) ∧ Below w3.heap.size w3 W4 := ⟨_, rfl, heap_new_at rfl, below_alloc (Below.refl _ _) _⟩
  rw [hW4]
  have HB4 := Lib.hid (below_trans HB3.out hb4)
  have HROW4 := Lib.hid (HROW3.out.below hb4)
  have Q04 := Lib.hid (heap_below hb4 Q3.out)
  have Q4 := Lib.hid q4
  have hp34 : w3.heap.size < W4.heap.size := heap_lt q4
  have HB24 := Lib.hid (HB23.out.trans (hb4.mono hp23))
  clear hW4 q4 hb4 HB23 HROW3 Q3 HB3
  generalize w3.heap.size = p7 at *
  obtain ⟨ad, rfl, -⟩ := HROW4.out.rd.at_ 0 (by rw [HLEN.out]; omega)
  obtain ⟨hade, hadb, hadz, hset4⟩ := HROW4.out.setU (NR + 1) (.int .u8 0)
  have HST4 := Lib.hid hset4
  have HADE := Lib.hid hade
  clear hset4 hade
  cases ack
  case' true =>
    have t0 : W4.cell? ⟨p7, 0, none⟩ = some (.slice (some ad) (NR + 10) c3) := cell_of_heap Q4.out 0 _ rfl
    have t2 : W4.cell? ⟨p7, 2, none⟩ = some (.int .i64 ((NR : Int) + 1)) := cell_of_heap Q4.out 2 _ rfl
    obtain ⟨x4, cad⟩ := HROW4.out.cellU (NR + 1) (by rw [HLEN.out]; omega)
    go_upto_region 10 with (fail)
    have hadp : ad.block < p7 := hlt3 _ (by simp [blkA])
    obtain ⟨W5, hW5⟩ : ∃ W5, W4.setCell ⟨ad.block, ad.off + (NR + 1), none⟩ (.int .u8 0) = W5 := ⟨_, rfl⟩
    have hst := HST4.out
    rw [show (Value.int .u8 0) = .int .u8 ((0 : Nat) : Int) from rfl, bys_set, HSET.out, show (Value.int .u8 ((0 : Nat) : Int)) = .int .u8 0 from rfl, hW5] at hst
    have HB25 : Hid (Below w2.heap.size w2 W5) := by show Below _ _ _; rw [← hW5]; exact HB24.out.setCell (p := ⟨ad.block, ad.off + (NR + 1), none⟩) hadb _
    have Q5 : Hid (W5.heap[p7]? = some (.cells #[.slice (some ad) (NR + 10) c3, .int .i64 NH, .int .i64 ((NR : Int) + 1)] 44 (0, 0))) := by show _ = _; rw [← hW5]; exact (Below.heap_setCell W4 ⟨ad.block, ad.off + (NR + 1), none⟩ (.int .u8 0) p7 (show p7 ≠ ad.block by omega)).trans Q4.out
    have hsz5 : W5.heap.size = W4.heap.size := by rw [← hW5]; simp
    obtain ⟨av, hav, HROW5⟩ : ∃ av, av ≤ 1 ∧ Hid (Row W5 w2.heap.size 5 (some ad) c3 (bys (WB av))) := ⟨0, by omega, hst⟩
    rw [hW5]
    clear hst hW5 cad t0 t2
  case' false =>
    go_upto_region 10 with (fail)
    obtain ⟨W5, hW5⟩ : ∃ W5, W4 = W5 := ⟨_, rfl⟩
    have HB25 : Hid (Below w2.heap.size w2 W5) := by show Below _ _ _; rw [← hW5]; exact HB24.out
    have Q5 : Hid (W5.heap[p7]? = some (.cells #[.slice (some ad) (NR + 10) c3, .int .i64 NH, .int .i64 ((NR : Int) + 1)] 44 (0, 0))) := by show _ = _; rw [← hW5]; exact Q4.out
    have hsz5 : W5.heap.size = W4.heap.size := by rw [← hW5]
    obtain ⟨av, hav, HROW5⟩ : ∃ av, av ≤ 1 ∧ Hid (Row W5 w2.heap.size 5 (some ad) c3 (bys (WB av))) := ⟨1, by omega, by show Row _ _ _ _ _ _; rw [← hW5]; exact HROW4.out⟩
    rw [hW5]
    clear hW5
  all_goals
    have Q05 := Lib.hid (heap_belowG HB25.out hp02 Q2.out)
    have hp5 : p7 < W5.heap.size := heap_lt Q5.out
    clear HB24 HROW4 HST4 Q4 HB4 hadz hlt3 hsz5 Q04
    go_wp2_with fail
    refine (HNW.out _).mono ?_
    rintro e w6 ⟨rfl, ⟨s6, a6, h6, n6⟩, hb6⟩
    have HM6 : Hid (∃ s a, MR w6 s W5.heap.size (scanM true ((WB av).take 0)) a ∧ ∀ k ∈ s, W5.heap.size ≤ k) := ⟨s6, a6, h6, n6⟩
    have HB6 := Lib.hid hb6
    have t0 : w6.cell? ⟨p7, 0, none⟩ = some (.slice (some ad) (NR + 10) c3) := cell_of_heap (heap_below hb6 Q5.out) 0 _ rfl
    clear h6 n6 hb6
    obtain ⟨mp, hmp⟩ : ∃ mp, W5.heap.size = mp := ⟨_, rfl⟩
    have HMP := Lib.hid hmp
    rw [hmp] at HM6 HB6 hp5 ⊢
    clear hmp
    go_wp2_with fail
    go_loopw [60] (fun iv wr => ∃ k : Nat, k ≤ NR + 9 ∧ iv = .int .i64 k ∧ Hid (∃ s a, MR wr s mp (scanM true ((WB av).take k)) a ∧ ∀ j ∈ s, mp ≤ j) ∧ Hid (Below mp W5 wr)) (fun iv _ => NR + 9 - (intOf iv).toNat)
    case atStart => exact ⟨0, by omega, rfl, HM6, HB6⟩
    case round =>
      obtain ⟨k, hk, rfl, HM, HW⟩ := hrel
      have hbw : Below W5.heap.size W5 wr := by rw [HMP.out]; exact HW.out
      by_cases hkn : k < NR + 9
      · have hkl : k < (WB av).length := by rw [HLEN.out]; omega
        obtain ⟨x, ca⟩ : ∃ x, wr.cell? (ad.add k) = some (.int .u8 (x : Nat)) ∧ x = (WB av)[k] := by
          obtain ⟨ad', e', hc⟩ := (HROW5.out.below hbw).rd.at_ k hkl
          obtain rfl : ad = ad' := by injection e'
          exact ⟨_, hc, rfl⟩
        obtain ⟨ca, hxe⟩ := ca
        have hx : x ≤ 1 := by rw [hxe]; exact HBITS.out av hav _ (List.getElem_mem hkl)
        have htk : (WB av).take (k + 1) = (WB av).take k ++ [x] := by rw [hxe]; exact List.take_succ_eq_append_getElem hkl
        obtain ⟨s3, a3, h3, n3⟩ := HM.out
        have hseen : (scanM true ((WB av).take k)).seen ≤ 29000 := by rw [scanM_seen, List.length_take]; omega
        have hsee := mSee h3 (scanM_ok true _ fun y hy => HBITS.out av hav y (List.mem_of_mem_take hy)) hseen x hx
        rw [← scanM_snoc, ← htk] at hsee
        obtain ⟨k1, k2, k3⟩ := HK.out av k hkn
        obtain ⟨S, hS⟩ : ∃ S, scanM true ((WB av).take (k + 1)) = S := ⟨_, rfl⟩
        rw [hS] at hsee k1 k2 k3
        have HS := Lib.hid hS
        have HSEE := Lib.hid hsee
        have N3 := Lib.hid n3
        have hm3 := h3.lt
        clear hS hsee hseen htk hxe hkl hx h3 n3 HM hbw
        go_wp2_with fail
        refine HSEE.out.mono ?_
        rintro e w7 ⟨A7, c7, s7, a7', rfl, h7, n7, t7, hrow7, hap7⟩
        have hnew7 : ∀ j ∈ s7, mp ≤ j := fun j hj => (n7 j hj).elim (N3.out j) (fun h => by omega)
        have HW7 : Hid (Below mp W5 w7) := HW.out.trans (t7.below N3.out (by omega))
        have H7 : Hid (∃ s a, MR w7 s mp (scanM true ((WB av).take (k + 1))) a ∧ ∀ j ∈ s, mp ≤ j) := ⟨s7, a7', by rw [HS.out]; exact h7, hnew7⟩
        have HR7 := Lib.hid hrow7.rd
        have hm7 := h7.lt
        clear h7 n7 t7 hrow7 hap7 hnew7 ca
        obtain ⟨tk, htk⟩ : ∃ tk, S.kind = tk := ⟨_, rfl⟩
        obtain ⟨te, hte⟩ : ∃ te, S.err = te := ⟨_, rfl⟩
        obtain ⟨F, htf⟩ : ∃ F, S.sf = F := ⟨_, rfl⟩
        rw [htk] at k1
        rw [hte] at k2
        rw [htf] at k3
        rw [htf] at HR7
        simp only [stL, htk, hte, htf]
        clear htk hte htf HS
        subst k2
        have HKF := Lib.hid k3
        have HK1 := Lib.hid k1
        clear k3 k1
        go_upto_region 15 with (fail)
        obtain ⟨W8, hW8, q8, hb8⟩ : ∃ W8, w7.alloc (.cells #[.int .i64 tk, .int .i64 0, .int .i64 F.kind, .int .u32 F.id, .bool F.ext, .bool F.rtr, .bool F.brs, .bool F.esi, .bool F.sec, .int .u8 F.sdt, .int .u8 F.vcid, .int .u32 F.af, .slice A7 F.data.length c7] 30) = W8 ∧ W8.heap[w7.heap.size]? = some (.cells #[.int .i64 tk, .int .i64 0, .int .i64 F.kind, .int .u32 F.id, .bool F.ext, .bool F.rtr, .bool F.brs, .bool F.esi, .bool F.sec, .int .u8 F.sdt, .int .u8 F.vcid, .int .u32 F.af, .slice A7 F.data.length c7] 30 (0, 0)) ∧ Below w7.heap.size w7 W8 := ⟨_, rfl, heap_new_at rfl, below_alloc (Below.refl _ _) _⟩
        rw [hW8]
        have H8 : Hid (∃ s a, MR W8 s mp (scanM true ((WB av).take (k + 1))) a ∧ ∀ j ∈ s, mp ≤ j) := by obtain ⟨s, a, h, hn⟩ := H7.out; exact ⟨s, a, h.below hb8, hn⟩
        have HW8 := Lib.hid (HW7.out.trans (hb8.mono (by omega)))
        have HR8 := Lib.hid (HR7.out.below hb8)
        obtain ⟨z0, z1, z2, z3, z4, z5, z6, z7, z8, z9, z10, z11, z12⟩ := cells13 q8
        have hm8 : mp < W8.heap.size := by have := hb8.size; omega
        clear hW8 q8 hb8 H7 HW7 HR7
        generalize w7.heap.size = p9 at *
        have t0 : W8.cell? ⟨p7, 0, none⟩ = some (.slice (some ad) (NR + 10) c3) := cell_of_heap (heap_belowG HW8.out hp5 Q5.out) 0 _ rfl
        have t2 : W8.cell? ⟨p7, 2, none⟩ = some (.int .i64 ((NR : Int) + 1)) := cell_of_heap (heap_belowG HW8.out hp5 Q5.out) 2 _ rfl
        rcases (by omega : k = NR ∨ k = NR + 8 ∨ (k ≠ NR ∧ k ≠ NR + 8)) with h1 | h1 | ⟨h1, h2⟩
        · have k1 := HK1.out
          clear HK1
          rw [if_pos h1] at k1
          subst k1
          have g5 : ((k : Int) == (NR : Int)) = true := by simp; omega
          clear HKF
          go_wp2_with fail
          go_roundw
          case rel => exact ⟨k + 1, by omega, by go_num, H8, HW8⟩
          case measure => simp [intOf]; omega
        · have k1 := HK1.out
          clear HK1
          rw [if_neg (by omega), if_pos h1] at k1
          subst k1
          have hF := HKF.out h1
          subst hF
          have hh1 := Lib.hid h1
          have g5 : ((k : Int) == (NR : Int)) = false := by simp; omega
          have g6 : ((k : Int) == (NR : Int) + 8) = true := by simp; omega
          clear HKF h1
          dsimp only at z2 z3 z4 z5 z6 z7 z8 z9 z10 z11 z12 HR8
          rw [HN.out] at z12
          have Q08 := heap_belowG HW8.out (show w.heap.size < mp by omega) Q05.out
          obtain ⟨b0, b1, b2, b3, b4, b5, b6, b7, b8, b9, b10⟩ := cells11 Q08
          have HB08 := Lib.hid (HB25.out.trans (HW8.out.mono (by omega)))
          have HSM := Lib.hid (HSAME.out W8 A7 c7 HR8.out ((HR0.out.below HB02.out).below (HB08.out.mono (by omega))))
          clear Q08
          go_wp2_with fail
          refine HSM.out.mono ?_
          rintro e w9 ⟨rfl, hb9⟩
          have H9 : Hid (∃ s a, MR w9 s mp (scanM true ((WB av).take (k + 1))) a ∧ ∀ j ∈ s, mp ≤ j) := by obtain ⟨s, a, h, hn⟩ := H8.out; exact ⟨s, a, h.below hb9, hn⟩
          have HW9 := Lib.hid (HW8.out.trans (hb9.mono (by omega)))
          clear hb9
          go_wp2_with fail
          go_roundw
          case rel => (repeat apply Exists.intro); exact ⟨⟨k + 1, by have := hh1.out; omega, by go_num, H9, HW9⟩, rfl⟩
          case measure => simp [intOf]; have := hh1.out; omega
        · have k1 := HK1.out
          clear HK1
          rw [if_neg h1, if_neg h2] at k1
          subst k1
          have g5 : ((k : Int) == (NR : Int)) = false := by simp; omega
          have g6 : ((k : Int) == (NR : Int) + 8) = false := by simp; omega
          clear HKF
          go_wp2_with fail
          go_roundw
          case rel => exact ⟨k + 1, by omega, by go_num, H8, HW8⟩
          case measure => simp [intOf]; omega
      · obtain rfl : k = NR + 9 := by omega
        have t0 : wr.cell? ⟨p7, 0, none⟩ = some (.slice (some ad) (NR + 10) c3) := cell_of_heap (heap_below hbw Q5.out) 0 _ rfl
        have HRT : Hid (Row wr w2.heap.size 5 (some ad) c3 (bys ((WB av).take (NR + 9)))) := by
          have h := (HROW5.out.below hbw).take (NR + 9) (by rw [bys_length, HLEN.out]; omega)
          show Row _ _ _ _ _ _
          unfold bys at h ⊢
          rw [List.map_take]
          exact h
        have hlt : (bys ((WB av).take (NR + 9))).length = NR + 9 := by rw [bys_length, List.length_take, HLEN.out]; omega
        have hlt' : ((WB av).take (NR + 9)).length = NR + 9 := by rw [← bys_length]; exact hlt
        have hl1 : (bys l1).length = n1 := by rw [bys_length]; exact HN1.out
        have hb2r : Below w2.heap.size w2 wr := HB25.out.trans (HW.out.mono (by omega))
        have HBR := Lib.hid hb2r
        have HR1w := Lib.hid ((HR1.out.below HB02.out).below hb2r)
        have hw2r := hb2r.size
        obtain ⟨S, hS⟩ : ∃ S, scanM true ((WB av).take (NR + 9) ++ l1) = S := ⟨_, rfl⟩
        obtain ⟨k1, k2, k3⟩ := HKB.out av
        rw [hS] at k1 k2 k3
        have hbo : bitsOk ((WB av).take (NR + 9) ++ l1) = true := by
          refine bitsOk_app ?_ HB1.out (by rw [hlt', HN1.out]; omega)
          unfold bitsOk
          rw [Bool.and_eq_true, decide_eq_true_eq, decide_eq_true_eq, hlt']
          exact ⟨by omega, fun x hx => HBITS.out av hav x (List.mem_of_mem_take hx)⟩
        have HSC := Lib.hid (fun W A c hW => scan_bits W A c (NR + 9 + n1) ((WB av).take (NR + 9) ++ l1) true S hS hbo hW (by rw [List.length_append, hlt', HN1.out]) (by omega))
        rw [k1, k2, k3] at HSC
        dsimp only at HSC
        rw [HN.out] at HSC
        have HLT := Lib.hid hlt
        have HL1 := Lib.hid hl1
        clear k1 k2 k3 hS hbo hlt hlt' hl1 hb2r HM hbw
        go_wp2_with (first
          | (at_builtin; refine wpList_appB rfl (.tmp 115) (.tmp 116) 22 rfl w2.heap.size 5 i0 (.int .u8 0) 1 Tryz.underlying22 hi hi0 hi1 hi2 rfl (some ad) (NR + 9) c3 (bys ((WB av).take (NR + 9))) (by kernel_rfl) HLT.out HRT.out A1 n1 c1 (bys l1) (by kernel_rfl) HL1.out HR1w.out (bys_one _) HZ1.out (NR + 9 + n1) rfl (by unfold maxLen; omega) (by omega) (by omega) ?_; intro W9 A9 c9 HROW9 HB9)
          | fail)
        have hrd9 := HROW9.out.rd
        rw [← bys_append] at hrd9
        have HB29 := Lib.hid (HBR.out.trans HB9.out)
        refine (HSC.out _ _ _ hrd9).mono ?_
        rintro e w10 ⟨⟨A10, c10, rfl, hrow10⟩, hb10⟩
        have HRD10 := Lib.hid hrow10.rd
        have HB210 := Lib.hid (HB29.out.trans (hb10.mono (by have := HB29.out.size; omega)))
        clear hrow10 hb10 hrd9 HROW9 HB9 HB29 HRT HBR HR1w HSC
        go_upto_region 25 with (fail)
        obtain ⟨W11, hW11, q11, hb11⟩ : ∃ W11, w10.alloc (.cells #[.int .i64 2, .int .i64 0, .int .i64 fk, .int .u32 fi, .bool fe, .bool fr, .bool f4, .bool f5, .bool f6, .int .u8 f7, .int .u8 f8, .int .u32 f9, .slice A10 n c10] 30) = W11 ∧ W11.heap[w10.heap.size]? = some (.cells #[.int .i64 2, .int .i64 0, .int .i64 fk, .int .u32 fi, .bool fe, .bool fr, .bool f4, .bool f5, .bool f6, .int .u8 f7, .int .u8 f8, .int .u32 f9, .slice A10 n c10] 30 (0, 0)) ∧ Below w10.heap.size w10 W11 := ⟨_, rfl, heap_new_at rfl, below_alloc (Below.refl _ _) _⟩
        rw [hW11]
        have hb211 := HB210.out.trans (hb11.mono HB210.out.size)
        have HB211 := Lib.hid hb211
        have HR11 := Lib.hid (HRD10.out.below hb11)
        obtain ⟨z0, z1, z2, z3, z4, z5, z6, z7, z8, z9, z10, z11, z12⟩ := cells13 q11
        have Q011 := heap_belowG hb211 hp02 Q2.out
        obtain ⟨b0, b1, b2, b3, b4, b5, b6, b7, b8, b9, b10⟩ := cells11 Q011
        have HSM := Lib.hid (HSAME.out W11 A10 c10 HR11.out ((HR0.out.below HB02.out).below hb211))
        clear hW11 q11 hb11 hb211 HB210 HRD10 Q011
        generalize w10.heap.size = p11 at *
        go_wp2_with fail
        refine HSM.out.mono ?_
        rintro e w12 ⟨rfl, hb12⟩
        have HB12 := Lib.hid (below_trans (below_trans HB02.out HB211.out) hb12)
        clear hb12
        go_wp2_with fail
        go_ret
        exact ⟨by first | rfl | simp, HB12.out⟩
theorem scanFrames_walk (w : World) (f : Fr) (A0 A1 : Option Addr) (c0 n1 c1 : Nat) (l1 : List Nat) (ack : Bool) (hf : f.data.length ≤ 9223372036854775807) (hr0 : Rd w A0 (bys f.data)) (hfn : FrN f) (hr1 : Rd w A1 (bys l1)) (hn1 : l1.length = n1) (hz1 : A1 = none → c1 = 0) (hm1 : n1 ≤ 9223372036854775807) :
    Calls Tryz.prog 5 #[frv f (.slice A0 f.data.length c0), .bool ack, .slice A1 n1 c1] w fun e w' => e = .returned (.bool true) ∧ Below w.heap.size w w' := by
  cases h1 : okF f
  · exact scanFrames_triv w f A0 A1 c0 n1 c1 l1 ack hf hr1 hn1 hm1 (.inl h1)
  · by_cases h2 : f.data.length ≤ 300
    · by_cases h3 : n1 ≤ 100
      · cases h4 : bitsOk l1
        · exact scanFrames_triv w f A0 A1 c0 n1 c1 l1 ack hf hr1 hn1 hm1 (.inr (.inr (.inr ⟨h1, h2, h3, h4⟩)))
        · exact scanFrames_main w f A0 A1 c0 n1 c1 l1 ack hr0 hfn h1 h2 hr1 hn1 hz1 h3 h4
      · exact scanFrames_triv w f A0 A1 c0 n1 c1 l1 ack hf hr1 hn1 hm1 (.inr (.inr (.inl ⟨h1, h2, by omega⟩)))
    · exact scanFrames_triv w f A0 A1 c0 n1 c1 l1 ack hf hr1 hn1 hm1 (.inr (.inl ⟨h1, by omega⟩))
end Go.Proofs.YtlmdkmflbhnlgaaGreat
-- RowScanFrames: The law ScanFrames answers true at every input, and leaves its input as it was. No condition.
namespace Go.Proofs.YtlmdkmflbhnlgaaGreat
open Go.ChangeShapes Go.WideShapes Go.ChangeAt Go.RowKit
set_option maxRecDepth 100000 in
theorem scanFrames_lifted (os : Os) (started : os.Started) (H : Type) (enc : TypeId × Value → H) :
    ReturnsInHanded {} Tryz.checked os 5 .any (Rows.scanFramesSpec.pre6 enc Tryz.prog Tryz.f5 Rows.scanFramesRow.domain false) (Rows.scanFramesSpec.post enc Tryz.prog Tryz.f5 false true false false) := by
  refine returnsInHanded_of_change (C := Tryz.checked) own started (by kernel_rfl) Tryz.func5
    (ChangeSpec.witness6 (enc := enc) (C := Tryz.checked) false ⟨#[], #[zeroV, .bool false, .slice none 0 0], []⟩ 8 (by kernel_rfl) (by kernel_rfl) (by kernel_rfl) (by kernel_rfl)) ?_
  intro W base args ds gs before hval0 hW hcnd _
  have hval : ∀ (j : Nat) t v, Tryz.f5.params[j]? = some t → args[j]? = some v → Value.okWide Tryz.prog W .any base t v := hval0
  have hW' := hW
  obtain ⟨p, q, hA0, hV, rfl, hfz, hnd⟩ := hW
  have hA : DataW.TrodAll enc Tryz.prog W 0 (fun _ => true) true Tryz.f5.params.toList args.toList ds p := hA0
  rw [Tryz.params5] at hA hval
  obtain ⟨v0, vs0, d0, ds0, p0, q0, hargs, rfl, rfl, h0, r0⟩ := trodAll_cons hA
  obtain ⟨v1, vs1, d1, ds1, p1, q1, rfl, rfl, rfl, h1, r1⟩ := trodAll_cons r0
  obtain ⟨v2, vs2, d2, ds2, p2, q2, rfl, rfl, rfl, h2, r2⟩ := trodAll_cons r1
  obtain ⟨rfl, rfl, rfl⟩ := trodAll_nil r2
  obtain rfl : args = #[v0, v1, v2] := by cases args; simp_all
  obtain ⟨rfl, rfl⟩ := trodVars_none hV
  have k0 := h0
  have lt0 : ∀ x ∈ p0, x.block < W.heap.size := by obtain ⟨m, hm⟩ := k0; exact DataW.trod_lt m _ _ _ hm
  obtain ⟨f0, A0, c0, rfl, rd0, wf0, hc0⟩ := open_frame (hval 0 28 v0 rfl rfl) h0
  have k1 := h1
  have lt1 : ∀ x ∈ p1, x.block < W.heap.size := by obtain ⟨m, hm⟩ := k1; exact DataW.trod_lt m _ _ _ hm
  obtain ⟨b1, rfl, -, -⟩ := open_bool Tryz.underlying4 (hval 1 4 v1 rfl rfl) h1
  have k2 := h2
  have lt2 : ∀ x ∈ p2, x.block < W.heap.size := by obtain ⟨m, hm⟩ := k2; exact DataW.trod_lt m _ _ _ hm
  obtain ⟨A2, l2, c2, rfl, rd2, by2, lc2, cm2, nz2⟩ := open_bytesZ (hval 2 22 v2 rfl rfl) h2
  clear hA0 hval0
  refine (scanFrames_walk W f0 A0 A2 c0 _ c2 l2 b1 wf0.len rd0 ⟨wf0.id0, ⟨wf0.sdt0, wf0.sdt1⟩, ⟨wf0.vcid0, wf0.vcid1⟩, ⟨wf0.af0, wf0.af1⟩, wf0.data⟩ rd2 rfl nz2 (by omega)).mono fun e W' ⟨he, bel⟩ => ?_
  subst he
  exact ⟨_, rfl, _, _, _, [], _, [], hW', trodAll_mk1 (shut_bool Tryz.underlying4 _), (trodAll_cons_mk (Below.trod laidOut (by kernel_rfl) (of_decide_eq_true (by kernel_rfl)) k0 bel lt0) (trodAll_cons_mk (Below.trod laidOut (by kernel_rfl) (of_decide_eq_true (by kernel_rfl)) k1 bel lt1) (trodAll_cons_mk (Below.trod laidOut (by kernel_rfl) (of_decide_eq_true (by kernel_rfl)) k2 bel lt2) trodAll_mk0))), rfl, bel.frame _, fun h => by cases h⟩
theorem scanFrames_holds : Rows.ScanFramesSaid :=
  OpenClaim.holds_of_wide 5 Tryz.f5 rfl rfl rfl rfl rfl rfl rfl ⟨rfl, rfl, rfl, rfl, rfl⟩ rfl rfl rfl rfl rfl (by kernel_rfl) Tryz.func5 (by kernel_rfl)
    (of_decide_eq_true (by kernel_rfl)) (by unfold Func.isWrapper; rw [if_neg (of_decide_eq_false (by kernel_rfl))]; exact ⟨rfl, rfl⟩)
    (fun os started H enc _ => scanFrames_lifted os started H enc)
end Go.Proofs.YtlmdkmflbhnlgaaGreat
