/- The document's answer for layer 3: stuffing. No condition. -/
import Derived.Test.YtbjeblffmgghgaaRef01b
import Derived.Test.YtbjeblffmgghgaaPStuff
import Derived.Test.YtbjeblffmgghgaaLawClassicOrders
namespace Go.Proofs.Ytbjeblffmgghgaa
open Go.RowKit
theorem full_at {last run : Nat} {out : List Nat} (h : Tails last run out) (h5 : run ≤ 5) {x1 x2 x3 x4 x5 m : Nat} (hl : out.length = m + 5) (e1 : out[m + 4]? = some x1) (e2 : out[m + 3]? = some x2) (e3 : out[m + 2]? = some x3) (e4 : out[m + 1]? = some x4) (e5 : out[m]? = some x5) :
    run = 5 ↔ (x1 = x2 ∧ x1 = x3 ∧ x1 = x4 ∧ x1 = x5) := by
  rw [h.full h5, hl]
  constructor
  · rintro ⟨-, ha⟩
    have a1 := ha 1 (by omega)
    have a2 := ha 2 (by omega)
    have a3 := ha 3 (by omega)
    have a4 := ha 4 (by omega)
    rw [show m + 5 - 1 - 1 = m + 3 from by omega, show m + 5 - 1 = m + 4 from by omega, e1, e2] at a1
    rw [show m + 5 - 1 - 2 = m + 2 from by omega, show m + 5 - 1 = m + 4 from by omega, e1, e3] at a2
    rw [show m + 5 - 1 - 3 = m + 1 from by omega, show m + 5 - 1 = m + 4 from by omega, e1, e4] at a3
    rw [show m + 5 - 1 - 4 = m from by omega, show m + 5 - 1 = m + 4 from by omega, e1, e5] at a4
    injection a1 with a1; injection a2 with a2; injection a3 with a3; injection a4 with a4
    exact ⟨a1.symm, a2.symm, a3.symm, a4.symm⟩
  · rintro ⟨rfl, rfl, rfl, rfl⟩
    refine ⟨by omega, fun j hj => ?_⟩
    rw [show m + 5 - 1 = m + 4 from by omega, e1]
    have : j = 0 ∨ j = 1 ∨ j = 2 ∨ j = 3 ∨ j = 4 := by omega
    rcases this with rfl | rfl | rfl | rfl | rfl
    · exact e1
    · exact e2
    · exact e3
    · exact e4
    · exact e5
set_option maxRecDepth 100000 in
set_option maxHeartbeats 4000000 in
theorem FullR_any (w : World) (base c n last run : Nat) (A : Option Addr) (out : List Nat) (hrow : Row w base 5 A c (bys out)) (hn : out.length = n) (hn2 : n ≤ 1000000) (ht : Tails last run out) (h5 : run ≤ 5) :
    Calls Try.prog 102 #[.slice A n c] w fun e w' => e = .returned (.bool (decide (run = 5))) ∧ Below w.heap.size w w' := by
  by_cases hlt : n < 5
  · have hr : ¬ run = 5 := by rw [ht.full h5]; omega
    rw [decide_eq_false hr]
    have hd : decide ((5 : Int) ≤ (n : Int)) = false := decide_eq_false (by omega)
    clear hrow ht hr hn
    go_enter Try.func102, Try.ntmps102
    go_wp2_with fail
    go_quiet (fail)
    go_wp2_with fail
    go_ret
    exact ⟨rfl, below_drewN (Below.refl _ _) _⟩
  · obtain ⟨m, hm⟩ : ∃ m, n = m + 5 := ⟨n - 5, by omega⟩
    obtain ⟨ga, rfl, hga, -, -⟩ := row_some hrow hn (by omega)
    have g1 : out[m + 4]? = some (out[m + 4]'(by omega)) := List.getElem?_eq_getElem _
    have g2 : out[m + 3]? = some (out[m + 3]'(by omega)) := List.getElem?_eq_getElem _
    have g3 : out[m + 2]? = some (out[m + 2]'(by omega)) := List.getElem?_eq_getElem _
    have g4 : out[m + 1]? = some (out[m + 1]'(by omega)) := List.getElem?_eq_getElem _
    have g5 : out[m]? = some (out[m]'(by omega)) := List.getElem?_eq_getElem _
    have hiff := full_at ht h5 (by omega) g1 g2 g3 g4 g5
    have c1 := row_at hrow (Below.refl _ _) (m + 4) _ g1
    have c2 := row_at hrow (Below.refl _ _) (m + 3) _ g2
    have c3 := row_at hrow (Below.refl _ _) (m + 2) _ g3
    have c4 := row_at hrow (Below.refl _ _) (m + 1) _ g4
    have c5 := row_at hrow (Below.refl _ _) m _ g5
    generalize (out[m + 4]'(by omega)) = x1 at *
    generalize (out[m + 3]'(by omega)) = x2 at *
    generalize (out[m + 2]'(by omega)) = x3 at *
    generalize (out[m + 1]'(by omega)) = x4 at *
    generalize (out[m]'(by omega)) = x5 at *
    obtain ⟨i1, hi1⟩ : ∃ i, m + 4 = i := ⟨_, rfl⟩
    obtain ⟨i2, hi2⟩ : ∃ i, m + 3 = i := ⟨_, rfl⟩
    obtain ⟨i3, hi3⟩ : ∃ i, m + 2 = i := ⟨_, rfl⟩
    obtain ⟨i4, hi4⟩ : ∃ i, m + 1 = i := ⟨_, rfl⟩
    rw [hi1] at c1
    rw [hi2] at c2
    rw [hi3] at c3
    rw [hi4] at c4
    have s1 : IntKind.i64.wrap ((n : Int) - 1) = (i1 : Int) := by rw [IntWalk.i64_in _ (by omega)]; omega
    have s2 : IntKind.i64.wrap ((n : Int) - 2) = (i2 : Int) := by rw [IntWalk.i64_in _ (by omega)]; omega
    have s3 : IntKind.i64.wrap ((n : Int) - 3) = (i3 : Int) := by rw [IntWalk.i64_in _ (by omega)]; omega
    have s4 : IntKind.i64.wrap ((n : Int) - 4) = (i4 : Int) := by rw [IntWalk.i64_in _ (by omega)]; omega
    have s5 : IntKind.i64.wrap ((n : Int) - 5) = (m : Int) := by rw [IntWalk.i64_in _ (by omega)]; omega
    have t1 : (i1 : Int) < (n : Int) := by omega
    have t2 : (i2 : Int) < (n : Int) := by omega
    have t3 : (i3 : Int) < (n : Int) := by omega
    have t4 : (i4 : Int) < (n : Int) := by omega
    have t5 : (m : Int) < (n : Int) := by omega
    have h5n : (5 : Int) ≤ (n : Int) := by omega
    have HIFF := Lib.hid hiff
    clear hiff hrow ht hn hlt g1 g2 g3 g4 g5 hi1 hi2 hi3 hi4 hm
    by_cases e2 : x1 = x2
    · subst e2
      by_cases e3 : x1 = x3
      · subst e3
        by_cases e4 : x1 = x4
        · subst e4
          by_cases e5 : x1 = x5
          · subst e5
            rw [decide_eq_true (HIFF.out.2 ⟨rfl, rfl, rfl, rfl⟩)]
            go_enter Try.func102, Try.ntmps102
            go_wp2_with fail
            go_quiet (fail)
            go_wp2_with fail
            go_ret
            exact ⟨rfl, below_drewN (Below.refl _ _) _⟩
          · rw [decide_eq_false (fun h => e5 (HIFF.out.1 h).2.2.2)]
            have b5 : ((x1 : Int) == (x5 : Int)) = false := by rw [beq_eq_false_iff_ne]; omega
            clear e5
            go_enter Try.func102, Try.ntmps102
            go_wp2_with fail
            go_quiet (fail)
            go_wp2_with fail
            go_ret
            exact ⟨rfl, below_drewN (Below.refl _ _) _⟩
        · rw [decide_eq_false (fun h => e4 (HIFF.out.1 h).2.2.1)]
          have b4 : ((x1 : Int) == (x4 : Int)) = false := by rw [beq_eq_false_iff_ne]; omega
          clear e4
          go_enter Try.func102, Try.ntmps102
          go_wp2_with fail
          go_quiet (fail)
          go_wp2_with fail
          go_ret
          exact ⟨rfl, below_drewN (Below.refl _ _) _⟩
      · rw [decide_eq_false (fun h => e3 (HIFF.out.1 h).2.1)]
        have b3 : ((x1 : Int) == (x3 : Int)) = false := by rw [beq_eq_false_iff_ne]; omega
        clear e3
        go_enter Try.func102, Try.ntmps102
        go_wp2_with fail
        go_quiet (fail)
        go_wp2_with fail
        go_ret
        exact ⟨rfl, below_drewN (Below.refl _ _) _⟩
    · rw [decide_eq_false (fun h => e2 (HIFF.out.1 h).1)]
      have b2 : ((x1 : Int) == (x2 : Int)) = false := by rw [beq_eq_false_iff_ne]; omega
      clear e2
      go_enter Try.func102, Try.ntmps102
      go_wp2_with fail
      go_quiet (fail)
      go_wp2_with fail
      go_ret
      exact ⟨rfl, below_drewN (Below.refl _ _) _⟩
theorem tails_last {last run : Nat} {out : List Nat} (h : Tails last run out) (h1 : 1 ≤ run) : out[out.length - 1]? = some last ∧ 0 < out.length := by
  rcases h with ⟨rfl, rfl⟩ | ⟨h1, pre, rfl, hp⟩
  · omega
  · refine ⟨?_, by simp; omega⟩
    rw [List.getElem?_append_right (by simp; omega), List.getElem?_replicate, if_pos (by simp; omega)]
set_option maxRecDepth 100000 in
set_option maxHeartbeats 4000000 in
theorem StuffedR_any (w : World) (A : Option Addr) (c n N : Nat) (l : List Nat) (hr : Rd w A (bys l)) (hn : l.length = n) (hn2 : n ≤ 50000) (h01 : ∀ x ∈ l, x ≤ 1) (hN : (stuffN l).length = N) :
    Calls Try.prog 69 #[.slice A n c] w fun e w' => (∃ A' c', e = .returned (.slice A' N c') ∧ Row w' w.heap.size 5 A' c' (bys (stuffN l))) ∧ Below w.heap.size w w' := by
  obtain ⟨i0, hi, hz0, hz1, hz2⟩ := info_parts info_u8
  have hN2 : N ≤ 62500 := by have := stuffN_le l; omega
  have HR := Lib.hid hr
  have HN := Lib.hid hn
  have H01 := Lib.hid h01
  have HNN := Lib.hid hN
  clear hr hn h01 hN
  go_enter Try.func69, Try.ntmps69
  go_wp2_with fail
  go_loopw [3, 8] (fun v iv wr => ∃ (k last run q : Nat) (A' : Option Addr) (c' : Nat) (out : List Nat), k ≤ n ∧ iv = .int .i64 k ∧ v = .slice A' q c' ∧ Hid (out.length = q) ∧ run ≤ 5 ∧ last ≤ 1 ∧ q ≤ 62500 ∧ Hid (Tails last run out) ∧ Hid (out ++ stf last run (l.drop k) = stuffN l) ∧ Hid (Row wr w.heap.size 5 A' c' (bys out)) ∧ Hid (Below w.heap.size w wr)) (fun _ iv _ => n - (intOf iv).toNat)
  case atStart => exact ⟨0, 0, 0, 0, none, 0, [], by omega, rfl, rfl, rfl, by omega, by omega, by omega, .inl ⟨rfl, rfl⟩, rfl, Row.nil _ _ _, Below.refl _ _⟩
  case round =>
    obtain ⟨k, last, run, q, A', c', out, hk, rfl, rfl, HQL, hr5, hl1, hq, HT, HM, HQ, HW⟩ := hrel
    by_cases hkn : k < n
    · have hkl : k < l.length := by rw [HN.out]; exact hkn
      obtain ⟨ad, rfl, ca⟩ := (HR.out.below HW.out).at_ k hkl
      have hx := H01.out l[k] (List.getElem_mem hkl)
      have hd : l.drop k = l[k] :: l.drop (k + 1) := List.drop_eq_getElem_cons hkl
      obtain ⟨x, hxe⟩ : ∃ x, l[k] = x := ⟨_, rfl⟩
      rw [hxe] at ca hx hd
      have HD := Lib.hid hd
      have hfull := FullR_any wr w.heap.size c' q last run A' out HQ.out HQL.out (by omega) HT.out hr5
      have hbnd : (out ++ stf last run (l.drop k)).length = N := by rw [HM.out]; exact HNN.out
      clear hd hxe
      by_cases h5 : run = 5
      · rw [decide_eq_true h5] at hfull
        subst h5
        have HF := Lib.hid hfull
        obtain ⟨tl1, tl2⟩ := tails_last HT.out (by omega)
        rw [HQL.out] at tl1 tl2
        obtain ⟨ga, hA', hga, -, -⟩ := row_some HQ.out HQL.out tl2
        subst hA'
        have hq2 : q + 2 ≤ 62500 := by
          rw [HD.out, stf, if_pos rfl, List.length_append, HQL.out] at hbnd
          simp only [List.length_cons] at hbnd
          omega
        clear hfull hbnd
        go_wp2_with fail
        refine HF.out.mono ?_
        rintro e w2 ⟨rfl, hb2⟩
        have HB2 := Lib.hid (below_trans HW.out hb2)
        have HQ2 := Lib.hid (HQ.out.below hb2)
        obtain ⟨q1, hq1⟩ : ∃ q1, q - 1 = q1 := ⟨_, rfl⟩
        rw [hq1] at tl1
        have cl := row_at HQ.out hb2 q1 last tl1
        have hqi : (q : Int) - 1 = (q1 : Int) := by omega
        have hqi2 : IntKind.i64.wrap ((q : Int) - 1) = (q1 : Int) := by rw [IntWalk.i64_in _ (by omega)]; omega
        have hql : (q1 : Int) < (q : Int) := by omega
        obtain ⟨y, hy⟩ : ∃ y, 1 - last = y := ⟨_, rfl⟩
        have hyi : (1 : Int) - (last : Int) = (y : Int) := by omega
        have hyw : IntKind.u8.wrap ((1 : Int) - (last : Int)) = (y : Int) := by rw [IntWalk.u8_in _ ⟨by omega, by omega⟩]; omega
        have HY := Lib.hid hy
        clear hb2 hy hq1
        go_wp2_with (first
          | (at_builtin; refine wpList_appE (w0 := w) (below_alloc HB2.out _) rfl (.tmp 14) (.tmp 22) 23 rfl w.heap.size 5 i0 _ 1 Try.underlying23 hi hz0 hz1 hz2 rfl (some ⟨ga, 0, none⟩) q c' (bys out) rfl (by rw [bys_length]; exact HQL.out) (HQ2.out.alloc _) _ 1 1 (bys [y]) rfl rfl (Rd.blk (heap_new_at rfl)) (bys_one _) (by intro h; cases h) (q + 1) rfl (by unfold maxLen; omega) (by omega) (Nat.le_refl _) (below_alloc HB2.out _).size ?_; intro e3 A3 c3 HO3)
          | (at_builtin; refine wpList_appE (w0 := w) (below_alloc e3.below _) rfl (.tmp 24) (.tmp 26) 23 rfl w.heap.size 5 i0 _ 1 Try.underlying23 hi hz0 hz1 hz2 rfl A3 (q + 1) c3 (bys out ++ bys [y]) rfl (by rw [List.length_append, bys_length, HQL.out]; rfl) (HO3.out.alloc _) _ 1 1 (bys [x]) rfl rfl (Rd.blk (heap_new_at rfl)) (bys_one _) (by intro h; cases h) (q + 1 + 1) rfl (by unfold maxLen; omega) (by omega) (Nat.le_refl _) (below_alloc e3.below _).size ?_; intro e4 A4 c4 HO4))
        go_roundw
        case rel =>
          have es : seeN last 5 y = 1 := by rw [← HY.out]; unfold seeN; rw [if_neg (by omega)]
          have ht := (HT.out.see y).see x
          rw [es] at ht
          have ho := HO4.out
          rw [← bys_append, ← bys_append] at ho
          refine ⟨k + 1, x, seeN y 1 x, q + 1 + 1, A4, c4, (out ++ [y]) ++ [x], by omega, by go_num, rfl, by show _ = _; rw [List.length_append, List.length_append, HQL.out]; rfl, by have := seeN_le y 1 x; omega, hx, by omega, ht, ?_, ho, e4.below⟩
          show _ = _
          rw [← HM.out, HD.out, stf, if_pos rfl, HY.out, List.append_assoc, List.append_assoc]
          rfl
        case measure => simp [intOf]; omega
      · rw [decide_eq_false h5] at hfull
        have HF := Lib.hid hfull
        have hq2 : q + 1 ≤ 62500 := by
          rw [HD.out, stf, if_neg h5, List.length_append, HQL.out] at hbnd
          simp only [List.length_cons] at hbnd
          omega
        have H5 := Lib.hid h5
        clear hfull hbnd h5
        go_wp2_with fail
        refine HF.out.mono ?_
        rintro e w2 ⟨rfl, hb2⟩
        have HB2 := Lib.hid (below_trans HW.out hb2)
        have HQ2 := Lib.hid (HQ.out.below hb2)
        clear hb2
        go_wp2_with (at_builtin; refine wpList_appE (w0 := w) (below_alloc HB2.out _) rfl (.tmp 24) (.tmp 26) 23 rfl w.heap.size 5 i0 _ 1 Try.underlying23 hi hz0 hz1 hz2 rfl A' q c' (bys out) rfl (by rw [bys_length]; exact HQL.out) (HQ2.out.alloc _) _ 1 1 (bys [x]) rfl rfl (Rd.blk (heap_new_at rfl)) (bys_one _) (by intro h; cases h) (q + 1) rfl (by unfold maxLen; omega) (by omega) (Nat.le_refl _) (below_alloc HB2.out _).size ?_; intro e4 A4 c4 HO4)
        go_roundw
        case rel =>
          have ho := HO4.out
          rw [← bys_append] at ho
          refine ⟨k + 1, x, seeN last run x, q + 1, A4, c4, out ++ [x], by omega, by go_num, rfl, by show _ = _; rw [List.length_append, HQL.out]; rfl, by have := seeN_le last run x; have := H5.out; omega, hx, by omega, HT.out.see x, ?_, ho, e4.below⟩
          show _ = _
          rw [← HM.out, HD.out, stf, if_neg H5.out, List.append_assoc]
          rfl
        case measure => simp [intOf]; omega
    · obtain rfl : n = k := by omega
      have hm := HM.out
      rw [← HN.out, List.drop_length, stf, List.append_nil] at hm
      go_wp2_with fail
      go_ret
      have hq := HQ.out
      rw [hm] at hq
      have hqn : q = N := by rw [← HQL.out, hm]; exact HNN.out
      subst hqn
      exact ⟨⟨A', c', rfl, hq⟩, HW.out⟩
end Go.Proofs.Ytbjeblffmgghgaa
