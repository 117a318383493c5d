/- What the law FdWires needs, part 4: words, walks and plain facts, each with its own head. No condition. -/
import Derived.Test.YtaknddanggdplaaZFdWires3
import Derived.Laws.CopyOwn
import Derived.StillTailTactics
import Derived.Deep.DeepFit
-- FixedPut: fixed.Put: bits with fixed stuff bits. No condition.
namespace Go.Proofs.Ytaknddanggdplaa
open Go.RowKit
theorem below_heap {B g : Nat} {w w' : World} {o : Obj} (h : Below B w w') (hg : g < B) (ho : w.heap[g]? = some o) : w'.heap[g]? = some o := (h.block g hg).trans ho
theorem fixE_step {every last left x : Nat} {l out full : List Nat} (h : out ++ fixE every last left (x :: l) = full) :
    (left = 0 → (out ++ [1 - last] ++ [x]) ++ fixE every x (every - 1) l = full) ∧ (left ≠ 0 → (out ++ [x]) ++ fixE every x (left - 1) l = full) := by
  constructor
  · intro h0
    rw [← h, fixE, if_pos h0]; simp
  · intro h0
    rw [← h, fixE, if_neg h0]; simp
set_option maxRecDepth 100000 in
set_option maxHeartbeats 4000000 in
theorem FixedPut_any (w : World) (A : Option Addr) (prev ev c n N : Nat) (ah : Bool) (l : List Nat) (h1 : 1 ≤ ev) (h2 : ev ≤ 64) (hp : prev ≤ 1) (hr : Rd w A (bys l)) (hn : l.length = n) (hn1 : 1 ≤ n) (hn2 : n ≤ 30000) (h01 : ∀ x ∈ l, x ≤ 1) (hN : (fixN ev ah prev l).length = N) :
    Calls Try.prog 39 #[.int .u8 prev, .slice A n c, wayV ev ah] w fun e w' => (∃ A' c', e = .returned (.tuple #[.slice A' N c', .int .i64 0]) ∧ Row w' w.heap.size 5 A' c' (bys (fixN ev ah prev l))) ∧ Below w.heap.size w w' := by
  obtain ⟨i0, hi, hz0, hz1, hz2⟩ := info_parts info_u8
  have hNf : N = fsize n ev ah := by
    rw [← hN, fixN_length ev ah prev l h1, hn]; rfl
  have hN2 : N ≤ 65536 ∧ 1 ≤ N := by
    rw [hNf]; unfold fsize; rw [if_neg (by omega)]
    have h3 : (n - 1) / ev ≤ n - 1 := Nat.div_le_self _ _
    generalize (n - 1) / ev = q at h3 ⊢
    split <;> omega
  have hS := fun W => FSize_any n ev ah W h1 h2 (by omega)
  rw [← hNf] at hS
  have HS := Lib.hid hS
  have HC := Lib.hid (fun W (hW : Rd W A (bys l)) => fcheck_any prev ev n c ah A l W h1 h2 hp hW hn (by omega) h01)
  have HR := Lib.hid hr
  have HN := Lib.hid hn
  have H01 := Lib.hid h01
  have HNN := Lib.hid hN
  have hN3 : ¬ (65536 : Int) < (N : Int) := by omega
  have hN4 : (0 : Int) ≤ (N : Int) := by omega
  clear hS hr hn h01 hN hNf
  go_enter Try.func39, Try.ntmps39
  go_wp2_with fail
  refine calls_name (T := fun W1 => W1.heap[w.heap.size]? = some (.cells #[.int .i64 ev, .bool ah] 49) ∧ Below w.heap.size w W1) ⟨heap_new_at rfl, below_alloc (Below.refl _ _) _⟩ ?_
  rintro W1 ⟨q1, hb1⟩
  have a0 := fun e : Ext W1 => ext_cell (cell_of_heap q1 0 _ rfl) e
  have a1 : ∀ e : Ext W1, e.W.cell? ⟨w.heap.size, 1, none⟩ = some (.bool ah) := fun e => ext_cell (cell_of_heap q1 1 _ rfl) e
  have hsz := ext_lt q1
  have HB1 := Lib.hid hb1
  clear q1 hb1
  refine (extc_same (HS.out _)).mono ?_
  rintro x _ ⟨e1, rfl, rfl⟩
  go_wp2_with fail
  refine (extc (HC.out e1.W ((HR.out.below HB1.out).ext e1))).mono ?_
  rintro x _ ⟨e2, rfl, rfl⟩
  go_wp2_with fail
  refine (begin_any ev prev ah e2.W).mono ?_
  rintro x W2 ⟨rfl, hline, hsz2, hb2⟩
  obtain ⟨g, hg⟩ : ∃ g, e2.W.heap.size + 1 = g := ⟨_, rfl⟩
  rw [hg] at hline hsz2
  rw [hg]
  have hwg : w.heap.size ≤ g := by have := hsz e2; omega
  have HLINE := Lib.hid hline
  have HB2 := Lib.hid (HB1.out.trans ((e2.below.mono (by exact HB1.out.size)).trans (hb2.mono (by have := hsz e2; omega))))
  clear hline hb2 a0 a1 hsz hg
  go_wp2_with (refine wpList_make_own _ rfl _ (.tmp 33) 23 rfl W2.heap.size 5 i0 (.int .u8 0) 1 Try.underlying23 hi hz0 hz1 .i64 .i64 _ N rfl rfl (by omega) (by rw [hz2]; omega) (by unfold maxLen; omega) (by simp) ?_; intro w3 hown hgr)
  have hb3 := below_of_grown hgr
  have hline3 : w3.heap[g]? = some (lineC ev ah prev (if ah then 0 else ev)) := below_heap hb3 (by omega) HLINE.out
  have hrow3 : Row w3 (g + 1) 5 (some ⟨g + 1, 0, none⟩) N (bys []) := by rw [hsz2] at hown; exact hown
  have hbel3 : Below w.heap.size w w3 := HB2.out.trans (hb3.mono (by omega))
  have HL3 := Lib.hid hline3
  have HR3 := Lib.hid hrow3
  have HB3 := Lib.hid hbel3
  have hleft : (if ah then 0 else ev) ≤ ev := by split <;> omega
  clear hown hgr hb3 hline3 hrow3 hbel3 HB2 HLINE
  go_loopw [11, 37] (fun v iv wr => ∃ (k last left q : Nat) (A' : Option Addr) (c' : Nat) (out : List Nat), k ≤ n ∧ iv = .int .i64 k ∧ v = .slice A' q c' ∧ Hid (out.length = q) ∧ left ≤ ev ∧ last ≤ 1 ∧ q ≤ N ∧ Hid (out ++ fixE ev last left (l.drop k) = fixN ev ah prev l) ∧ Hid (Row wr (g + 1) 5 A' c' (bys out)) ∧ Hid (wr.heap[g]? = some (lineC ev ah last left)) ∧ Hid (Below w.heap.size w wr)) (fun _ iv _ => n - (intOf iv).toNat)
  case atStart => exact ⟨0, prev, (if ah then 0 else ev), 0, _, _, [], by omega, rfl, rfl, rfl, hleft, hp, by omega, rfl, HR3, HL3, HB3⟩
  case round =>
    obtain ⟨k, last, left, q, A', c', out, hk, rfl, rfl, HQL, hlev, hl1, hqN, HM, HQ, HL, HW⟩ := hrel
    by_cases hkn : k < n
    · have hkl : k < l.length := by rw [HN.out]; exact hkn
      obtain ⟨ad, rfl, ca⟩ := (HR.out.below HW.out).at_ k hkl
      have hx := H01.out l[k] (List.getElem_mem hkl)
      have hd : l.drop k = l[k] :: l.drop (k + 1) := List.drop_eq_getElem_cons hkl
      obtain ⟨x, hxe⟩ : ∃ x, l[k] = x := ⟨_, rfl⟩
      rw [hxe] at ca hx hd
      have hm := HM.out
      rw [hd] at hm
      have hstep := fixE_step hm
      have hbnd := congrArg List.length hm
      rw [HNN.out] at hbnd
      have hgw : g < wr.heap.size := heap_lt HL.out
      have hge : ∀ ad, A' = some ad → ad.block ≠ g := fun ad e => by have := HQ.out.ge ad e; omega
      have HST := Lib.hid hstep
      have HDUE := Lib.hid (due_any g ev last left ah wr HL.out)
      clear hd hxe hm hstep
      by_cases h0 : left = 0
      · subst h0
        have hq2 : q + 2 ≤ N := by
          rw [fixE, if_pos rfl, List.length_append, HQL.out] at hbnd
          simp only [List.length_cons] at hbnd
          omega
        have HSTF := Lib.hid (lineStuff_any g ev last 0 ah wr HL.out hl1)
        clear hbnd
        go_wp2_with fail
        refine HDUE.out.mono ?_
        rintro e _ ⟨rfl, rfl⟩
        go_wp2_with fail
        refine HSTF.out.mono ?_
        rintro e w4 ⟨rfl, hl4, ht4⟩
        obtain ⟨y, hy⟩ : ∃ y, 1 - last = y := ⟨_, rfl⟩
        rw [hy] at hl4 HST
        rw [hy]
        have HL4 := Lib.hid hl4
        have HQ4 := Lib.hid (HQ.out.touch ht4 hge)
        have HW4 := Lib.hid (HW.out.trans (ht4.below hwg hwg (by omega)))
        have hgw4 : g < w4.heap.size := heap_lt hl4
        clear hl4 ht4
        go_wp2_with (at_builtin; refine wpList_appB (W := _) rfl (.tmp 43) (.tmp 46) 23 rfl (g + 1) 5 i0 _ 1 Try.underlying23 hi hz0 hz1 hz2 rfl A' q c' (bys out) rfl (by rw [bys_length]; exact HQL.out) (HQ4.out.alloc _) _ 1 1 (bys [y]) rfl rfl (Rd.blk (heap_new_at rfl)) (bys_one _) (by intro h; cases h) (q + 1) (by omega) (by unfold maxLen; omega) (by omega) (by simp; omega) ?_; intro w5 A5 c5 HO5 HB5)
        have hl5 : w5.heap[g]? = some (lineC ev ah y ev) := below_heap HB5.out (by omega) (heap_push HL4.out)
        have HW5 := Lib.hid ((below_alloc HW4.out _).trans (HB5.out.mono (by omega)))
        refine (lineSee_any g ev y ev x ah w5 hl5 h1 (by omega)).mono ?_
        rintro e w6 ⟨rfl, hl6, ht6⟩
        have ho5 := HO5.out
        rw [← bys_append] at ho5
        have HL6 := Lib.hid hl6
        have HQ6 := Lib.hid (ho5.touch ht6 (fun ad e => by have := ho5.ge ad e; omega))
        have HW6 := Lib.hid (HW5.out.trans (ht6.below hwg hwg (by have := heap_lt hl5; omega)))
        have hgw6 : g < w6.heap.size := heap_lt hl6
        clear hl6 ht6 hl5 ho5
        go_wp2_with (at_builtin; refine wpList_appB (W := _) rfl (.tmp 51) (.tmp 53) 23 rfl (g + 1) 5 i0 _ 1 Try.underlying23 hi hz0 hz1 hz2 rfl A5 (q + 1) c5 (bys (out ++ [y])) rfl (by rw [bys_length, List.length_append, HQL.out]; rfl) (HQ6.out.alloc _) _ 1 1 (bys [x]) rfl rfl (Rd.blk (heap_new_at rfl)) (bys_one _) (by intro h; cases h) (q + 1 + 1) (by omega) (by unfold maxLen; omega) (by omega) (by simp; omega) ?_; intro w7 A7 c7 HO7 HB7)
        go_roundw
        case rel =>
          have ho7 := HO7.out
          rw [← bys_append] at ho7
          refine ⟨k + 1, x, ev - 1, q + 1 + 1, A7, c7, out ++ [y] ++ [x], by omega, by go_num, rfl, by show _ = _; rw [List.length_append, List.length_append, HQL.out]; rfl, by omega, hx, by omega, HST.out.1 (by first | trivial | rfl), ho7, below_heap HB7.out (by omega) (heap_push HL6.out), (below_alloc HW6.out _).trans (HB7.out.mono (by omega))⟩
        case measure => simp [intOf]; omega
      · have hq2 : q + 1 ≤ N := by
          rw [fixE, if_neg h0, List.length_append, HQL.out] at hbnd
          simp only [List.length_cons] at hbnd
          omega
        have HSEE := Lib.hid (lineSee_any g ev last left x ah wr HL.out (by omega) (by omega))
        have hdue := HDUE.out
        rw [decide_eq_false h0] at hdue
        have HDU2 := Lib.hid hdue
        clear hbnd hdue
        go_wp2_with fail
        refine HDU2.out.mono ?_
        rintro e _ ⟨rfl, rfl⟩
        go_wp2_with fail
        refine HSEE.out.mono ?_
        rintro e w6 ⟨rfl, hl6, ht6⟩
        have HL6 := Lib.hid hl6
        have HQ6 := Lib.hid (HQ.out.touch ht6 hge)
        have HW6 := Lib.hid (HW.out.trans (ht6.below hwg hwg (by omega)))
        have hgw6 : g < w6.heap.size := heap_lt hl6
        clear hl6 ht6
        go_wp2_with (at_builtin; refine wpList_appB (W := _) rfl (.tmp 51) (.tmp 53) 23 rfl (g + 1) 5 i0 _ 1 Try.underlying23 hi hz0 hz1 hz2 rfl A' q c' (bys out) rfl (by rw [bys_length]; exact HQL.out) (HQ6.out.alloc _) _ 1 1 (bys [x]) rfl rfl (Rd.blk (heap_new_at rfl)) (bys_one _) (by intro h; cases h) (q + 1) (by omega) (by unfold maxLen; omega) (by omega) (by simp; omega) ?_; intro w7 A7 c7 HO7 HB7)
        go_roundw
        case rel =>
          have ho7 := HO7.out
          rw [← bys_append] at ho7
          refine ⟨k + 1, x, left - 1, q + 1, A7, c7, out ++ [x], by omega, by go_num, rfl, by show _ = _; rw [List.length_append, HQL.out]; rfl, by omega, hx, by omega, HST.out.2 h0, ho7, below_heap HB7.out (by omega) (heap_push HL6.out), (below_alloc HW6.out _).trans (HB7.out.mono (by omega))⟩
        case measure => simp [intOf]; omega
    · obtain rfl : n = k := by omega
      have hm := HM.out
      rw [← HN.out, List.drop_length, fixE, List.append_nil] at hm
      go_wp2_with fail
      go_ret2
      have hq := HQ.out
      rw [hm] at hq
      have hqn : q = N := by rw [← HQL.out, hm]; exact HNN.out
      subst hqn
      exact ⟨⟨A', c', rfl, hq.mono (by omega)⟩, HW.out⟩
end Go.Proofs.Ytaknddanggdplaa
-- FdClose: fd.close: what stands behind an FD frame's first raw bits. No condition.
namespace Go.Proofs.Ytaknddanggdplaa
open Go.RowKit
theorem of_S (n : Nat) : OfK (kindS n) (sizeS n) (polyS n) (startS n) := by
  unfold kindS sizeS polyS startS
  by_cases h : 16 < n
  · simp only [if_pos h]; exact of_3
  · simp only [if_neg h]; exact of_2
theorem fdSum_any (n : Nat) (w : World) (hn : n ≤ 100000) : Calls Try.prog 75 #[.int .i64 n] w fun e w' => e = .returned (.int .i64 (kindS n)) ∧ w = w' := by
  unfold kindS
  by_cases h : 16 < n
  · have h2 : (16 : Int) < (n : Int) := by omega
    rw [if_pos h]
    go_enter Try.func75, Try.ntmps75
    go_wp2
    go_ret
    exact ⟨rfl, rfl⟩
  · have h2 : ¬ (16 : Int) < (n : Int) := by omega
    rw [if_neg h]
    go_enter Try.func75, Try.ntmps75
    go_wp2
    go_ret
    exact ⟨rfl, rfl⟩
theorem fdWay_any (w : World) : Calls Try.prog 76 #[] w fun e w' => e = .returned (wayV 4 true) ∧ Below w.heap.size w w' := by
  go_enter Try.func76, Try.ntmps76
  go_wp2
  exact bodyPost_ret (v := wayV 4 true) (by simp [results, Try.results76, go_sem]) rfl ⟨rfl, below_alloc (Below.refl _ _) _⟩
theorem rd_drop {w : World} {g k : Nat} {l : List Nat} (h : Rd w (some ⟨g, 0, none⟩) (bys l)) : Rd w (some ⟨g, k, none⟩) (bys (l.drop k)) := by
  intro j u hj
  refine ⟨_, rfl, ?_⟩
  have h1 : (bys l)[k + j]? = some u := by
    rw [← hj]
    simp [bys]
  obtain ⟨ad, e, hc⟩ := h (k + j) u h1
  injection e with e
  subst e
  rw [← hc]
  unfold Addr.add
  by_cases h0 : j = 0 <;> by_cases h2 : k = 0 <;> simp [h0, h2]
set_option maxRecDepth 100000 in
set_option maxHeartbeats 4000000 in
theorem fdClose_any (g c n st sz N : Nat) (raw : List Nat) (w : World) (hr : Rd w (some ⟨g, 0, none⟩) (bys raw)) (hn : raw.length = n) (hn1 : 1 ≤ n) (hn2 : n ≤ 5000) (hc : n ≤ c) (hc2 : c ≤ 9223372036854775807) (h01 : ∀ x ∈ raw, x ≤ 1) (hst : st ≤ 5000) (hsz : sz ≤ 100) (hN : (closeD raw st sz).length = N) :
    Calls Try.prog 46 #[.slice (some ⟨g, 0, none⟩) n c, .int .i64 st, .int .i64 sz] w fun e w' => (∃ A' c', e = .returned (.slice A' N c') ∧ Row w' w.heap.size 5 A' c' (bys (closeD raw st sz))) ∧ Below w.heap.size w w' := by
  have hS := sizeS_or sz
  have hcb : ∀ x ∈ raw ++ tallyN st, x ≤ 1 := fun x hx => by rcases List.mem_append.1 hx with h | h; exact h01 x h; exact tallyN_bits _ x h
  have hlast : lastN raw ≤ 1 := lastN_le raw h01
  have y0 : raw[n - 1]? = some (lastN raw) := by
    unfold lastN
    rw [hn, List.getElem?_eq_getElem (by omega)]; rfl
  have hal : (addN (sizeS sz) (polyS sz) (startS sz) (raw ++ tallyN st)).drop n = sealD raw st sz := by
    unfold addN sealD
    rw [List.append_assoc, List.drop_append_of_le_length (by omega), ← hn, List.drop_length, List.nil_append]
  have hsel := sealD_length raw st sz
  have HADD := Lib.hid (fun (W : World) (base : Nat) (A2 : Option Addr) (c2 : Nat) (hrow : Row W base 5 A2 c2 (bys (raw ++ tallyN st))) => Add_row (of_S sz) (n + 4) c2 (n + 4 + sizeS sz) base A2 (raw ++ tallyN st) W hrow (by rw [List.length_append, tallyN_length, hn]) (by omega) hcb rfl)
  have HFP := Lib.hid (fun (W : World) (A2 : Option Addr) (c2 : Nat) (hW : Rd W A2 (bys (sealD raw st sz))) => FixedPut_any W A2 (lastN raw) 4 c2 (4 + sizeS sz) N true (sealD raw st sz) (by decide) (by decide) hlast hW (sealD_length _ _ _) (by omega) (by omega) (sealD_bits _ _ _) hN)
  have hcl : closeD raw st sz = fixN 4 true (lastN raw) (sealD raw st sz) := rfl
  rw [hcl]
  have hk1 : kindS sz = 2 ∨ kindS sz = 3 := by unfold kindS; split <;> simp
  obtain ⟨la, hla⟩ : ∃ la, lastN raw = la := ⟨_, rfl⟩
  obtain ⟨S, hSS⟩ : ∃ S, sizeS sz = S := ⟨_, rfl⟩
  obtain ⟨K, hKK⟩ : ∃ K, kindS sz = K := ⟨_, rfl⟩
  obtain ⟨ad, had⟩ : ∃ ad, addN (sizeS sz) (polyS sz) (startS sz) (raw ++ tallyN st) = ad := ⟨_, rfl⟩
  obtain ⟨se, hse⟩ : ∃ se, sealD raw st sz = se := ⟨_, rfl⟩
  have HSUM := Lib.hid (fun W => fdSum_any sz W (by omega))
  rw [hla] at hlast y0 HFP ⊢
  rw [hse] at hal HFP hsel ⊢
  rw [had] at hal HADD
  rw [hSS] at hS HADD HFP hsel
  rw [hKK] at HADD HSUM
  have HR := Lib.hid hr
  have HRN := Lib.hid hn
  have HAL := Lib.hid hal
  have HSEL := Lib.hid hsel
  have c0 : w.cell? ⟨g, n - 1, none⟩ = some (.int .u8 (la : Int)) := by
    obtain ⟨a, e, hc0⟩ := hr (n - 1) (.int .u8 (la : Int)) (by simp [bys, y0])
    injection e with e
    subst e
    rw [← hc0]
    unfold Addr.add
    by_cases h0 : n - 1 = 0 <;> simp [h0]
  have HC0 := Lib.hid c0
  have i1 : (n : Int) - 1 = ((n - 1 : Nat) : Int) := by omega
  clear hr hn h01 hcb y0 hal hsel hN hcl hk1 hla hSS hKK had hse c0
  go_enter Try.func46, Try.ntmps46
  go_wp2_with fail
  refine (extc_same (Tally_any st _ (by omega))).mono ?_
  rintro x _ ⟨e1, rfl, A1, c1, rfl, hrow1⟩
  have HROW1 := Lib.hid hrow1
  clear hrow1
  go_wp2_with fail
  refine (HSUM.out _).mono ?_
  rintro x _ ⟨rfl, rfl⟩
  go_wp2_with fail
  refine (concat2 e1.W (some ⟨g, 0, none⟩) A1 c c1 n 4 (n + 4) raw (tallyN st) ⟨HR.out.ext e1, fun _ h => by cases h⟩ HROW1.out.part HRN.out (tallyN_length _) rfl (by omega)).mono ?_
  rintro x w2 ⟨⟨A2, c2, rfl, hrow2⟩, hb2⟩
  have hb02 : Below w.heap.size w w2 := below_trans (below_alloc e1.below _) hb2
  obtain ⟨e2, he2⟩ : ∃ e : Ext w, e.W = w2 := ⟨⟨w2, hb02⟩, rfl⟩
  have HROW2 := Lib.hid hrow2
  subst he2
  clear hrow2 hb2 hb02
  go_wp2_with fail
  refine (extcB (HADD.out _ _ _ _ HROW2.out)).mono ?_
  rintro x _ ⟨e3, rfl, HB3, A3, c3, rfl, hrow3⟩
  have hadl : ad.length = n + 4 + S := by
    have h1 : (ad.drop n).length = 4 + S := by rw [HAL.out]; exact HSEL.out
    rw [List.length_drop] at h1
    have h2 := hrow3.cap
    have h3 : n ≤ ad.length := by omega
    omega
  obtain ⟨g3, rfl, hg3, hc3a, hc3b⟩ := row_some (n := n + 4 + S) hrow3 hadl (by omega)
  have HRD3 := Lib.hid (rd_drop (k := n) hrow3.rd)
  have y0 := fun e : Ext e3.W => Below.cell_of (e3.below) HC0.out
  have z1 : (0 : Int) ≤ (n : Int) := by omega
  have z2 : (n : Int) ≤ ((n + 4 + S : Nat) : Int) := by omega
  have z3 : ((n + 4 + S : Nat) : Int) ≤ (c3 : Int) := by omega
  have z4 : (n : Int) ≤ (c : Int) := by omega
  clear hrow3 hadl
  go_wp2_with fail
  refine wp_region_mix (fun w' => ∃ e : Ext e3.W, w' = e.W) [(true, 0), (true, 1), (true, 2), (true, 3), (true, 4), (true, 5), (true, 6), (true, 7), (true, 8), (true, 9), (false, 10), (false, 11), (true, 12), (true, 13), (true, 14), (true, 15), (true, 16)] [] (by kernel_rfl) (by kernel_rfl) (by intro _ _ d _ _ h; cases d <;> exact h) ⟨⟨e3.W.drew, (Below.refl _ _).drew⟩, rfl⟩ ?_
  simp only [pickM, pickL, List.drop_succ_cons, List.drop_zero]
  have y1 : ∀ e : Ext e3.W, e.W.cell? ⟨g, n - 1, none⟩ = some (.int .u8 (la : Int)) := fun e => Below.cell_of (below_trans e3.below e.below) HC0.out
  clear y0
  repeat (refine mix_pure (by rfl) (by rfl) ?_; intro K hK; go_big_quiet_op; go_big_quiet_on)
  refine mix_eff (by rfl) ?_
  intro K' hK
  go_simp
  refine (fdWay_any _).mono ?_
  rintro x w5 ⟨rfl, hb5⟩
  have hb35 : Below e3.W.heap.size e3.W w5 := below_trans (Below.refl _ _).drew hb5
  have HB35 := Lib.hid hb35
  refine hK _ _ ⟨⟨w5, hb35⟩, rfl⟩ ?_
  clear hK K' hb5 hb35
  refine mix_eff (by rfl) ?_
  intro K' hK
  go_simp
  rw [show n + 4 + S - n = 4 + S by omega]
  refine (HFP.out w5 (some ⟨g3, n, none⟩) (c3 - n) (by rw [← HAL.out]; exact HRD3.out.below HB35.out)).mono ?_
  rintro x w6 ⟨⟨A6, c6, rfl, hrow6⟩, hb6⟩
  have hb36 : Below e3.W.heap.size e3.W w6 := below_trans HB35.out hb6
  refine hK _ _ ⟨⟨w6, hb36⟩, rfl⟩ ?_
  clear hK K'
  repeat (refine mix_pure (by rfl) (by rfl) ?_; intro K' hK; go_big_quiet_op; go_big_quiet_on)
  refine mix_nil (wpList_nil ?_)
  have HROW6 := Lib.hid (hrow6.mono (below_trans e3.below HB35.out).size)
  have HB6 := Lib.hid (below_trans e3.below hb36)
  clear hrow6 hb6 hb36 y1
  go_wp2_with fail
  go_ret
  exact ⟨⟨A6, c6, rfl, HROW6.out⟩, HB6.out⟩
end Go.Proofs.Ytaknddanggdplaa
-- Repeat: slices.Repeat of one byte, ten times. No condition.
namespace Go.Proofs.Ytaknddanggdplaa
open Go.RowKit
set_option maxRecDepth 100000 in
set_option maxHeartbeats 1000000 in
theorem mul64_lit (w : World) : Calls Try.prog 108 #[.int .u64 1, .int .u64 10] w fun e w' => e = .returned (.tuple #[.int .u64 0, .int .u64 10]) ∧ w = w' := by
  go_enter Try.func108, Try.ntmps108
  go_wp2
  go_ret2
  exact ⟨by kernel_rfl, rfl⟩
set_option maxHeartbeats 1000000 in
theorem mul_lit (w : World) : Calls Try.prog 90 #[.int .u64 1, .int .u64 10] w fun e w' => e = .returned (.tuple #[.int .u64 0, .int .u64 10]) ∧ w = w' := by
  have HM := Lib.hid mul64_lit
  go_enter Try.func90, Try.ntmps90
  go_wp2_with (go_at_call 108; refine (HM.out _).mono ?_; rintro e _ ⟨rfl, rfl⟩)
  go_ret2
  exact ⟨rfl, rfl⟩
def onesL (k n : Nat) : List Value := List.replicate k (.int .u8 1) ++ List.replicate (n - k) (.int .u8 0)
theorem onesL_length (k n : Nat) (h : k ≤ n) : (onesL k n).length = n := by simp [onesL]; omega
theorem onesL_splice (k m n : Nat) (h : k + m ≤ n) : splice (onesL k n) k (List.replicate m (.int .u8 1)) = onesL (k + m) n := by
  unfold splice onesL
  rw [List.take_left' (by simp), List.length_replicate, List.drop_append, List.drop_eq_nil_of_le (by simp), List.nil_append, List.length_replicate, List.drop_replicate, ← List.append_assoc, List.replicate_append_replicate]
  congr 2
  omega
set_option maxRecDepth 100000 in
set_option maxHeartbeats 2000000 in
theorem repeat_any (w : World) (h : Nat) (hh : w.heap[h]? = some (.cells #[.int .u8 1] 5)) :
    Calls Try.prog 43 #[.slice (some ⟨h, 0, none⟩) 1 1, .int .i64 10] w fun e w' => (∃ A c, e = .returned (.slice A 10 c) ∧ Row w' w.heap.size 5 A c (bys (List.replicate 10 1))) ∧ Below w.heap.size w w' := by
  obtain ⟨i0, hi, hz0, hz1, hz2⟩ := info_parts info_u8
  have hsz : (Try.prog.info? 5).map (·.size) = some 1 := by rw [hi]; simp [hz1]
  have HM := Lib.hid mul_lit
  have hone1 : ∀ v ∈ [Value.int .u8 1], v.oneCell' = true := by intro v hv; simp at hv; subst hv; rfl
  have HH := Lib.hid hh
  have hmk : ∀ W : World, Sem.run Try.prog (Instr.makeSlice 23 (.int .i64 10) (.int .i64 10)) W = .ok (.slice (some ⟨W.heap.size, 0, none⟩) 10 10) (W.alloc (.cells #[.int .u8 0, .int .u8 0, .int .u8 0, .int .u8 0, .int .u8 0, .int .u8 0, .int .u8 0, .int .u8 0, .int .u8 0, .int .u8 0] 5)) := fun _ => by kernel_rfl
  clear hh
  go_enter Try.func43, Try.ntmps43
  go_wp2_with (first
    | (go_at_call 90; refine (HM.out _).mono ?_; rintro e _ ⟨rfl, rfl⟩)
    | (with_reducible refine wpList_copy_splice rfl (.tmp 31) (.tmp 32) 23 23 rfl 5 Try.underlying23 hsz _ _ 10 10 1 1 rfl rfl w.heap.size 0 (List.replicate 10 (.int .u8 0)) 5 (heap_new_at rfl) [.int .u8 1] rfl (fun _ => ⟨rfl, _, rfl, World.news_of_block (heap_push HH.out)⟩) (by simp) hone1 w.heap.size w (below_alloc (Below.refl _ _) _) (Nat.le_refl _) ?_; intro w1 hs1 hb1))
  obtain ⟨g, hg⟩ : ∃ g, w.heap.size = g := ⟨_, rfl⟩
  have hs1' : Hid (w1.heap[g]? = some (.cells (onesL 1 10).toArray 5)) := by rw [← hg]; exact hs1
  have HB1 : Hid (Below g w w1) := by rw [← hg]; exact Lib.hid hb1
  have HG := Lib.hid hg
  rw [hg]
  clear hs1 hb1 hg hmk
  go_loopw [8] (fun v wr => ∃ k : Nat, 1 ≤ k ∧ k ≤ 10 ∧ v = .int .i64 k ∧ Hid (wr.heap[g]? = some (.cells (onesL k 10).toArray 5)) ∧ Hid (Below g w wr)) (fun v _ => 10 - (intOf v).toNat)
  case atStart => exact ⟨1, by omega, by omega, rfl, hs1', HB1⟩
  case round =>
    obtain ⟨k, hk1, hk2, rfl, HS, HB⟩ := hrel
    by_cases hlt : k < 10
    · obtain ⟨m, hm⟩ : ∃ m, Nat.min k (10 - k) = m := ⟨_, rfl⟩
      have hm1 : 1 ≤ m ∧ k + m ≤ 10 := by rw [← hm]; show 1 ≤ min k (10 - k) ∧ k + min k (10 - k) ≤ 10; omega
      have hi1 : (k : Int) ≤ 10 := by omega
      have hi0 : (0 : Int) ≤ k := by omega
      have HM1 := Lib.hid hm1
      have hsum : IntKind.i64.wrap ((k : Int) + (m : Int)) = (k : Int) + (m : Int) := IntWalk.i64_in _ (by omega)
      have hne10 : ¬ (10 : Nat) = k := by omega
      obtain ⟨d, hd⟩ : ∃ d, 10 - k = d := ⟨_, rfl⟩
      rw [hd] at hm
      obtain ⟨cs, hcs⟩ : ∃ cs, List.replicate m (Value.int .u8 1) = cs := ⟨_, rfl⟩
      obtain ⟨cur, hcur⟩ : ∃ cur, onesL k 10 = cur := ⟨_, rfl⟩
      have hcl : cs.length = m := by rw [← hcs]; simp
      have HC1 := Lib.hid (show cs.length = Nat.min k d by rw [hcl]; exact hm.symm)
      have hmk' : m ≤ k := by rw [← hm]; exact Nat.min_le_left _ _
      have HC2 := Lib.hid (show ∀ j v, cs[j]? = some v → wr.drew.cell? ((⟨g, 0, none⟩ : Addr).add j) = some v by
        intro j v hj
        have hjm : j < m := by have := (List.getElem?_eq_some_iff.1 hj).1; rw [hcl] at this; exact this
        refine World.news_of_block (w := wr.drew) HS.out j v ?_
        show (onesL k 10)[j]? = some v
        unfold onesL
        rw [List.getElem?_append_left (by simp; omega), ← hj, ← hcs]
        simp [hjm, show j < k by omega])
      have HC3 := Lib.hid (show k + cs.length ≤ cur.length by rw [hcl, ← hcur, onesL_length _ _ hk2]; exact hm1.2)
      have HC4 := Lib.hid (show ∀ v ∈ cs, v.oneCell' = true by intro v hv; rw [← hcs] at hv; rw [List.eq_of_mem_replicate hv]; rfl)
      have HS2 := Lib.hid (show wr.drew.heap[g]? = some (.cells cur.toArray 5) by rw [← hcur]; exact HS.out)
      have HSP := Lib.hid (show splice cur k cs = onesL (k + m) 10 by rw [← hcur, ← hcs]; exact onesL_splice k m 10 hm1.2)
      clear hcs hcur
      clear hm
      go_wp2_with fail
      go_region_law (first
        | (refine step_copy_splice rfl (.tmp 41) (.tmp 44) 23 23 rfl 5 Try.underlying23 hsz (some ⟨g, k, none⟩) (some ⟨g, 0, none⟩) d d k 10 (by kernel_rfl) (by kernel_rfl) g k cur 5 HS2.out cs HC1.out (fun _ => ⟨rfl, _, rfl, HC2.out⟩) HC3.out HC4.out g w HB.out.drew (Nat.le_refl _) ?_; intro w3 hs3 hb3))
      all_goals
        go_frame
        go_roundw
        case rel => ((repeat apply Exists.intro); exact ⟨⟨k + m, by omega, HM1.out.2, by go_num, by show _ = _; rw [← HSP.out]; exact hs3.out, hb3⟩, rfl⟩)
        case measure => simp [intOf]; have := HM1.out.1; omega
    · obtain rfl : k = 10 := by omega
      go_wp2_with fail
      go_ret
      have e : onesL 10 10 = bys (List.replicate 10 1) := rfl
      have hs := HS.out
      rw [e] at hs
      rw [HG.out]
      exact ⟨⟨_, _, rfl, ⟨by simp [bys_length], .inr ⟨g, 10, _, by rw [bys_length, List.length_replicate], Nat.le_refl _, hs, by simp [bys_length], by decide, by simp [bys_length], by simp [bys]⟩⟩⟩, HB.out⟩
end Go.Proofs.Ytaknddanggdplaa
-- FdWire: fd.Wire: an FD frame on the wire. No condition.
namespace Go.Proofs.Ytaknddanggdplaa
open Go.RowKit
set_option maxRecDepth 100000 in
set_option maxHeartbeats 2000000 in
theorem FdWire_no (f : Fr) (A : Option Addr) (c : Nat) (w : World) (hl : f.data.length ≤ 9223372036854775807) (hno : ¬ (f.kind = 2 ∧ okF f = true)) :
    Calls Try.prog 21 #[frv f (.slice A f.data.length c)] w fun e w' => e = .returned (.tuple #[.agg #[.slice none 0 0, .int .i64 0, .int .i64 0], .int .i64 2]) ∧ Below w.heap.size w w' := by
  have HC := Lib.hid (fun W => FdBody_no f A c W hl hno)
  obtain ⟨kind, id, ext, rtr, brs, esi, sec, sdt, vcid, af, data⟩ := f
  dsimp only [frv] at *
  generalize data.length = n at *
  clear hno
  go_enter Try.func21, Try.ntmps21
  go_wp2_with fail
  refine calls_blk2 (fun W0 q1 q2 hb => ?_)
  have HB := Lib.hid hb
  have HQ2 := Lib.hid q2
  have hsz := heap_lt q2
  clear hb q1 q2
  refine (HC.out _).mono ?_
  rintro e w1 ⟨rfl, hb1⟩
  have hq := heap_below hb1 HQ2.out
  have c0 := cell_of_heap hq 0 _ rfl
  have c1 := cell_of_heap hq 1 _ rfl
  have c2 := cell_of_heap hq 2 _ rfl
  have z0 : w1.frozen? ⟨w.heap.size + 1, 0, none⟩ = false := by simp [World.frozen?, hq]
  have z1 : w1.frozen? ⟨w.heap.size + 1, 1, none⟩ = false := by simp [World.frozen?, hq]
  have z2 : w1.frozen? ⟨w.heap.size + 1, 2, none⟩ = false := by simp [World.frozen?, hq]
  have HB1 := Lib.hid hb1
  have HQ3 := Lib.hid hq
  clear hb1 hq
  go_wp2_with fail
  refine bodyPost_ret (v := .tuple #[.agg #[.slice none 0 0, .int .i64 0, .int .i64 0], .int .i64 2]) (by simp [results, Try.results21, go_sem, c0, c1, c2]) rfl ⟨rfl, ?_⟩
  have h := below_trans HB.out HB1.out
  exact ((h.setCell (p := ⟨w.heap.size + 1, 0, none⟩) (by show w.heap.size ≤ w.heap.size + 1; omega) _).setCell (p := ⟨w.heap.size + 1, 1, none⟩) (by show w.heap.size ≤ w.heap.size + 1; omega) _).setCell (p := ⟨w.heap.size + 1, 2, none⟩) (by show w.heap.size ≤ w.heap.size + 1; omega) _
set_option maxRecDepth 100000 in
set_option maxHeartbeats 4000000 in
theorem FdWire_ok (f : Fr) (A : Option Addr) (c NR NH : Nat) (w : World) (hk : f.kind = 2) (hok : okF f = true) (h0 : 0 ≤ f.id) (hr : Rd w A (bys f.data)) (hby : isBytes f.data) (hNR : (rawD f).length = NR) (hNH : (stuffN (headD f)).length = NH) :
    Calls Try.prog 21 #[frv f (.slice A f.data.length c)] w fun e w' => (∃ A' c', e = .returned (.tuple #[.agg #[.slice A' (NR + 10 : Nat) c', .int .i64 (NH : Nat), .int .i64 (NR + 1 : Nat)], .int .i64 0]) ∧ Row w' w.heap.size 5 A' c' (bys (wireD f))) ∧ Below w.heap.size w w' := by
  obtain ⟨hid, hn64, -⟩ := okD f hk hok
  obtain ⟨hNHR, hNR2, -⟩ := fd_bound f hk hok
  rw [hNR, hNH] at hNHR
  rw [hNR] at hNR2
  obtain ⟨NB, hNB⟩ : ∃ NB, (bodyD f).length = NB := ⟨_, rfl⟩
  have hNB2 : NB = 22 + 8 * f.data.length := by rw [← hNB, bodyD_length]
  obtain ⟨N0, hN0⟩ : ∃ N0, (raw0D f).length = N0 := ⟨_, rfl⟩
  have hN02 := raw0D_len f
  rw [hN0] at hN02
  obtain ⟨NC, hNC⟩ : ∃ NC, (closeD (raw0D f) ((raw0D f).length - (bodyD f).length) f.data.length).length = NC := ⟨_, rfl⟩
  have hNRe : N0 + NC = NR := by rw [← hNR]; unfold rawD; rw [List.length_append, hNC, hN0]
  have HBody := Lib.hid (fun W (hW : Rd W A (bys f.data)) => FdBody_ok f A c NB W hk hok h0 hW hby hNB)
  have HHead := Lib.hid (fun W => headD_any f A f.data.length c W h0 hid)
  have HbB := Lib.hid (bodyD_bits f)
  have HhB := Lib.hid (headD_bits f)
  have H0B := Lib.hid (raw0D_bits f)
  have HW : Hid (wireD f = raw0D f ++ closeD (raw0D f) (N0 - NB) f.data.length ++ List.replicate 10 1) := by show wireD f = _; unfold wireD rawD; rw [hN0, hNB]
  have h00 : raw0D f = stuffN (bodyD f) := rfl
  rw [hN0, hNB] at hNC
  obtain ⟨bo, hbo⟩ : ∃ bo, bodyD f = bo := ⟨_, rfl⟩
  obtain ⟨hL, hhL⟩ : ∃ hL, headD f = hL := ⟨_, rfl⟩
  have hhl : hL.length = 16 := by rw [← hhL]; exact headD_length f
  obtain ⟨wi, hwi⟩ : ∃ wi, wireD f = wi := ⟨_, rfl⟩
  obtain ⟨r0, hr0⟩ : ∃ r0, raw0D f = r0 := ⟨_, rfl⟩
  rw [hbo] at HBody HbB hNB h00
  rw [hhL] at HHead HhB hNH
  rw [hr0] at H0B h00 hN0 hNC
  rw [hwi, hr0] at HW
  rw [hwi]
  obtain ⟨kind, id, ext, rtr, brs, esi, sec, sdt, vcid, af, data⟩ := f
  dsimp only [frv] at *
  obtain ⟨n, hn⟩ : ∃ n, data.length = n := ⟨_, rfl⟩
  rw [hn] at HBody HHead hNB2 hN02 hn64 HW hNC ⊢
  obtain ⟨cl, hcl⟩ : ∃ cl, closeD r0 (N0 - NB) n = cl := ⟨_, rfl⟩
  have HCL := Lib.hid (fun (W : World) (g c2 : Nat) (hW : Rd W (some ⟨g, 0, none⟩) (bys r0)) (h1 : N0 ≤ c2) (h2 : c2 ≤ 9223372036854775807) => fdClose_any g c2 N0 (N0 - NB) n NC r0 W hW hN0 (by omega) (by omega) h1 h2 H0B.out (by omega) (by omega) hNC)
  rw [hcl] at HCL HW hNC
  rw [h00] at hN0
  have HNB := Lib.hid hNB
  have HN0 := Lib.hid hN0
  have HNC := Lib.hid hNC
  have HNH := Lib.hid hNH
  have HHL := Lib.hid hhl
  have HR := Lib.hid hr
  have HNRE := Lib.hid hNRe
  have H00 := Lib.hid h00
  have hsub : (N0 : Int) - (NB : Int) = ((N0 - NB : Nat) : Int) := by omega
  have HSUB := Lib.hid hsub
  obtain ⟨hN0a, hN0b⟩ := hN02
  have hN0c : N0 ≤ 1000 := by omega
  have hNBc : NB ≤ N0 := by omega
  clear hNB hN0 hNC hNH hhl hr hNRe hbo hhL hwi hr0 hn hok h0 hby hk hNR hid hcl h00 hsub hNB2
  go_enter Try.func21, Try.ntmps21
  go_wp2_with fail
  refine calls_blk2 (fun W0 q1 q2 hb => ?_)
  have HB := Lib.hid hb
  have HQ2 := Lib.hid q2
  have hsz := heap_lt q2
  have hsz1 := ext_lt q1
  obtain ⟨a0, a1, a2, a3, a4, a5, a6, a7, a8, a9, a10⟩ := ext11 q1
  clear hb q1 q2
  refine (extc_same (HBody.out _ (HR.out.below HB.out))).mono ?_
  rintro x _ ⟨e1, rfl, A1, c1, rfl, hrow1⟩
  have HROW1 := Lib.hid hrow1
  clear hrow1
  go_wp2_with fail
  refine (extcB (StuffPut_any _ A1 c1 NB N0 bo HROW1.out.rd HNB.out (by omega) HbB.out HN0.out)).mono ?_
  rintro x _ ⟨e2, rfl, HB2, A2, c2, rfl, hrow2⟩
  rw [← H00.out] at hrow2
  obtain ⟨g2, rfl, hg2, hc2a, hc2b⟩ := row_some (n := N0) hrow2 (by rw [H00.out]; exact HN0.out) (by omega)
  have HROW2 := Lib.hid (hrow2.mono (ext_ge e1))
  clear hrow2
  go_wp2_with fail
  refine (extcB (HHead.out _)).mono ?_
  rintro x _ ⟨e3, rfl, HB3, A3, c3, rfl, hrow3⟩
  have HROW3 := Lib.hid hrow3
  have HROW23 := Lib.hid (HROW2.out.below HB3.out)
  clear hrow3
  go_wp2_with fail
  refine (extcB (StuffPut_any _ A3 c3 16 NH hL HROW3.out.rd HHL.out (by omega) HhB.out HNH.out)).mono ?_
  rintro x _ ⟨e4, rfl, HB4, A4, c4, rfl, hrow4⟩
  have HROW24 := Lib.hid (HROW23.out.below HB4.out)
  clear hrow4
  go_wp2_with fail
  rw [HSUB.out]
  refine (extcB (HCL.out _ _ _ HROW24.out.rd hc2a hc2b)).mono ?_
  rintro x _ ⟨e5, rfl, HB5, A5, c5, rfl, hrow5⟩
  have HROW5 := Lib.hid hrow5
  have HROW25 := Lib.hid (HROW24.out.below HB5.out)
  clear hrow5 a0 a1 a2 a3 a4 a5 a6 a7 a8 a9 a10
  go_wp2_with fail
  refine (repeat_any _ _ (heap_new_at rfl)).mono ?_
  rintro x w8 ⟨⟨A8, c8, rfl, hrow8⟩, hb8⟩
  have hb78 : Below e5.W.heap.size e5.W w8 := below_trans (below_alloc (Below.refl _ _) _) hb8
  obtain ⟨e8, he8⟩ : ∃ e : Ext W0, e.W = w8 := ⟨⟨w8, below_trans e5.below hb78⟩, rfl⟩
  subst he8
  have HROW8 := Lib.hid hrow8
  have HROW28 := Lib.hid (HROW25.out.below hb78)
  have HROW58 := Lib.hid (HROW5.out.below hb78)
  clear hrow8 hb8 hb78
  go_wp2_with fail
  refine calls_name (T := fun W1 => W1.heap[e8.W.heap.size]? = some (.cells #[.slice (some ⟨g2, 0, none⟩) N0 c2, .slice A5 NC c5, .slice A8 10 c8] 23) ∧ Below e8.W.heap.size e8.W W1) ⟨heap_new_at rfl, below_alloc (Below.refl _ _) _⟩ ?_
  rintro W1 ⟨q9, hb9⟩
  have hcat := concatP (N := NR + 10) (n := 3) [(some ⟨g2, 0, none⟩, c2, r0), (A5, c5, cl), (A8, c8, List.replicate 10 1)] _ q9 (by simp [partV, H00.out, HN0.out, HNC.out]) rfl (by
    intro p hp
    simp only [List.mem_cons, List.not_mem_nil, or_false] at hp
    rcases hp with rfl | rfl | rfl
    · exact (HROW28.out.below hb9).part
    · exact (HROW58.out.below hb9).part
    · exact (HROW8.out.below hb9).part) (by simp [partsL, H00.out, HN0.out, HNC.out]; have := HNRE.out; omega) (by omega) (by decide)
  have hpl : partsL [(some ⟨g2, 0, none⟩, c2, r0), (A5, c5, cl), (A8, c8, List.replicate 10 1)] = wi := by rw [HW.out]; simp [partsL]
  rw [hpl] at hcat
  refine hcat.mono ?_
  rintro x w10 ⟨⟨A10, c10, rfl, hrow10⟩, hb10⟩
  have hbw : Below W0.heap.size W0 w10 := below_trans (below_trans e8.below hb9) hb10
  have hq := heap_below hbw HQ2.out
  have r0' := cell_of_heap hq 0 _ rfl
  have r1' := cell_of_heap hq 1 _ rfl
  have r2' := cell_of_heap hq 2 _ rfl
  have z0 : w10.frozen? ⟨w.heap.size + 1, 0, none⟩ = false := by simp [World.frozen?, hq]
  have z1 : w10.frozen? ⟨w.heap.size + 1, 1, none⟩ = false := by simp [World.frozen?, hq]
  have z2 : w10.frozen? ⟨w.heap.size + 1, 2, none⟩ = false := by simp [World.frozen?, hq]
  have hge : W0.heap.size ≤ W1.heap.size := (below_trans e8.below hb9).size
  have HROW10 := Lib.hid (hrow10.mono hge)
  have HBW := Lib.hid hbw
  have HQ10 := Lib.hid hq
  clear hcat hpl q9 hb9 hrow10 hb10 hbw hq
  go_wp2_with fail
  refine bodyPost_ret (v := .tuple #[.agg #[.slice A10 (NR + 10 : Nat) c10, .int .i64 (NH : Nat), .int .i64 (NR + 1 : Nat)], .int .i64 0]) (by simp [results, Try.results21, go_sem, r0', r1', r2']) rfl ⟨⟨A10, c10, rfl, ?_⟩, ?_⟩
  · have h7 : ∀ ad, A10 = some ad → ad.block ≠ w.heap.size + 1 := fun ad e => by have := HROW10.out.ge ad e; omega
    exact (((HROW10.out.setCell h7 0 _).setCell h7 1 _).setCell h7 2 _).mono (by omega)
  · have h := below_trans HB.out HBW.out
    exact ((h.setCell (p := ⟨w.heap.size + 1, 0, none⟩) (by show w.heap.size ≤ w.heap.size + 1; omega) _).setCell (p := ⟨w.heap.size + 1, 1, none⟩) (by show w.heap.size ≤ w.heap.size + 1; omega) _).setCell (p := ⟨w.heap.size + 1, 2, none⟩) (by show w.heap.size ≤ w.heap.size + 1; omega) _
end Go.Proofs.Ytaknddanggdplaa
-- FdAlive: The document's example of an FD frame. No condition.
namespace Go.Proofs.Ytaknddanggdplaa
open Go.RowKit
theorem FdWire_okN (f : Fr) (A : Option Addr) (c NR NH : Nat) (w : World) (hk : f.kind = 2) (hok : okF f = true) (hf : FrN f) (hr : Rd w A (bys f.data)) (hNR : (rawD f).length = NR) (hNH : (stuffN (headD f)).length = NH) :
    Calls Try.prog 21 #[frv f (.slice A f.data.length c)] w fun e w' => (∃ A' c', e = .returned (.tuple #[.agg #[.slice A' (NR + 10 : Nat) c', .int .i64 (NH : Nat), .int .i64 (NR + 1 : Nat)], .int .i64 0]) ∧ Row w' w.heap.size 5 A' c' (bys (wireD f))) ∧ Below w.heap.size w w' :=
  FdWire_ok f A c NR NH w hk hok hf.id0 hr hf.data hNR hNH
def exD : Fr := { kind := 2, id := 1365, ext := false, rtr := false, brs := false, esi := false, sec := false, sdt := 0, vcid := 0, af := 0, data := [] }
theorem exD_ok : okF exD = true := by decide
theorem exD_n : FrN exD := ⟨by decide, by decide, by decide, by decide, by intro x hx; simp [exD] at hx⟩
set_option maxRecDepth 100000 in
set_option maxHeartbeats 1000000 in
theorem alive07 (w : World) : Calls Try.prog 19 #[] w fun e w' => e = .returned (.bool true) ∧ Below w.heap.size w w' := by
  obtain ⟨NR, hNR⟩ : ∃ NR, (rawD exD).length = NR := ⟨_, rfl⟩
  obtain ⟨NH, hNH⟩ : ∃ NH, (stuffN (headD exD)).length = NH := ⟨_, rfl⟩
  have hge : 45 ≤ NR ∧ NR ≤ 1000 := by have h1 := rawD_len exD; have h2 := raw0D_len exD; have h4 := sizeS_or exD.data.length; rw [hNR] at h1; have h3 : exD.data.length = 0 := rfl; rw [h3] at h1 h2 h4; omega
  obtain ⟨l, hl⟩ := rawD_zero exD
  have HW := Lib.hid (fun W (hW : Rd W none (bys [])) => FdWire_okN exD none 0 NR NH W rfl exD_ok exD_n hW hNR hNH)
  have hw0 : ∃ m, wireD exD = 0 :: m := ⟨l ++ List.replicate 10 1, by unfold wireD; rw [hl]; rfl⟩
  obtain ⟨m, hm⟩ := hw0
  rw [hm] at HW
  clear hNR hNH hl hm
  go_enter Try.func19, Try.ntmps19
  go_wp2_with fail
  refine (HW.out _ (Rd.nil _ _)).mono ?_
  rintro e w1 ⟨⟨A, c, rfl, hrow⟩, hb⟩
  obtain ⟨ga, hA⟩ := hrow.form
  rcases hA with rfl | hA
  · have c0 : w1.cell? ⟨ga, 0, none⟩ = some (.int .u8 0) := by
      have := hrow.cells (g := ga) rfl 0 (.int .u8 0) rfl
      exact this
    have hlt := cell_lt c0
    have hlt' : ga < w1.heap.size := hlt
    have HB := Lib.hid hb
    have h44 : (55 : Int) ≤ ((NR + 10 : Nat) : Int) := by omega
    have hi0 : (0 : Int) < ((NR + 10 : Nat) : Int) := by omega
    have hack : (((NR + 1 : Nat) : Int) == ((NR + 10 : Nat) : Int) - 9) = true := by rw [beq_iff_eq]; omega
    clear hrow hb hlt
    go_wp2_with fail
    go_ret
    exact ⟨by first | rfl | simp, below_alloc HB.out _⟩
  · simp [bys] at hA
end Go.Proofs.Ytaknddanggdplaa
-- FdMine: May a frame be, of this kind: what the laws ask first. No condition.
namespace Go.Proofs.Ytaknddanggdplaa
open Go.RowKit
theorem mine07_any (f : Fr) (A : Option Addr) (c : Nat) (w : World) (hl : f.data.length ≤ 9223372036854775807) :
    Calls Try.prog 20 #[frv f (.slice A f.data.length c)] w fun e w' => e = .returned (.bool (decide (f.kind = 2) && okF f)) ∧ Below w.heap.size w w' := by
  have HC := Lib.hid (fun W => Check_any f A c W hl)
  obtain ⟨kind, id, ext, rtr, brs, esi, sec, sdt, vcid, af, data⟩ := f
  obtain ⟨ok, hok⟩ : ∃ ok, okF ⟨kind, id, ext, rtr, brs, esi, sec, sdt, vcid, af, data⟩ = ok := ⟨_, rfl⟩
  rw [hok] at HC ⊢
  dsimp only [frv] at *
  generalize data.length = n at *
  clear hok
  unfold errV at HC
  by_cases hk : kind = 2
  · subst hk
    cases ok
    all_goals
      simp only [if_true, Bool.false_eq_true, if_false] at HC
      go_enter Try.func20, Try.ntmps20
      go_wp2_with fail
      refine (HC.out _).mono ?_
      rintro e w1 ⟨rfl, hb⟩
      have HB := Lib.hid hb
      clear hb
      go_wp2_with fail
      go_ret
      exact ⟨rfl, (below_alloc (Below.refl _ _) _).trans (HB.out.mono (by simp))⟩
  · have hkb : (kind == 2) = false := by rw [beq_eq_false_iff_ne]; exact hk
    have hd : decide (kind = 2) = false := decide_eq_false hk
    rw [hd, Bool.false_and]
    clear hk hd
    go_enter Try.func20, Try.ntmps20
    go_wp2_with fail
    go_ret
    exact ⟨rfl, below_alloc (Below.refl _ _) _⟩
theorem mine07_true {f : Fr} (hk : f.kind = 2) (hok : okF f = true) : (decide (f.kind = 2) && okF f) = true := by rw [decide_eq_true hk, hok]; rfl
theorem mine07_false {f : Fr} (h : ¬ (f.kind = 2 ∧ okF f = true)) : (decide (f.kind = 2) && okF f) = false := by
  cases h2 : okF f with
  | false => simp
  | true => simp; exact fun hk => h ⟨hk, h2⟩
end Go.Proofs.Ytaknddanggdplaa
-- Ref02: The document's answer for layer 2: check sums, bit by bit. No condition.
namespace Go.Proofs.Ytaknddanggdplaa
open Go.RowKit
/-- A kind of sums, by the document. -/
structure OfRK (k : Int) (size poly start : Nat) : Prop where
  call : ∀ W : World, Calls Try.prog 100 #[.int .i64 k] W fun e w' => e = .returned (.tuple #[.int .i64 size, .int .u64 poly, .int .u64 start]) ∧ W = w'
  h4 : 4 ≤ size
  h32 : size ≤ 32
  poly : poly < 2 ^ size
  start : start < 2 ^ size
theorem ofR_1 : OfRK 1 15 17817 0 := by
  refine ⟨fun W => ?_, by decide, by decide, by decide, by decide⟩
  go_enter Try.func100, Try.ntmps100
  go_wp2
  go_ret3
  exact ⟨rfl, rfl⟩
set_option maxRecDepth 100000 in
set_option maxHeartbeats 2000000 in
theorem runR_any {k : Int} {size poly start : Nat} (h : OfRK k size poly start) (sum : Nat) (A : Option Addr) (n c : Nat) (l : List Nat) (w : World) (hs : sum < 2 ^ size) (hr : Rd w A (bys l)) (hn : l.length = n) (hn2 : n ≤ 1000000) (hb : ∀ x ∈ l, x ≤ 1) :
    Calls Try.prog 118 #[.int .i64 k, .int .u64 sum, .slice A n c] w fun e w' => e = .returned (.int .u64 (crcN size poly sum l : Nat)) ∧ w = w' := by
  have HO := Lib.hid h.call
  have h4 := h.h4
  have h32 := h.h32
  have hpw := pow32 h32
  have hp2 : IntKind.u64.wrap ((2 : Int) ^ size) = ((2 ^ size : Nat) : Int) := by
    have e : ((2 : Int) ^ size) = ((2 ^ size : Nat) : Int) := by simp
    rw [e, IntWalk.u64_in _ ⟨by omega, by omega⟩]
  have hu1 : IntKind.u64.wrap ((size : Int) - 1) = ((size - 1 : Nat) : Int) := by rw [IntWalk.u64_in _ ⟨by omega, by omega⟩]; omega
  have hu0 : IntKind.u64.wrap (size : Int) = (size : Int) := IntWalk.u64_in _ ⟨by omega, by omega⟩
  have HP := Lib.hid h.poly
  have HS := Lib.hid hs
  have HR := Lib.hid hr
  have HN := Lib.hid hn
  have HB := Lib.hid hb
  clear h hs hr hn hb
  go_enter Try.func118, Try.ntmps118
  go_wp2_with fail
  refine (HO.out _).mono ?_
  rintro e _ ⟨rfl, rfl⟩
  go_wp2_with fail
  go_loop [1, 21] (fun sv iv => ∃ k s : Nat, k ≤ n ∧ Hid (s < 2 ^ size) ∧ Hid (s = crcN size poly sum (l.take k)) ∧ sv = .int .u64 s ∧ iv = .int .i64 k) (fun _ iv => n - (intOf iv).toNat)
  case atStart => exact ⟨0, sum, by omega, HS, rfl, rfl, rfl⟩
  case round =>
    obtain ⟨k, s, hk, hs, HC, rfl, rfl⟩ := hrel
    by_cases hkn : k < n
    · have hkl : k < l.length := by rw [HN.out]; exact hkn
      obtain ⟨ad, rfl, ca⟩ := HR.out.at_ k hkl
      have hx := HB.out l[k] (List.getElem_mem hkl)
      have hnext : oneN size poly s l[k] = crcN size poly sum (l.take (k + 1)) := by
        rw [List.take_succ_eq_append_getElem hkl, crcN_append, ← HC.out]; rfl
      obtain ⟨x, hxe⟩ : ∃ x, l[k] = x := ⟨_, rfl⟩
      rw [hxe] at ca hx hnext
      have hs1 := hs.out
      have hs2 : IntKind.u64.wrap ((s : Int) * 2) = (s : Int) * 2 := IntWalk.u64_in _ ⟨by omega, by omega⟩
      have hmod : ((s : Int) * 2) % ((2 ^ size : Nat) : Int) = ((s * 2 % 2 ^ size : Nat) : Int) := by simp
      have htop : ((s : Int) / 2 ^ (size - 1)) % 2 = ((s / 2 ^ (size - 1) % 2 : Nat) : Int) := by simp
      have hmlt : s * 2 % 2 ^ size < 2 ^ size := Nat.mod_lt _ (Nat.two_pow_pos _)
      have hxor : bits .xor .u64 ((s * 2 % 2 ^ size : Nat) : Int) (poly : Int) = ((s * 2 % 2 ^ size ^^^ poly : Nat) : Int) := u64_xor_nat _ _ (by omega) (by have := HP.out; omega)
      have hone : oneN size poly s x = (s * 2 % 2 ^ size) ^^^ (if s / 2 ^ (size - 1) % 2 = x then 0 else poly) := rfl
      have hlt := oneN_lt size poly s x HP.out
      obtain ⟨h, hh⟩ : ∃ h, s / 2 ^ (size - 1) % 2 = h := ⟨_, rfl⟩
      obtain ⟨m, hm⟩ : ∃ m, s * 2 % 2 ^ size = m := ⟨_, rfl⟩
      rw [hh] at hone htop
      rw [hm] at hone hmod hxor
      have hxw : IntKind.u64.wrap (x : Int) = (x : Int) := IntWalk.u64_in _ ⟨by omega, by omega⟩
      have HX := Lib.hid hnext
      have HO1 := Lib.hid hone
      have HLT := Lib.hid hlt
      clear hnext hxe hh hm hone hlt hmlt hs1
      have hbit : ((s : Int) / 2 ^ (size - 1)).tmod 2 = (h : Int) := by
        rw [Int.tmod_eq_emod_of_nonneg (Int.ediv_nonneg (by omega) (Int.le_of_lt (Int.pow_pos (by decide)))), htop]
      have hme : (s : Int) * 2 % 2 ^ size = (m : Int) := by rw [← hmod]; simp
      have hpz : ¬ (2 : Int) ^ size = 0 := Int.ne_of_gt (Int.pow_pos (by decide))
      have hpz2 : ((2 : Int) ^ size == 0) = false := by rw [beq_eq_false_iff_ne]; exact hpz
      have HBIT := Lib.hid hbit
      have HME := Lib.hid hme
      have HXOR := Lib.hid hxor
      clear hbit hme hxor htop hmod
      go_wp2_with fail
      all_goals rename_i hcond
      · rw [HBIT.out] at hcond
        have hne : h ≠ x := by intro e; rw [e] at hcond; simp at hcond
        refine ⟨⟨k + 1, oneN size poly s x, by omega, HLT, HX.out, ?_, by go_num⟩, by simp [intOf]; omega⟩
        rw [HME.out, HXOR.out, HO1.out, if_neg hne]
      · rw [HBIT.out] at hcond
        have hne : h = x := by simp at hcond; omega
        refine ⟨⟨k + 1, oneN size poly s x, by omega, HLT, HX.out, ?_, by go_num⟩, by simp [intOf]; omega⟩
        rw [HME.out, HO1.out, if_pos hne, Nat.xor_zero]
    · obtain rfl : n = k := by omega
      go_wp2_with fail
      go_ret
      have h1 := HC.out
      rw [← HN.out, List.take_length] at h1
      exact ⟨ret_int (by rw [h1]), rfl⟩
theorem MoreR_any {k : Int} {size poly start : Nat} (h : OfRK k size poly start) (sum n c : Nat) (A : Option Addr) (l : List Nat) (w : World) (hs : sum < 2 ^ size) (hr : Rd w A (bys l)) (hn : l.length = n) (hn2 : n ≤ 65536) (hb : ∀ x ∈ l, x ≤ 1) :
    Calls Try.prog 113 #[.int .i64 k, .int .u64 sum, .slice A n c] w fun e w' => e = .returned (.tuple #[.int .u64 (crcN size poly sum l : Nat), .int .i64 0]) ∧ w = w' := by
  have hC := Check01_ok w A c n l hr hn hn2 hb
  have hrun := runR_any h sum A n c l w hs hr hn (by omega) hb
  obtain ⟨r, hre⟩ : ∃ r, crcN size poly sum l = r := ⟨_, rfl⟩
  rw [hre] at hrun ⊢
  have HC := Lib.hid hC
  have HRUN := Lib.hid hrun
  have HO := Lib.hid h.call
  have h4 := h.h4
  have h32 := h.h32
  have hz : ((size : Int) == 0) = false := by rw [beq_eq_false_iff_ne]; omega
  have hpw := pow32 h32
  have hge : ¬ ((2 : Int) ^ size ≤ (sum : Int)) := by
    have e : ((2 : Int) ^ size) = ((2 ^ size : Nat) : Int) := by simp
    rw [e]; omega
  have hp2 : IntKind.u64.wrap ((2 : Int) ^ size) = (2 : Int) ^ size := by
    have e : ((2 : Int) ^ size) = ((2 ^ size : Nat) : Int) := by simp
    rw [e, IntWalk.u64_in _ ⟨by omega, by omega⟩]
  have hlt2 : (sum : Int) < (2 : Int) ^ size := by omega
  clear hC hrun hr hre hb hs h hn
  go_enter Try.func113, Try.ntmps113
  go_wp2_with fail
  refine (HO.out _).mono ?_
  rintro e _ ⟨rfl, rfl⟩
  go_wp2_with fail
  refine HC.out.mono ?_
  rintro e _ ⟨rfl, rfl⟩
  go_wp2_with fail
  refine HRUN.out.mono ?_
  rintro e _ ⟨rfl, rfl⟩
  go_wp2_with fail
  go_ret2
  exact ⟨rfl, rfl⟩
theorem SumR_any {k : Int} {size poly start : Nat} (h : OfRK k size poly start) (n c : Nat) (A : Option Addr) (l : List Nat) (w : World) (hr : Rd w A (bys l)) (hn : l.length = n) (hn2 : n ≤ 65536) (hb : ∀ x ∈ l, x ≤ 1) :
    Calls Try.prog 99 #[.int .i64 k, .slice A n c] w fun e w' => e = .returned (.tuple #[.int .u64 (crcN size poly start l : Nat), .int .i64 0]) ∧ w = w' := by
  have hM := MoreR_any h start n c A l w h.start hr hn hn2 hb
  obtain ⟨r, hre⟩ : ∃ r, crcN size poly start l = r := ⟨_, rfl⟩
  rw [hre] at hM ⊢
  have HM := Lib.hid hM
  have HO := Lib.hid h.call
  clear hM hr hre hb h hn
  go_enter Try.func99, Try.ntmps99
  go_wp2_with fail
  refine (HO.out _).mono ?_
  rintro e _ ⟨rfl, rfl⟩
  go_wp2_with fail
  refine HM.out.mono ?_
  rintro e _ ⟨rfl, rfl⟩
  go_wp2_with fail
  go_ret2
  exact ⟨rfl, rfl⟩
set_option maxRecDepth 100000 in
set_option maxHeartbeats 1000000 in
theorem AddR_any {k : Int} {size poly start : Nat} (h : OfRK k size poly start) (n c : Nat) (A : Option Addr) (l : List Nat) (w : World) (hr : Rd w A (bys l)) (hn : l.length = n) (hn2 : n ≤ 65000) (hcap : A = none → c = 0) (hb : ∀ x ∈ l, x ≤ 1) :
    Calls Try.prog 63 #[.int .i64 k, .slice A n c] w fun e w' => (∃ A' c', e = .returned (.tuple #[.slice A' (n + size : Nat) c', .int .i64 0]) ∧ Row w' w.heap.size 5 A' c' (bys (addN size poly start l))) ∧ Below w.heap.size w w' := by
  obtain ⟨i0, hi, hz0, hz1, hz2⟩ := info_parts info_u8
  have hS := SumR_any h n c A l w hr hn (by omega) hb
  have hlt : crcN size poly start l < 2 ^ size := crcN_lt size poly l h.poly start h.start
  have hadd : addN size poly start l = l ++ bitsN (crcN size poly start l) size := rfl
  rw [hadd]
  obtain ⟨r, hre⟩ : ∃ r, crcN size poly start l = r := ⟨_, rfl⟩
  rw [hre] at hS hlt ⊢
  have h32 := h.h32
  have h4 := h.h4
  have hpw := pow32 h32
  have HS := Lib.hid hS
  have HO := Lib.hid h.call
  have HR := Lib.hid hr
  have HN := Lib.hid hn
  clear hS hr hre hb h hn hadd
  go_enter Try.func63, Try.ntmps63
  go_wp2_with fail
  refine HS.out.mono ?_
  rintro e _ ⟨rfl, rfl⟩
  go_wp2_with fail
  refine (HO.out _).mono ?_
  rintro e _ ⟨rfl, rfl⟩
  go_wp2_with (at_builtin; refine wpList_appE (w0 := w) ((Below.refl _ _).alloc (Nat.le_refl _) _) rfl (.tmp 26) (.tmp 27) 23 rfl w.heap.size 5 i0 _ 1 Try.underlying23 hi hz0 hz1 hz2 rfl (some ⟨w.heap.size, 0, none⟩) 0 0 (bys []) rfl rfl (Row.lit (cs := []) (Nat.le_refl _) (by simp)) A n c (bys l) rfl (by rw [bys_length]; exact HN.out) (HR.out.alloc _) (bys_one _) (fun _ => hcap) n (by omega) (by unfold maxLen; omega) (by omega) (Nat.le_refl _) (by simp) ?_; intro e3 A3 c3 HO3)
  refine (extcB (BitsR_row r size r size e3.W rfl rfl (by omega) (by omega) (by omega))).mono ?_
  rintro e _ ⟨e4, rfl, HB4, A4, c4, rfl, hrow4⟩
  have HQ4 := Lib.hid (HO3.out.below HB4.out)
  have HROW4 := Lib.hid hrow4
  clear hrow4
  go_wp2_with (at_builtin; refine wpList_appE (w0 := w) e4.below rfl (.tmp 28) (.tmp 31) 23 rfl w.heap.size 5 i0 _ 1 Try.underlying23 hi hz0 hz1 hz2 rfl A3 n c3 (bys [] ++ bys l) rfl (by rw [← bys_append, bys_length]; exact HN.out) HQ4.out A4 size c4 (bys (bitsN r size)) rfl (by rw [bys_length, bitsN_length]) HROW4.out.rd (bys_one _) (fun _ e => HROW4.out.none_ e) (n + size) rfl (by unfold maxLen; omega) (by omega) (Nat.le_refl _) e4.below.size ?_; intro e5 A5 c5 HO5)
  go_ret2
  have h5 := HO5.out
  rw [← bys_append, ← bys_append, List.nil_append] at h5
  exact ⟨⟨A5, c5, rfl, h5⟩, e5.below⟩
end Go.Proofs.Ytaknddanggdplaa
-- Ref03: The document's answer for layer 3: stuffing. No condition.
namespace Go.Proofs.Ytaknddanggdplaa
open Go.RowKit
theorem full_at {last run : Nat} {out : List Nat} (h : Tails last run out) (h5 : run ≤ 5) {x1 x2 x3 x4 x5 m : Nat} (hl : out.length = m + 5) (e1 : out[m + 4]? = some x1) (e2 : out[m + 3]? = some x2) (e3 : out[m + 2]? = some x3) (e4 : out[m + 1]? = some x4) (e5 : out[m]? = some x5) :
    run = 5 ↔ (x1 = x2 ∧ x1 = x3 ∧ x1 = x4 ∧ x1 = x5) := by
  rw [h.full h5, hl]
  constructor
  · rintro ⟨-, ha⟩
    have a1 := ha 1 (by omega)
    have a2 := ha 2 (by omega)
    have a3 := ha 3 (by omega)
    have a4 := ha 4 (by omega)
    rw [show m + 5 - 1 - 1 = m + 3 from by omega, show m + 5 - 1 = m + 4 from by omega, e1, e2] at a1
    rw [show m + 5 - 1 - 2 = m + 2 from by omega, show m + 5 - 1 = m + 4 from by omega, e1, e3] at a2
    rw [show m + 5 - 1 - 3 = m + 1 from by omega, show m + 5 - 1 = m + 4 from by omega, e1, e4] at a3
    rw [show m + 5 - 1 - 4 = m from by omega, show m + 5 - 1 = m + 4 from by omega, e1, e5] at a4
    injection a1 with a1; injection a2 with a2; injection a3 with a3; injection a4 with a4
    exact ⟨a1.symm, a2.symm, a3.symm, a4.symm⟩
  · rintro ⟨rfl, rfl, rfl, rfl⟩
    refine ⟨by omega, fun j hj => ?_⟩
    rw [show m + 5 - 1 = m + 4 from by omega, e1]
    have : j = 0 ∨ j = 1 ∨ j = 2 ∨ j = 3 ∨ j = 4 := by omega
    rcases this with rfl | rfl | rfl | rfl | rfl
    · exact e1
    · exact e2
    · exact e3
    · exact e4
    · exact e5
set_option maxRecDepth 100000 in
set_option maxHeartbeats 4000000 in
theorem FullR_any (w : World) (base c n last run : Nat) (A : Option Addr) (out : List Nat) (hrow : Row w base 5 A c (bys out)) (hn : out.length = n) (hn2 : n ≤ 1000000) (ht : Tails last run out) (h5 : run ≤ 5) :
    Calls Try.prog 92 #[.slice A n c] w fun e w' => e = .returned (.bool (decide (run = 5))) ∧ Below w.heap.size w w' := by
  by_cases hlt : n < 5
  · have hr : ¬ run = 5 := by rw [ht.full h5]; omega
    rw [decide_eq_false hr]
    have hd : decide ((5 : Int) ≤ (n : Int)) = false := decide_eq_false (by omega)
    clear hrow ht hr hn
    go_enter Try.func92, Try.ntmps92
    go_wp2_with fail
    go_quiet (fail)
    go_wp2_with fail
    go_ret
    exact ⟨rfl, below_drewN (Below.refl _ _) _⟩
  · obtain ⟨m, hm⟩ : ∃ m, n = m + 5 := ⟨n - 5, by omega⟩
    obtain ⟨ga, rfl, hga, -, -⟩ := row_some hrow hn (by omega)
    have g1 : out[m + 4]? = some (out[m + 4]'(by omega)) := List.getElem?_eq_getElem _
    have g2 : out[m + 3]? = some (out[m + 3]'(by omega)) := List.getElem?_eq_getElem _
    have g3 : out[m + 2]? = some (out[m + 2]'(by omega)) := List.getElem?_eq_getElem _
    have g4 : out[m + 1]? = some (out[m + 1]'(by omega)) := List.getElem?_eq_getElem _
    have g5 : out[m]? = some (out[m]'(by omega)) := List.getElem?_eq_getElem _
    have hiff := full_at ht h5 (by omega) g1 g2 g3 g4 g5
    have c1 := row_at hrow (Below.refl _ _) (m + 4) _ g1
    have c2 := row_at hrow (Below.refl _ _) (m + 3) _ g2
    have c3 := row_at hrow (Below.refl _ _) (m + 2) _ g3
    have c4 := row_at hrow (Below.refl _ _) (m + 1) _ g4
    have c5 := row_at hrow (Below.refl _ _) m _ g5
    generalize (out[m + 4]'(by omega)) = x1 at *
    generalize (out[m + 3]'(by omega)) = x2 at *
    generalize (out[m + 2]'(by omega)) = x3 at *
    generalize (out[m + 1]'(by omega)) = x4 at *
    generalize (out[m]'(by omega)) = x5 at *
    obtain ⟨i1, hi1⟩ : ∃ i, m + 4 = i := ⟨_, rfl⟩
    obtain ⟨i2, hi2⟩ : ∃ i, m + 3 = i := ⟨_, rfl⟩
    obtain ⟨i3, hi3⟩ : ∃ i, m + 2 = i := ⟨_, rfl⟩
    obtain ⟨i4, hi4⟩ : ∃ i, m + 1 = i := ⟨_, rfl⟩
    rw [hi1] at c1
    rw [hi2] at c2
    rw [hi3] at c3
    rw [hi4] at c4
    have s1 : IntKind.i64.wrap ((n : Int) - 1) = (i1 : Int) := by rw [IntWalk.i64_in _ (by omega)]; omega
    have s2 : IntKind.i64.wrap ((n : Int) - 2) = (i2 : Int) := by rw [IntWalk.i64_in _ (by omega)]; omega
    have s3 : IntKind.i64.wrap ((n : Int) - 3) = (i3 : Int) := by rw [IntWalk.i64_in _ (by omega)]; omega
    have s4 : IntKind.i64.wrap ((n : Int) - 4) = (i4 : Int) := by rw [IntWalk.i64_in _ (by omega)]; omega
    have s5 : IntKind.i64.wrap ((n : Int) - 5) = (m : Int) := by rw [IntWalk.i64_in _ (by omega)]; omega
    have t1 : (i1 : Int) < (n : Int) := by omega
    have t2 : (i2 : Int) < (n : Int) := by omega
    have t3 : (i3 : Int) < (n : Int) := by omega
    have t4 : (i4 : Int) < (n : Int) := by omega
    have t5 : (m : Int) < (n : Int) := by omega
    have h5n : (5 : Int) ≤ (n : Int) := by omega
    have HIFF := Lib.hid hiff
    clear hiff hrow ht hn hlt g1 g2 g3 g4 g5 hi1 hi2 hi3 hi4 hm
    by_cases e2 : x1 = x2
    · subst e2
      by_cases e3 : x1 = x3
      · subst e3
        by_cases e4 : x1 = x4
        · subst e4
          by_cases e5 : x1 = x5
          · subst e5
            rw [decide_eq_true (HIFF.out.2 ⟨rfl, rfl, rfl, rfl⟩)]
            go_enter Try.func92, Try.ntmps92
            go_wp2_with fail
            go_quiet (fail)
            go_wp2_with fail
            go_ret
            exact ⟨rfl, below_drewN (Below.refl _ _) _⟩
          · rw [decide_eq_false (fun h => e5 (HIFF.out.1 h).2.2.2)]
            have b5 : ((x1 : Int) == (x5 : Int)) = false := by rw [beq_eq_false_iff_ne]; omega
            clear e5
            go_enter Try.func92, Try.ntmps92
            go_wp2_with fail
            go_quiet (fail)
            go_wp2_with fail
            go_ret
            exact ⟨rfl, below_drewN (Below.refl _ _) _⟩
        · rw [decide_eq_false (fun h => e4 (HIFF.out.1 h).2.2.1)]
          have b4 : ((x1 : Int) == (x4 : Int)) = false := by rw [beq_eq_false_iff_ne]; omega
          clear e4
          go_enter Try.func92, Try.ntmps92
          go_wp2_with fail
          go_quiet (fail)
          go_wp2_with fail
          go_ret
          exact ⟨rfl, below_drewN (Below.refl _ _) _⟩
      · rw [decide_eq_false (fun h => e3 (HIFF.out.1 h).2.1)]
        have b3 : ((x1 : Int) == (x3 : Int)) = false := by rw [beq_eq_false_iff_ne]; omega
        clear e3
        go_enter Try.func92, Try.ntmps92
        go_wp2_with fail
        go_quiet (fail)
        go_wp2_with fail
        go_ret
        exact ⟨rfl, below_drewN (Below.refl _ _) _⟩
    · rw [decide_eq_false (fun h => e2 (HIFF.out.1 h).1)]
      have b2 : ((x1 : Int) == (x2 : Int)) = false := by rw [beq_eq_false_iff_ne]; omega
      clear e2
      go_enter Try.func92, Try.ntmps92
      go_wp2_with fail
      go_quiet (fail)
      go_wp2_with fail
      go_ret
      exact ⟨rfl, below_drewN (Below.refl _ _) _⟩
theorem tails_last {last run : Nat} {out : List Nat} (h : Tails last run out) (h1 : 1 ≤ run) : out[out.length - 1]? = some last ∧ 0 < out.length := by
  rcases h with ⟨rfl, rfl⟩ | ⟨h1, pre, rfl, hp⟩
  · omega
  · refine ⟨?_, by simp; omega⟩
    rw [List.getElem?_append_right (by simp; omega), List.getElem?_replicate, if_pos (by simp; omega)]
set_option maxRecDepth 100000 in
set_option maxHeartbeats 4000000 in
theorem StuffedR_any (w : World) (A : Option Addr) (c n N : Nat) (l : List Nat) (hr : Rd w A (bys l)) (hn : l.length = n) (hn2 : n ≤ 50000) (h01 : ∀ x ∈ l, x ≤ 1) (hN : (stuffN l).length = N) :
    Calls Try.prog 47 #[.slice A n c] w fun e w' => (∃ A' c', e = .returned (.slice A' N c') ∧ Row w' w.heap.size 5 A' c' (bys (stuffN l))) ∧ Below w.heap.size w w' := by
  obtain ⟨i0, hi, hz0, hz1, hz2⟩ := info_parts info_u8
  have hN2 : N ≤ 62500 := by have := stuffN_le l; omega
  have HR := Lib.hid hr
  have HN := Lib.hid hn
  have H01 := Lib.hid h01
  have HNN := Lib.hid hN
  clear hr hn h01 hN
  go_enter Try.func47, Try.ntmps47
  go_wp2_with fail
  go_loopw [3, 8] (fun v iv wr => ∃ (k last run q : Nat) (A' : Option Addr) (c' : Nat) (out : List Nat), k ≤ n ∧ iv = .int .i64 k ∧ v = .slice A' q c' ∧ Hid (out.length = q) ∧ run ≤ 5 ∧ last ≤ 1 ∧ q ≤ 62500 ∧ Hid (Tails last run out) ∧ Hid (out ++ stf last run (l.drop k) = stuffN l) ∧ Hid (Row wr w.heap.size 5 A' c' (bys out)) ∧ Hid (Below w.heap.size w wr)) (fun _ iv _ => n - (intOf iv).toNat)
  case atStart => exact ⟨0, 0, 0, 0, none, 0, [], by omega, rfl, rfl, rfl, by omega, by omega, by omega, .inl ⟨rfl, rfl⟩, rfl, Row.nil _ _ _, Below.refl _ _⟩
  case round =>
    obtain ⟨k, last, run, q, A', c', out, hk, rfl, rfl, HQL, hr5, hl1, hq, HT, HM, HQ, HW⟩ := hrel
    by_cases hkn : k < n
    · have hkl : k < l.length := by rw [HN.out]; exact hkn
      obtain ⟨ad, rfl, ca⟩ := (HR.out.below HW.out).at_ k hkl
      have hx := H01.out l[k] (List.getElem_mem hkl)
      have hd : l.drop k = l[k] :: l.drop (k + 1) := List.drop_eq_getElem_cons hkl
      obtain ⟨x, hxe⟩ : ∃ x, l[k] = x := ⟨_, rfl⟩
      rw [hxe] at ca hx hd
      have HD := Lib.hid hd
      have hfull := FullR_any wr w.heap.size c' q last run A' out HQ.out HQL.out (by omega) HT.out hr5
      have hbnd : (out ++ stf last run (l.drop k)).length = N := by rw [HM.out]; exact HNN.out
      clear hd hxe
      by_cases h5 : run = 5
      · rw [decide_eq_true h5] at hfull
        subst h5
        have HF := Lib.hid hfull
        obtain ⟨tl1, tl2⟩ := tails_last HT.out (by omega)
        rw [HQL.out] at tl1 tl2
        obtain ⟨ga, hA', hga, -, -⟩ := row_some HQ.out HQL.out tl2
        subst hA'
        have hq2 : q + 2 ≤ 62500 := by
          rw [HD.out, stf, if_pos rfl, List.length_append, HQL.out] at hbnd
          simp only [List.length_cons] at hbnd
          omega
        clear hfull hbnd
        go_wp2_with fail
        refine HF.out.mono ?_
        rintro e w2 ⟨rfl, hb2⟩
        have HB2 := Lib.hid (below_trans HW.out hb2)
        have HQ2 := Lib.hid (HQ.out.below hb2)
        obtain ⟨q1, hq1⟩ : ∃ q1, q - 1 = q1 := ⟨_, rfl⟩
        rw [hq1] at tl1
        have cl := row_at HQ.out hb2 q1 last tl1
        have hqi : (q : Int) - 1 = (q1 : Int) := by omega
        have hqi2 : IntKind.i64.wrap ((q : Int) - 1) = (q1 : Int) := by rw [IntWalk.i64_in _ (by omega)]; omega
        have hql : (q1 : Int) < (q : Int) := by omega
        obtain ⟨y, hy⟩ : ∃ y, 1 - last = y := ⟨_, rfl⟩
        have hyi : (1 : Int) - (last : Int) = (y : Int) := by omega
        have hyw : IntKind.u8.wrap ((1 : Int) - (last : Int)) = (y : Int) := by rw [IntWalk.u8_in _ ⟨by omega, by omega⟩]; omega
        have HY := Lib.hid hy
        clear hb2 hy hq1
        go_wp2_with (first
          | (at_builtin; refine wpList_appE (w0 := w) (below_alloc HB2.out _) rfl (.tmp 14) (.tmp 22) 23 rfl w.heap.size 5 i0 _ 1 Try.underlying23 hi hz0 hz1 hz2 rfl (some ⟨ga, 0, none⟩) q c' (bys out) rfl (by rw [bys_length]; exact HQL.out) (HQ2.out.alloc _) _ 1 1 (bys [y]) rfl rfl (Rd.blk (heap_new_at rfl)) (bys_one _) (by intro h; cases h) (q + 1) rfl (by unfold maxLen; omega) (by omega) (Nat.le_refl _) (below_alloc HB2.out _).size ?_; intro e3 A3 c3 HO3)
          | (at_builtin; refine wpList_appE (w0 := w) (below_alloc e3.below _) rfl (.tmp 24) (.tmp 26) 23 rfl w.heap.size 5 i0 _ 1 Try.underlying23 hi hz0 hz1 hz2 rfl A3 (q + 1) c3 (bys out ++ bys [y]) rfl (by rw [List.length_append, bys_length, HQL.out]; rfl) (HO3.out.alloc _) _ 1 1 (bys [x]) rfl rfl (Rd.blk (heap_new_at rfl)) (bys_one _) (by intro h; cases h) (q + 1 + 1) rfl (by unfold maxLen; omega) (by omega) (Nat.le_refl _) (below_alloc e3.below _).size ?_; intro e4 A4 c4 HO4))
        go_roundw
        case rel =>
          have es : seeN last 5 y = 1 := by rw [← HY.out]; unfold seeN; rw [if_neg (by omega)]
          have ht := (HT.out.see y).see x
          rw [es] at ht
          have ho := HO4.out
          rw [← bys_append, ← bys_append] at ho
          refine ⟨k + 1, x, seeN y 1 x, q + 1 + 1, A4, c4, (out ++ [y]) ++ [x], by omega, by go_num, rfl, by show _ = _; rw [List.length_append, List.length_append, HQL.out]; rfl, by have := seeN_le y 1 x; omega, hx, by omega, ht, ?_, ho, e4.below⟩
          show _ = _
          rw [← HM.out, HD.out, stf, if_pos rfl, HY.out, List.append_assoc, List.append_assoc]
          rfl
        case measure => simp [intOf]; omega
      · rw [decide_eq_false h5] at hfull
        have HF := Lib.hid hfull
        have hq2 : q + 1 ≤ 62500 := by
          rw [HD.out, stf, if_neg h5, List.length_append, HQL.out] at hbnd
          simp only [List.length_cons] at hbnd
          omega
        have H5 := Lib.hid h5
        clear hfull hbnd h5
        go_wp2_with fail
        refine HF.out.mono ?_
        rintro e w2 ⟨rfl, hb2⟩
        have HB2 := Lib.hid (below_trans HW.out hb2)
        have HQ2 := Lib.hid (HQ.out.below hb2)
        clear hb2
        go_wp2_with (at_builtin; refine wpList_appE (w0 := w) (below_alloc HB2.out _) rfl (.tmp 24) (.tmp 26) 23 rfl w.heap.size 5 i0 _ 1 Try.underlying23 hi hz0 hz1 hz2 rfl A' q c' (bys out) rfl (by rw [bys_length]; exact HQL.out) (HQ2.out.alloc _) _ 1 1 (bys [x]) rfl rfl (Rd.blk (heap_new_at rfl)) (bys_one _) (by intro h; cases h) (q + 1) rfl (by unfold maxLen; omega) (by omega) (Nat.le_refl _) (below_alloc HB2.out _).size ?_; intro e4 A4 c4 HO4)
        go_roundw
        case rel =>
          have ho := HO4.out
          rw [← bys_append] at ho
          refine ⟨k + 1, x, seeN last run x, q + 1, A4, c4, out ++ [x], by omega, by go_num, rfl, by show _ = _; rw [List.length_append, HQL.out]; rfl, by have := seeN_le last run x; have := H5.out; omega, hx, by omega, HT.out.see x, ?_, ho, e4.below⟩
          show _ = _
          rw [← HM.out, HD.out, stf, if_neg H5.out, List.append_assoc]
          rfl
        case measure => simp [intOf]; omega
    · obtain rfl : n = k := by omega
      have hm := HM.out
      rw [← HN.out, List.drop_length, stf, List.append_nil] at hm
      go_wp2_with fail
      go_ret
      have hq := HQ.out
      rw [hm] at hq
      have hqn : q = N := by rw [← HQL.out, hm]; exact HNN.out
      subst hqn
      exact ⟨⟨A', c', rfl, hq⟩, HW.out⟩
end Go.Proofs.Ytaknddanggdplaa
-- AppN: append onto a row of bytes of the call's own, as a list of numbers. No condition.
namespace Go.Proofs.Ytaknddanggdplaa
open Go.RowKit
theorem wpList_appN {w0 W : World} (hW : Below w0.heap.size w0 W) {ops : Array Oper} {rest : List Oper} {o : Oper} {a : Act} {Q : Exit → Act → World → Prop} (hgd : o.guard = none) (s x : Operand)
    (ho : o.op = .call { callee := .builtin .append, args := #[s, x], argTypes := #[23, 23] })
    (base : Nat) (A : Option Addr) (n c : Nat) (l : List Nat) (hs : a.eval s = .slice A n c) (hn : l.length = n) (hown : Row W base 5 A c (bys l))
    (B : Option Addr) (m d : Nat) (news : List Nat) (hx : a.eval x = .slice B m d) (hm : news.length = m) (hr : PartOk W (B, d, news))
    (N : Nat) (hN : n + m = N) (hN2 : N ≤ 1000000) (hB : w0.heap.size ≤ base) (hbase : base ≤ W.heap.size)
    (h : ∀ (e3 : Ext w0) (A3 : Option Addr) (c3 : Nat), Hid (Below base W e3.W) → Hid (Row e3.W base 5 A3 c3 (bys (l ++ news))) → wpList Try.prog ops Q rest (a.put o.dst (.slice A3 N c3)) e3.W) : wpList Try.prog ops Q (o :: rest) a W := by
  obtain ⟨i0, hi, hz0, hz1, hz2⟩ := info_parts info_u8
  subst hN hm hn
  unfold Row at hown
  rw [bys_length] at hown
  refine wpList_app W hgd s x 23 ho base 5 i0 _ 1 Try.underlying23 hi hz0 hz1 hz2 rfl (.slice A l.length c) l.length (bys l) hs hown B news.length d (bys news) hx (by rw [bys_length]) hr.rd (bys_one _) (fun e => hr.nil (by cases news with | nil => rfl | cons x l => simp [bys] at e)) (by unfold maxLen; omega) (by omega) hbase fun v' w' h2 h3 _ => ?_
  rw [← bys_append] at h2
  obtain ⟨A3, c3, rfl, hrow⟩ := Row.of h2 (by simp [bys_length])
  have hbel : Below base W w' := (Below.refl base W).grown h3 hbase (fun k hk => (World.ownsRow.lt hown k hk).1)
  have := h ⟨w', own_grown hown hW hB hbase h3⟩ A3 c3 hbel hrow
  rw [bys_length, List.length_append]
  exact this
theorem lit_row' {w : World} {l : List Nat} {n : Nat} (hn : l.length = n) (h : n ≤ 1000) : Row (w.alloc (.cells (bys l).toArray 5)) w.heap.size 5 (some ⟨w.heap.size, 0, none⟩) n (bys l) := by
  have := own_lit (w := w) (cs := bys l) (n := n) (e := 5) (Nat.le_refl _) (by rw [bys_length]; exact hn) (by unfold maxLen; omega)
  unfold Row
  rw [bys_length, hn]
  exact this
/-- An empty row that the call lays. -/
theorem Row.lit0 (w : World) : Row (w.alloc (.cells #[] 5)) w.heap.size 5 (some ⟨w.heap.size, 0, none⟩) 0 (bys []) := own_lit (cs := []) (Nat.le_refl _) rfl (by decide)
theorem PartOk.lit {w : World} {l : List Nat} {d g : Nat} {cs : Array Value} {t : TypeId} (h : w.heap[g]? = some (.cells cs t)) (e : cs.toList = bys l) : PartOk w (some ⟨g, 0, none⟩, d, l) := ⟨by show Rd w _ (bys l); rw [← e]; exact Rd.blk h, fun _ h => by cases h⟩
theorem PartOk.alloc {w : World} {p : Part} (h : PartOk w p) (o : Obj) : PartOk (w.alloc o) p := h.below (below_alloc (Below.refl _ _) _)
end Go.Proofs.Ytaknddanggdplaa
-- PRaw: Fixed stuffing, told by each bit's number: plain facts. No condition.
namespace Go.Proofs.Ytaknddanggdplaa
open Go.RowKit
/-- How many bits are left ahead of the next stuff bit, at bit number i. -/
def leftR (every : Nat) (ah : Bool) (i : Nat) : Nat := if i = 0 then (if ah then 0 else every) else if i % every = 0 then 0 else every - i % every
theorem leftR_succ (every : Nat) (h : 1 ≤ every) (ah : Bool) (i : Nat) : leftR every ah (i + 1) = if leftR every ah i = 0 then every - 1 else leftR every ah i - 1 := by
  have hr := Nat.mod_lt i (show 0 < every by omega)
  have hdiv := Nat.div_add_mod i every
  have hs : (i + 1) % every = if i % every + 1 = every then 0 else i % every + 1 := by
    have e : i + 1 = every * (i / every) + (i % every + 1) := by omega
    rw [e, Nat.mul_add_mod]
    by_cases h2 : i % every + 1 = every
    · rw [if_pos h2, h2, Nat.mod_self]
    · rw [if_neg h2, Nat.mod_eq_of_lt (by omega)]
  unfold leftR
  rw [if_neg (show ¬ i + 1 = 0 by omega), hs]
  by_cases h0 : i = 0
  · subst h0
    rw [Nat.zero_mod]
    clear hs hr hdiv
    cases ah <;> simp <;> (repeat' split) <;> omega
  · rw [if_neg h0]
    generalize i % every = r at *
    clear hs hdiv
    (repeat' split) <;> omega
theorem leftR_zero {every : Nat} {ah : Bool} {i : Nat} (h : 1 ≤ every) : leftR every ah i = 0 ↔ (0 < i ∧ i % every = 0) ∨ (i = 0 ∧ ah = true) := by
  have hr := Nat.mod_lt i (show 0 < every by omega)
  unfold leftR
  by_cases h0 : i = 0
  · subst h0
    cases ah <;> simp; omega
  · rw [if_neg h0]
    by_cases hm : i % every = 0
    · rw [if_pos hm]; simp [hm]; omega
    · rw [if_neg hm]; simp [hm, h0]; omega
end Go.Proofs.Ytaknddanggdplaa
-- Ref04: The document's answer for layer 4: fixed stuffing, and the tally. No condition.
namespace Go.Proofs.Ytaknddanggdplaa
open Go.RowKit
theorem rd_tail {w : World} {g : Nat} {l : List Nat} {x : Nat} (h : Rd w (some ⟨g, 0, none⟩) (bys (x :: l))) : Rd w (some ⟨g, 1, none⟩) (bys l) := by
  intro j u hj
  refine ⟨_, rfl, ?_⟩
  have h1 : (bys (x :: l))[j + 1]? = some u := by rw [← hj]; simp [bys]
  obtain ⟨ad, e, hc⟩ := h (j + 1) u h1
  injection e with e
  subst e
  rw [← hc]
  unfold Addr.add
  by_cases h0 : j = 0 <;> simp [h0, Nat.add_comm]
set_option maxRecDepth 100000 in
set_option maxHeartbeats 4000000 in
theorem RawR_any (w : World) (A : Option Addr) (prev ev c n N : Nat) (ah : Bool) (l : List Nat) (h1 : 1 ≤ ev) (h2 : ev ≤ 64) (hp : prev ≤ 1) (hr : Rd w A (bys l)) (hn : l.length = n) (hn1 : 1 ≤ n) (hn2 : n ≤ 60000) (h01 : ∀ x ∈ l, x ≤ 1) (hN : (fixN ev ah prev l).length = N) (hN2 : N ≤ 200000) :
    Calls Try.prog 50 #[.int .u8 prev, .slice A n c, wayV ev ah] w fun e w' => (∃ g c', e = .returned (.slice (some ⟨g, 1, none⟩) N c') ∧ Rd w' (some ⟨g, 1, none⟩) (bys (fixN ev ah prev l))) ∧ Below w.heap.size w w' := by
  have HR := Lib.hid hr
  have HN := Lib.hid hn
  have H01 := Lib.hid h01
  have HNN := Lib.hid hN
  have hev : ¬ (ev : Int) = 0 := by omega
  have hN1 : 1 ≤ N := by have h := fixN_length ev ah prev l h1; rw [hN, hn, if_neg (by omega)] at h; generalize (n - 1) / ev = d at h; omega
  have hrow0 := lit_row' (w := w.alloc (.cells #[.int .i64 ev, .bool ah] 60)) (l := [prev]) (n := 1) rfl (by decide)
  have HROW0 := Lib.hid hrow0
  clear hr hn h01 hN hrow0
  go_enter Try.func50, Try.ntmps50
  go_wp2_with fail
  obtain ⟨W1, hW1⟩ : ∃ W1, w.alloc (.cells #[.int .i64 ev, .bool ah] 60) = W1 := ⟨_, rfl⟩
  have hq1 : W1.heap[w.heap.size]? = some (.cells #[.int .i64 ev, .bool ah] 60) := by rw [← hW1]; exact heap_new_at rfl
  have hb1 : Below w.heap.size w W1 := by rw [← hW1]; exact below_alloc (Below.refl _ _) _
  have hs1 : W1.heap.size = w.heap.size + 1 := by rw [← hW1]; simp
  rw [hW1] at HROW0
  rw [hW1, ← hs1]
  have HQ1 := Lib.hid hq1
  have HB1 := Lib.hid hb1
  have HS1 := Lib.hid hs1
  have HM0 : Hid ([prev] ++ fixE ev prev (leftR ev ah 0) (l.drop 0) = prev :: fixN ev ah prev l) := by show _ = _; rfl
  clear hW1 hq1 hb1 hs1
  go_loopw [7, 14] (fun v iv wr => ∃ (k last q : Nat) (A' : Option Addr) (c' : Nat) (out : List Nat), k ≤ n ∧ iv = .int .i64 k ∧ v = .slice A' q c' ∧ Hid (out.length = q) ∧ last ≤ 1 ∧ 1 ≤ q ∧ q ≤ N + 1 ∧ Hid (out[q - 1]? = some last) ∧ Hid (out ++ fixE ev last (leftR ev ah k) (l.drop k) = prev :: fixN ev ah prev l) ∧ Hid (Row wr W1.heap.size 5 A' c' (bys out)) ∧ Hid (Below W1.heap.size W1 wr)) (fun _ iv _ => n - (intOf iv).toNat)
  case atStart => exact ⟨0, prev, 1, _, _, [prev], by omega, rfl, rfl, rfl, hp, by omega, by omega, rfl, HM0, HROW0, below_alloc (Below.refl _ _) _⟩
  case round =>
    obtain ⟨k, last, q, A', c', out, hk, rfl, rfl, HQL, hl1, hq1, hqN, HLA, HM, HQ, HW⟩ := hrel
    by_cases hkn : k < n
    · have hkl : k < l.length := by rw [HN.out]; exact hkn
      have hw1 : Below w.heap.size w wr := below_trans HB1.out HW.out
      obtain ⟨ad, rfl, ca⟩ := (HR.out.below hw1).at_ k hkl
      have hx := H01.out l[k] (List.getElem_mem hkl)
      have hd : l.drop k = l[k] :: l.drop (k + 1) := List.drop_eq_getElem_cons hkl
      obtain ⟨x, hxe⟩ : ∃ x, l[k] = x := ⟨_, rfl⟩
      rw [hxe] at ca hx hd
      have hbq := heap_below HW.out HQ1.out
      have w0 : wr.cell? ⟨w.heap.size, 0, none⟩ = some (.int .i64 ev) := cell_of_heap hbq 0 _ rfl
      have w1 : wr.cell? ⟨w.heap.size, 1, none⟩ = some (.bool ah) := cell_of_heap hbq 1 _ rfl
      have hm := HM.out
      rw [hd] at hm
      have hls := leftR_succ ev h1 ah k
      obtain ⟨ga, hA', hga, -, hcq⟩ := row_some HQ.out HQL.out (by omega)
      subst hA'
      have cl := row_at HQ.out (Below.refl _ _) (q - 1) last HLA.out
      have hbnd := congrArg List.length hm
      rw [List.length_append, List.length_cons, HNN.out, HQL.out] at hbnd
      have hqi : (q : Int) - 1 = ((q - 1 : Nat) : Int) := by omega
      have hql : ((q - 1 : Nat) : Int) < (q : Int) := by omega
      have hsz : W1.heap.size ≤ wr.heap.size := HW.out.size
      have HD := Lib.hid hd
      have HMM := Lib.hid hm
      have HLS := Lib.hid hls
      clear hw1 hxe hd hbq hm hls
      by_cases h0 : leftR ev ah k = 0
      · have hz := (leftR_zero h1).1 h0
        have hq2 : q + 2 ≤ N + 1 := by
          rw [h0, fixE, if_pos rfl] at hbnd
          simp only [List.length_cons] at hbnd
          omega
        obtain ⟨y, hy⟩ : ∃ y, 1 - last = y := ⟨_, rfl⟩
        have hyi : (1 : Int) - (last : Int) = (y : Int) := by omega
        have hyw : IntKind.u8.wrap ((1 : Int) - (last : Int)) = (y : Int) := by rw [IntWalk.u8_in _ ⟨by omega, by omega⟩]; omega
        have HY := Lib.hid hy
        have H0 := Lib.hid h0
        have hy1 : y ≤ 1 := by omega
        clear hbnd hy h0
        rcases hz with ⟨hk0, hkm⟩ | ⟨rfl, rfl⟩
        · have hkp : (0 : Int) < (k : Int) := by omega
          have hm1 : (k : Int) % (ev : Int) = 0 := by have : (k : Int) % (ev : Int) = ((k % ev : Nat) : Int) := by simp
                                                      rw [this, hkm]; rfl
          have hm2 : (k : Int).tmod (ev : Int) = 0 := by rw [Int.tmod_eq_emod_of_nonneg (by omega)]; exact hm1
          clear hkm
          go_wp2_with (first
            | (at_builtin; refine wpList_appN (w0 := W1) (below_alloc HW.out _) rfl (.tmp 36) (.tmp 44) rfl W1.heap.size (some ⟨ga, 0, none⟩) q c' out rfl HQL.out (HQ.out.alloc _) (some ⟨wr.heap.size, 0, none⟩) 1 1 [y] rfl rfl (PartOk.lit (heap_new_at rfl) rfl) (q + 1) rfl (by omega) (Nat.le_refl _) (below_alloc HW.out _).size ?_; intro e3 A3 c3 HB3 HO3)
            | (at_builtin; refine wpList_appN (w0 := W1) (below_alloc e3.below _) rfl (.tmp 46) (.tmp 48) rfl W1.heap.size A3 (q + 1) c3 (out ++ [y]) rfl (by rw [List.length_append, HQL.out]; rfl) (HO3.out.alloc _) (some ⟨e3.W.heap.size, 0, none⟩) 1 1 [x] rfl rfl (PartOk.lit (heap_new_at rfl) rfl) (q + 1 + 1) rfl (by omega) (Nat.le_refl _) (below_alloc e3.below _).size ?_; intro e4 A4 c4 HB4 HO4))
          go_roundw
          case rel =>
            refine ⟨k + 1, x, q + 1 + 1, A4, c4, out ++ [y] ++ [x], by omega, by go_num, rfl, by show _ = _; rw [List.length_append, List.length_append, HQL.out]; rfl, hx, by omega, by omega, ?_, ?_, HO4.out, e4.below⟩
            · show _ = _
              rw [List.getElem?_append_right (by rw [List.length_append, HQL.out]; simp), List.length_append, HQL.out]; simp
            · show _ = _
              rw [HLS.out, if_pos H0.out]
              have h := HMM.out
              rw [H0.out, fixE, if_pos rfl, HY.out] at h
              rw [← h]; simp
          case measure => simp [intOf]; omega
        · have ca0 : wr.cell? ad = some (.int .u8 (x : Int)) := by simpa [Addr.add] using ca
          go_wp2_with (first
            | (at_builtin; refine wpList_appN (w0 := W1) (below_alloc HW.out _) rfl (.tmp 36) (.tmp 44) rfl W1.heap.size (some ⟨ga, 0, none⟩) q c' out rfl HQL.out (HQ.out.alloc _) (some ⟨wr.heap.size, 0, none⟩) 1 1 [y] rfl rfl (PartOk.lit (heap_new_at rfl) rfl) (q + 1) rfl (by omega) (Nat.le_refl _) (below_alloc HW.out _).size ?_; intro e3 A3 c3 HB3 HO3)
            | (at_builtin; refine wpList_appN (w0 := W1) (below_alloc e3.below _) rfl (.tmp 46) (.tmp 48) rfl W1.heap.size A3 (q + 1) c3 (out ++ [y]) rfl (by rw [List.length_append, HQL.out]; rfl) (HO3.out.alloc _) (some ⟨e3.W.heap.size, 0, none⟩) 1 1 [x] rfl rfl (PartOk.lit (heap_new_at rfl) rfl) (q + 1 + 1) rfl (by omega) (Nat.le_refl _) (below_alloc e3.below _).size ?_; intro e4 A4 c4 HB4 HO4))
          go_roundw
          case rel =>
            refine ⟨0 + 1, x, q + 1 + 1, A4, c4, out ++ [y] ++ [x], by omega, by go_num, rfl, by show _ = _; rw [List.length_append, List.length_append, HQL.out]; rfl, hx, by omega, by omega, ?_, ?_, HO4.out, e4.below⟩
            · show _ = _
              rw [List.getElem?_append_right (by rw [List.length_append, HQL.out]; simp), List.length_append, HQL.out]; simp
            · show _ = _
              rw [HLS.out, if_pos H0.out]
              have h := HMM.out
              rw [H0.out, fixE, if_pos rfl, HY.out] at h
              rw [← h]; simp
          case measure => simp [intOf]; omega
      · have hnz : ¬ ((0 < k ∧ k % ev = 0) ∨ (k = 0 ∧ ah = true)) := fun h => h0 ((leftR_zero h1).2 h)
        have hq2 : q + 1 ≤ N + 1 := by
          rw [fixE, if_neg h0] at hbnd
          simp only [List.length_cons] at hbnd
          omega
        have H0 := Lib.hid h0
        clear hbnd h0
        by_cases hk0 : 0 < k
        · have hkm : ¬ k % ev = 0 := fun h => hnz (Or.inl ⟨hk0, h⟩)
          have hkp : (0 : Int) < (k : Int) := by omega
          have hkz : ¬ (k : Int) = 0 := by omega
          have hm1 : ¬ (k : Int) % (ev : Int) = 0 := by have : (k : Int) % (ev : Int) = ((k % ev : Nat) : Int) := by simp
                                                        rw [this]; omega
          have hm2 : ¬ (k : Int).tmod (ev : Int) = 0 := by rw [Int.tmod_eq_emod_of_nonneg (by omega)]; exact hm1
          clear hkm hnz
          go_wp2_with (first
            | (at_builtin; refine wpList_appN (w0 := W1) (below_alloc HW.out _) rfl (.tmp 46) (.tmp 48) rfl W1.heap.size (some ⟨ga, 0, none⟩) q c' out rfl HQL.out (HQ.out.alloc _) (some ⟨wr.heap.size, 0, none⟩) 1 1 [x] rfl rfl (PartOk.lit (heap_new_at rfl) rfl) (q + 1) rfl (by omega) (Nat.le_refl _) (below_alloc HW.out _).size ?_; intro e4 A4 c4 HB4 HO4))
          go_roundw
          case rel =>
            refine ⟨k + 1, x, q + 1, A4, c4, out ++ [x], by omega, by go_num, rfl, by show _ = _; rw [List.length_append, HQL.out]; rfl, hx, by omega, by omega, ?_, ?_, HO4.out, e4.below⟩
            · show _ = _
              rw [List.getElem?_append_right (by rw [HQL.out]; simp), HQL.out]; simp
            · show _ = _
              rw [HLS.out, if_neg H0.out]
              have h := HMM.out
              rw [fixE, if_neg H0.out] at h
              rw [← h]; simp
          case measure => simp [intOf]; omega
        · obtain rfl : k = 0 := by omega
          have hah : ah = false := by cases ah with
            | false => rfl
            | true => exact absurd (Or.inr ⟨rfl, rfl⟩) hnz
          subst hah
          have ca0 : wr.cell? ad = some (.int .u8 (x : Int)) := by simpa [Addr.add] using ca
          clear hnz
          go_wp2_with (first
            | (at_builtin; refine wpList_appN (w0 := W1) (below_alloc HW.out _) rfl (.tmp 46) (.tmp 48) rfl W1.heap.size (some ⟨ga, 0, none⟩) q c' out rfl HQL.out (HQ.out.alloc _) (some ⟨wr.heap.size, 0, none⟩) 1 1 [x] rfl rfl (PartOk.lit (heap_new_at rfl) rfl) (q + 1) rfl (by omega) (Nat.le_refl _) (below_alloc HW.out _).size ?_; intro e4 A4 c4 HB4 HO4))
          go_roundw
          case rel =>
            refine ⟨0 + 1, x, q + 1, A4, c4, out ++ [x], by omega, by go_num, rfl, by show _ = _; rw [List.length_append, HQL.out]; rfl, hx, by omega, by omega, ?_, ?_, HO4.out, e4.below⟩
            · show _ = _
              rw [List.getElem?_append_right (by rw [HQL.out]; simp), HQL.out]; simp
            · show _ = _
              rw [HLS.out, if_neg H0.out]
              have h := HMM.out
              rw [fixE, if_neg H0.out] at h
              rw [← h]; simp
          case measure => simp [intOf]; omega
    · obtain rfl : n = k := by omega
      have hm := HM.out
      rw [← HN.out, List.drop_length, fixE, List.append_nil] at hm
      obtain ⟨ga, hA', hga, hca, hcq⟩ := row_some HQ.out HQL.out (by omega)
      subst hA'
      have hqn : q = N + 1 := by rw [← HQL.out, hm, List.length_cons, HNN.out]
      subst hqn
      have HM2 := Lib.hid hm
      have z1 : (1 : Int) ≤ ((N + 1 : Nat) : Int) := by omega
      have z2 : ((N + 1 : Nat) : Int) ≤ (c' : Int) := by omega
      have z3 : ¬ c' = 1 := by omega
      clear hm
      go_wp2_with fail
      go_ret
      have hrow := HQ.out.rd
      rw [HM2.out] at hrow
      exact ⟨⟨ga, _, rfl, rd_tail hrow⟩, below_trans HB1.out HW.out⟩
end Go.Proofs.Ytaknddanggdplaa
-- Ref04b: The document's answer for layer 4: the tally, and how long stuffed bits get. No condition.
namespace Go.Proofs.Ytaknddanggdplaa
open Go.RowKit
theorem heap_alloc {w : World} {g : Nat} {o : Obj} (h : w.heap[g]? = some o) (o2 : Obj) : (w.alloc o2).heap[g]? = some o := heap_below (below_alloc (Below.refl _ w) o2) h
set_option maxRecDepth 100000 in
set_option maxHeartbeats 4000000 in
theorem TallyR_any (n : Nat) (w : World) (hn : n ≤ 1000000) :
    Calls Try.prog 60 #[.int .i64 n] w fun e w' => (∃ A' c', e = .returned (.tuple #[.slice A' 4 c', .int .i64 0]) ∧ PartOk w' (A', c', tallyN n)) ∧ Below w.heap.size w w' := by
  have h0 : ¬ (n : Int) < 0 := by omega
  have hm : n % 8 = 0 ∨ n % 8 = 1 ∨ n % 8 = 2 ∨ n % 8 = 3 ∨ n % 8 = 4 ∨ n % 8 = 5 ∨ n % 8 = 6 ∨ n % 8 = 7 := by omega
  have ht : tallyN n = bitsN ([0, 3, 6, 5, 12, 15, 10, 9].getD (n % 8) 0) 4 := rfl
  generalize tallyN n = tl at ht ⊢
  rcases hm with hm | hm | hm | hm | hm | hm | hm | hm
  all_goals
    rw [hm] at ht
    have HT := Lib.hid ht
    clear ht
  · have e1 : (n : Int) % 8 = 0 := by omega
    have e2 : (n : Int).tmod 8 = 0 := by rw [Int.tmod_eq_emod_of_nonneg (by omega)]; omega
    have ht2 : tl = [0, 0, 0, 0] := by rw [HT.out]; rfl
    have ix : ∀ W : World, (Instr.index 110 (.agg #[.slice (some ⟨w.heap.size, 0, none⟩) 4 4, .slice (some ⟨w.heap.size + 1, 0, none⟩) 4 4, .slice (some ⟨w.heap.size + 1 + 1, 0, none⟩) 4 4, .slice (some ⟨w.heap.size + 1 + 1 + 1, 0, none⟩) 4 4, .slice (some ⟨w.heap.size + 1 + 1 + 1 + 1, 0, none⟩) 4 4, .slice (some ⟨w.heap.size + 1 + 1 + 1 + 1 + 1, 0, none⟩) 4 4, .slice (some ⟨w.heap.size + 1 + 1 + 1 + 1 + 1 + 1, 0, none⟩) 4 4, .slice (some ⟨w.heap.size + 1 + 1 + 1 + 1 + 1 + 1 + 1, 0, none⟩) 4 4]) (.int .i64 0)).run Try.prog W = .ok (.slice (some ⟨w.heap.size, 0, none⟩) 4 4) W := fun _ => by kernel_rfl
    clear hm HT
    go_enter Try.func60, Try.ntmps60
    go_wp2_with fail
    go_ret2
    subst ht2
    exact ⟨⟨_, _, rfl, PartOk.lit (cs := #[.int .u8 0, .int .u8 0, .int .u8 0, .int .u8 0]) (t := 5) (heap_alloc (heap_alloc (heap_alloc (heap_alloc (heap_alloc (heap_alloc (heap_alloc (heap_new_at (by simp)) _) _) _) _) _) _) _) rfl⟩, below_alloc (below_alloc (below_alloc (below_alloc (below_alloc (below_alloc (below_alloc (below_alloc (Below.refl _ _) _) _) _) _) _) _) _) _⟩
  · have e1 : (n : Int) % 8 = 1 := by omega
    have e2 : (n : Int).tmod 8 = 1 := by rw [Int.tmod_eq_emod_of_nonneg (by omega)]; omega
    have ht2 : tl = [0, 0, 1, 1] := by rw [HT.out]; rfl
    have ix : ∀ W : World, (Instr.index 110 (.agg #[.slice (some ⟨w.heap.size, 0, none⟩) 4 4, .slice (some ⟨w.heap.size + 1, 0, none⟩) 4 4, .slice (some ⟨w.heap.size + 1 + 1, 0, none⟩) 4 4, .slice (some ⟨w.heap.size + 1 + 1 + 1, 0, none⟩) 4 4, .slice (some ⟨w.heap.size + 1 + 1 + 1 + 1, 0, none⟩) 4 4, .slice (some ⟨w.heap.size + 1 + 1 + 1 + 1 + 1, 0, none⟩) 4 4, .slice (some ⟨w.heap.size + 1 + 1 + 1 + 1 + 1 + 1, 0, none⟩) 4 4, .slice (some ⟨w.heap.size + 1 + 1 + 1 + 1 + 1 + 1 + 1, 0, none⟩) 4 4]) (.int .i64 1)).run Try.prog W = .ok (.slice (some ⟨w.heap.size + 1, 0, none⟩) 4 4) W := fun _ => by kernel_rfl
    clear hm HT
    go_enter Try.func60, Try.ntmps60
    go_wp2_with fail
    go_ret2
    subst ht2
    exact ⟨⟨_, _, rfl, PartOk.lit (cs := #[.int .u8 0, .int .u8 0, .int .u8 1, .int .u8 1]) (t := 5) (heap_alloc (heap_alloc (heap_alloc (heap_alloc (heap_alloc (heap_alloc (heap_new_at (by simp)) _) _) _) _) _) _) rfl⟩, below_alloc (below_alloc (below_alloc (below_alloc (below_alloc (below_alloc (below_alloc (below_alloc (Below.refl _ _) _) _) _) _) _) _) _) _⟩
  · have e1 : (n : Int) % 8 = 2 := by omega
    have e2 : (n : Int).tmod 8 = 2 := by rw [Int.tmod_eq_emod_of_nonneg (by omega)]; omega
    have ht2 : tl = [0, 1, 1, 0] := by rw [HT.out]; rfl
    have ix : ∀ W : World, (Instr.index 110 (.agg #[.slice (some ⟨w.heap.size, 0, none⟩) 4 4, .slice (some ⟨w.heap.size + 1, 0, none⟩) 4 4, .slice (some ⟨w.heap.size + 1 + 1, 0, none⟩) 4 4, .slice (some ⟨w.heap.size + 1 + 1 + 1, 0, none⟩) 4 4, .slice (some ⟨w.heap.size + 1 + 1 + 1 + 1, 0, none⟩) 4 4, .slice (some ⟨w.heap.size + 1 + 1 + 1 + 1 + 1, 0, none⟩) 4 4, .slice (some ⟨w.heap.size + 1 + 1 + 1 + 1 + 1 + 1, 0, none⟩) 4 4, .slice (some ⟨w.heap.size + 1 + 1 + 1 + 1 + 1 + 1 + 1, 0, none⟩) 4 4]) (.int .i64 2)).run Try.prog W = .ok (.slice (some ⟨w.heap.size + 1 + 1, 0, none⟩) 4 4) W := fun _ => by kernel_rfl
    clear hm HT
    go_enter Try.func60, Try.ntmps60
    go_wp2_with fail
    go_ret2
    subst ht2
    exact ⟨⟨_, _, rfl, PartOk.lit (cs := #[.int .u8 0, .int .u8 1, .int .u8 1, .int .u8 0]) (t := 5) (heap_alloc (heap_alloc (heap_alloc (heap_alloc (heap_alloc (heap_new_at (by simp)) _) _) _) _) _) rfl⟩, below_alloc (below_alloc (below_alloc (below_alloc (below_alloc (below_alloc (below_alloc (below_alloc (Below.refl _ _) _) _) _) _) _) _) _) _⟩
  · have e1 : (n : Int) % 8 = 3 := by omega
    have e2 : (n : Int).tmod 8 = 3 := by rw [Int.tmod_eq_emod_of_nonneg (by omega)]; omega
    have ht2 : tl = [0, 1, 0, 1] := by rw [HT.out]; rfl
    have ix : ∀ W : World, (Instr.index 110 (.agg #[.slice (some ⟨w.heap.size, 0, none⟩) 4 4, .slice (some ⟨w.heap.size + 1, 0, none⟩) 4 4, .slice (some ⟨w.heap.size + 1 + 1, 0, none⟩) 4 4, .slice (some ⟨w.heap.size + 1 + 1 + 1, 0, none⟩) 4 4, .slice (some ⟨w.heap.size + 1 + 1 + 1 + 1, 0, none⟩) 4 4, .slice (some ⟨w.heap.size + 1 + 1 + 1 + 1 + 1, 0, none⟩) 4 4, .slice (some ⟨w.heap.size + 1 + 1 + 1 + 1 + 1 + 1, 0, none⟩) 4 4, .slice (some ⟨w.heap.size + 1 + 1 + 1 + 1 + 1 + 1 + 1, 0, none⟩) 4 4]) (.int .i64 3)).run Try.prog W = .ok (.slice (some ⟨w.heap.size + 1 + 1 + 1, 0, none⟩) 4 4) W := fun _ => by kernel_rfl
    clear hm HT
    go_enter Try.func60, Try.ntmps60
    go_wp2_with fail
    go_ret2
    subst ht2
    exact ⟨⟨_, _, rfl, PartOk.lit (cs := #[.int .u8 0, .int .u8 1, .int .u8 0, .int .u8 1]) (t := 5) (heap_alloc (heap_alloc (heap_alloc (heap_alloc (heap_new_at (by simp)) _) _) _) _) rfl⟩, below_alloc (below_alloc (below_alloc (below_alloc (below_alloc (below_alloc (below_alloc (below_alloc (Below.refl _ _) _) _) _) _) _) _) _) _⟩
  · have e1 : (n : Int) % 8 = 4 := by omega
    have e2 : (n : Int).tmod 8 = 4 := by rw [Int.tmod_eq_emod_of_nonneg (by omega)]; omega
    have ht2 : tl = [1, 1, 0, 0] := by rw [HT.out]; rfl
    have ix : ∀ W : World, (Instr.index 110 (.agg #[.slice (some ⟨w.heap.size, 0, none⟩) 4 4, .slice (some ⟨w.heap.size + 1, 0, none⟩) 4 4, .slice (some ⟨w.heap.size + 1 + 1, 0, none⟩) 4 4, .slice (some ⟨w.heap.size + 1 + 1 + 1, 0, none⟩) 4 4, .slice (some ⟨w.heap.size + 1 + 1 + 1 + 1, 0, none⟩) 4 4, .slice (some ⟨w.heap.size + 1 + 1 + 1 + 1 + 1, 0, none⟩) 4 4, .slice (some ⟨w.heap.size + 1 + 1 + 1 + 1 + 1 + 1, 0, none⟩) 4 4, .slice (some ⟨w.heap.size + 1 + 1 + 1 + 1 + 1 + 1 + 1, 0, none⟩) 4 4]) (.int .i64 4)).run Try.prog W = .ok (.slice (some ⟨w.heap.size + 1 + 1 + 1 + 1, 0, none⟩) 4 4) W := fun _ => by kernel_rfl
    clear hm HT
    go_enter Try.func60, Try.ntmps60
    go_wp2_with fail
    go_ret2
    subst ht2
    exact ⟨⟨_, _, rfl, PartOk.lit (cs := #[.int .u8 1, .int .u8 1, .int .u8 0, .int .u8 0]) (t := 5) (heap_alloc (heap_alloc (heap_alloc (heap_new_at (by simp)) _) _) _) rfl⟩, below_alloc (below_alloc (below_alloc (below_alloc (below_alloc (below_alloc (below_alloc (below_alloc (Below.refl _ _) _) _) _) _) _) _) _) _⟩
  · have e1 : (n : Int) % 8 = 5 := by omega
    have e2 : (n : Int).tmod 8 = 5 := by rw [Int.tmod_eq_emod_of_nonneg (by omega)]; omega
    have ht2 : tl = [1, 1, 1, 1] := by rw [HT.out]; rfl
    have ix : ∀ W : World, (Instr.index 110 (.agg #[.slice (some ⟨w.heap.size, 0, none⟩) 4 4, .slice (some ⟨w.heap.size + 1, 0, none⟩) 4 4, .slice (some ⟨w.heap.size + 1 + 1, 0, none⟩) 4 4, .slice (some ⟨w.heap.size + 1 + 1 + 1, 0, none⟩) 4 4, .slice (some ⟨w.heap.size + 1 + 1 + 1 + 1, 0, none⟩) 4 4, .slice (some ⟨w.heap.size + 1 + 1 + 1 + 1 + 1, 0, none⟩) 4 4, .slice (some ⟨w.heap.size + 1 + 1 + 1 + 1 + 1 + 1, 0, none⟩) 4 4, .slice (some ⟨w.heap.size + 1 + 1 + 1 + 1 + 1 + 1 + 1, 0, none⟩) 4 4]) (.int .i64 5)).run Try.prog W = .ok (.slice (some ⟨w.heap.size + 1 + 1 + 1 + 1 + 1, 0, none⟩) 4 4) W := fun _ => by kernel_rfl
    clear hm HT
    go_enter Try.func60, Try.ntmps60
    go_wp2_with fail
    go_ret2
    subst ht2
    exact ⟨⟨_, _, rfl, PartOk.lit (cs := #[.int .u8 1, .int .u8 1, .int .u8 1, .int .u8 1]) (t := 5) (heap_alloc (heap_alloc (heap_new_at (by simp)) _) _) rfl⟩, below_alloc (below_alloc (below_alloc (below_alloc (below_alloc (below_alloc (below_alloc (below_alloc (Below.refl _ _) _) _) _) _) _) _) _) _⟩
  · have e1 : (n : Int) % 8 = 6 := by omega
    have e2 : (n : Int).tmod 8 = 6 := by rw [Int.tmod_eq_emod_of_nonneg (by omega)]; omega
    have ht2 : tl = [1, 0, 1, 0] := by rw [HT.out]; rfl
    have ix : ∀ W : World, (Instr.index 110 (.agg #[.slice (some ⟨w.heap.size, 0, none⟩) 4 4, .slice (some ⟨w.heap.size + 1, 0, none⟩) 4 4, .slice (some ⟨w.heap.size + 1 + 1, 0, none⟩) 4 4, .slice (some ⟨w.heap.size + 1 + 1 + 1, 0, none⟩) 4 4, .slice (some ⟨w.heap.size + 1 + 1 + 1 + 1, 0, none⟩) 4 4, .slice (some ⟨w.heap.size + 1 + 1 + 1 + 1 + 1, 0, none⟩) 4 4, .slice (some ⟨w.heap.size + 1 + 1 + 1 + 1 + 1 + 1, 0, none⟩) 4 4, .slice (some ⟨w.heap.size + 1 + 1 + 1 + 1 + 1 + 1 + 1, 0, none⟩) 4 4]) (.int .i64 6)).run Try.prog W = .ok (.slice (some ⟨w.heap.size + 1 + 1 + 1 + 1 + 1 + 1, 0, none⟩) 4 4) W := fun _ => by kernel_rfl
    clear hm HT
    go_enter Try.func60, Try.ntmps60
    go_wp2_with fail
    go_ret2
    subst ht2
    exact ⟨⟨_, _, rfl, PartOk.lit (cs := #[.int .u8 1, .int .u8 0, .int .u8 1, .int .u8 0]) (t := 5) (heap_alloc (heap_new_at (by simp)) _) rfl⟩, below_alloc (below_alloc (below_alloc (below_alloc (below_alloc (below_alloc (below_alloc (below_alloc (Below.refl _ _) _) _) _) _) _) _) _) _⟩
  · have e1 : (n : Int) % 8 = 7 := by omega
    have e2 : (n : Int).tmod 8 = 7 := by rw [Int.tmod_eq_emod_of_nonneg (by omega)]; omega
    have ht2 : tl = [1, 0, 0, 1] := by rw [HT.out]; rfl
    have ix : ∀ W : World, (Instr.index 110 (.agg #[.slice (some ⟨w.heap.size, 0, none⟩) 4 4, .slice (some ⟨w.heap.size + 1, 0, none⟩) 4 4, .slice (some ⟨w.heap.size + 1 + 1, 0, none⟩) 4 4, .slice (some ⟨w.heap.size + 1 + 1 + 1, 0, none⟩) 4 4, .slice (some ⟨w.heap.size + 1 + 1 + 1 + 1, 0, none⟩) 4 4, .slice (some ⟨w.heap.size + 1 + 1 + 1 + 1 + 1, 0, none⟩) 4 4, .slice (some ⟨w.heap.size + 1 + 1 + 1 + 1 + 1 + 1, 0, none⟩) 4 4, .slice (some ⟨w.heap.size + 1 + 1 + 1 + 1 + 1 + 1 + 1, 0, none⟩) 4 4]) (.int .i64 7)).run Try.prog W = .ok (.slice (some ⟨w.heap.size + 1 + 1 + 1 + 1 + 1 + 1 + 1, 0, none⟩) 4 4) W := fun _ => by kernel_rfl
    clear hm HT
    go_enter Try.func60, Try.ntmps60
    go_wp2_with fail
    go_ret2
    subst ht2
    exact ⟨⟨_, _, rfl, PartOk.lit (cs := #[.int .u8 1, .int .u8 0, .int .u8 0, .int .u8 1]) (t := 5) (heap_new_at (by simp)) rfl⟩, below_alloc (below_alloc (below_alloc (below_alloc (below_alloc (below_alloc (below_alloc (below_alloc (Below.refl _ _) _) _) _) _) _) _) _) _⟩
end Go.Proofs.Ytaknddanggdplaa
-- Ref05: What the document's answer for layer 5 tells of sizes, codes, and which frames may be: the same as the program. No condition.
namespace Go.Proofs.Ytaknddanggdplaa
open Go.RowKit

/-- The size that is told by a code, by definition. -/
def sizeR (k c : Int) : Option Int :=
  if k = 3 ∧ 0 ≤ c ∧ c < 2048 then some (c + 1)
  else if (k = 1 ∨ k = 2) ∧ 0 ≤ c ∧ c ≤ 8 then some c
  else if k = 2 ∧ 9 ≤ c ∧ c ≤ 15 then some (if c = 9 then 12 else if c = 10 then 16 else if c = 11 then 20 else if c = 12 then 24 else if c = 13 then 32 else if c = 14 then 48 else 64)
  else none
theorem sizeR_none {k c : Int} (h1 : ¬ (k = 3 ∧ 0 ≤ c ∧ c < 2048)) (h2 : ¬ ((k = 1 ∨ k = 2) ∧ 0 ≤ c ∧ c ≤ 8)) (h3 : ¬ (k = 2 ∧ 9 ≤ c ∧ c ≤ 15)) : sizeR k c = none := by
  unfold sizeR; rw [if_neg h1, if_neg h2, if_neg h3]
theorem sizeR_9 : sizeR 2 9 = some 12 := by decide
theorem sizeR_10 : sizeR 2 10 = some 16 := by decide
theorem sizeR_11 : sizeR 2 11 = some 20 := by decide
theorem sizeR_12 : sizeR 2 12 = some 24 := by decide
theorem sizeR_13 : sizeR 2 13 = some 32 := by decide
theorem sizeR_14 : sizeR 2 14 = some 48 := by decide
theorem sizeR_15 : sizeR 2 15 = some 64 := by decide
theorem sizeR_code {k c n : Int} (h : sizeR k c = some n) : codeF k n = some c ∧ 0 ≤ c ∧ c < 2048 := by
  unfold sizeR at h
  by_cases h1 : k = 3 ∧ 0 ≤ c ∧ c < 2048
  · rw [if_pos h1] at h
    obtain ⟨rfl, h2, h3⟩ := h1
    injection h with h
    subst h
    refine ⟨?_, h2, h3⟩
    unfold codeF loOf hiOf
    simp
    omega
  · rw [if_neg h1] at h
    by_cases h2 : (k = 1 ∨ k = 2) ∧ 0 ≤ c ∧ c ≤ 8
    · rw [if_pos h2] at h
      injection h with h
      subst h
      obtain ⟨h3, h4, h5⟩ := h2
      refine ⟨?_, h4, by omega⟩
      rcases h3 with rfl | rfl
      · unfold codeF loOf hiOf
        simp
        omega
      · have : c = 0 ∨ c = 1 ∨ c = 2 ∨ c = 3 ∨ c = 4 ∨ c = 5 ∨ c = 6 ∨ c = 7 ∨ c = 8 := by omega
        rcases this with rfl | rfl | rfl | rfl | rfl | rfl | rfl | rfl | rfl <;> decide
    · rw [if_neg h2] at h
      by_cases h3 : k = 2 ∧ 9 ≤ c ∧ c ≤ 15
      · rw [if_pos h3] at h
        injection h with h
        subst h
        obtain ⟨rfl, h4, h5⟩ := h3
        refine ⟨?_, by omega, by omega⟩
        have : c = 9 ∨ c = 10 ∨ c = 11 ∨ c = 12 ∨ c = 13 ∨ c = 14 ∨ c = 15 := by omega
        rcases this with rfl | rfl | rfl | rfl | rfl | rfl | rfl <;> decide
      · rw [if_neg h3] at h; cases h
theorem code_sizeR {k c n : Int} (h : codeF k n = some c) : sizeR k c = some n ∧ 0 ≤ c ∧ c < 2048 := by
  have hs := codeF_kind k n (by rw [h]; rfl)
  rcases hs with ⟨rfl, h0, h1⟩ | ⟨rfl, h0, h1⟩ | ⟨rfl, h0, h1⟩
  · unfold codeF loOf hiOf at h
    simp at h
    obtain ⟨⟨-, -⟩, rfl⟩ := h
    unfold sizeR
    simp
    omega
  · unfold codeF at h
    rw [if_pos rfl] at h
    by_cases hc : fdSizes[lb fdSizes n]? = some n
    · rw [if_pos hc] at h
      injection h with h
      have hl : lb fdSizes n < 16 := (List.getElem?_eq_some_iff.1 hc).1
      generalize lb fdSizes n = i at *
      subst h
      have : i = 0 ∨ i = 1 ∨ i = 2 ∨ i = 3 ∨ i = 4 ∨ i = 5 ∨ i = 6 ∨ i = 7 ∨ i = 8 ∨ i = 9 ∨ i = 10 ∨ i = 11 ∨ i = 12 ∨ i = 13 ∨ i = 14 ∨ i = 15 := by omega
      refine ⟨?_, by omega, by omega⟩
      rcases this with rfl | rfl | rfl | rfl | rfl | rfl | rfl | rfl | rfl | rfl | rfl | rfl | rfl | rfl | rfl | rfl <;> simp [fdSizes] at hc <;> subst hc <;> decide
    · rw [if_neg hc] at h; cases h
  · unfold codeF loOf hiOf at h
    simp at h
    obtain ⟨⟨-, -⟩, rfl⟩ := h
    unfold sizeR
    simp
    omega
set_option maxRecDepth 100000 in
set_option maxHeartbeats 400000 in
theorem SizeR_any (k c : Int) (w : World) (h0 : 0 ≤ c) (h1 : c < 2048) : Calls Try.prog 103 #[.int .i64 k, .int .i64 c] w fun e w' => e = .returned (codeV (sizeR k c)) ∧ w = w' := by
  by_cases k3 : k = 3
  · subst k3
    have hs : sizeR 3 c = some (c + 1) := by unfold sizeR; simp; omega
    rw [hs, codeV_some]
    clear hs
    go_enter Try.func103, Try.ntmps103
    go_wp2
    go_ret2
    exact ⟨rfl, rfl⟩
  · have b3 : (k == 3) = false := by simp [k3]
    by_cases k12 : (k = 1 ∨ k = 2) ∧ c ≤ 8
    · have hs : sizeR k c = some c := by unfold sizeR; rw [if_neg (by omega), if_pos (by omega)]
      rw [hs, codeV_some]
      obtain ⟨k12, hc⟩ := k12
      clear hs k3
      rcases k12 with rfl | rfl
      all_goals
        go_enter Try.func103, Try.ntmps103
        go_wp2
        go_ret2
        exact ⟨rfl, rfl⟩
    · by_cases k2 : k = 2 ∧ c ≤ 15
      · obtain ⟨rfl, hc⟩ := k2
        have : c = 9 ∨ c = 10 ∨ c = 11 ∨ c = 12 ∨ c = 13 ∨ c = 14 ∨ c = 15 := by omega
        clear k12 k3 b3 h0 h1 hc
        have ix0 : ∀ w, (Instr.index 134 (.agg #[.int .i64 12, .int .i64 16, .int .i64 20, .int .i64 24, .int .i64 32, .int .i64 48, .int .i64 64]) (.int .i64 0)).run Try.prog w = .ok (.int .i64 12) w := fun _ => by kernel_rfl
        have ix1 : ∀ w, (Instr.index 134 (.agg #[.int .i64 12, .int .i64 16, .int .i64 20, .int .i64 24, .int .i64 32, .int .i64 48, .int .i64 64]) (.int .i64 1)).run Try.prog w = .ok (.int .i64 16) w := fun _ => by kernel_rfl
        have ix2 : ∀ w, (Instr.index 134 (.agg #[.int .i64 12, .int .i64 16, .int .i64 20, .int .i64 24, .int .i64 32, .int .i64 48, .int .i64 64]) (.int .i64 2)).run Try.prog w = .ok (.int .i64 20) w := fun _ => by kernel_rfl
        have ix3 : ∀ w, (Instr.index 134 (.agg #[.int .i64 12, .int .i64 16, .int .i64 20, .int .i64 24, .int .i64 32, .int .i64 48, .int .i64 64]) (.int .i64 3)).run Try.prog w = .ok (.int .i64 24) w := fun _ => by kernel_rfl
        have ix4 : ∀ w, (Instr.index 134 (.agg #[.int .i64 12, .int .i64 16, .int .i64 20, .int .i64 24, .int .i64 32, .int .i64 48, .int .i64 64]) (.int .i64 4)).run Try.prog w = .ok (.int .i64 32) w := fun _ => by kernel_rfl
        have ix5 : ∀ w, (Instr.index 134 (.agg #[.int .i64 12, .int .i64 16, .int .i64 20, .int .i64 24, .int .i64 32, .int .i64 48, .int .i64 64]) (.int .i64 5)).run Try.prog w = .ok (.int .i64 48) w := fun _ => by kernel_rfl
        have ix6 : ∀ w, (Instr.index 134 (.agg #[.int .i64 12, .int .i64 16, .int .i64 20, .int .i64 24, .int .i64 32, .int .i64 48, .int .i64 64]) (.int .i64 6)).run Try.prog w = .ok (.int .i64 64) w := fun _ => by kernel_rfl
        rcases this with rfl | rfl | rfl | rfl | rfl | rfl | rfl
        all_goals
          first | rw [sizeR_9] | rw [sizeR_10] | rw [sizeR_11] | rw [sizeR_12] | rw [sizeR_13] | rw [sizeR_14] | rw [sizeR_15]
          rw [codeV_some]
          go_enter Try.func103, Try.ntmps103
          go_wp2
          go_ret2
          exact ⟨rfl, rfl⟩
      · rw [sizeR_none (by omega) (by omega) (by omega), codeV_none]
        by_cases k1 : k = 1
        · subst k1
          have hc : 8 < c := by omega
          clear k12 k2 k3
          go_enter Try.func103, Try.ntmps103
          go_wp2
          go_ret2
          exact ⟨rfl, rfl⟩
        · have b1 : (k == 1) = false := by simp [k1]
          by_cases kk : k = 2
          · subst kk
            have hc : 15 < c := by omega
            clear k12 k2 k3 k1
            go_enter Try.func103, Try.ntmps103
            go_wp2
            go_ret2
            exact ⟨rfl, rfl⟩
          · have b2 : (k == 2) = false := by simp [kk]
            clear k12 k2 k3 k1 kk
            go_enter Try.func103, Try.ntmps103
            go_wp2
            go_ret2
            exact ⟨rfl, rfl⟩
set_option maxRecDepth 100000 in
set_option maxHeartbeats 400000 in
theorem CodeR_any (k n : Int) (w : World) : Calls Try.prog 73 #[.int .i64 k, .int .i64 n] w fun e w' => e = .returned (codeV (codeF k n)) ∧ w = w' := by
  have hyes : ∀ c : Nat, sizeR k c = some n → codeF k n = some (c : Int) := fun c hc => (sizeR_code hc).1
  have hno : (∀ c : Nat, c < 2048 → sizeR k c ≠ some n) → codeF k n = none := by
    intro h
    cases hc : codeF k n with
    | none => rfl
    | some c =>
      obtain ⟨h1, h2, h3⟩ := code_sizeR hc
      obtain ⟨m, rfl⟩ := Int.eq_ofNat_of_zero_le h2
      exact absurd h1 (h m (by omega))
  generalize codeF k n = o at *
  have HY := Lib.hid hyes
  have HN := Lib.hid hno
  clear hyes hno
  go_enter Try.func73, Try.ntmps73
  go_wp2_with fail
  go_loop [6] (fun u => ∃ j : Nat, j ≤ 2048 ∧ Hid (∀ c : Nat, c < j → sizeR k c ≠ some n) ∧ u = .int .i64 j) (fun u => 2048 - (intOf u).toNat)
  case atStart => exact ⟨0, by omega, fun c hc => absurd hc (by omega), rfl⟩
  case round =>
    obtain ⟨j, hj, hprev, rfl⟩ := hrel
    by_cases hlt : j < 2048
    · cases hs : sizeR k j with
      | none =>
        have HS := Lib.hid hs
        clear hs
        go_wp2_with (go_at_call 103; refine (SizeR_any k j _ (by omega) (by omega)).mono ?_; rintro e w' ⟨rfl, rfl⟩; rw [HS.out]; simp only [codeV_none])
        go_round
        case rel =>
          refine ⟨j + 1, by omega, fun c hc => ?_, by go_num⟩
          by_cases e : c = j
          · subst e; rw [HS.out]; simp
          · exact hprev.out c (by omega)
        case measure => simp [intOf]; omega
      | some m =>
        by_cases hm : m = n
        · subst hm
          have HS := Lib.hid hs
          clear hs
          go_wp2_with (go_at_call 103; refine (SizeR_any k j _ (by omega) (by omega)).mono ?_; rintro e w' ⟨rfl, rfl⟩; rw [HS.out]; simp only [codeV_some])
          go_ret2
          exact ⟨by rw [HY.out j HS.out]; rfl, rfl⟩
        · have HS := Lib.hid hs
          have hb : (m == n) = false := by simp [hm]
          have HM := Lib.hid hm
          clear hs hm
          go_wp2_with (go_at_call 103; refine (SizeR_any k j _ (by omega) (by omega)).mono ?_; rintro e w' ⟨rfl, rfl⟩; rw [HS.out]; simp only [codeV_some])
          go_round
          case rel =>
            refine ⟨j + 1, by omega, fun c hc => ?_, by go_num⟩
            by_cases e : c = j
            · subst e; rw [HS.out]; intro e; injection e with e; exact HM.out e
            · exact hprev.out c (by omega)
          case measure => simp [intOf]; omega
    · have hj' : j = 2048 := by omega
      subst hj'
      go_wp2_with fail
      go_ret2
      exact ⟨by rw [HN.out hprev.out]; rfl, rfl⟩
end Go.Proofs.Ytaknddanggdplaa
-- RefCheck: Which frames may be, by the document's answer: the same as the program's. No condition.
namespace Go.Proofs.Ytaknddanggdplaa
open Go.RowKit

theorem okF_none (f : Fr) (h : codeF f.kind f.data.length = none) : okF f = false := by unfold okF; simp [h]
/-- One kind after the other: which frames may be. -/
theorem okF_1 (f : Fr) (hk : f.kind = 1) (h : (codeF f.kind f.data.length).isSome = true) :
    okF f = decide (f.id < (if f.ext then 536870912 else 2048) ∧ ¬ (f.rtr = true ∧ 0 < f.data.length) ∧ f.brs = false ∧ f.esi = false ∧ f.sec = false ∧ f.sdt = 0 ∧ f.vcid = 0 ∧ f.af = 0) := by
  rw [Bool.eq_iff_iff, okF_iff, decide_eq_true_eq]
  constructor
  · rintro ⟨k1, k2, k3, k4, k5, k6, k7, k8, k9, k10, k11, k12⟩
    refine ⟨k3, ?_, k7 (by omega), k8 (by omega), k9 (by omega), k10 (by omega), k11 (by omega), k12 (by omega)⟩
    rintro ⟨h1, h2⟩
    rw [k6 h1] at h2; simp at h2
  · rintro ⟨h1, h2, h3, h4, h5, h6, h7, h8⟩
    refine ⟨by omega, h, h1, by omega, by omega, ?_, fun _ => h3, fun _ => h4, fun _ => h5, fun _ => h6, fun _ => h7, fun _ => h8⟩
    intro hr
    by_cases hd : f.data = []
    · exact hd
    · exact absurd ⟨hr, List.length_pos_iff.2 hd⟩ h2
theorem okF_2 (f : Fr) (hk : f.kind = 2) (h : (codeF f.kind f.data.length).isSome = true) :
    okF f = decide (f.id < 2048 ∧ f.ext = false ∧ f.rtr = false ∧ f.sec = false ∧ f.sdt = 0 ∧ f.vcid = 0 ∧ f.af = 0) := by
  rw [Bool.eq_iff_iff, okF_iff, decide_eq_true_eq]
  constructor
  · rintro ⟨k1, k2, k3, k4, k5, k6, k7, k8, k9, k10, k11, k12⟩
    have he := k4 (by omega)
    rw [he] at k3
    exact ⟨by simpa using k3, he, k5 (by omega), k9 (by omega), k10 (by omega), k11 (by omega), k12 (by omega)⟩
  · rintro ⟨h1, h2, h3, h4, h5, h6, h7⟩
    exact ⟨by omega, h, by rw [h2]; simpa using h1, fun _ => h2, fun _ => h3, fun hr => (by rw [h3] at hr; cases hr), by omega, by omega, fun _ => h4, fun _ => h5, fun _ => h6, fun _ => h7⟩
theorem okF_3 (f : Fr) (hk : f.kind = 3) (h : (codeF f.kind f.data.length).isSome = true) :
    okF f = decide (f.id < 2048 ∧ f.ext = false ∧ f.rtr = false ∧ f.brs = false ∧ f.esi = false) := by
  rw [Bool.eq_iff_iff, okF_iff, decide_eq_true_eq]
  constructor
  · rintro ⟨k1, k2, k3, k4, k5, k6, k7, k8, k9, k10, k11, k12⟩
    have he := k4 (by omega)
    rw [he] at k3
    exact ⟨by simpa using k3, he, k5 (by omega), k7 (by omega), k8 (by omega)⟩
  · rintro ⟨h1, h2, h3, h4, h5⟩
    exact ⟨by omega, h, by rw [h2]; simpa using h1, fun _ => h2, fun _ => h3, fun hr => (by rw [h3] at hr; cases hr), fun _ => h4, fun _ => h5, by omega, by omega, by omega, by omega⟩
set_option maxRecDepth 100000 in
set_option maxHeartbeats 4000000 in
theorem CheckR_1 (f : Fr) (A : Option Addr) (c : Nat) (w : World) (hk : f.kind = 1) (co : Int) (hco : codeF f.kind f.data.length = some co) :
    Calls Try.prog 59 #[frv f (.slice A f.data.length c)] w fun e w' => e = .returned (errV (okF f)) ∧ Below w.heap.size w w' := by
  have hok := okF_1 f hk (by rw [hco]; rfl)
  have hc := fun W => CodeR_any f.kind f.data.length W
  rw [hco] at hc
  clear hco
  generalize okF f = ok at *
  obtain ⟨kind, id, ext, rtr, brs, esi, sec, sdt, vcid, af, data⟩ := f
  dsimp only [frv] at *
  subst hk
  generalize data.length = n at *
  have HOK := Lib.hid hok
  have HC := Lib.hid hc
  clear hok hc
  go_enter Try.func59, Try.ntmps59
  go_wp2_with (go_at_call 73; refine (HC.out _).mono ?_; rintro e w' ⟨rfl, rfl⟩; simp only [codeV_some])
  all_goals
    go_ret
    refine ⟨ret_int ?_, below_alloc (below_alloc (Below.refl _ _) _) _⟩
    rw [HOK.out]
    clear HOK HC
    first
      | (simp [*]; done)
      | (simp [*]; omega)
      | (simp_all; done)
      | (simp_all; omega)
set_option maxRecDepth 100000 in
set_option maxHeartbeats 4000000 in
theorem CheckR_2 (f : Fr) (A : Option Addr) (c : Nat) (w : World) (hk : f.kind = 2) (co : Int) (hco : codeF f.kind f.data.length = some co) :
    Calls Try.prog 59 #[frv f (.slice A f.data.length c)] w fun e w' => e = .returned (errV (okF f)) ∧ Below w.heap.size w w' := by
  have hok := okF_2 f hk (by rw [hco]; rfl)
  have hc := fun W => CodeR_any f.kind f.data.length W
  rw [hco] at hc
  clear hco
  generalize okF f = ok at *
  obtain ⟨kind, id, ext, rtr, brs, esi, sec, sdt, vcid, af, data⟩ := f
  dsimp only [frv] at *
  subst hk
  generalize data.length = n at *
  have HOK := Lib.hid hok
  have HC := Lib.hid hc
  clear hok hc
  go_enter Try.func59, Try.ntmps59
  go_wp2_with (go_at_call 73; refine (HC.out _).mono ?_; rintro e w' ⟨rfl, rfl⟩; simp only [codeV_some])
  all_goals
    go_ret
    refine ⟨ret_int ?_, below_alloc (below_alloc (Below.refl _ _) _) _⟩
    rw [HOK.out]
    clear HOK HC
    first
      | (simp [*]; done)
      | (simp [*]; omega)
      | (simp_all; done)
      | (simp_all; omega)
set_option maxRecDepth 100000 in
set_option maxHeartbeats 4000000 in
theorem CheckR_3 (f : Fr) (A : Option Addr) (c : Nat) (w : World) (hk : f.kind = 3) (co : Int) (hco : codeF f.kind f.data.length = some co) :
    Calls Try.prog 59 #[frv f (.slice A f.data.length c)] w fun e w' => e = .returned (errV (okF f)) ∧ Below w.heap.size w w' := by
  have hok := okF_3 f hk (by rw [hco]; rfl)
  have hc := fun W => CodeR_any f.kind f.data.length W
  rw [hco] at hc
  clear hco
  generalize okF f = ok at *
  obtain ⟨kind, id, ext, rtr, brs, esi, sec, sdt, vcid, af, data⟩ := f
  dsimp only [frv] at *
  subst hk
  generalize data.length = n at *
  have HOK := Lib.hid hok
  have HC := Lib.hid hc
  clear hok hc
  go_enter Try.func59, Try.ntmps59
  go_wp2_with (go_at_call 73; refine (HC.out _).mono ?_; rintro e w' ⟨rfl, rfl⟩; simp only [codeV_some])
  all_goals
    go_ret
    refine ⟨ret_int ?_, below_alloc (below_alloc (Below.refl _ _) _) _⟩
    rw [HOK.out]
    clear HOK HC
    first
      | (simp [*]; done)
      | (simp [*]; omega)
      | (simp_all; done)
      | (simp_all; omega)
set_option maxRecDepth 100000 in
set_option maxHeartbeats 1000000 in
theorem CheckR_any (f : Fr) (A : Option Addr) (c : Nat) (w : World) :
    Calls Try.prog 59 #[frv f (.slice A f.data.length c)] w fun e w' => e = .returned (errV (okF f)) ∧ Below w.heap.size w w' := by
  cases hco : codeF f.kind f.data.length with
  | none =>
    have hok := okF_none f hco
    have hc := fun W => CodeR_any f.kind f.data.length W
    rw [hco] at hc
    rw [hok]
    clear hco hok
    obtain ⟨kind, id, ext, rtr, brs, esi, sec, sdt, vcid, af, data⟩ := f
    dsimp only [frv] at *
    generalize data.length = n at *
    have HC := Lib.hid hc
    clear hc
    go_enter Try.func59, Try.ntmps59
    go_wp2_with (go_at_call 73; refine (HC.out _).mono ?_; rintro e w' ⟨rfl, rfl⟩; simp only [codeV_none])
    go_ret
    exact ⟨rfl, below_alloc (below_alloc (Below.refl _ _) _) _⟩
  | some co =>
    rcases codeF_kind _ _ (by rw [hco]; rfl) with ⟨hk, -⟩ | ⟨hk, -⟩ | ⟨hk, -⟩
    · exact CheckR_1 f A c w hk co hco
    · exact CheckR_2 f A c w hk co hco
    · exact CheckR_3 f A c w hk co hco
end Go.Proofs.Ytaknddanggdplaa
