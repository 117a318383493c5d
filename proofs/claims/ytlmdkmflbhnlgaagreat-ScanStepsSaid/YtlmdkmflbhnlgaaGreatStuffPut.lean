/- stuff's state: how a row of raw bits ends. No condition. -/
import Derived.Test.YtlmdkmflbhnlgaaGreatBlk
import Derived.Test.YtlmdkmflbhnlgaaGreatPStuff
import Derived.Handy
import Derived.Test.YtlmdkmflbhnlgaaGreatBytes
import Derived.Test.YtlmdkmflbhnlgaaGreatBitsCheck
namespace Go.Proofs.YtlmdkmflbhnlgaaGreat
open Go.RowKit
def seeL (last run x : Nat) : Nat := if 0 < run ∧ last = x then last else x
theorem full_any (b : Nat) (last run : Nat) (t : TypeId) (w : World) (h : w.heap[b]? = some (.cells #[.int .u8 last, .int .i64 run] t)) :
    Calls Tryz.prog 40 #[.pointer (some ⟨b, 0, none⟩)] w fun e w' => e = .returned (.bool (decide (run = 5))) ∧ w = w' := by
  have c0 := cell_of_heap h 0 _ rfl
  have c1 : w.cell? ⟨b, 1, none⟩ = some (.int .i64 run) := cell_of_heap h 1 _ rfl
  go_enter Tryz.func40, Tryz.ntmps40
  go_wp2
  go_ret
  exact ⟨ret_bool (by rw [Bool.eq_iff_iff]; simp; omega), rfl⟩
set_option maxHeartbeats 1000000 in
theorem see_any (b : Nat) (last run x : Nat) (t : TypeId) (w : World) (h : w.heap[b]? = some (.cells #[.int .u8 last, .int .i64 run] t)) (hr : run ≤ 1000000) :
    Calls Tryz.prog 41 #[.pointer (some ⟨b, 0, none⟩), .int .u8 x] w fun e w' => e = .returned (.tuple #[]) ∧ w'.heap[b]? = some (.cells #[.int .u8 (seeL last run x : Nat), .int .i64 (seeN last run x : Nat)] t) ∧ Touch b b w w' := by
  have c0 := cell_of_heap h 0 _ rfl
  have c1 : w.cell? ⟨b, 1, none⟩ = some (.int .i64 run) := cell_of_heap h 1 _ rfl
  have z0 : w.frozen? ⟨b, 0, none⟩ = false := by simp [World.frozen?, h]
  have z1 : w.frozen? ⟨b, 1, none⟩ = false := by simp [World.frozen?, h]
  have HH := Lib.hid h
  clear h
  by_cases hr0 : run = 0
  · subst hr0
    go_enter Tryz.func41, Tryz.ntmps41
    go_wp2
    go_end0
    refine ⟨rfl, ?_, ((Touch.refl b b w).setCell (p := ⟨b, 0, none⟩) (.inl rfl) _).setCell (p := ⟨b, 1, none⟩) (.inl rfl) _⟩
    rw [heap_setCell (heap_setCell HH.out 0 _) 1 _]
    simp [seeN, seeL]
  · by_cases he : last = x
    · have hei : ((run : Int) > 0) := by omega
      subst he
      go_enter Tryz.func41, Tryz.ntmps41
      go_wp2
      (first | go_returns | go_ret)
      refine ⟨rfl, ?_, (Touch.refl b b w).setCell (p := ⟨b, 1, none⟩) (.inl rfl) _⟩
      rw [heap_setCell HH.out 1 _]
      simp [seeN, seeL, show 0 < run by omega]
    · have hne : ¬ (last : Int) = (x : Int) := by omega
      go_enter Tryz.func41, Tryz.ntmps41
      go_wp2
      go_end0
      refine ⟨rfl, ?_, ((Touch.refl b b w).setCell (p := ⟨b, 0, none⟩) (.inl rfl) _).setCell (p := ⟨b, 1, none⟩) (.inl rfl) _⟩
      rw [heap_setCell (heap_setCell HH.out 0 _) 1 _]
      simp [seeN, seeL, he]
end Go.Proofs.YtlmdkmflbhnlgaaGreat
namespace Go.Proofs.YtlmdkmflbhnlgaaGreat
open Go.RowKit
theorem seeL_eq (last run x : Nat) : seeL last run x = x := by unfold seeL; split <;> simp_all
/-- Of what lay below B only blocks b and d are turned. -/
structure Keep2 (B b d : Nat) (w w' : World) : Prop where
  os : w'.os = w.os
  tape : w'.tape = w.tape
  output : w'.output = w.output
  size : w.heap.size ≤ w'.heap.size
  block : ∀ k, k < B → k ≠ b → k ≠ d → w'.heap[k]? = w.heap[k]?
theorem Keep2.refl (B b d : Nat) (w : World) : Keep2 B b d w w := ⟨rfl, rfl, rfl, Nat.le_refl _, fun _ _ _ _ => rfl⟩
theorem Keep2.trans {B b d : Nat} {w w1 w2 : World} (h : Keep2 B b d w w1) (k : Keep2 B b d w1 w2) : Keep2 B b d w w2 :=
  ⟨k.os.trans h.os, k.tape.trans h.tape, k.output.trans h.output, Nat.le_trans h.size k.size, fun i hi h1 h2 => (k.block i hi h1 h2).trans (h.block i hi h1 h2)⟩
theorem Keep2.ofTouch {B b d : Nat} {w w' : World} (h : Touch b b w w') (hB : B ≤ w.heap.size) : Keep2 B b d w w' := ⟨h.os, h.tape, h.output, h.size, fun k hk h1 _ => h.block k (by omega) h1 h1⟩
theorem Keep2.ofKeep {B b d : Nat} {w w' : World} (h : Keep B d w w') : Keep2 B b d w w' := ⟨h.os, h.tape, h.output, h.size, fun k hk _ h2 => h.block k hk h2⟩
theorem Keep2.below {B b d C : Nat} {w w' : World} (h : Keep2 B b d w w') (hb : C ≤ b) (hd : C ≤ d) (hB : C ≤ B) : Below C w w' := ⟨h.os, h.tape, h.output, h.size, fun k hk => h.block k (by omega) (by omega) (by omega)⟩
theorem Keep2.cell_of {B b d : Nat} {w w' : World} (h : Keep2 B b d w w') {a : Addr} {v : Value} (hc : w.cell? a = some v) (h1 : a.block < B) (h2 : a.block ≠ b) (h3 : a.block ≠ d) : w'.cell? a = some v := cell_same (h.block _ h1 h2 h3) hc
/-- A row of stuffed bits under way: block bs holds how it ends, block bo the row. -/
structure Stf (w : World) (B bs bo : Nat) (A : Option Addr) (c last run : Nat) (out : List Nat) : Prop where
  pot : Pot w B bo 22 A c out
  st : w.heap[bs]? = some (.cells #[.int .u8 last, .int .i64 run] 75)
  ne : bs ≠ bo
  ns : ∀ ad, A = some ad → ad.block ≠ bs
  lt : bs < B
theorem Row.touch {w w' : World} {base t c b : Nat} {A : Option Addr} {xs : List Value} (h : Row w base t A c xs) (ht : Touch b b w w') (hb : ∀ ad, A = some ad → ad.block ≠ b) : Row w' base t A c xs := by
  refine ⟨h.1, h.2.imp id fun ⟨g, cap, cur, hv, hg, hh, r⟩ => ⟨g, cap, cur, hv, hg, ?_, r⟩⟩
  have hne : g ≠ b := by injection hv with e _ _; exact hb _ e
  rw [ht.block g (heap_lt hh) hne hne]; exact hh
theorem Row.ge {w : World} {base t c : Nat} {A : Option Addr} {xs : List Value} (h : Row w base t A c xs) : ∀ ad, A = some ad → base ≤ ad.block := by
  intro ad e
  subst e
  rcases h.2 with ⟨hv, _⟩ | ⟨g, cap, cur, hv, hg, _⟩
  · cases hv
  · injection hv with e; injection e with e; rw [e]; exact hg
set_option maxRecDepth 100000 in
set_option maxHeartbeats 1000000 in
theorem put1_any (w : World) (B bs bo : Nat) (A : Option Addr) (c last run x : Nat) (out : List Nat) (h : Stf w B bs bo A c last run out) (hrun : run ≤ 1000) (hl : out.length + 1 ≤ 1000000) :
    Calls Tryz.prog 39 #[.func (.func 41) #[.pointer (some ⟨bs, 0, none⟩)] #[], .int .u8 x, .pointer (some ⟨bo, 0, none⟩)] w fun e w' => e = .returned (.tuple #[]) ∧ (∃ A' c', Stf w' B bs bo A' c' x (seeN last run x) (out ++ [x])) ∧ Keep2 B bs bo w w' := by
  obtain ⟨i0, hi, hz0, hz1, hz2⟩ := info_parts info_u8
  have HH := Lib.hid h
  have HSEE := Lib.hid (see_any bs last run x 75 w h.st (by omega))
  clear h
  go_enter Tryz.func39, Tryz.ntmps39
  go_wp2_with fail
  refine HSEE.out.mono ?_
  rintro e w1 ⟨rfl, hst, ht⟩
  rw [seeL_eq] at hst
  have hbo : w1.heap[bo]? = some (.cells #[.slice A out.length c] 22) := by
    rw [ht.block bo (heap_lt HH.out.pot.box) (Ne.symm HH.out.ne) (Ne.symm HH.out.ne)]; exact HH.out.pot.box
  have hpot : Pot w1 B bo 22 A c out := ⟨hbo, HH.out.pot.ne, Nat.le_trans HH.out.pot.size ht.size, HH.out.pot.row.touch ht HH.out.ns⟩
  obtain ⟨q, hq⟩ : ∃ q, out.length = q := ⟨_, rfl⟩
  have hq2 : q + 1 ≤ 1000000 := by omega
  have c0 : w1.cell? ⟨bo, 0, none⟩ = some (.slice A q c) := by rw [← hq]; exact hpot.cell
  have z0 : w1.frozen? ⟨bo, 0, none⟩ = false := hpot.frozen
  have sb : bo < w1.heap.size := heap_lt hpot.box
  have HPOT := Lib.hid hpot
  have HST := Lib.hid hst
  have HT := Lib.hid ht
  have HL := Lib.hid hq
  clear hpot hst ht hq hl hbo
  go_wp2_with (at_builtin; refine wpList_pot (W0 := w1) (HPOT.out.alloc _) (.of (below_alloc (Below.refl _ _) _) HPOT.out.size) rfl (.tmp 8) (.tmp 10) 22 rfl i0 _ 1 Tryz.underlying22 hi hz0 hz1 hz2 rfl q HL.out rfl _ 1 1 [x] rfl rfl (Rd.blk (heap_new_at rfl)) (by intro h; cases h) (q + 1) rfl (by unfold maxLen; omega) (by omega) ?_; intro w3 A3 c3 HP3 c03 z03)
  go_end0
  obtain ⟨p1, p2⟩ := HP3.out.store (n := q + 1) (by rw [List.length_append, HL.out]; rfl)
  refine ⟨rfl, ⟨A3, c3, p1, ?_, HH.out.ne, fun ad e => by have := p1.row.ge ad e; have := HH.out.lt; omega, HH.out.lt⟩, (Keep2.ofTouch HT.out HH.out.pot.size).trans (.ofKeep p2)⟩
  rw [p2.block bs HH.out.lt HH.out.ne]
  exact HST.out
theorem put1_row (w : World) (B bs bo : Nat) (A : Option Addr) (c last run X : Nat) (x : Int) (out : List Nat) (eX : x = (X : Int)) (h : Stf w B bs bo A c last run out) (hrun : run ≤ 1000) (hl : out.length + 1 ≤ 1000000) :
    Calls Tryz.prog 39 #[.func (.func 41) #[.pointer (some ⟨bs, 0, none⟩)] #[], .int .u8 x, .pointer (some ⟨bo, 0, none⟩)] w fun e w' => e = .returned (.tuple #[]) ∧ (∃ A' c', Stf w' B bs bo A' c' X (seeN last run X) (out ++ [X])) ∧ Keep2 B bs bo w w' := by
  subst eX
  exact put1_any w B bs bo A c last run X out h hrun hl
theorem drop_cons (l : List Nat) (k : Nat) (h : k < l.length) : l.drop k = l[k] :: l.drop (k + 1) := List.drop_eq_getElem_cons h
theorem below_of_grown {w w' : World} (h : w.grownBy w' none) : Below w.heap.size w w' := (Below.refl _ w).grown h (Nat.le_refl _) (by simp)
set_option maxRecDepth 100000 in
set_option maxHeartbeats 2000000 in
theorem StuffPut_any (w : World) (A : Option Addr) (c n N : Nat) (l : List Nat) (hr : Rd w A (bys l)) (hn : l.length = n) (hn2 : n ≤ 50000) (h01 : ∀ x ∈ l, x ≤ 1) (hN : (stuffN l).length = N) :
    Calls Tryz.prog 20 #[.slice A n c] w fun e w' => (∃ A' c', e = .returned (.tuple #[.slice A' N c', .int .i64 0]) ∧ Row w' w.heap.size 5 A' c' (bys (stuffN l))) ∧ Below w.heap.size w w' := by
  obtain ⟨i0, hi, hz0, hz1, hz2⟩ := info_parts info_u8
  have hok : bitsOk l = true := by unfold bitsOk; rw [decide_eq_true (by omega : l.length ≤ 65536), decide_eq_true h01]; rfl
  have hC := BitsCheck_any A n c l w hr hn (by omega)
  rw [hok, if_pos rfl] at hC
  have hN2 : N ≤ 65536 := by have := stuffN_le l; omega
  have HC := Lib.hid hC
  have HR := Lib.hid hr
  have HN := Lib.hid hn
  have H01 := Lib.hid h01
  have HNN := Lib.hid hN
  clear hok hC hr hn h01 hN
  go_enter Tryz.func20, Tryz.ntmps20
  go_wp2_with fail
  refine HC.out.mono ?_
  rintro e _ ⟨rfl, rfl⟩
  go_wp2_with (refine wpList_make_own _ rfl _ (.tmp 20) 22 rfl (w.heap.size + 1) 5 i0 (.int .u8 0) 1 Tryz.underlying22 hi hz0 hz1 .i64 .i64 _ (n + n / 4) rfl rfl (by omega) (by rw [hz2]; omega) (by unfold maxLen; omega) (by simp) ?_; intro w1 hown hgr)
  obtain ⟨g, hg⟩ : ∃ g, w.heap.size = g := ⟨_, rfl⟩
  have hst : w1.heap[g]? = some (.cells #[.int .u8 ((0 : Nat) : Int), .int .i64 ((0 : Nat) : Int)] 75) := heap_below (below_of_grown hgr) (heap_new_at hg.symm)
  have hsz : g + 1 ≤ w1.heap.size := by have := heap_lt hst; omega
  rw [World.size_alloc, hg] at hown
  have hbw : Below g w w1 := by rw [← hg]; exact below_trans (below_alloc (Below.refl _ _) _) (below_of_grown hgr)
  have hstf : Stf (w1.alloc (.cells #[.slice (some ⟨g + 1, 0, none⟩) 0 (n + n / 4)] 22)) (g + 1) g w1.heap.size (some ⟨g + 1, 0, none⟩) (n + n / 4) 0 0 [] :=
    ⟨⟨heap_new_at rfl, fun ad e => by
        injection e with e
        subst e
        rcases hown.2 with ⟨hv, _⟩ | ⟨g', cap, cur, hv, _, hh, _⟩
        · cases hv
        · injection hv with e; injection e with e; injection e with e
          have := heap_lt hh
          show g + 1 ≠ _
          omega, by simp; omega, World.ownsRow.alloc hown _⟩, heap_push hst, by have := heap_lt hst; omega, fun ad e => by injection e with e; subst e; show g + 1 ≠ g; omega, by omega⟩
  obtain ⟨bo, hbo⟩ : ∃ bo, w1.heap.size = bo := ⟨_, rfl⟩
  rw [hbo] at hstf
  have hk0 : Keep2 (g + 1) g bo w (w1.alloc (.cells #[.slice (some ⟨g + 1, 0, none⟩) 0 (n + n / 4)] 22)) := by
    have hb := hbw.alloc (by omega) (.cells #[.slice (some ⟨g + 1, 0, none⟩) 0 (n + n / 4)] 22)
    exact ⟨hb.os, hb.tape, hb.output, hb.size, fun k hk h1 _ => hb.block k (by omega)⟩
  have HSTF := Lib.hid hstf
  have HK0 := Lib.hid hk0
  have HG := Lib.hid hg
  have HBO := Lib.hid hbo
  have hgb : g ≤ bo := by omega
  rw [hg, hbo]
  clear hst hsz hown hbw hstf hk0 hg hbo hgr hi hz0 hz1 hz2
  go_loopw [25] (fun iv wr => ∃ (k last run : Nat) (A' : Option Addr) (c' : Nat) (out : List Nat), k ≤ n ∧ iv = .int .i64 k ∧ run ≤ 5 ∧ last ≤ 1 ∧ Hid (out ++ stf last run (l.drop k) = stuffN l) ∧ Hid (Stf wr (g + 1) g bo A' c' last run out) ∧ Hid (Keep2 (g + 1) g bo w wr)) (fun iv _ => n - (intOf iv).toNat)
  case atStart => exact ⟨0, 0, 0, _, _, [], by omega, rfl, by omega, by omega, rfl, HSTF, HK0⟩
  case round =>
    obtain ⟨k, last, run, A', c', out, hk, rfl, hr5, hl1, HM, HQ, HK⟩ := hrel
    have hol : out.length ≤ 65536 := by have := congrArg List.length HM.out; rw [List.length_append, HNN.out] at this; omega
    by_cases hkn : k < n
    · have hkl : k < l.length := by rw [HN.out]; exact hkn
      have hrd : Rd wr A (bys l) := by
        intro j u hj
        obtain ⟨ad, e, hc⟩ := HR.out j u hj
        have hlt := cell_lt hc
        exact ⟨ad, e, HK.out.cell_of hc (by rw [HG.out] at hlt; omega) (by rw [HG.out] at hlt; omega) (by rw [HG.out] at hlt; omega)⟩
      obtain ⟨ad, rfl, ca⟩ := hrd.at_ k hkl
      have hx := H01.out l[k] (List.getElem_mem hkl)
      have hd := drop_cons l k hkl
      obtain ⟨x, hxe⟩ : ∃ x, l[k] = x := ⟨_, rfl⟩
      rw [hxe] at ca hx hd
      have HD := Lib.hid hd
      have hfull := full_any g last run 75 wr HQ.out.st
      clear hd hxe hrd
      by_cases h5 : run = 5
      · rw [decide_eq_true h5] at hfull
        subst h5
        have HF := Lib.hid hfull
        have b0 : wr.cell? ⟨g, 0, none⟩ = some (.int .u8 last) := cell_of_heap HQ.out.st 0 _ rfl
        clear hfull
        go_wp2_with fail
        refine HF.out.mono ?_
        rintro e _ ⟨rfl, rfl⟩
        go_wp2_with fail
        refine (put1_row wr (g + 1) g bo A' c' last 5 (1 - last) _ out ?e1 HQ.out (by omega) (by omega)).mono ?_
        case e1 => first | rfl | omega
        rintro e w2 ⟨rfl, ⟨A2, c2, hs2⟩, hk2⟩
        have HS2 := Lib.hid hs2
        have HK2 := Lib.hid hk2
        clear hs2 hk2
        go_wp2_with fail
        refine (put1_any w2 (g + 1) g bo A2 c2 (1 - last) (seeN last 5 (1 - last)) x (out ++ [1 - last]) HS2.out (by have := seeN_le last 5 (1 - last); omega) (by simp; omega)).mono ?_
        rintro e w3 ⟨rfl, ⟨A3, c3, hs3⟩, hk3⟩
        have HS3 := Lib.hid hs3
        have HK3 := Lib.hid hk3
        clear hs3 hk3
        go_wp2_with fail
        go_roundw
        case rel =>
          have e1 : seeN last 5 (1 - last) = 1 := by unfold seeN; rw [if_neg (by omega)]
          have h3 := HS3.out
          rw [e1] at h3
          refine ⟨k + 1, x, seeN (1 - last) 1 x, A3, c3, (out ++ [1 - last]) ++ [x], by omega, by go_num, by have := seeN_le (1 - last) 1 x; omega, hx, ?_, h3, HK.out.trans (HK2.out.trans HK3.out)⟩
          show _ = _
          rw [← HM.out, HD.out, stf, if_pos rfl, List.append_assoc, List.append_assoc]
          rfl
        case measure => simp [intOf]; omega
      · rw [decide_eq_false h5] at hfull
        have HF := Lib.hid hfull
        have H5 := Lib.hid h5
        clear hfull h5
        go_wp2_with fail
        refine HF.out.mono ?_
        rintro e _ ⟨rfl, rfl⟩
        go_wp2_with fail
        refine (put1_any wr (g + 1) g bo A' c' last run x out HQ.out (by omega) (by omega)).mono ?_
        rintro e w3 ⟨rfl, ⟨A3, c3, hs3⟩, hk3⟩
        have HS3 := Lib.hid hs3
        have HK3 := Lib.hid hk3
        clear hs3 hk3
        go_wp2_with fail
        go_roundw
        case rel =>
          refine ⟨k + 1, x, seeN last run x, A3, c3, out ++ [x], by omega, by go_num, by have := seeN_le last run x; have := H5.out; omega, hx, ?_, HS3.out, HK.out.trans HK3.out⟩
          show _ = _
          rw [← HM.out, HD.out, stf, if_neg H5.out, List.append_assoc]
          rfl
        case measure => simp [intOf]; omega
    · obtain rfl : n = k := by omega
      have hm := HM.out
      rw [← HN.out, List.drop_length, stf, List.append_nil] at hm
      subst hm
      have c0 : wr.cell? ⟨bo, 0, none⟩ = some (.slice A' N c') := by rw [← HNN.out]; exact HQ.out.pot.cell
      have hnl : ¬ (65536 : Int) < (N : Int) := by omega
      clear hol
      go_wp2_with fail
      go_ret2
      refine ⟨⟨A', c', rfl, ?_⟩, ?_⟩
      · rw [HG.out]; exact HQ.out.pot.row.mono (by omega)
      · rw [HG.out]; exact HK.out.below (Nat.le_refl _) hgb (by omega)
end Go.Proofs.YtlmdkmflbhnlgaaGreat
