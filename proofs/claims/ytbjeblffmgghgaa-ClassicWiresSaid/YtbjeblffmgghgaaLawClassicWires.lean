/- What classic answers for a frame is what the document says: the law ClassicWires answers true. No condition. -/
import Derived.Test.YtbjeblffmgghgaaRef06b
import Derived.Test.YtbjeblffmgghgaaLawClassicEnds
namespace Go.Proofs.Ytbjeblffmgghgaa
open Go.RowKit
abbrev WireAns (g : FuncId) (f : Fr) (A : Option Addr) (c nw : Nat) (lw : List Nat) (ih ia ew : Int) : Prop :=
  ∀ W, Rd W A (bys f.data) → Calls Try.prog g #[frv f (.slice A f.data.length c)] W fun e w' => (∃ A' c', e = .returned (.tuple #[.agg #[.slice A' nw c', .int .i64 ih, .int .i64 ia], .int .i64 ew]) ∧ Rd w' A' (bys lw)) ∧ Below W.heap.size W w'
abbrev BodyAns (g : FuncId) (f : Fr) (A : Option Addr) (c nb : Nat) (lb : List Nat) (eb : Int) : Prop :=
  ∀ W, Rd W A (bys f.data) → Calls Try.prog g #[frv f (.slice A f.data.length c)] W fun e w' => (∃ A' c', e = .returned (.tuple #[.slice A' nb c', .int .i64 eb]) ∧ Rd w' A' (bys lb)) ∧ Below W.heap.size W w'
abbrev MostAns (g : FuncId) (size m me : Int) : Prop :=
  ∀ W, Calls Try.prog g #[.int .i64 size] W fun e w' => e = .returned (.tuple #[.int .i64 m, .int .i64 me]) ∧ W = w'
set_option maxRecDepth 100000 in
set_option maxHeartbeats 4000000 in
theorem wires_main (f : Fr) (size : Int) (A : Option Addr) (c nw nb : Nat) (lw lb : List Nat) (ih ia ew eb m me : Int) (w : World) (hd : f.data.length ≤ 5000) (hr : Rd w A (bys f.data)) (hw1 : lw.length = nw) (hb1 : lb.length = nb) (hw2 : nw ≤ 100000) (hb2 : nb ≤ 100000)
    (hW : WireAns 35 f A c nw lw ih ia ew) (hWR : WireAns 36 f A c nw lw ih ia ew) (hB : BodyAns 37 f A c nb lb eb) (hBR : BodyAns 38 f A c nb lb eb) (hM : MostAns 39 size m me) (hMR : MostAns 40 size m me) :
    Calls Try.prog 12 #[frv f (.slice A f.data.length c), .int .i64 size] w fun e w' => e = .returned (.bool true) ∧ Below w.heap.size w w' := by
  have HW := Lib.hid hW
  have HWR := Lib.hid hWR
  have HBo := Lib.hid hB
  have HBoR := Lib.hid hBR
  have HM := Lib.hid hM
  have HMR := Lib.hid hMR
  have HR := Lib.hid hr
  have HW1 := Lib.hid hw1
  have HB1 := Lib.hid hb1
  clear hW hWR hB hBR hM hMR hr hw1 hb1
  simp only [WireAns, BodyAns, MostAns] at *
  obtain ⟨kind, id, ext, rtr, brs, esi, sec, sdt, vcid, af, data⟩ := f
  dsimp only [frv] at *
  generalize data.length = n at *
  have hn5 : ¬ (5000 : Int) < (n : Int) := by omega
  go_enter Try.func12, Try.ntmps12
  go_wp2_with fail
  refine calls_blk1 (fun W0 q1 hb => ?_)
  have HB := Lib.hid hb
  obtain ⟨a0, a1, a2, a3, a4, a5, a6, a7, a8, a9, a10⟩ := ext11 q1
  have hsz := ext_lt q1
  clear hb q1
  refine (extc_same (alive06 _)).mono ?_
  rintro x _ ⟨e1, rfl, rfl⟩
  go_wp2_with fail
  have HRD := Lib.hid (fun e : Ext W0 => (HR.out.below HB.out).ext e)
  refine (extc (HW.out _ (HRD.out e1))).mono ?_
  rintro x _ ⟨e2, rfl, A2, c2, rfl, hr2⟩
  have HR2 := Lib.hid hr2
  clear hr2
  go_wp2_with fail
  obtain ⟨p, hp⟩ : ∃ p, e2.W.heap.size = p := ⟨_, rfl⟩
  rw [hp]
  refine calls_name (T := fun W1 => W1.heap[p]? = some (.cells #[.slice A2 nw c2, .int .i64 ih, .int .i64 ia] 66) ∧ Rd W1 A2 (bys lw) ∧ Below W0.heap.size W0 W1) ⟨heap_new_at hp.symm, HR2.out.alloc _, below_alloc e2.below _⟩ ?_
  rintro W1 ⟨q2, hr2, hb1⟩
  replace a0 := liftE hb1 a0
  replace a1 := liftE hb1 a1
  replace a2 := liftE hb1 a2
  replace a3 := liftE hb1 a3
  replace a4 := liftE hb1 a4
  replace a5 := liftE hb1 a5
  replace a6 := liftE hb1 a6
  replace a7 := liftE hb1 a7
  replace a8 := liftE hb1 a8
  replace a9 := liftE hb1 a9
  replace a10 := liftE hb1 a10
  have x0 := fun e : Ext W1 => cell_of_heap (heap_below e.below q2) 0 _ rfl
  have x1 : ∀ e : Ext W1, e.W.cell? ⟨p, 1, none⟩ = some (.int .i64 ih) := fun e => cell_of_heap (heap_below e.below q2) 1 _ rfl
  have x2 : ∀ e : Ext W1, e.W.cell? ⟨p, 2, none⟩ = some (.int .i64 ia) := fun e => cell_of_heap (heap_below e.below q2) 2 _ rfl
  have HB1' := Lib.hid hb1
  have HRD1 := Lib.hid (fun e : Ext W1 => ((HR.out.below HB.out).below hb1).ext e)
  have HR21 := Lib.hid hr2
  have hp1 := heap_lt q2
  have hsz1 : ∀ e : Ext W1, w.heap.size < e.W.heap.size := fun e => hsz ⟨e.W, below_trans hb1 e.below⟩
  clear HR2 hp q2 hr2 hb1 hsz
  refine (extc_same (HWR.out _ (HRD1.out ⟨W1, Below.refl _ _⟩))).mono ?_
  rintro x _ ⟨e3, rfl, A3, c3, rfl, hr3⟩
  have HR3 := Lib.hid hr3
  clear hr3
  go_wp2_with fail
  obtain ⟨p2, hp2⟩ : ∃ p2, e3.W.heap.size = p2 := ⟨_, rfl⟩
  have hpp : p < p2 := by rw [← hp2]; exact Nat.lt_of_lt_of_le hp1 e3.below.size
  rw [hp2]
  refine calls_name (T := fun W2 => W2.heap[p2]? = some (.cells #[.slice A3 nw c3, .int .i64 ih, .int .i64 ia] 66) ∧ Rd W2 A3 (bys lw) ∧ Below W1.heap.size W1 W2) ⟨heap_new_at hp2.symm, HR3.out.alloc _, below_alloc e3.below _⟩ ?_
  rintro W2 ⟨q3, hr3, hb2⟩
  replace a0 := liftE hb2 a0
  replace a1 := liftE hb2 a1
  replace a2 := liftE hb2 a2
  replace a3 := liftE hb2 a3
  replace a4 := liftE hb2 a4
  replace a5 := liftE hb2 a5
  replace a6 := liftE hb2 a6
  replace a7 := liftE hb2 a7
  replace a8 := liftE hb2 a8
  replace a9 := liftE hb2 a9
  replace a10 := liftE hb2 a10
  replace x0 := liftE hb2 x0
  replace x1 := liftE hb2 x1
  replace x2 := liftE hb2 x2
  have y0 := fun e : Ext W2 => cell_of_heap (heap_below e.below q3) 0 _ rfl
  have y1 : ∀ e : Ext W2, e.W.cell? ⟨p2, 1, none⟩ = some (.int .i64 ih) := fun e => cell_of_heap (heap_below e.below q3) 1 _ rfl
  have y2 : ∀ e : Ext W2, e.W.cell? ⟨p2, 2, none⟩ = some (.int .i64 ia) := fun e => cell_of_heap (heap_below e.below q3) 2 _ rfl
  have HB2 := Lib.hid hb2
  have HRD2 := Lib.hid (fun e : Ext W2 => (((HR.out.below HB.out).below HB1'.out).below hb2).ext e)
  have HR22 := Lib.hid (fun e : Ext W2 => (HR21.out.below hb2).ext e)
  have HR32 := Lib.hid (fun e : Ext W2 => hr3.ext e)
  clear HR3 hp2 q3 hr3 hb2 HR21 hp1
  refine (extc_same (HBo.out _ (HRD2.out ⟨W2, Below.refl _ _⟩))).mono ?_
  rintro x _ ⟨e4, rfl, A4, c4, rfl, hr4⟩
  have HR4 := Lib.hid hr4
  clear hr4
  go_wp2_with fail
  refine (extcB (HBoR.out _ (HRD2.out e4))).mono ?_
  rintro x _ ⟨e5, rfl, HB5, A5, c5, rfl, hr5⟩
  have HR45 := Lib.hid (HR4.out.below HB5.out)
  have HR5 := Lib.hid hr5
  clear hr5
  go_wp2_with fail
  refine (HM.out _).mono ?_
  rintro x _ ⟨rfl, rfl⟩
  go_wp2_with fail
  refine (HMR.out _).mono ?_
  rintro x _ ⟨rfl, rfl⟩
  go_wp2_with fail
  refine (extcB (SameR_refl e5.W A2 A3 c2 c3 nw lw (HR22.out e5) (HR32.out e5) HW1.out (by omega))).mono ?_
  rintro x _ ⟨e6, rfl, HB6, rfl⟩
  go_wp2_with fail
  refine (extc (SameR_refl e6.W A4 A5 c4 c5 nb lb (HR45.out.below HB6.out) (HR5.out.below HB6.out) HB1.out (by omega))).mono ?_
  rintro x _ ⟨e7, rfl, rfl⟩
  go_wp2_with fail
  go_ret
  exact ⟨by first | rfl | simp, below_trans HB.out (below_trans HB1'.out (below_trans HB2.out e7.below))⟩
set_option maxRecDepth 100000 in
theorem wires_big (f : Fr) (size : Int) (A : Option Addr) (c : Nat) (w : World) (hf : f.data.length ≤ 9223372036854775807) (hd : 5000 < f.data.length) :
    Calls Try.prog 12 #[frv f (.slice A f.data.length c), .int .i64 size] w fun e w' => e = .returned (.bool true) ∧ Below w.heap.size w w' := by
  obtain ⟨kind, id, ext, rtr, brs, esi, sec, sdt, vcid, af, data⟩ := f
  dsimp only [frv] at *
  generalize data.length = n at *
  have hn5 : (5000 : Int) < (n : Int) := by omega
  clear hd
  go_enter Try.func12, Try.ntmps12
  go_wp2_with fail
  refine calls_blk1 (fun W0 q1 hb => ?_)
  have HB := Lib.hid hb
  obtain ⟨a0, a1, a2, a3, a4, a5, a6, a7, a8, a9, a10⟩ := ext11 q1
  clear hb q1
  refine (extc_same (alive06 _)).mono ?_
  rintro x _ ⟨e1, rfl, rfl⟩
  go_wp2_with fail
  go_ret
  exact ⟨rfl, below_trans HB.out e1.below⟩
theorem wires_walk (f : Fr) (size : Int) (A : Option Addr) (c : Nat) (w : World) (hf : f.data.length ≤ 9223372036854775807) (h0 : 0 ≤ f.id) (hr : Rd w A (bys f.data)) (hby : isBytes f.data) :
    Calls Try.prog 12 #[frv f (.slice A f.data.length c), .int .i64 size] w fun e w' => e = .returned (.bool true) ∧ Below w.heap.size w w' := by
  by_cases hd : f.data.length ≤ 5000
  · have hmost : ∃ m me, MostAns 39 size m me ∧ MostAns 40 size m me := by
      by_cases hs : size < 0 ∨ 8 < size
      · exact ⟨0, 2, fun W => Most_no size W hs, fun W => MostR_no size W hs⟩
      · obtain ⟨k, rfl⟩ := Int.eq_ofNat_of_zero_le (by omega : 0 ≤ size)
        exact ⟨_, 0, fun W => Most_ok k W (by omega), fun W => MostR_ok k W (by omega)⟩
    obtain ⟨m, me, hm1, hm2⟩ := hmost
    by_cases hm : f.kind = 1 ∧ okF f = true
    · have hl8 := okF_len1 f hm.1 hm.2
      have hb : (bodyC f).length ≤ 118 := by rw [bodyC_length]; split <;> omega
      have hs := stuffN_le (bodyC f)
      have hwl : (wireC f).length = (stuffN (bodyC f)).length + 10 := by unfold wireC; rw [List.length_append]; simp
      refine wires_main f size A c _ _ (wireC f) (bodyC f) ((stuffN (headL f)).length : Nat) ((stuffN (bodyC f)).length + 1 : Nat) 0 0 m me w hd hr hwl rfl (by omega) (by omega) (fun W hW => (Wire_ok f A c _ _ W hm.1 hm.2 h0 hW hby rfl rfl).mono ?_) (fun W hW => (WireR_ok f A c _ _ W hm.1 hm.2 h0 hW hby rfl rfl).mono ?_)
        (fun W hW => (Body_ok f A c _ W hm.1 hm.2 h0 hW hby rfl).mono ?_) (fun W hW => (BodyR_ok f A c _ W hm.1 hm.2 h0 hW hby rfl).mono ?_) hm1 hm2
      all_goals
        rintro e w' ⟨⟨A', c', he, hrow⟩, hb⟩
        exact ⟨⟨A', c', he, hrow.rd⟩, hb⟩
    · refine wires_main f size A c 0 0 [] [] 0 0 2 2 m me w hd hr rfl rfl (by omega) (by omega) (fun W hW => (Wire_no f A c W hf hm).mono ?_) (fun W hW => (WireR_no f A c W hm).mono ?_)
        (fun W hW => (Body_no f A c W hf hm).mono ?_) (fun W hW => (BodyR_no f A c W hm).mono ?_) hm1 hm2
      all_goals
        rintro e w' ⟨he, hb⟩
        exact ⟨⟨none, 0, he, Rd.nil _ _⟩, hb⟩
  · exact wires_big f size A c w hf (by omega)
end Go.Proofs.Ytbjeblffmgghgaa
