/- No Classic frame has more bits on the wire than Most tells, and fewer ahead of all stuffing: the law ClassicSizes answers true. No condition. -/
import Derived.Test.YtbjeblffmgghgaaLaw06a
namespace Go.Proofs.Ytbjeblffmgghgaa
open Go.RowKit
theorem Most_ok (n : Nat) (w : World) (hn : n ≤ 8) : Calls Try.prog 39 #[.int .i64 n] w fun e w' => e = .returned (.tuple #[.int .i64 ((54 + 8 * n + (54 + 8 * n - 1) / 4 + 10 : Nat) : Int), .int .i64 0]) ∧ w = w' := by
  have h8 : ¬ (8 : Int) < (n : Int) := by omega
  have h0 : ¬ (n : Int) < 0 := by omega
  go_enter Try.func39, Try.ntmps39
  go_wp2
  go_ret2
  exact ⟨ret_fst (by omega), rfl⟩
set_option maxRecDepth 100000 in
set_option maxHeartbeats 2000000 in
theorem sizes_walk (f : Fr) (A : Option Addr) (c : Nat) (w : World) (hf : f.data.length ≤ 9223372036854775807) (h0 : 0 ≤ f.id) (hr : Rd w A (bys f.data)) (hby : isBytes f.data) :
    Calls Try.prog 13 #[frv f (.slice A f.data.length c)] w fun e w' => e = .returned (.bool true) ∧ Below w.heap.size w w' := by
  have HM := Lib.hid (fun W => mine_any f A c W hf)
  by_cases hm : f.kind = 1 ∧ okF f = true
  · obtain ⟨hk, hok⟩ := hm
    have hl8 := okF_len1 f hk hok
    obtain ⟨NR, hNR⟩ : ∃ NR, (stuffN (bodyC f)).length = NR := ⟨_, rfl⟩
    obtain ⟨NH, hNH⟩ : ∃ NH, (stuffN (headL f)).length = NH := ⟨_, rfl⟩
    obtain ⟨NB, hNB⟩ : ∃ NB, (bodyC f).length = NB := ⟨_, rfl⟩
    have hNB1 : NB ≤ 54 + 8 * f.data.length := by rw [← hNB, bodyC_length]; split <;> omega
    have hNB2 : 1 ≤ NB := by rw [← hNB, bodyC_length]; split <;> omega
    have hne : bodyC f ≠ [] := by intro e; rw [e] at hNB; simp at hNB; omega
    have hle := stuffN_len (bodyC f) hne
    rw [hNR, hNB] at hle
    have hge := stuffN_ge (bodyC f)
    rw [hNR, hNB] at hge
    have HW := Lib.hid (fun W (hW : Rd W A (bys f.data)) => Wire_ok f A c NR NH W hk hok h0 hW hby hNR hNH)
    have HBd := Lib.hid (fun W (hW : Rd W A (bys f.data)) => Body_ok f A c NB W hk hok h0 hW hby hNB)
    have HMo := Lib.hid (fun W => Most_ok f.data.length W hl8)
    rw [hok, decide_eq_true hk] at HM
    have HR := Lib.hid hr
    generalize wireC f = wi at *
    generalize bodyC f = bo at *
    obtain ⟨kind, id, ext, rtr, brs, esi, sec, sdt, vcid, af, data⟩ := f
    dsimp only [frv] at *
    generalize data.length = n at *
    clear hr hNR hNH hNB hok hk hne h0 hby
    have hfin : (((NR + 10 : Nat) : Int) ≤ ((54 + 8 * n + (54 + 8 * n - 1) / 4 + 10 : Nat) : Int)) := by omega
    have hfin2 : ((NB : Int) < ((NR + 10 : Nat) : Int)) := by omega
    obtain ⟨mo, hmo⟩ : ∃ mo, 54 + 8 * n + (54 + 8 * n - 1) / 4 + 10 = mo := ⟨_, rfl⟩
    rw [hmo] at hfin HMo
    obtain ⟨nw, hnw⟩ : ∃ nw, NR + 10 = nw := ⟨_, rfl⟩
    rw [hnw] at hfin hfin2 HW
    clear hle hge hmo hnw hNB1 hNB2
    go_enter Try.func13, Try.ntmps13
    go_wp2_with fail
    refine calls_blk1 (fun W0 q1 hb => ?_)
    have HB := Lib.hid hb
    obtain ⟨a0, a1, a2, a3, a4, a5, a6, a7, a8, a9, a10⟩ := ext11 q1
    have hsz := ext_lt q1
    clear hb q1
    refine (extc_same (alive06 _)).mono ?_
    rintro x _ ⟨e1, rfl, rfl⟩
    go_wp2_with fail
    refine (extc (HM.out _)).mono ?_
    rintro x _ ⟨e2, rfl, rfl⟩
    go_wp2_with fail
    refine (extc (HW.out _ ((HR.out.below HB.out).ext e2))).mono ?_
    rintro x _ ⟨e3, rfl, A3, c3, rfl, -⟩
    go_wp2_with fail
    obtain ⟨gb, hgb⟩ : ∃ gb, e3.W.heap.size = gb := ⟨_, rfl⟩
    have hbox : (e3.W.alloc (.cells #[.slice A3 nw c3, .int .i64 NH, .int .i64 (NR + 1 : Nat)] 66)).heap[gb]? = some (.cells #[.slice A3 nw c3, .int .i64 NH, .int .i64 (NR + 1 : Nat)] 66) := heap_new_at hgb.symm
    have hbel : Below W0.heap.size W0 (e3.W.alloc (.cells #[.slice A3 nw c3, .int .i64 NH, .int .i64 (NR + 1 : Nat)] 66)) := below_alloc e3.below _
    have HBOX := Lib.hid hbox
    have HBEL := Lib.hid hbel
    clear hbox hbel
    refine (HBd.out _ ((HR.out.below HB.out).below HBEL.out)).mono ?_
    rintro x w4 ⟨⟨A4, c4, rfl, -⟩, hb4⟩
    have b0 := cell_of_heap (heap_below hb4 HBOX.out) 0 _ rfl
    have hb5 : Below W0.heap.size W0 w4 := below_trans HBEL.out hb4
    have d10 := a10 ⟨w4, hb5⟩
    have HB5 := Lib.hid hb5
    dsimp only at d10
    rw [hgb]
    clear hb4 hb5 a0 a1 a2 a3 a4 a5 a6 a7 a8 a9 a10
    go_wp2_with fail
    refine (HMo.out _).mono ?_
    rintro x _ ⟨rfl, rfl⟩
    go_wp2_with fail
    go_ret
    exact ⟨by first | rfl | simp, below_trans HB.out HB5.out⟩
  · have hd : (decide (f.kind = 1) && okF f) = false := by
      cases h : okF f with
      | false => simp
      | true => simp; exact fun hk => hm ⟨hk, h⟩
    rw [hd] at HM
    obtain ⟨kind, id, ext, rtr, brs, esi, sec, sdt, vcid, af, data⟩ := f
    dsimp only [frv] at *
    generalize data.length = n at *
    clear hm hd
    go_enter Try.func13, Try.ntmps13
    go_wp2_with fail
    refine calls_blk1 (fun W0 q1 hb => ?_)
    have HB := Lib.hid hb
    obtain ⟨a0, a1, a2, a3, a4, a5, a6, a7, a8, a9, a10⟩ := ext11 q1
    clear hb q1
    refine (extc_same (alive06 _)).mono ?_
    rintro x _ ⟨e1, rfl, rfl⟩
    go_wp2_with fail
    refine (extc (HM.out _)).mono ?_
    rintro x _ ⟨e2, rfl, rfl⟩
    go_wp2_with fail
    go_ret
    exact ⟨rfl, ext_end HB.out⟩
end Go.Proofs.Ytbjeblffmgghgaa
