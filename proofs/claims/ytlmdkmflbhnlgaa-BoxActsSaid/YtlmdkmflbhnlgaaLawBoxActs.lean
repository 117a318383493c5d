/- The law BoxActs: through any acts what each answers, and what is counted, is the document's. No condition. -/
import Derived.Test.YtlmdkmflbhnlgaaDo17c
import Derived.Test.YtlmdkmflbhnlgaaAlive17
namespace Go.Proofs.Ytlmdkmflbhnlgaa
open Go.RowKit
theorem do_any (w0 w : World) (base N : Nat) (ft : List Nat) (b M : Nat) (fr : List Nat) (mb : Nat) (RA : Option Addr) (rc : Nat) (T : BX) (a : Ac) (h : Both w0 w base N ft b T M fr mb RA rc T) (hg : GoodT T) (hN : N ≤ 100000) (hM : M ≤ 100000) (hlo : w0.heap.size ≤ base) (hbase : base ≤ w.heap.size) (hs : SFIn w0 a.s)
    (hru : RdRu w0 RA T.rules) (hbk : bankOk T.rules = true) (hwf : ∀ r ∈ T.rules, RuWf r) (hrl : T.rules.length ≤ 9223372036854775807) :
    Calls Try.prog 26 #[.pointer (some ⟨b, 0, none⟩), .pointer (some ⟨mb, 0, none⟩), acV a] w (DoOf w0 base N b M mb RA rc (applyT T a)) := by
  obtain ⟨kind, no, ⟨f, A, c⟩⟩ := a
  unfold applyT
  dsimp only at *
  by_cases k1 : kind = 1
  · subst k1; rw [if_pos rfl]; exact do1_any w0 w base N ft b M fr mb RA rc T no f A c h hg hN hlo hbase
  rw [if_neg k1]
  by_cases k2 : kind = 2
  · subst k2; rw [if_pos rfl]; exact do2_any w0 w base N ft b M fr mb RA rc T no f A c h hg hN hlo hbase
  rw [if_neg k2]
  by_cases k3 : kind = 3
  · subst k3; rw [if_pos rfl]; exact do3_any w0 w base N ft b M fr mb RA rc T no f A c h hg hN hlo hbase
  rw [if_neg k3]
  by_cases k4 : kind = 4
  · subst k4; rw [if_pos rfl]; exact do4_any w0 w base N ft b M fr mb RA rc T no f A c h hg hN hM hlo hbase hs hru hbk hwf hrl
  rw [if_neg k4]
  by_cases k5 : kind = 5
  · subst k5; rw [if_pos rfl]; exact do5_any w0 w base N ft b M fr mb RA rc T no f A c h hg hN hlo hbase
  rw [if_neg k5]
  exact do0_any w0 w base N ft b M fr mb RA rc T kind k1 k2 k3 k4 k5 no f A c h hg hN hlo hbase hs
set_option maxRecDepth 100000 in
set_option maxHeartbeats 16000000 in
theorem boxActs_walk (w : World) (out inn : Int) (A B : Option Addr) (n c m d : Nat) (els xl : Bool) (rs : List Ru) (acs : List Ac) (hr : RdRu w A rs) (hn : rs.length = n) (hb : n * 32 ≤ 140737488351232) (hwf : ∀ r ∈ rs, RuWf r)
    (hg : RdAc w B acs) (hm : acs.length = m) (hgi : ∀ a ∈ acs, SFIn w a.s) (hm2 : m ≤ 9223372036854775807) :
    Calls Try.prog 6 #[confV out inn A n c els xl, .slice B m d] w fun e w' => e = .returned (.bool true) ∧ Below w.heap.size w w' := by
  have HT := Lib.hid (fun W hW => To17_any W out inn A n c els xl rs hW hn hb)
  have HGR := Lib.hid (fun W hW => great_any W out inn A B n c m d els xl acs hW hm hm2)
  have HRN := Lib.hid (fun W hW hno => RNew17_no W out inn n c A els xl rs hW hn (by omega) hno)
  have HR := Lib.hid hr
  have HN := Lib.hid hn
  have HWF := Lib.hid hwf
  have HG := Lib.hid hg
  have HM := Lib.hid hm
  have HGI := Lib.hid hgi
  obtain ⟨bk, hbk⟩ : ∃ bk, decide ((0 ≤ out ∧ out ≤ 64) ∧ (0 ≤ inn ∧ inn ≤ 64) ∧ bankOk rs = true) = bk := ⟨_, rfl⟩
  have HBK := Lib.hid hbk
  dsimp only [confV] at *
  clear hr hn hwf hg hm hgi hbk
  go_enter Try.func6, Try.ntmps6
  go_wp2_with fail
  refine calls_blk1 fun W1 q1 hb1 => ?_
  refine (alive_any W1).mono ?_
  rintro e w2 ⟨rfl, hb2⟩
  have q2 := heap_below hb2 q1
  have c0 := cell_of_heap q2 0 (.int .i64 out) rfl
  have c1 := cell_of_heap q2 1 (.int .i64 inn) rfl
  have c2 := cell_of_heap q2 2 (.slice A n c) rfl
  have c3 := cell_of_heap q2 3 (.bool els) rfl
  have c4 := cell_of_heap q2 4 (.bool xl) rfl
  have HB2 := Lib.hid (below_trans hb1 hb2)
  have Q2 := Lib.hid q2
  clear q1 hb1 hb2 q2
  go_wp2_with fail
  refine (HGR.out w2 (HG.out.below HB2.out)).mono ?_
  rintro e w3 ⟨⟨g, rfl, hg⟩, hb3⟩
  have q3 := heap_below hb3 Q2.out
  have HB3 := Lib.hid (below_trans HB2.out hb3)
  have HGT := Lib.hid hg
  clear hb3 hg c0 c1 c2 c3 c4
  cases g
  rotate_left
  · clear q3
    go_wp2_with fail
    go_ret
    exact ⟨by first | rfl | simp, HB3.out⟩
  have hm200 : m ≤ 200 := HGT.out rfl
  have c0 := cell_of_heap q3 0 (.int .i64 out) rfl
  have c1 := cell_of_heap q3 1 (.int .i64 inn) rfl
  have c2 := cell_of_heap q3 2 (.slice A n c) rfl
  have c3 := cell_of_heap q3 3 (.bool els) rfl
  have c4 := cell_of_heap q3 4 (.bool xl) rfl
  have Q3 := Lib.hid q3
  clear q3
  go_wp2_with fail
  refine (HT.out w3 (HR.out.below HB3.out)).mono ?_
  rintro e w4 ⟨⟨A4, d4, rfl, hrow4⟩, hb4⟩
  have HROW4 := Lib.hid hrow4
  have HB4 := Lib.hid (below_trans HB3.out hb4)
  have Q4 := Lib.hid (heap_below hb4 Q3.out)
  have HC4 := Lib.hid hrow4.cap
  clear hrow4 hb4 c0 c1 c2 c3 c4
  simp only [confV]
  go_wp2_with fail
  cases bk
  · refine (New_no w4 out inn rs.length d4 A4 els xl rs HROW4.out.rd rfl (by have := HC4.out; omega) (by have := of_decide_eq_false HBK.out; by_cases h1 : out < 0 ∨ 64 < out; exact .inl h1; by_cases h2 : inn < 0 ∨ 64 < inn; exact .inr (.inl h2); refine .inr (.inr ?_); cases hb2 : bankOk rs; rfl; exact absurd ⟨⟨by omega, by omega⟩, ⟨by omega, by omega⟩, hb2⟩ this)).mono ?_
    rintro e w5 ⟨rfl, hb5⟩
    have HB5 := Lib.hid (below_trans HB4.out hb5)
    have Q5 := Lib.hid (heap_below hb5 Q4.out)
    have c0 := cell_of_heap Q5.out 0 (.int .i64 out) rfl
    have c1 := cell_of_heap Q5.out 1 (.int .i64 inn) rfl
    have c2 := cell_of_heap Q5.out 2 (.slice A n c) rfl
    have c3 := cell_of_heap Q5.out 3 (.bool els) rfl
    have c4 := cell_of_heap Q5.out 4 (.bool xl) rfl
    clear hb5
    go_wp2_with fail
    refine (HRN.out w5 (HR.out.below HB5.out) (by have := of_decide_eq_false HBK.out; by_cases h1 : out < 0 ∨ 64 < out; exact .inl h1; by_cases h2 : inn < 0 ∨ 64 < inn; exact .inr (.inl h2); refine .inr (.inr ?_); cases hb2 : bankOk rs; rfl; exact absurd ⟨⟨by omega, by omega⟩, ⟨by omega, by omega⟩, hb2⟩ this)).mono ?_
    rintro e w6 ⟨rfl, hb6⟩
    have HB6 := Lib.hid (below_trans HB5.out hb6)
    clear hb6 c0 c1 c2 c3 c4
    go_wp2_with fail
    go_ret
    exact ⟨by first | rfl | simp, HB6.out⟩
  · obtain ⟨⟨o0, o1⟩, ⟨j0, j1⟩, hbk⟩ := of_decide_eq_true HBK.out
    obtain ⟨out, rfl⟩ := Int.eq_ofNat_of_zero_le o0
    obtain ⟨inn, rfl⟩ := Int.eq_ofNat_of_zero_le j0
    have ho : out ≤ 64 := by omega
    have hi : inn ≤ 64 := by omega
    refine (New_any w4 (w.heap.size + 1) out inn rs.length d4 A4 els xl rs HROW4.out.rd rfl (by have := HC4.out; omega) (fun e => ?_) HWF.out ho hi hbk (by have := heap_lt Q4.out; omega)).mono ?_
    · rcases HROW4.out with ⟨_, h, _⟩ | ⟨g, cur, h, _⟩
      · exact h
      · rw [e] at h; cases h
    rintro e w5 ⟨⟨b, ft, rfl, hA5, hft5⟩, hb5⟩
    have hft5' := hft5
    have q5 := heap_below hb5 Q4.out
    have c0 := cell_of_heap q5 0 (.int .i64 out) rfl
    have c1 := cell_of_heap q5 1 (.int .i64 inn) rfl
    have c2 := cell_of_heap q5 2 (.slice A n c) rfl
    have c3 := cell_of_heap q5 3 (.bool els) rfl
    have c4 := cell_of_heap q5 4 (.bool xl) rfl
    have HB5 := Lib.hid (below_trans HB4.out hb5)
    have HA5 := Lib.hid hA5
    have hbs5 : w.heap.size + 1 ≤ w5.heap.size := heap_lt q5
    clear hA5 hft5 hft5' hb5 q5 o0 o1 j0 j1
    go_wp2_with fail
    have hRN := RNew17_any w5 (w.heap.size + 1) out inn n c A els xl rs (HR.out.below HB5.out) HN.out (by omega) ho hi hbk hbs5
    refine hRN.mono ?_
    rintro e w6 ⟨⟨mb, fr, rfl, hM6, hfr6⟩, hb6⟩
    have HI6 : Hid (Both w w6 (w.heap.size + 1) 0 ft b (newX rs els xl out inn) 0 fr mb A c (newX rs els xl out inn)) :=
      ⟨HA5.out.below hb6, hM6, fun k hk hm => by have h1 := hfr6 k hk; have h2 := HA5.out.foot.2.2.1 k hm; omega, below_trans HB5.out hb6⟩
    have HG6 := Lib.hid (GoodT.new rs els xl out inn ho hi)
    have HBKR := Lib.hid hbk
    have hbs6 : w.heap.size + 1 ≤ w6.heap.size := Nat.le_trans hbs5 hb6.size
    clear hRN hM6 hfr6 hb6 hbk c0 c1 c2 c3 c4 HA5
    go_wp2_with fail
    go_loopw [43] (fun v wr => ∃ (k : Nat) (ft fr : List Nat) (T : BX), k ≤ m ∧ v = .int .i64 k ∧ w.heap.size + 1 ≤ wr.heap.size ∧ Hid (Both w wr (w.heap.size + 1) k ft b T k fr mb A c T) ∧ Hid (GoodT T) ∧ Hid (T.rules = rs)) (fun v _ => m - (intOf v).toNat)
    case atStart => exact ⟨0, ft, fr, newX rs els xl out inn, by omega, rfl, hbs6, HI6, HG6, rfl⟩
    case round =>
      obtain ⟨k, ft, fr, T, hk, rfl, hbsr, HI, HGT2, HRU⟩ := hrel
      clear HI6 HG6
      by_cases hkm : k < m
      · have hkl : k < acs.length := by rw [HM.out]; exact hkm
        obtain ⟨ad, rfl, a0, a1, a2, a3, a4, a5, a6, a7, a8, a9, a10, a11, a12⟩ := (HG.out.below HI.out.below).at_ k hkl (k * 13) rfl
        have hmem : acs[k]'hkl ∈ acs := List.getElem_mem hkl
        obtain ⟨a, ha⟩ : ∃ a, acs[k]'hkl = a := ⟨_, rfl⟩
        rw [ha] at a0 a1 a2 a3 a4 a5 a6 a7 a8 a9 a10 a11 a12 hmem
        have HS := Lib.hid (HGI.out a hmem)
        clear ha hmem
        go_wp2_with fail
        refine calls_blk1 fun W6 q6 hb6 => ?_
        have hsz6 : w.heap.size + 1 ≤ W6.heap.size := Nat.le_trans hbsr hb6.size
        have hdo := do_any w W6 (w.heap.size + 1) k ft b k fr mb A c T a (HI.out.step hb6) HGT2.out (by omega) (by omega) (by omega) hsz6 HS.out (by rw [HRU.out]; exact HR.out) (by rw [HRU.out]; exact HBKR.out) (by rw [HRU.out]; exact HWF.out) (by rw [HRU.out, HN.out]; omega)
        refine hdo.mono ?_
        rintro e w7 ⟨rfl, ft7, fr7, h7⟩
        have HG7 := Lib.hid (HGT2.out.apply a HS.out.wf.id0)
        have HRU7 : Hid ((applyT T a).rules = rs) := (applyT_conf T a).1.trans HRU.out
        generalize applyT T a = T7 at h7 HG7 HRU7
        have HI7 := Lib.hid h7
        clear hdo q6 hb6 h7 a0 a1 a2 a3 a4 a5 a6 a7 a8 a9 a10 a11 a12
        go_wp2_with fail
        refine (Report_any w7 (w.heap.size + 1) (k + 1) ft7 b T7 HI7.out.a).mono ?_
        rintro e w8 ⟨rfl, hb8⟩
        have HI8 := Lib.hid (HI7.out.step hb8)
        clear hb8
        have hrep : (repL T7).toArray = #[.int .i64 T7.q.length, .int .i64 T7.l.length, .int .i64 T7.put, .int .i64 T7.sent, .int .i64 T7.gone, .int .i64 T7.came, .int .i64 T7.kept, .int .i64 T7.refused, .int .i64 T7.over, .int .i64 T7.taken] := rfl
        have HRB := Lib.hid (RBReport_any w8 (w.heap.size + 1) mb c (k + 1) A fr7 T7 HI8.out.m)
        rw [hrep] at HRB ⊢
        clear hrep
        go_wp2_with fail
        refine HRB.out.mono ?_
        rintro e w9 ⟨rfl, hb9⟩
        have HI9 := Lib.hid (HI8.out.step hb9)
        have hbs9 : w.heap.size + 1 ≤ w9.heap.size := by have h1 := HI9.out.a.foot.2.1 _ HI9.out.a.foot.2.2.2; have h2 := HI9.out.a.foot.2.2.1 _ HI9.out.a.foot.2.2.2; omega
        clear hb9
        go_wp2_with fail
        go_roundw
        case rel => exact ⟨k + 1, ft7, fr7, T7, by omega, by go_num, hbs9, HI9, HG7, HRU7⟩
        case measure => simp [intOf]; omega
      · obtain rfl : k = m := by omega
        go_wp2_with fail
        go_ret
        exact ⟨by first | rfl | simp, HI.out.below⟩
end Go.Proofs.Ytlmdkmflbhnlgaa
