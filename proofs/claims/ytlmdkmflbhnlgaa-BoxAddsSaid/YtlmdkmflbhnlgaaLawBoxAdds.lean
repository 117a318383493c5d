/- The law BoxAdds: what was put waits, is sent, or gone; what came is kept, refused, or over. No condition. -/
import Derived.Test.YtlmdkmflbhnlgaaPBoxInv
import Derived.Test.YtlmdkmflbhnlgaaTo17
import Derived.Test.YtlmdkmflbhnlgaaAlive17
namespace Go.Proofs.Ytlmdkmflbhnlgaa
open Go.RowKit
/-- The loop's state. -/
structure AI (w wr : World) (cf : Array Value) (out inn : Nat) (ft : List Nat) (b N : Nat) (T : BX) : Prop where
  conf : wr.heap[w.heap.size]? = some (.cells cf 26 (0, 0))
  box : BoxA wr (w.heap.size + 1) N ft b T
  inv : InvB T
  oroom : T.oroom = out
  iroom : T.iroom = inn
  below : Below w.heap.size w wr
theorem AI.step {w wr wr' : World} {cf : Array Value} {out inn b N : Nat} {ft : List Nat} {T : BX} (h : AI w wr cf out inn ft b N T) (hb : Below wr.heap.size wr wr') : AI w wr' cf out inn ft b N T :=
  ⟨heap_below hb h.conf, h.box.below hb, h.inv, h.oroom, h.iroom, below_trans h.below hb⟩
theorem AI.act {w wr wr' : World} {cf : Array Value} {out inn b N : Nat} {ft : List Nat} {T : BX} (h : AI w wr cf out inn ft b N T) (a : Ac) (ha : Acted wr (w.heap.size + 1) (N + 1) ft b (applyT T a) wr') : ∃ ft', AI w wr' cf out inn ft' b (N + 1) (applyT T a) := by
  obtain ⟨ft', hA, hf, ht⟩ := ha
  obtain ⟨f1, f2, f3, f4⟩ := h.box.foot
  obtain ⟨c1, c2, c3, c4, c5⟩ := applyT_conf T a
  exact ⟨ft', ht.heap h.conf (fun hm => by have := f2 _ hm; omega), hA, h.inv.apply a, c4.trans h.oroom, c5.trans h.iroom, h.below.trans (ht.below (fun k hk => by have := f2 k hk; omega) h.below.size)⟩
theorem AI.bnd {w wr : World} {cf : Array Value} {out inn b N : Nat} {ft : List Nat} {T : BX} (h : AI w wr cf out inn ft b N T) : T.put ≤ N ∧ T.came ≤ N ∧ T.kept ≤ N := by
  obtain ⟨qb, fb, RA, rc, QA, cap, ql, fl, first, fov, -, hB, -⟩ := h.box
  unfold BndB at hB
  omega
set_option maxRecDepth 100000 in
set_option maxHeartbeats 16000000 in
theorem boxAdds_walk (w : World) (out inn : Int) (A B : Option Addr) (n c m d : Nat) (els xl : Bool) (rs : List Ru) (acs : List Ac) (hr : RdRu w A rs) (hn : rs.length = n) (hb : n * 32 ≤ 140737488351232) (hwf : ∀ r ∈ rs, RuWf r)
    (hg : RdAc w B acs) (hm : acs.length = m) (hgi : ∀ a ∈ acs, SFIn w a.s) (hm2 : m ≤ 9223372036854775807) :
    Calls Try.prog 7 #[confV out inn A n c els xl, .slice B m d] w fun e w' => e = .returned (.bool true) ∧ Below w.heap.size w w' := by
  have HT := Lib.hid (fun W hW => To17_any W out inn A n c els xl rs hW hn hb)
  have HGR := Lib.hid (fun W hW => great_any W out inn A B n c m d els xl acs hW hm hm2)
  have HR := Lib.hid hr
  have HN := Lib.hid hn
  have HWF := Lib.hid hwf
  have HG := Lib.hid hg
  have HM := Lib.hid hm
  have HGI := Lib.hid hgi
  obtain ⟨bk, hbk⟩ : ∃ bk, decide ((0 ≤ out ∧ out ≤ 64) ∧ (0 ≤ inn ∧ inn ≤ 64) ∧ bankOk rs = true) = bk := ⟨_, rfl⟩
  have HBK := Lib.hid hbk
  dsimp only [confV] at *
  clear hr hn hwf hg hm hgi hbk
  go_enter Try.func7, Try.ntmps7
  go_wp2_with fail
  refine calls_blk1 fun W1 q1 hb1 => ?_
  refine (alive_any W1).mono ?_
  rintro e w2 ⟨rfl, hb2⟩
  have q2 := heap_below hb2 q1
  have c0 := cell_of_heap q2 0 (.int .i64 out) rfl
  have c1 := cell_of_heap q2 1 (.int .i64 inn) rfl
  have c2 := cell_of_heap q2 2 (.slice A n c) rfl
  have c3 := cell_of_heap q2 3 (.bool els) rfl
  have c4 := cell_of_heap q2 4 (.bool xl) rfl
  have HB2 := Lib.hid (below_trans hb1 hb2)
  have Q2 := Lib.hid q2
  clear q1 hb1 hb2 q2
  go_wp2_with fail
  refine (HGR.out w2 (HG.out.below HB2.out)).mono ?_
  rintro e w3 ⟨⟨g, rfl, hg⟩, hb3⟩
  have q3 := heap_below hb3 Q2.out
  have HB3 := Lib.hid (below_trans HB2.out hb3)
  have HGT := Lib.hid hg
  clear hb3 hg c0 c1 c2 c3 c4
  cases g
  rotate_left
  · clear q3
    go_wp2_with fail
    go_ret
    exact ⟨by first | rfl | simp, HB3.out⟩
  have hm200 : m ≤ 200 := HGT.out rfl
  have c0 := cell_of_heap q3 0 (.int .i64 out) rfl
  have c1 := cell_of_heap q3 1 (.int .i64 inn) rfl
  have c2 := cell_of_heap q3 2 (.slice A n c) rfl
  have c3 := cell_of_heap q3 3 (.bool els) rfl
  have c4 := cell_of_heap q3 4 (.bool xl) rfl
  have Q3 := Lib.hid q3
  clear q3
  go_wp2_with fail
  refine (HT.out w3 (HR.out.below HB3.out)).mono ?_
  rintro e w4 ⟨⟨A4, d4, rfl, hrow4⟩, hb4⟩
  have HROW4 := Lib.hid hrow4
  have HB4 := Lib.hid (below_trans HB3.out hb4)
  have Q4 := Lib.hid (heap_below hb4 Q3.out)
  have HC4 := Lib.hid hrow4.cap
  clear hrow4 hb4 c0 c1 c2 c3 c4
  simp only [confV]
  go_wp2_with fail
  cases bk
  · refine (New_no w4 out inn rs.length d4 A4 els xl rs HROW4.out.rd rfl (by have := HC4.out; omega) (by have := of_decide_eq_false HBK.out; by_cases h1 : out < 0 ∨ 64 < out; exact .inl h1; by_cases h2 : inn < 0 ∨ 64 < inn; exact .inr (.inl h2); refine .inr (.inr ?_); cases hb2 : bankOk rs; rfl; exact absurd ⟨⟨by omega, by omega⟩, ⟨by omega, by omega⟩, hb2⟩ this)).mono ?_
    rintro e w5 ⟨rfl, hb5⟩
    have HB5 := Lib.hid (below_trans HB4.out hb5)
    clear hb5
    go_wp2_with fail
    go_ret
    exact ⟨by first | rfl | simp, HB5.out⟩
  · obtain ⟨⟨o0, o1⟩, ⟨j0, j1⟩, hbk⟩ := of_decide_eq_true HBK.out
    obtain ⟨out, rfl⟩ := Int.eq_ofNat_of_zero_le o0
    obtain ⟨inn, rfl⟩ := Int.eq_ofNat_of_zero_le j0
    have ho : out ≤ 64 := by omega
    have hi : inn ≤ 64 := by omega
    refine (New_any w4 (w.heap.size + 1) out inn rs.length d4 A4 els xl rs HROW4.out.rd rfl (by have := HC4.out; omega) (fun e => ?_) HWF.out ho hi hbk (by have := heap_lt Q4.out; omega)).mono ?_
    · rcases HROW4.out with ⟨_, h, _⟩ | ⟨g, cur, h, _⟩
      · exact h
      · rw [e] at h; cases h
    rintro e w5 ⟨⟨b, ft, rfl, hA5, hft5⟩, hb5⟩
    have HI5 : Hid (AI w w5 #[.int .i64 out, .int .i64 inn, .slice A n c, .bool els, .bool xl] out inn ft b 0 (newX rs els xl out inn)) :=
      ⟨heap_below hb5 Q4.out, hA5, InvB.new _ _ _ _ _, rfl, rfl, below_trans HB4.out hb5⟩
    clear hA5 hft5 hb5 o0 o1 j0 j1 hbk
    go_wp2_with fail
    go_loopw [27] (fun v wr => ∃ (k : Nat) (ft : List Nat) (T : BX), k ≤ m ∧ v = .int .i64 k ∧ Hid (AI w wr #[.int .i64 out, .int .i64 inn, .slice A n c, .bool els, .bool xl] out inn ft b k T)) (fun v _ => m - (intOf v).toNat)
    case atStart => exact ⟨0, ft, newX rs els xl out inn, by omega, rfl, HI5⟩
    case round =>
      obtain ⟨k, ft, T, hk, rfl, HI⟩ := hrel
      clear HI5
      by_cases hkm : k < m
      · have hkl : k < acs.length := by rw [HM.out]; exact hkm
        obtain ⟨ad, rfl, a0, a1, a2, a3, a4, a5, a6, a7, a8, a9, a10, a11, a12⟩ := (HG.out.below HI.out.below).at_ k hkl (k * 13) rfl
        have hmem : acs[k]'hkl ∈ acs := List.getElem_mem hkl
        obtain ⟨a, ha⟩ : ∃ a, acs[k]'hkl = a := ⟨_, rfl⟩
        rw [ha] at a0 a1 a2 a3 a4 a5 a6 a7 a8 a9 a10 a11 a12 hmem
        have HS := Lib.hid (HGI.out a hmem)
        clear ha hmem
        go_wp2_with fail
        refine calls_blk1 fun W6 q6 hb6 => ?_
        have hI6 := HI.out.step hb6
        refine (apply_any W6 (w.heap.size + 1) k ft b T a w hI6.box (by omega) (by have := heap_lt hI6.conf; omega) HS.out hI6.below (by omega)).mono ?_
        rintro e w7 ⟨rfl, hact⟩
        obtain ⟨ft7, hI7⟩ := hI6.act a hact
        generalize applyT T a = T7 at hI7
        have HI7 := Lib.hid hI7
        clear hI6 hact q6 hb6 hI7 a0 a1 a2 a3 a4 a5 a6 a7 a8 a9 a10 a11 a12
        go_wp2_with fail
        refine (Report_any w7 (w.heap.size + 1) (k + 1) ft7 b T7 HI7.out.box).mono ?_
        rintro e w8 ⟨rfl, hb8⟩
        have hI8 := HI7.out.step hb8
        have HI8 := Lib.hid hI8
        obtain ⟨i1, i2, i3, i4, i5, -, -⟩ := hI8.inv
        have hbn := hI8.bnd
        have hor := hI8.oroom
        have hir := hI8.iroom
        rw [hor] at i4
        rw [hir] at i5
        have c0 := fun o => cell_of_heap (heap_push (o' := o) hI8.conf) 0 (.int .i64 out) rfl
        have c1 := fun o => cell_of_heap (heap_push (o' := o) hI8.conf) 1 (.int .i64 inn) rfl
        simp only [repL]
        rw [i2, i3, i1]
        rw [i2, i3, i1] at hbn
        obtain ⟨hn1, hn2, hn3⟩ := hbn
        clear i1 i2 i3 hor hir hI8 hb8 HI7
        obtain ⟨nq, hnq⟩ : ∃ nq, T7.q.length = nq := ⟨_, rfl⟩
        obtain ⟨nl, hnl⟩ : ∃ nl, T7.l.length = nl := ⟨_, rfl⟩
        obtain ⟨xs, hxs⟩ : ∃ xs, T7.sent = xs := ⟨_, rfl⟩
        obtain ⟨xg, hxg⟩ : ∃ xg, T7.gone = xg := ⟨_, rfl⟩
        obtain ⟨xr, hxr⟩ : ∃ xr, T7.refused = xr := ⟨_, rfl⟩
        obtain ⟨xo, hxo⟩ : ∃ xo, T7.over = xo := ⟨_, rfl⟩
        obtain ⟨xt, hxt⟩ : ∃ xt, T7.taken = xt := ⟨_, rfl⟩
        rw [hnq, hnl, hxs, hxg, hxr, hxo, hxt]
        rw [hnq, hxs, hxg] at hn1
        rw [hnl, hxt, hxr, hxo] at hn2
        rw [hnl, hxt] at hn3
        rw [hnq] at i4
        rw [hnl] at i5
        clear hnq hnl hxs hxg hxr hxo hxt
        have ho1 : ¬ (out : Int) < (nq : Int) := by omega
        have hi1 : ¬ (inn : Int) < (nl : Int) := by omega
        go_wp2_with fail
        go_roundw
        case rel => exact ⟨k + 1, ft7, T7, by omega, by go_num, HI8.out.step (below_alloc (Below.refl _ _) _)⟩
        case measure => simp [intOf]; omega
      · obtain rfl : k = m := by omega
        go_wp2_with fail
        go_ret
        exact ⟨by first | rfl | simp, HI.out.below⟩
end Go.Proofs.Ytlmdkmflbhnlgaa
