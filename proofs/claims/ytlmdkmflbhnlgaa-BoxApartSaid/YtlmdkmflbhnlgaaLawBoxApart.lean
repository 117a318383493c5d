/- The law BoxApart: acts of the one kind change nothing of the other. No condition. -/
import Derived.Test.YtlmdkmflbhnlgaaPBoxApart
import Derived.Test.YtlmdkmflbhnlgaaSame05
import Derived.Test.YtlmdkmflbhnlgaaTo17
import Derived.Test.YtlmdkmflbhnlgaaAlive17
namespace Go.Proofs.Ytlmdkmflbhnlgaa
open Go.RowKit
abbrev repO (a b c d e f g h i j : Nat) : Obj := .cells #[.int .i64 a, .int .i64 b, .int .i64 c, .int .i64 d, .int .i64 e, .int .i64 f, .int .i64 g, .int .i64 h, .int .i64 i, .int .i64 j] 53
theorem st_step {w : World} {g : Nat} {cs : Array Value} {t : TypeId} {fr : Nat × Nat} (h : w.heap[g]? = some (.cells cs t fr)) (i : Nat) (v : Value) : ∃ W, W = w.setCell ⟨g, i, none⟩ v ∧ W.heap[g]? = some (.cells (cs.setIfInBounds i v) t fr) ∧ Turn [g] w W :=
  ⟨_, rfl, heap_setCell h i v, (Turn.refl _ _).setCell (.inl (by simp)) _⟩
theorem three_blocks (w : World) (o1 o2 o3 : Obj) : ∃ W, W = ((w.alloc o1).alloc o2).alloc o3 ∧ W.heap[w.heap.size]? = some o1 ∧ W.heap[w.heap.size + 1]? = some o2 ∧ W.heap[w.heap.size + 1 + 1]? = some o3 ∧ Below w.heap.size w W := by
  have s1 : (w.alloc o1).heap.size = w.heap.size + 1 := Array.size_push _
  have s2 : ((w.alloc o1).alloc o2).heap.size = w.heap.size + 1 + 1 := (Array.size_push _).trans (congrArg (· + 1) s1)
  exact ⟨_, rfl, heap_push (heap_push (heap_new_at rfl)), heap_push (heap_new_at s1.symm), heap_new_at s2.symm, below_alloc (below_alloc (below_alloc (Below.refl _ _) _) _) _⟩
set_option maxRecDepth 100000 in
set_option maxHeartbeats 16000000 in
theorem boxApart_walk (w : World) (out inn : Int) (A B : Option Addr) (n c m d : Nat) (els xl : Bool) (rs : List Ru) (acs : List Ac) (hr : RdRu w A rs) (hn : rs.length = n) (hb : n * 32 ≤ 140737488351232) (hwf : ∀ r ∈ rs, RuWf r)
    (hg : RdAc w B acs) (hm : acs.length = m) (hgi : ∀ a ∈ acs, SFIn w a.s) (hm2 : m ≤ 9223372036854775807) :
    Calls Try.prog 8 #[confV out inn A n c els xl, .slice B m d] w fun e w' => e = .returned (.bool true) ∧ Below w.heap.size w w' := by
  have HT := Lib.hid (fun W hW => To17_any W out inn A n c els xl rs hW hn hb)
  have HGR := Lib.hid (fun W hW => great_any W out inn A B n c m d els xl acs hW hm hm2)
  have HR := Lib.hid hr
  have HN := Lib.hid hn
  have HWF := Lib.hid hwf
  have HG := Lib.hid hg
  have HM := Lib.hid hm
  have HGI := Lib.hid hgi
  obtain ⟨bk, hbk⟩ : ∃ bk, decide ((0 ≤ out ∧ out ≤ 64) ∧ (0 ≤ inn ∧ inn ≤ 64) ∧ bankOk rs = true) = bk := ⟨_, rfl⟩
  have HBK := Lib.hid hbk
  dsimp only [confV] at *
  clear hr hn hwf hg hm hgi hbk
  go_enter Try.func8, Try.ntmps8
  go_wp2_with fail
  refine calls_blk1 fun W1 q1 hb1 => ?_
  refine (alive_any W1).mono ?_
  rintro e w2 ⟨rfl, hb2⟩
  have q2 := heap_below hb2 q1
  have c0 := cell_of_heap q2 0 (.int .i64 out) rfl
  have c1 := cell_of_heap q2 1 (.int .i64 inn) rfl
  have c2 := cell_of_heap q2 2 (.slice A n c) rfl
  have c3 := cell_of_heap q2 3 (.bool els) rfl
  have c4 := cell_of_heap q2 4 (.bool xl) rfl
  have HB2 := Lib.hid (below_trans hb1 hb2)
  have Q2 := Lib.hid q2
  clear q1 hb1 hb2 q2
  go_wp2_with fail
  refine (HGR.out w2 (HG.out.below HB2.out)).mono ?_
  rintro e w3 ⟨⟨g, rfl, hg⟩, hb3⟩
  have q3 := heap_below hb3 Q2.out
  have HB3 := Lib.hid (below_trans HB2.out hb3)
  have HGT := Lib.hid hg
  clear hb3 hg c0 c1 c2 c3 c4
  cases g
  rotate_left
  · clear q3
    go_wp2_with fail
    go_ret
    exact ⟨by first | rfl | simp, HB3.out⟩
  have hm200 : m ≤ 200 := HGT.out rfl
  have c0 := cell_of_heap q3 0 (.int .i64 out) rfl
  have c1 := cell_of_heap q3 1 (.int .i64 inn) rfl
  have c2 := cell_of_heap q3 2 (.slice A n c) rfl
  have c3 := cell_of_heap q3 3 (.bool els) rfl
  have c4 := cell_of_heap q3 4 (.bool xl) rfl
  have Q3 := Lib.hid q3
  clear q3
  go_wp2_with fail
  refine (HT.out w3 (HR.out.below HB3.out)).mono ?_
  rintro e w4 ⟨⟨A4, d4, rfl, hrow4⟩, hb4⟩
  have HROW4 := Lib.hid hrow4
  have HB4 := Lib.hid (below_trans HB3.out hb4)
  have Q4 := Lib.hid (heap_below hb4 Q3.out)
  have HC4 := Lib.hid hrow4.cap
  clear hrow4 hb4 c0 c1 c2 c3 c4
  simp only [confV]
  go_wp2_with fail
  cases bk
  · have HNO : Hid (((out < 0 ∨ 64 < out)) ∨ (inn < 0 ∨ 64 < inn) ∨ bankOk rs = false) := by
      show _ ∨ _
      have := of_decide_eq_false HBK.out; by_cases h1 : out < 0 ∨ 64 < out; exact .inl h1; by_cases h2 : inn < 0 ∨ 64 < inn; exact .inr (.inl h2); refine .inr (.inr ?_); cases hb2 : bankOk rs; rfl; exact absurd ⟨⟨by omega, by omega⟩, ⟨by omega, by omega⟩, hb2⟩ this
    refine (New_no w4 out inn rs.length d4 A4 els xl rs HROW4.out.rd rfl (by have := HC4.out; omega) HNO.out).mono ?_
    rintro e w5 ⟨rfl, hb5⟩
    have q5 := heap_below hb5 Q4.out
    have c0 := cell_of_heap q5 0 (.int .i64 out) rfl
    have c1 := cell_of_heap q5 1 (.int .i64 inn) rfl
    have c2 := cell_of_heap q5 2 (.slice A n c) rfl
    have c3 := cell_of_heap q5 3 (.bool els) rfl
    have c4 := cell_of_heap q5 4 (.bool xl) rfl
    have HB5 := Lib.hid (below_trans HB4.out hb5)
    have Q5 := Lib.hid q5
    clear hb5 q5
    go_wp2_with fail
    refine (HT.out w5 (HR.out.below HB5.out)).mono ?_
    rintro e w7 ⟨⟨A7, d7, rfl, hrow7⟩, hb7⟩
    have HROW7 := Lib.hid hrow7
    have HB7 := Lib.hid (below_trans HB5.out hb7)
    have Q7 := Lib.hid (heap_below hb7 Q5.out)
    have HC7 := Lib.hid hrow7.cap
    clear hrow7 hb7 c0 c1 c2 c3 c4
    simp only [confV]
    go_wp2_with fail
    refine (New_no w7 out inn rs.length d7 A7 els xl rs HROW7.out.rd rfl (by have := HC7.out; omega) HNO.out).mono ?_
    rintro e w8 ⟨rfl, hb8⟩
    have q8 := heap_below hb8 Q7.out
    have c0 := cell_of_heap q8 0 (.int .i64 out) rfl
    have c1 := cell_of_heap q8 1 (.int .i64 inn) rfl
    have c2 := cell_of_heap q8 2 (.slice A n c) rfl
    have c3 := cell_of_heap q8 3 (.bool els) rfl
    have c4 := cell_of_heap q8 4 (.bool xl) rfl
    have HB8 := Lib.hid (below_trans HB7.out hb8)
    clear hb8 q8
    go_wp2_with fail
    refine (HT.out w8 (HR.out.below HB8.out)).mono ?_
    rintro e w9 ⟨⟨A9, d9, rfl, hrow9⟩, hb9⟩
    have HROW9 := Lib.hid hrow9
    have HB9 := Lib.hid (below_trans HB8.out hb9)
    have HC9 := Lib.hid hrow9.cap
    clear hrow9 hb9 c0 c1 c2 c3 c4
    simp only [confV]
    go_wp2_with fail
    refine (New_no w9 out inn rs.length d9 A9 els xl rs HROW9.out.rd rfl (by have := HC9.out; omega) HNO.out).mono ?_
    rintro e w10 ⟨rfl, hb10⟩
    have HB10 := Lib.hid (below_trans HB9.out hb10)
    clear hb10
    go_wp2_with fail
    go_ret
    exact ⟨by first | rfl | simp, HB10.out⟩
  · obtain ⟨⟨o0, o1⟩, ⟨j0, j1⟩, hbk⟩ := of_decide_eq_true HBK.out
    obtain ⟨out, rfl⟩ := Int.eq_ofNat_of_zero_le o0
    obtain ⟨inn, rfl⟩ := Int.eq_ofNat_of_zero_le j0
    have ho : out ≤ 64 := by omega
    have hi : inn ≤ 64 := by omega
    have HBK2 := Lib.hid hbk
    clear o0 o1 j0 j1 hbk
    refine (New_any w4 (w.heap.size + 1) out inn rs.length d4 A4 els xl rs HROW4.out.rd rfl (by have := HC4.out; omega) (fun e => ?_) HWF.out ho hi HBK2.out (by have := heap_lt Q4.out; omega)).mono ?_
    · rcases HROW4.out with ⟨_, h, _⟩ | ⟨g, cur, h, _⟩
      · exact h
      · rw [e] at h; cases h
    rintro e w5 ⟨⟨x, fm, rfl, hA5, hft5⟩, hb5⟩
    have q5 := heap_below hb5 Q4.out
    have c0 := cell_of_heap q5 0 (.int .i64 out) rfl
    have c1 := cell_of_heap q5 1 (.int .i64 inn) rfl
    have c2 := cell_of_heap q5 2 (.slice A n c) rfl
    have c3 := cell_of_heap q5 3 (.bool els) rfl
    have c4 := cell_of_heap q5 4 (.bool xl) rfl
    have HA5 := Lib.hid hA5
    have HB5 := Lib.hid (below_trans HB4.out hb5)
    have Q5 := Lib.hid q5
    clear hA5 hb5 q5 hft5
    go_wp2_with fail
    refine (HT.out w5 (HR.out.below HB5.out)).mono ?_
    rintro e w7 ⟨⟨A7, d7, rfl, hrow7⟩, hb7⟩
    have HROW7 := Lib.hid hrow7
    have HB7 := Lib.hid (below_trans HB5.out hb7)
    have HC7 := Lib.hid hrow7.cap
    have Q7 := Lib.hid (heap_below hb7 Q5.out)
    have HA7 := Lib.hid (HA5.out.below hb7)
    clear hrow7 hb7 c0 c1 c2 c3 c4
    simp only [confV]
    go_wp2_with fail
    refine (New_any w7 (w.heap.size + 1) out inn rs.length d7 A7 els xl rs HROW7.out.rd rfl (by have := HC7.out; omega) (fun e => ?_) HWF.out ho hi HBK2.out (by have := heap_lt Q7.out; omega)).mono ?_
    · rcases HROW7.out with ⟨_, h, _⟩ | ⟨g, cur, h, _⟩
      · exact h
      · rw [e] at h; cases h
    rintro e w8 ⟨⟨y, fo, rfl, hA8, hft8⟩, hb8⟩
    have q8 := heap_below hb8 Q7.out
    have c0 := cell_of_heap q8 0 (.int .i64 out) rfl
    have c1 := cell_of_heap q8 1 (.int .i64 inn) rfl
    have c2 := cell_of_heap q8 2 (.slice A n c) rfl
    have c3 := cell_of_heap q8 3 (.bool els) rfl
    have c4 := cell_of_heap q8 4 (.bool xl) rfl
    have HMO : Hid (∀ k ∈ fm, k ∉ fo) := fun k hk hm => by have h1 := hft8 k hm; have h2 := HA7.out.foot.2.2.1 k hk; omega
    have HA8 := Lib.hid (HA7.out.below hb8)
    have HO8 := Lib.hid hA8
    have HB8 := Lib.hid (below_trans HB7.out hb8)
    have Q8 := Lib.hid q8
    clear hA8 hb8 q8 hft8
    go_wp2_with fail
    refine (HT.out w8 (HR.out.below HB8.out)).mono ?_
    rintro e w9 ⟨⟨A9, d9, rfl, hrow9⟩, hb9⟩
    have HROW9 := Lib.hid hrow9
    have HB9 := Lib.hid (below_trans HB8.out hb9)
    have HC9 := Lib.hid hrow9.cap
    have Q9 := Lib.hid (heap_below hb9 Q8.out)
    have HA9 := Lib.hid (HA8.out.below hb9)
    have HO9 := Lib.hid (HO8.out.below hb9)
    clear hrow9 hb9 c0 c1 c2 c3 c4
    simp only [confV]
    go_wp2_with fail
    refine (New_any w9 (w.heap.size + 1) out inn rs.length d9 A9 els xl rs HROW9.out.rd rfl (by have := HC9.out; omega) (fun e => ?_) HWF.out ho hi HBK2.out (by have := heap_lt Q9.out; omega)).mono ?_
    · rcases HROW9.out with ⟨_, h, _⟩ | ⟨g, cur, h, _⟩
      · exact h
      · rw [e] at h; cases h
    rintro e w10 ⟨⟨z, fi, rfl, hA10, hft10⟩, hb10⟩
    have HI10 : Hid (ThreeI w w10 #[.int .i64 out, .int .i64 inn, .slice A n c, .bool els, .bool xl] fm fo fi x y z (2 * 0) (newX rs els xl out inn) (newX rs els xl out inn) (newX rs els xl out inn)) :=
      ⟨heap_below hb10 Q9.out, HA9.out.below hb10, HO9.out.below hb10, hA10, HMO.out, fun k hk hm => by have h1 := hft10 k hm; have h2 := HA9.out.foot.2.2.1 k hk; omega, fun k hk hm => by have h1 := hft10 k hm; have h2 := HO9.out.foot.2.2.1 k hk; omega, below_trans HB9.out hb10⟩
    clear hA10 hft10 hb10
    go_wp2_with fail
    go_loopw [63] (fun v wr => ∃ (k : Nat) (fm fo fi : List Nat) (Tm To Ti : BX), k ≤ m ∧ v = .int .i64 k ∧ Hid (Tm = joinX To Ti ∧ CfX To Ti) ∧ Hid (ThreeI w wr #[.int .i64 out, .int .i64 inn, .slice A n c, .bool els, .bool xl] fm fo fi x y z (2 * k) Tm To Ti)) (fun v _ => m - (intOf v).toNat)
    case atStart => exact ⟨0, fm, fo, fi, newX rs els xl out inn, newX rs els xl out inn, newX rs els xl out inn, by omega, rfl, ⟨rfl, rfl, rfl, rfl⟩, HI10⟩
    case round =>
      obtain ⟨k, fm, fo, fi, Tm, To, Ti, hk, rfl, HX, HI⟩ := hrel
      clear HI10
      by_cases hkm : k < m
      · have hkl : k < acs.length := by rw [HM.out]; exact hkm
        obtain ⟨ad, rfl, a0, a1, a2, a3, a4, a5, a6, a7, a8, a9, a10, a11, a12⟩ := (HG.out.below HI.out.below).at_ k hkl (k * 13) rfl
        have hmem : acs[k]'hkl ∈ acs := List.getElem_mem hkl
        obtain ⟨a, ha⟩ : ∃ a, acs[k]'hkl = a := ⟨_, rfl⟩
        rw [ha] at a0 a1 a2 a3 a4 a5 a6 a7 a8 a9 a10 a11 a12 hmem
        have HS := Lib.hid (HGI.out a hmem)
        clear ha hmem
        go_wp2_with fail
        refine calls_blk1 fun W6 q6 hb6 => ?_
        have hI6 := HI.out.step hb6
        refine (apply_any W6 (w.heap.size + 1) (2 * k) fm x Tm a w hI6.m (by omega) (by have := heap_lt hI6.conf; omega) HS.out hI6.below (by omega)).mono ?_
        rintro e w7 ⟨rfl, hact⟩
        have hq7 : w7.heap[wr.heap.size]? = some (.cells #[.int .i64 a.kind, .int .i64 a.no, .int .i64 a.s.f.kind, .int .u32 a.s.f.id, .bool a.s.f.ext, .bool a.s.f.rtr, .bool a.s.f.brs, .bool a.s.f.esi, .bool a.s.f.sec, .int .u8 a.s.f.sdt, .int .u8 a.s.f.vcid, .int .u32 a.s.f.af, .slice a.s.A a.s.f.data.length a.s.c] 73 (0, 0)) := by
          obtain ⟨ft', -, -, ht⟩ := hact
          exact ht.heap q6 (fun hm => by have := HI.out.m.foot.2.2.1 _ hm; omega)
        obtain ⟨fm7, hI7⟩ := hI6.act hact
        obtain ⟨y0, y1, y2, y3, y4, y5, y6, y7, y8, y9, y10, y11, y12⟩ := cells13 hq7
        have HI7 := Lib.hid hI7
        clear hI6 hact q6 hb6 hI7 hq7 a0 a1 a2 a3 a4 a5 a6 a7 a8 a9 a10 a11 a12
        by_cases h4 : a.kind = 4 ∨ a.kind = 5
        · have h45 : a.kind = 4 ∨ (¬ a.kind = 4 ∧ a.kind = 5) := by omega
          have hj := join_in HX.out.2 a h4
          rw [← HX.out.1] at hj
          have HJ := Lib.hid hj
          clear hj h4
          rcases h45 with h4 | ⟨h4, h5⟩
          · have e4 : (a.kind == 4) = true := by simp [h4]
            clear h4
            go_wp2_with fail
            refine (apply_any w7 (w.heap.size + 1) (2 * k + 1) fi z Ti a w HI7.out.i (by omega) (by have := heap_lt HI7.out.conf; omega) HS.out HI7.out.below (by omega)).mono ?_
            rintro e w8 ⟨rfl, hact⟩
            obtain ⟨fi8, hI8⟩ := HI7.out.actI hact
            have HI8 := Lib.hid hI8
            clear hI8 hact y0 y1 y2 y3 y4 y5 y6 y7 y8 y9 y10 y11 y12
            go_wp2_with fail
            go_roundw
            case rel => exact ⟨k + 1, fm7, fo, fi8, _, To, _, by omega, by go_num, ⟨HJ.out, HX.out.2.in_ a⟩, HI8.out.mono (by omega)⟩
            case measure => simp [intOf]; omega
          · have e4 : (a.kind == 4) = false := by simp [h4]
            have e5 : (a.kind == 5) = true := by simp [h5]
            clear h4 h5
            go_wp2_with fail
            refine (apply_any w7 (w.heap.size + 1) (2 * k + 1) fi z Ti a w HI7.out.i (by omega) (by have := heap_lt HI7.out.conf; omega) HS.out HI7.out.below (by omega)).mono ?_
            rintro e w8 ⟨rfl, hact⟩
            obtain ⟨fi8, hI8⟩ := HI7.out.actI hact
            have HI8 := Lib.hid hI8
            clear hI8 hact y0 y1 y2 y3 y4 y5 y6 y7 y8 y9 y10 y11 y12
            go_wp2_with fail
            go_roundw
            case rel => exact ⟨k + 1, fm7, fo, fi8, _, To, _, by omega, by go_num, ⟨HJ.out, HX.out.2.in_ a⟩, HI8.out.mono (by omega)⟩
            case measure => simp [intOf]; omega
        · have hj := join_out (To := To) (Ti := Ti) a h4
          rw [← HX.out.1] at hj
          have HJ := Lib.hid hj
          have h5 : ¬ a.kind = 5 := fun h => h4 (.inr h)
          have h6 : ¬ a.kind = 4 := fun h => h4 (.inl h)
          have e4 : (a.kind == 4) = false := by simp [h6]
          have e5 : (a.kind == 5) = false := by simp [h5]
          clear hj h4 h5 h6
          go_wp2_with fail
          refine (apply_any w7 (w.heap.size + 1) (2 * k + 1) fo y To a w HI7.out.o (by omega) (by have := heap_lt HI7.out.conf; omega) HS.out HI7.out.below (by omega)).mono ?_
          rintro e w8 ⟨rfl, hact⟩
          obtain ⟨fo8, hI8⟩ := HI7.out.actO hact
          have HI8 := Lib.hid hI8
          clear hI8 hact y0 y1 y2 y3 y4 y5 y6 y7 y8 y9 y10 y11 y12
          go_wp2_with fail
          go_roundw
          case rel => exact ⟨k + 1, fm7, fo8, fi, _, _, Ti, by omega, by go_num, ⟨HJ.out, HX.out.2.out a⟩, HI8.out.mono (by omega)⟩
          case measure => simp [intOf]; omega
      · obtain rfl : k = m := by omega
        go_wp2_with fail
        refine (Report_any wr (w.heap.size + 1) (2 * k) fm x Tm HI.out.m).mono ?_
        rintro e w2 ⟨rfl, hb2⟩
        have HI2 := Lib.hid (HI.out.step hb2)
        clear hb2
        go_wp2_with fail
        refine (Report_any w2 (w.heap.size + 1) (2 * k) fo y To HI2.out.o).mono ?_
        rintro e w3 ⟨rfl, hb3⟩
        have HI3 := Lib.hid (HI2.out.step hb3)
        clear hb3
        go_wp2_with fail
        refine (Report_any w3 (w.heap.size + 1) (2 * k) fi z Ti HI3.out.i).mono ?_
        rintro e w4 ⟨rfl, hb4⟩
        have HI4 := Lib.hid (HI3.out.step hb4)
        clear hb4
        rw [HX.out.1]
        simp only [repL, joinX]
        go_wp2_with fail
        obtain ⟨W8, hW8, q13, q14, q15, hb8⟩ := three_blocks w4 (repO To.q.length Ti.l.length To.put To.sent To.gone Ti.came Ti.kept Ti.refused Ti.over Ti.taken) (repO To.q.length To.l.length To.put To.sent To.gone To.came To.kept To.refused To.over To.taken) (repO Ti.q.length Ti.l.length Ti.put Ti.sent Ti.gone Ti.came Ti.kept Ti.refused Ti.over Ti.taken)
        rw [← hW8]
        clear hW8
        have HI8 := Lib.hid (HI4.out.step hb8)
        have x1 : ∀ e : ExtT [w4.heap.size + 1] W8, e.W.cell? ⟨w4.heap.size + 1 + 1, 1, none⟩ = some (.int .i64 Ti.l.length) := fun e => extT_cell (cell_of_heap q15 1 _ rfl) (by simp) e
        have x5 : ∀ e : ExtT [w4.heap.size + 1] W8, e.W.cell? ⟨w4.heap.size + 1 + 1, 5, none⟩ = some (.int .i64 Ti.came) := fun e => extT_cell (cell_of_heap q15 5 _ rfl) (by simp) e
        have x6 : ∀ e : ExtT [w4.heap.size + 1] W8, e.W.cell? ⟨w4.heap.size + 1 + 1, 6, none⟩ = some (.int .i64 Ti.kept) := fun e => extT_cell (cell_of_heap q15 6 _ rfl) (by simp) e
        have x7 : ∀ e : ExtT [w4.heap.size + 1] W8, e.W.cell? ⟨w4.heap.size + 1 + 1, 7, none⟩ = some (.int .i64 Ti.refused) := fun e => extT_cell (cell_of_heap q15 7 _ rfl) (by simp) e
        have x8 : ∀ e : ExtT [w4.heap.size + 1] W8, e.W.cell? ⟨w4.heap.size + 1 + 1, 8, none⟩ = some (.int .i64 Ti.over) := fun e => extT_cell (cell_of_heap q15 8 _ rfl) (by simp) e
        have x9 : ∀ e : ExtT [w4.heap.size + 1] W8, e.W.cell? ⟨w4.heap.size + 1 + 1, 9, none⟩ = some (.int .i64 Ti.taken) := fun e => extT_cell (cell_of_heap q15 9 _ rfl) (by simp) e
        have qd : W8.drew.heap[w4.heap.size + 1]? = some (repO To.q.length To.l.length To.put To.sent To.gone To.came To.kept To.refused To.over To.taken) := q14
        have zd : ∀ o, W8.drew.frozen? ⟨w4.heap.size + 1, o, none⟩ = false := fun o => by simp [World.frozen?, qd]
        have y1 : W8.drew.cell? ⟨w4.heap.size + 1, 1, none⟩ = some (.int .i64 To.l.length) := cell_of_heap qd 1 _ rfl
        have v1 : W8.cell? ⟨w4.heap.size + 1, 1, none⟩ = some (.int .i64 To.l.length) := cell_of_heap q14 1 _ rfl
        have zq : ∀ o, W8.frozen? ⟨w4.heap.size + 1, o, none⟩ = false := fun o => by simp [World.frozen?, q14]
        have HQ0 := Lib.hid q14
        have HT0 : Hid (Turn [w4.heap.size + 1] W8 W8) := Turn.refl _ _
        have Q13 := Lib.hid q13
        have QD := Lib.hid qd
        clear q13 q14 q15 hb8 qd
        refine wp_region_mix (fun w' => ∃ e : ExtT [w4.heap.size + 1] W8, w' = e.W) [(true, 0), (true, 1), (true, 2), (true, 3), (true, 4), (true, 5), (true, 6), (true, 7), (true, 8), (true, 9), (true, 10), (true, 11), (true, 12), (false, 13), (true, 14), (false, 15), (true, 16), (false, 17), (true, 18), (false, 19), (true, 20), (false, 21), (true, 22), (false, 23)] [] (by kernel_rfl) (by kernel_rfl) (by intro _ _ d _ _ h; cases d <;> exact h) ⟨⟨W8.drew, (Turn.refl _ _).drew⟩, rfl⟩ ?_
        simp only [pickM, pickL, List.drop_succ_cons, List.drop_zero]
        repeat (refine mix_pure (by rfl) (by rfl) ?_; intro K hK; go_big_quiet_op; go_big_quiet_on)
        refine mix_eff (by rfl) ?_
        intro K hK
        go_simp
        refine hK _ _ ⟨⟨_, (HT0.out.tr ((Turn.refl _ _).setCell (.inl (by simp)) _)).drew⟩, rfl⟩ ?_
        clear hK K
        obtain ⟨V1, hV, qV, tV⟩ := st_step HQ0.out 1 (.int .i64 Ti.l.length)
        rw [← hV]
        have HQ1 : Hid (V1.heap[w4.heap.size + 1]? = some (repO To.q.length Ti.l.length To.put To.sent To.gone To.came To.kept To.refused To.over To.taken)) := qV
        have HT1 := Lib.hid (HT0.out.tr tV)
        clear hV qV tV zq v1 zd y1
        have z1 : ∀ o, V1.frozen? ⟨w4.heap.size + 1, o, none⟩ = false := fun o => by simp [World.frozen?, show V1.heap[w4.heap.size + 1]? = _ from HQ1.out]
        have c1 : V1.cell? ⟨w4.heap.size + 1, 5, none⟩ = some (.int .i64 To.came) := cell_of_heap HQ1.out 5 _ rfl
        have d1 : ∀ o, V1.drew.frozen? ⟨w4.heap.size + 1, o, none⟩ = false := z1
        have e1 : V1.drew.cell? ⟨w4.heap.size + 1, 5, none⟩ = some (.int .i64 To.came) := c1
        repeat (refine mix_pure (by rfl) (by rfl) ?_; intro K hK; go_big_quiet_op; go_big_quiet_on)
        refine mix_eff (by rfl) ?_
        intro K hK
        go_simp
        refine hK _ _ ⟨⟨_, (HT1.out.tr ((Turn.refl _ _).setCell (.inl (by simp)) _)).drew⟩, rfl⟩ ?_
        clear hK K
        obtain ⟨V2, hV, qV, tV⟩ := st_step HQ1.out 5 (.int .i64 Ti.came)
        rw [← hV]
        have HQ2 : Hid (V2.heap[w4.heap.size + 1]? = some (repO To.q.length Ti.l.length To.put To.sent To.gone Ti.came To.kept To.refused To.over To.taken)) := qV
        have HT2 := Lib.hid (HT1.out.tr tV)
        clear hV qV tV z1 c1 d1 e1
        have z2 : ∀ o, V2.frozen? ⟨w4.heap.size + 1, o, none⟩ = false := fun o => by simp [World.frozen?, show V2.heap[w4.heap.size + 1]? = _ from HQ2.out]
        have c2 : V2.cell? ⟨w4.heap.size + 1, 6, none⟩ = some (.int .i64 To.kept) := cell_of_heap HQ2.out 6 _ rfl
        have d2 : ∀ o, V2.drew.frozen? ⟨w4.heap.size + 1, o, none⟩ = false := z2
        have e2 : V2.drew.cell? ⟨w4.heap.size + 1, 6, none⟩ = some (.int .i64 To.kept) := c2
        repeat (refine mix_pure (by rfl) (by rfl) ?_; intro K hK; go_big_quiet_op; go_big_quiet_on)
        refine mix_eff (by rfl) ?_
        intro K hK
        go_simp
        refine hK _ _ ⟨⟨_, (HT2.out.tr ((Turn.refl _ _).setCell (.inl (by simp)) _)).drew⟩, rfl⟩ ?_
        clear hK K
        obtain ⟨V3, hV, qV, tV⟩ := st_step HQ2.out 6 (.int .i64 Ti.kept)
        rw [← hV]
        have HQ3 : Hid (V3.heap[w4.heap.size + 1]? = some (repO To.q.length Ti.l.length To.put To.sent To.gone Ti.came Ti.kept To.refused To.over To.taken)) := qV
        have HT3 := Lib.hid (HT2.out.tr tV)
        clear hV qV tV z2 c2 d2 e2
        have z3 : ∀ o, V3.frozen? ⟨w4.heap.size + 1, o, none⟩ = false := fun o => by simp [World.frozen?, show V3.heap[w4.heap.size + 1]? = _ from HQ3.out]
        have c3 : V3.cell? ⟨w4.heap.size + 1, 7, none⟩ = some (.int .i64 To.refused) := cell_of_heap HQ3.out 7 _ rfl
        have d3 : ∀ o, V3.drew.frozen? ⟨w4.heap.size + 1, o, none⟩ = false := z3
        have e3 : V3.drew.cell? ⟨w4.heap.size + 1, 7, none⟩ = some (.int .i64 To.refused) := c3
        repeat (refine mix_pure (by rfl) (by rfl) ?_; intro K hK; go_big_quiet_op; go_big_quiet_on)
        refine mix_eff (by rfl) ?_
        intro K hK
        go_simp
        refine hK _ _ ⟨⟨_, (HT3.out.tr ((Turn.refl _ _).setCell (.inl (by simp)) _)).drew⟩, rfl⟩ ?_
        clear hK K
        obtain ⟨V4, hV, qV, tV⟩ := st_step HQ3.out 7 (.int .i64 Ti.refused)
        rw [← hV]
        have HQ4 : Hid (V4.heap[w4.heap.size + 1]? = some (repO To.q.length Ti.l.length To.put To.sent To.gone Ti.came Ti.kept Ti.refused To.over To.taken)) := qV
        have HT4 := Lib.hid (HT3.out.tr tV)
        clear hV qV tV z3 c3 d3 e3
        have z4 : ∀ o, V4.frozen? ⟨w4.heap.size + 1, o, none⟩ = false := fun o => by simp [World.frozen?, show V4.heap[w4.heap.size + 1]? = _ from HQ4.out]
        have c4 : V4.cell? ⟨w4.heap.size + 1, 8, none⟩ = some (.int .i64 To.over) := cell_of_heap HQ4.out 8 _ rfl
        have d4 : ∀ o, V4.drew.frozen? ⟨w4.heap.size + 1, o, none⟩ = false := z4
        have e4 : V4.drew.cell? ⟨w4.heap.size + 1, 8, none⟩ = some (.int .i64 To.over) := c4
        repeat (refine mix_pure (by rfl) (by rfl) ?_; intro K hK; go_big_quiet_op; go_big_quiet_on)
        refine mix_eff (by rfl) ?_
        intro K hK
        go_simp
        refine hK _ _ ⟨⟨_, (HT4.out.tr ((Turn.refl _ _).setCell (.inl (by simp)) _)).drew⟩, rfl⟩ ?_
        clear hK K
        obtain ⟨V5, hV, qV, tV⟩ := st_step HQ4.out 8 (.int .i64 Ti.over)
        rw [← hV]
        have HQ5 : Hid (V5.heap[w4.heap.size + 1]? = some (repO To.q.length Ti.l.length To.put To.sent To.gone Ti.came Ti.kept Ti.refused Ti.over To.taken)) := qV
        have HT5 := Lib.hid (HT4.out.tr tV)
        clear hV qV tV z4 c4 d4 e4
        have z5 : ∀ o, V5.frozen? ⟨w4.heap.size + 1, o, none⟩ = false := fun o => by simp [World.frozen?, show V5.heap[w4.heap.size + 1]? = _ from HQ5.out]
        have c5 : V5.cell? ⟨w4.heap.size + 1, 9, none⟩ = some (.int .i64 To.taken) := cell_of_heap HQ5.out 9 _ rfl
        have d5 : ∀ o, V5.drew.frozen? ⟨w4.heap.size + 1, o, none⟩ = false := z5
        have e5 : V5.drew.cell? ⟨w4.heap.size + 1, 9, none⟩ = some (.int .i64 To.taken) := c5
        repeat (refine mix_pure (by rfl) (by rfl) ?_; intro K hK; go_big_quiet_op; go_big_quiet_on)
        refine mix_eff (by rfl) ?_
        intro K hK
        go_simp
        refine hK _ _ ⟨⟨_, (HT5.out.tr ((Turn.refl _ _).setCell (.inl (by simp)) _)).drew⟩, rfl⟩ ?_
        clear hK K
        obtain ⟨V6, hV, qV, tV⟩ := st_step HQ5.out 9 (.int .i64 Ti.taken)
        rw [← hV]
        have HQ6 : Hid (V6.heap[w4.heap.size + 1]? = some (repO To.q.length Ti.l.length To.put To.sent To.gone Ti.came Ti.kept Ti.refused Ti.over Ti.taken)) := qV
        have HT6 := Lib.hid (HT5.out.tr tV)
        clear hV qV tV z5 c5 d5 e5
        refine mix_nil (wpList_nil ?_)
        obtain ⟨W9, hW9, q14, t9⟩ : ∃ W9, W9 = V6.drew ∧ W9.heap[w4.heap.size + 1]? = some (repO To.q.length Ti.l.length To.put To.sent To.gone Ti.came Ti.kept Ti.refused Ti.over Ti.taken) ∧ Turn [w4.heap.size + 1] W8 W9 := ⟨_, rfl, HQ6.out, HT6.out.drew⟩
        rw [← hW9]
        have hf9 : Foot [w4.heap.size + 1] W8 := fun j hj => by
          rw [List.mem_singleton.1 hj]; exact ⟨_, _, _, QD.out, by decide, by decide⟩
        have hI8 := HI8.out
        have lm := HI4.out.m.foot.2.2.1
        have lo := HI4.out.o.foot.2.2.1
        have li := HI4.out.i.foot.2.2.1
        have lc := heap_lt HI4.out.conf
        have HI9 : Hid (ThreeI w W9 #[.int .i64 out, .int .i64 inn, .slice A n c, .bool els, .bool xl] fm fo fi x y z (2 * k) Tm To Ti) :=
          ⟨t9.heap hI8.conf (by simp; omega), hI8.m.turn t9 hf9 (fun k hk => by have := lm k hk; simp; omega), hI8.o.turn t9 hf9 (fun k hk => by have := lo k hk; simp; omega), hI8.i.turn t9 hf9 (fun k hk => by have := li k hk; simp; omega), hI8.mo, hI8.mi, hI8.oi, hI8.below.trans (t9.below (fun k hk => by simp at hk; omega) hI8.below.size)⟩
        have HQ13 := Lib.hid (t9.heap Q13.out (by simp))
        have HQ14 := Lib.hid q14
        have HM9 := Lib.hid (show BoxA W9 (w.heap.size + 1) (2 * k) fm x (joinX To Ti) from by rw [← HX.out.1]; exact HI9.out.m)
        have HS14 := Lib.hid (fun no f A B c d W ha hb hl => Same14_any no f A B c d W ha hb hl)
        dsimp only [itL] at HS14
        clear hW9 q14 t9 hf9 hI8 lm lo li lc x1 x5 x6 x7 x8 x9
        go_wp2_with fail
        refine (Next_any W9 (w.heap.size + 1) (2 * k) fm x (joinX To Ti) HM9.out).mono ?_
        rintro e w10 ⟨he, hb10⟩
        have HB10 := Lib.hid hb10
        clear hb10
        rcases he with ⟨h0, rfl⟩ | ⟨it, r, A', c', hq, rfl, hrow, hok, hfr⟩
        · have H0 := Lib.hid (show To.q = [] from h0)
          clear h0
          go_wp2_with fail
          refine calls_blk1 fun W11 q11 hb11 => ?_
          have hb911 := below_trans HB10.out hb11
          refine (Next_any W11 (w.heap.size + 1) (2 * k) fo y To (HI9.out.step hb911).o).mono ?_
          rintro e w12 ⟨he, hb12⟩
          have hb912 := below_trans hb911 hb12
          have HB12 := Lib.hid (below_trans HI9.out.below hb912)
          have b13 := fun o => cells10 (heap_push (o' := o) (heap_below hb912 HQ13.out))
          have b14 := fun o => cells10 (heap_push (o' := o) (heap_below hb912 HQ14.out))
          have b16 := fun o => cells12 (heap_push (o' := o) (heap_below hb12 q11))
          have f0 := fun o => (b13 o).1
          have f1 := fun o => (b13 o).2.1
          have f2 := fun o => (b13 o).2.2.1
          have f3 := fun o => (b13 o).2.2.2.1
          have f4 := fun o => (b13 o).2.2.2.2.1
          have f5 := fun o => (b13 o).2.2.2.2.2.1
          have f6 := fun o => (b13 o).2.2.2.2.2.2.1
          have f7 := fun o => (b13 o).2.2.2.2.2.2.2.1
          have f8 := fun o => (b13 o).2.2.2.2.2.2.2.2.1
          have f9 := fun o => (b13 o).2.2.2.2.2.2.2.2.2
          have g0 := fun o => (b14 o).1
          have g1 := fun o => (b14 o).2.1
          have g2 := fun o => (b14 o).2.2.1
          have g3 := fun o => (b14 o).2.2.2.1
          have g4 := fun o => (b14 o).2.2.2.2.1
          have g5 := fun o => (b14 o).2.2.2.2.2.1
          have g6 := fun o => (b14 o).2.2.2.2.2.2.1
          have g7 := fun o => (b14 o).2.2.2.2.2.2.2.1
          have g8 := fun o => (b14 o).2.2.2.2.2.2.2.2.1
          have g9 := fun o => (b14 o).2.2.2.2.2.2.2.2.2
          have h0 := fun o => (b16 o).1
          have h1 := fun o => (b16 o).2.1
          have h2 := fun o => (b16 o).2.2.1
          have h3 := fun o => (b16 o).2.2.2.1
          have h4 := fun o => (b16 o).2.2.2.2.1
          have h5 := fun o => (b16 o).2.2.2.2.2.1
          have h6 := fun o => (b16 o).2.2.2.2.2.2.1
          have h7 := fun o => (b16 o).2.2.2.2.2.2.2.1
          have h8 := fun o => (b16 o).2.2.2.2.2.2.2.2.1
          have h9 := fun o => (b16 o).2.2.2.2.2.2.2.2.2.1
          have h10 := fun o => (b16 o).2.2.2.2.2.2.2.2.2.2.1
          have h11 := fun o => (b16 o).2.2.2.2.2.2.2.2.2.2.2
          clear b13 b14 b16 hb912 hb911 q11 hb11 hb12
          rcases he with ⟨h1, rfl⟩ | ⟨it2, r2, A2, c2, hq2, rfl, hrow2, -, -⟩
          rotate_left
          · rw [H0.out] at hq2; cases hq2
          clear h1
          go_wp2_with fail
          refine (HS14.out 0 ⟨0, 0, false, false, false, false, false, 0, 0, 0, []⟩ none none 0 0 _ (Rd.nil _ _) (Rd.nil _ _) (by simp)).mono ?_
          rintro e w13 ⟨rfl, hb13⟩
          have HB13 := Lib.hid (below_trans (below_alloc HB12.out _) hb13)
          clear hb13 f0 f1 f2 f3 f4 f5 f6 f7 f8 f9 g0 g1 g2 g3 g4 g5 g6 g7 g8 g9 h0 h1 h2 h3 h4 h5 h6 h7 h8 h9 h10 h11
          go_wp2_with fail
          go_ret
          exact ⟨by first | rfl | simp, HB13.out⟩
        · have H0 := Lib.hid (show To.q = it :: r from hq)
          have HROW := Lib.hid hrow
          have HLEN : Hid (it.f.data.length ≤ 9223372036854775807) := hfr.len
          clear hq hrow hok hfr
          simp only [itL]
          go_wp2_with fail
          refine calls_blk1 fun W11 q11 hb11 => ?_
          have hb911 := below_trans HB10.out hb11
          refine (Next_any W11 (w.heap.size + 1) (2 * k) fo y To (HI9.out.step hb911).o).mono ?_
          rintro e w12 ⟨he, hb12⟩
          have hb912 := below_trans hb911 hb12
          have HB12 := Lib.hid (below_trans HI9.out.below hb912)
          have b13 := fun o => cells10 (heap_push (o' := o) (heap_below hb912 HQ13.out))
          have b14 := fun o => cells10 (heap_push (o' := o) (heap_below hb912 HQ14.out))
          have b16 := fun o => cells12 (heap_push (o' := o) (heap_below hb12 q11))
          have HR12 := Lib.hid ((HROW.out.rd.below hb11).below hb12)
          have f0 := fun o => (b13 o).1
          have f1 := fun o => (b13 o).2.1
          have f2 := fun o => (b13 o).2.2.1
          have f3 := fun o => (b13 o).2.2.2.1
          have f4 := fun o => (b13 o).2.2.2.2.1
          have f5 := fun o => (b13 o).2.2.2.2.2.1
          have f6 := fun o => (b13 o).2.2.2.2.2.2.1
          have f7 := fun o => (b13 o).2.2.2.2.2.2.2.1
          have f8 := fun o => (b13 o).2.2.2.2.2.2.2.2.1
          have f9 := fun o => (b13 o).2.2.2.2.2.2.2.2.2
          have g0 := fun o => (b14 o).1
          have g1 := fun o => (b14 o).2.1
          have g2 := fun o => (b14 o).2.2.1
          have g3 := fun o => (b14 o).2.2.2.1
          have g4 := fun o => (b14 o).2.2.2.2.1
          have g5 := fun o => (b14 o).2.2.2.2.2.1
          have g6 := fun o => (b14 o).2.2.2.2.2.2.1
          have g7 := fun o => (b14 o).2.2.2.2.2.2.2.1
          have g8 := fun o => (b14 o).2.2.2.2.2.2.2.2.1
          have g9 := fun o => (b14 o).2.2.2.2.2.2.2.2.2
          have h0 := fun o => (b16 o).1
          have h1 := fun o => (b16 o).2.1
          have h2 := fun o => (b16 o).2.2.1
          have h3 := fun o => (b16 o).2.2.2.1
          have h4 := fun o => (b16 o).2.2.2.2.1
          have h5 := fun o => (b16 o).2.2.2.2.2.1
          have h6 := fun o => (b16 o).2.2.2.2.2.2.1
          have h7 := fun o => (b16 o).2.2.2.2.2.2.2.1
          have h8 := fun o => (b16 o).2.2.2.2.2.2.2.2.1
          have h9 := fun o => (b16 o).2.2.2.2.2.2.2.2.2.1
          have h10 := fun o => (b16 o).2.2.2.2.2.2.2.2.2.2.1
          have h11 := fun o => (b16 o).2.2.2.2.2.2.2.2.2.2.2
          clear b13 b14 b16 hb912 hb911 q11 hb11 hb12
          rcases he with ⟨h1, rfl⟩ | ⟨it2, r2, A2, c2, hq2, rfl, hrow2, -, -⟩
          · rw [H0.out] at h1; cases h1
          rw [H0.out] at hq2
          injection hq2 with hq2 hq3
          subst hq2
          have HROW2 := Lib.hid hrow2
          clear hrow2 hq3
          simp only [itL]
          go_wp2_with fail
          refine (HS14.out it.no it.f A' A2 c' c2 _ (HR12.out.alloc _) (HROW2.out.rd.alloc _) HLEN.out).mono ?_
          rintro e w13 ⟨rfl, hb13⟩
          have HB13 := Lib.hid (below_trans (below_alloc HB12.out _) hb13)
          clear hb13 f0 f1 f2 f3 f4 f5 f6 f7 f8 f9 g0 g1 g2 g3 g4 g5 g6 g7 g8 g9 h0 h1 h2 h3 h4 h5 h6 h7 h8 h9 h10 h11
          go_wp2_with fail
          go_ret
          exact ⟨by first | rfl | simp, HB13.out⟩
end Go.Proofs.Ytlmdkmflbhnlgaa
