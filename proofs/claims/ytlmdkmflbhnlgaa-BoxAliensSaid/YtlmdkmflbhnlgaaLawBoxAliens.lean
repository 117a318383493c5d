/- The law BoxAliens: a box that doesn't know XL frames lets none wait, and is otherwise as one that does. No condition. -/
import Derived.Test.YtlmdkmflbhnlgaaLawBoxF0
import Derived.Test.YtlmdkmflbhnlgaaActs
namespace Go.Proofs.Ytlmdkmflbhnlgaa
open Go.RowKit
theorem putT_xl {T : BX} (f : Fr) (h : alienB T f = false) : putT { T with xl := true } f = { putT T f with xl := true } ∧ putK { T with xl := true } f = putK T f ∧ putE { T with xl := true } f = putE T f := by
  have h1 : alienB { T with xl := true } f = false := by simp [alienB]
  unfold putT putK putE
  rw [h, h1]
  simp only [Bool.false_eq_true, if_false]
  refine ⟨?_, trivial, trivial⟩
  split
  · split <;> rfl
  · rfl
theorem putT_xl0 (T : BX) (f : Fr) : (putT T f).xl = T.xl := by
  unfold putT
  (repeat' split) <;> rfl
/-- Two boxes lie side by side. -/
structure TwoI (w wr : World) (cf : Array Value) (fa fb : List Nat) (a b N : Nat) (Ta Tb : BX) : Prop where
  conf : wr.heap[w.heap.size]? = some (.cells cf 26 (0, 0))
  a : BoxA wr (w.heap.size + 1) N fa a Ta
  b : BoxA wr (w.heap.size + 1) N fb b Tb
  dis : ∀ k ∈ fa, k ∉ fb
  below : Below w.heap.size w wr
theorem TwoI.step {w wr wr' : World} {cf : Array Value} {fa fb : List Nat} {a b N : Nat} {Ta Tb : BX} (h : TwoI w wr cf fa fb a b N Ta Tb) (hb : Below wr.heap.size wr wr') : TwoI w wr' cf fa fb a b N Ta Tb :=
  ⟨heap_below hb h.conf, h.a.below hb, h.b.below hb, h.dis, below_trans h.below hb⟩
theorem TwoI.mono {w wr : World} {cf : Array Value} {fa fb : List Nat} {a b N M : Nat} {Ta Tb : BX} (h : TwoI w wr cf fa fb a b N Ta Tb) (hm : N ≤ M) : TwoI w wr cf fa fb a b M Ta Tb :=
  ⟨h.conf, h.a.mono hm, h.b.mono hm, h.dis, h.below⟩
theorem TwoI.swap {w wr : World} {cf : Array Value} {fa fb : List Nat} {a b N : Nat} {Ta Tb : BX} (h : TwoI w wr cf fa fb a b N Ta Tb) : TwoI w wr cf fb fa b a N Tb Ta :=
  ⟨h.conf, h.b, h.a, fun k hk hm => h.dis k hm hk, h.below⟩
theorem TwoI.actB {w wr wr' : World} {cf : Array Value} {fa fb : List Nat} {a b N : Nat} {Ta Tb T' : BX} (h : TwoI w wr cf fa fb a b N Ta Tb) (ha : Acted wr (w.heap.size + 1) (N + 1) fb b T' wr') : ∃ fb', TwoI w wr' cf fa fb' a b (N + 1) Ta T' := by
  obtain ⟨ft', hA, hf, ht⟩ := ha
  obtain ⟨f1, f2, f3, f4⟩ := h.b.foot
  obtain ⟨g1, g2, g3, g4⟩ := h.a.foot
  refine ⟨ft', ht.heap h.conf (fun hm => by have := f2 _ hm; omega), (h.a.turn ht f1 h.dis).mono (by omega), hA, fun k hk hm => ?_, h.below.trans (ht.below (fun k hk => by have := f2 k hk; omega) h.below.size)⟩
  rcases hf k hm with h1 | h1
  · exact h.dis k hk h1
  · have := g3 k hk; omega
theorem TwoI.actA {w wr wr' : World} {cf : Array Value} {fa fb : List Nat} {a b N : Nat} {Ta Tb T' : BX} (h : TwoI w wr cf fa fb a b N Ta Tb) (ha : Acted wr (w.heap.size + 1) (N + 1) fa a T' wr') : ∃ fa', TwoI w wr' cf fa' fb a b (N + 1) T' Tb :=
  let ⟨fa', h'⟩ := h.swap.actB ha
  ⟨fa', h'.swap⟩
theorem foot_conf {w : World} {k : Nat} {cf : Array Value} {fr : Nat × Nat} (h : w.heap[k]? = some (.cells cf 26 fr)) : Foot [k] w := fun j hj => by
  rw [List.mem_singleton.1 hj]; exact ⟨_, _, _, h, by decide, by decide⟩
set_option maxRecDepth 100000 in
set_option maxHeartbeats 16000000 in
theorem boxAliens_walk (w : World) (out inn : Int) (A B : Option Addr) (n c m d : Nat) (els xl : Bool) (rs : List Ru) (gs : List SF) (hr : RdRu w A rs) (hn : rs.length = n) (hb : n * 32 ≤ 140737488351232) (hwf : ∀ r ∈ rs, RuWf r)
    (hg : RdSF w B gs) (hm : gs.length = m) (hgi : ∀ s ∈ gs, SFIn w s) (hm2 : m ≤ 9223372036854775807) :
    Calls Try.prog 4 #[confV out inn A n c els xl, .slice B m d] w fun e w' => e = .returned (.bool true) ∧ Below w.heap.size w w' := by
  have HT := Lib.hid (fun W x hW => To17_any W out inn A n c els x rs hW hn hb)
  have HR := Lib.hid hr
  have HN := Lib.hid hn
  have HWF := Lib.hid hwf
  have HG := Lib.hid hg
  have HM := Lib.hid hm
  have HGI := Lib.hid hgi
  obtain ⟨bk, hbk⟩ : ∃ bk, decide ((0 ≤ out ∧ out ≤ 64) ∧ (0 ≤ inn ∧ inn ≤ 64) ∧ bankOk rs = true) = bk := ⟨_, rfl⟩
  have HBK := Lib.hid hbk
  dsimp only [confV] at *
  clear hr hn hwf hg hm hgi hbk
  go_enter Try.func4, Try.ntmps4
  go_wp2_with fail
  refine calls_blk1 fun W1 q1 hb1 => ?_
  refine (alive_any W1).mono ?_
  rintro e w2 ⟨rfl, hb2⟩
  have q2 := heap_below hb2 q1
  have c0 := cell_of_heap q2 0 (.int .i64 out) rfl
  have c1 := cell_of_heap q2 1 (.int .i64 inn) rfl
  have c2 := cell_of_heap q2 2 (.slice A n c) rfl
  have c3 := cell_of_heap q2 3 (.bool els) rfl
  have c4 := cell_of_heap q2 4 (.bool xl) rfl
  have z2 : ∀ o, w2.frozen? ⟨w.heap.size, o, none⟩ = false := fun o => by simp [World.frozen?, q2]
  have HB2 := Lib.hid (below_trans hb1 hb2)
  have q3 : (w2.setCell ⟨w.heap.size, 4, none⟩ (.bool true)).heap[w.heap.size]? = some (.cells #[.int .i64 out, .int .i64 inn, .slice A n c, .bool els, .bool true] 26 (0, 0)) := by
    rw [heap_setCell q2 4 _]; simp
  have HB3 := Lib.hid (Below.setCell (below_trans hb1 hb2) (p := ⟨w.heap.size, 4, none⟩) (Nat.le_refl _) (.bool true))
  have Q3 := Lib.hid q3
  clear q1 hb1 hb2 q2 q3
  go_wp2_with fail
  refine (HT.out _ true (HR.out.below HB3.out)).mono ?_
  rintro e w4 ⟨⟨A4, d4, rfl, hrow4⟩, hb4⟩
  have HROW4 := Lib.hid hrow4
  have HB4 := Lib.hid (below_trans HB3.out hb4)
  have Q4 := Lib.hid (heap_below hb4 Q3.out)
  have HC4 := Lib.hid hrow4.cap
  clear hrow4 hb4 c0 c1 c2 c3 c4 z2
  simp only [confV]
  go_wp2_with fail
  cases bk
  · have hno : ∀ rr : List Ru, rr = rs → (((out < 0 ∨ 64 < out)) ∨ (inn < 0 ∨ 64 < inn) ∨ bankOk rr = false) := fun rr e => by
      subst e
      have := of_decide_eq_false HBK.out; by_cases h1 : out < 0 ∨ 64 < out; exact .inl h1; by_cases h2 : inn < 0 ∨ 64 < inn; exact .inr (.inl h2); refine .inr (.inr ?_); cases hb2 : bankOk rr; rfl; exact absurd ⟨⟨by omega, by omega⟩, ⟨by omega, by omega⟩, hb2⟩ this
    have HNO := Lib.hid (hno rs rfl)
    clear hno
    refine (New_no w4 out inn rs.length d4 A4 els true rs HROW4.out.rd rfl (by have := HC4.out; omega) HNO.out).mono ?_
    rintro e w5 ⟨rfl, hb5⟩
    have q5 := heap_below hb5 Q4.out
    have c0 := cell_of_heap q5 0 (.int .i64 out) rfl
    have c1 := cell_of_heap q5 1 (.int .i64 inn) rfl
    have c2 := cell_of_heap q5 2 (.slice A n c) rfl
    have c3 := cell_of_heap q5 3 (.bool els) rfl
    have c4 := cell_of_heap q5 4 (.bool true) rfl
    have z2 : ∀ o, w5.frozen? ⟨w.heap.size, o, none⟩ = false := fun o => by simp [World.frozen?, q5]
    have HB6 := Lib.hid (Below.setCell (below_trans HB4.out hb5) (p := ⟨w.heap.size, 4, none⟩) (Nat.le_refl _) (.bool false))
    clear hb5 q5
    go_wp2_with fail
    refine (HT.out _ false (HR.out.below HB6.out)).mono ?_
    rintro e w7 ⟨⟨A7, d7, rfl, hrow7⟩, hb7⟩
    have HROW7 := Lib.hid hrow7
    have HB7 := Lib.hid (below_trans HB6.out hb7)
    have HC7 := Lib.hid hrow7.cap
    clear hrow7 hb7 c0 c1 c2 c3 c4 z2
    simp only [confV]
    go_wp2_with fail
    refine (New_no w7 out inn rs.length d7 A7 els false rs HROW7.out.rd rfl (by have := HC7.out; omega) HNO.out).mono ?_
    rintro e w8 ⟨rfl, hb8⟩
    have HB8 := Lib.hid (below_trans HB7.out hb8)
    clear hb8
    go_wp2_with fail
    go_ret
    exact ⟨by first | rfl | simp, HB8.out⟩
  · obtain ⟨⟨o0, o1⟩, ⟨j0, j1⟩, hbk⟩ := of_decide_eq_true HBK.out
    obtain ⟨out, rfl⟩ := Int.eq_ofNat_of_zero_le o0
    obtain ⟨inn, rfl⟩ := Int.eq_ofNat_of_zero_le j0
    have ho : out ≤ 64 := by omega
    have hi : inn ≤ 64 := by omega
    refine (New_any w4 (w.heap.size + 1) out inn rs.length d4 A4 els true rs HROW4.out.rd rfl (by have := HC4.out; omega) (fun e => ?_) HWF.out ho hi hbk (by have := heap_lt Q4.out; omega)).mono ?_
    · rcases HROW4.out with ⟨_, h, _⟩ | ⟨g, cur, h, _⟩
      · exact h
      · rw [e] at h; cases h
    rintro e w5 ⟨⟨a, fa, rfl, hA5, hft5⟩, hb5⟩
    have q5 := heap_below hb5 Q4.out
    have c0 := cell_of_heap q5 0 (.int .i64 out) rfl
    have c1 := cell_of_heap q5 1 (.int .i64 inn) rfl
    have c2 := cell_of_heap q5 2 (.slice A n c) rfl
    have c3 := cell_of_heap q5 3 (.bool els) rfl
    have c4 := cell_of_heap q5 4 (.bool true) rfl
    have z2 : ∀ o, w5.frozen? ⟨w.heap.size, o, none⟩ = false := fun o => by simp [World.frozen?, q5]
    have q6 : (w5.setCell ⟨w.heap.size, 4, none⟩ (.bool false)).heap[w.heap.size]? = some (.cells #[.int .i64 out, .int .i64 inn, .slice A n c, .bool els, .bool false] 26 (0, 0)) := by
      rw [heap_setCell q5 4 _]; simp
    have t6 : Turn [w.heap.size] w5 (w5.setCell ⟨w.heap.size, 4, none⟩ (.bool false)) := (Turn.refl _ _).setCell (p := ⟨w.heap.size, 4, none⟩) (.inl (by simp)) _
    have HA6 := Lib.hid (hA5.turn t6 (foot_conf q5) (fun k hk => by have := hA5.foot.2.1 k hk; simp; omega))
    have HB6 := Lib.hid (Below.setCell (below_trans HB4.out hb5) (p := ⟨w.heap.size, 4, none⟩) (Nat.le_refl _) (.bool false))
    have Q6 := Lib.hid q6
    clear hA5 hb5 q5 q6 t6 hft5
    have HBK2 := Lib.hid hbk
    clear o0 o1 j0 j1 hbk
    go_wp2_with fail
    refine (HT.out _ false (HR.out.below HB6.out)).mono ?_
    rintro e w7 ⟨⟨A7, d7, rfl, hrow7⟩, hb7⟩
    have HROW7 := Lib.hid hrow7
    have HB7 := Lib.hid (below_trans HB6.out hb7)
    have HC7 := Lib.hid hrow7.cap
    have Q7 := Lib.hid (heap_below hb7 Q6.out)
    have HA7 := Lib.hid (HA6.out.below hb7)
    clear hrow7 hb7 c0 c1 c2 c3 c4 z2
    simp only [confV]
    go_wp2_with fail
    refine (New_any w7 (w.heap.size + 1) out inn rs.length d7 A7 els false rs HROW7.out.rd rfl (by have := HC7.out; omega) (fun e => ?_) HWF.out ho hi HBK2.out (by have := heap_lt Q7.out; omega)).mono ?_
    · rcases HROW7.out with ⟨_, h, _⟩ | ⟨g, cur, h, _⟩
      · exact h
      · rw [e] at h; cases h
    rintro e w8 ⟨⟨b, fb, rfl, hA8, hft8⟩, hb8⟩
    have HI8 : Hid (TwoI w w8 #[.int .i64 out, .int .i64 inn, .slice A n c, .bool els, .bool false] fa fb a b (2 * 0) { newX rs els false out inn with xl := true } (newX rs els false out inn)) :=
      ⟨heap_below hb8 Q7.out, HA7.out.below hb8, hA8, fun k hk hm => by have h1 := hft8 k hm; have h2 := HA7.out.foot.2.2.1 k hk; omega, below_trans HB7.out hb8⟩
    clear hA8 hft8 hb8
    by_cases h100 : m ≤ 100
    rotate_left
    · have hm1 : (100 : Int) < m := by omega
      go_wp2_with fail
      go_ret
      exact ⟨by first | rfl | simp, HI8.out.below⟩
    have hm100 : (m : Int) ≤ 100 := by omega
    go_wp2_with fail
    go_loopw [48] (fun v wr => ∃ (k : Nat) (fa fb : List Nat) (Ta T : BX), k ≤ m ∧ v = .int .i64 k ∧ Hid (Ta = { T with xl := true } ∧ T.xl = false) ∧ Hid (TwoI w wr #[.int .i64 out, .int .i64 inn, .slice A n c, .bool els, .bool false] fa fb a b (2 * k) Ta T)) (fun v _ => m - (intOf v).toNat)
    case atStart => exact ⟨0, fa, fb, _, newX rs els false out inn, by omega, rfl, ⟨rfl, rfl⟩, HI8⟩
    case round =>
      obtain ⟨k, fa, fb, Ta, T, hk, rfl, HX, HI⟩ := hrel
      clear HI8
      by_cases hkm : k < m
      · have hkl : k < gs.length := by rw [HM.out]; exact hkm
        obtain ⟨ad, rfl, a0, a1, a2, a3, a4, a5, a6, a7, a8, a9, a10⟩ := (HG.out.below HI.out.below).at_ k hkl (k * 11) rfl
        have hmem : gs[k]'hkl ∈ gs := List.getElem_mem hkl
        obtain ⟨s, hs⟩ : ∃ s, gs[k]'hkl = s := ⟨_, rfl⟩
        rw [hs] at a0 a1 a2 a3 a4 a5 a6 a7 a8 a9 a10 hmem
        have HS := Lib.hid (HGI.out s hmem)
        clear hs hmem
        go_wp2_with fail
        refine calls_blk1 fun W1 q1 hb1 => ?_
        have hI1 := HI.out.step hb1
        have hlt : ∀ ad, s.A = some ad → bys s.f.data ≠ [] → ad.block ∉ fb := fun ad e hne hm => by
          have h1 := rdlt HS.out.rd ad e hne
          have h2 := hI1.b.foot.2.1 _ hm
          omega
        refine (Put_any W1 (w.heap.size + 1) (2 * k) fb b s.c s.f.data.length s.A T s.f hI1.b (by omega) (by have := heap_lt hI1.conf; omega) (HS.out.rd.below hI1.below) HS.out.nz rfl HS.out.wf hlt).mono ?_
        rintro e w2 ⟨rfl, hact⟩
        have hfr2 : w2.heap[wr.heap.size]? = some (.cells #[.int .i64 s.f.kind, .int .u32 s.f.id, .bool s.f.ext, .bool s.f.rtr, .bool s.f.brs, .bool s.f.esi, .bool s.f.sec, .int .u8 s.f.sdt, .int .u8 s.f.vcid, .int .u32 s.f.af, .slice s.A s.f.data.length s.c] 42 (0, 0)) := by
          obtain ⟨ft', -, -, ht⟩ := hact
          exact ht.heap q1 (fun hm => by have := HI.out.b.foot.2.2.1 _ hm; omega)
        obtain ⟨fb2, hI2⟩ := hI1.actB hact
        have HCH := Lib.hid (fun W => Check_any s.f s.A s.c W HS.out.wf.len)
        have hxl := putT_xl (T := T) s.f
        have hxl0 := putT_xl0 T s.f
        have hal : alienB T s.f = ((s.f.kind == 3) && okF s.f) := by unfold alienB; rw [HX.out.2]; simp
        have hT' : alienB T s.f = true → putT T s.f = T ∧ putK T s.f = 0 ∧ putE T s.f = 10 := fun h => by unfold putT putK putE; rw [h]; exact ⟨rfl, rfl, rfl⟩
        rw [← HX.out.1] at hxl
        generalize putT T s.f = T2 at hI2 hxl hxl0 hT'
        obtain ⟨kk, hkk⟩ : ∃ kk, putK T s.f = kk := ⟨_, rfl⟩
        obtain ⟨ke, hke⟩ : ∃ ke, putE T s.f = ke := ⟨_, rfl⟩
        rw [hkk, hke] at hxl hT'
        rw [hkk, hke]
        generalize alienB T s.f = al at hal hxl hT'
        obtain ⟨q, hq⟩ : ∃ q, okF s.f = q := ⟨_, rfl⟩
        obtain ⟨k3, hk3⟩ : ∃ k3, (s.f.kind == 3) = k3 := ⟨_, rfl⟩
        rw [hq] at HCH hal
        rw [hk3] at hal
        have HI2 := Lib.hid hI2
        have HFR2 := Lib.hid hfr2
        have HXL := Lib.hid hxl
        have HXL0 := Lib.hid hxl0
        obtain ⟨y0, y1, y2, y3, y4, y5, y6, y7, y8, y9, y10⟩ := cells11 hfr2
        clear q1 hb1 hI1 hlt hact hfr2 hI2 hxl hxl0 hkk hke a0 a1 a2 a3 a4 a5 a6 a7 a8 a9 a10
        cases hk : al
        rotate_left
        · obtain ⟨hT2, rfl, rfl⟩ := hT' hk
          have hq2 : k3 = true ∧ q = true := by rw [hk] at hal; revert hal; cases k3 <;> cases q <;> simp
          obtain ⟨rfl, rfl⟩ := hq2
          have HT2 := Lib.hid hT2
          clear hal hT' hT2 hq hk
          go_wp2_with fail
          refine (HCH.out _).mono ?_
          rintro e w3 ⟨rfl, hb3⟩
          have HI3 := Lib.hid (HI2.out.step hb3)
          clear hb3 y0 y1 y2 y3 y4 y5 y6 y7 y8 y9 y10
          simp only [errV, if_true]
          go_wp2_with fail
          go_roundw
          case rel => exact ⟨k + 1, fa, fb2, Ta, T2, by omega, by go_num, by rw [HT2.out]; exact HX, HI3.out.mono (by omega)⟩
          case measure => simp [intOf]; omega
        · have hxx := HXL.out hk
          have HXX := Lib.hid hxx
          have hq2 : k3 = false ∨ (k3 = true ∧ q = false) := by rw [hk] at hal; revert hal; cases k3 <;> cases q <;> simp
          clear hal hT' hq hk hxx
          rcases hq2 with rfl | ⟨rfl, rfl⟩
          · go_wp2_with fail
            have hlt2 : ∀ ad, s.A = some ad → bys s.f.data ≠ [] → ad.block ∉ fa := fun ad e hne hm => by
              have h1 := rdlt HS.out.rd ad e hne
              have h2 := HI2.out.a.foot.2.1 _ hm
              omega
            refine (Put_any w2 (w.heap.size + 1) (2 * k + 1) fa a s.c s.f.data.length s.A Ta s.f HI2.out.a (by omega) (by have := heap_lt HI2.out.conf; omega) (HS.out.rd.below HI2.out.below) HS.out.nz rfl HS.out.wf hlt2).mono ?_
            rintro e w3 ⟨rfl, hact⟩
            obtain ⟨h1, h2, h3⟩ := HXX.out
            rw [h1] at hact
            rw [h2, h3]
            obtain ⟨fa2, hI3⟩ := HI2.out.actA hact
            have HI3 := Lib.hid hI3
            clear hI3 hact h1 h2 h3 hlt2 y0 y1 y2 y3 y4 y5 y6 y7 y8 y9 y10
            go_wp2_with fail
            go_roundw
            case rel => exact ⟨k + 1, fa2, fb2, _, T2, by omega, by go_num, ⟨rfl, HXL0.out.trans HX.out.2⟩, HI3.out.mono (by omega)⟩
            case measure => simp [intOf]; omega
          · go_wp2_with fail
            refine (HCH.out _).mono ?_
            rintro e w3 ⟨rfl, hb3⟩
            have HI3 := Lib.hid (HI2.out.step hb3)
            obtain ⟨y0, y1, y2, y3, y4, y5, y6, y7, y8, y9, y10⟩ := cells11 (heap_below hb3 HFR2.out)
            clear hb3
            simp only [errV, Bool.false_eq_true, if_false]
            go_wp2_with fail
            have hlt2 : ∀ ad, s.A = some ad → bys s.f.data ≠ [] → ad.block ∉ fa := fun ad e hne hm => by
              have h1 := rdlt HS.out.rd ad e hne
              have h2 := HI3.out.a.foot.2.1 _ hm
              omega
            refine (Put_any w3 (w.heap.size + 1) (2 * k + 1) fa a s.c s.f.data.length s.A Ta s.f HI3.out.a (by omega) (by have := heap_lt HI3.out.conf; omega) (HS.out.rd.below HI3.out.below) HS.out.nz rfl HS.out.wf hlt2).mono ?_
            rintro e w4 ⟨rfl, hact⟩
            obtain ⟨h1, h2, h3⟩ := HXX.out
            rw [h1] at hact
            rw [h2, h3]
            obtain ⟨fa2, hI4⟩ := HI3.out.actA hact
            have HI4 := Lib.hid hI4
            clear hI4 hact h1 h2 h3 hlt2 y0 y1 y2 y3 y4 y5 y6 y7 y8 y9 y10
            go_wp2_with fail
            go_roundw
            case rel => exact ⟨k + 1, fa2, fb2, _, T2, by omega, by go_num, ⟨rfl, HXL0.out.trans HX.out.2⟩, HI4.out.mono (by omega)⟩
            case measure => simp [intOf]; omega
      · obtain rfl : k = m := by omega
        go_wp2_with fail
        refine (Report_any wr (w.heap.size + 1) (2 * k) fa a Ta HI.out.a).mono ?_
        rintro e w2 ⟨rfl, hb2⟩
        have HI2 := Lib.hid (HI.out.step hb2)
        clear hb2
        go_wp2_with fail
        refine (Report_any w2 (w.heap.size + 1) (2 * k) fb b T HI2.out.b).mono ?_
        rintro e w3 ⟨rfl, hb3⟩
        have HI3 := Lib.hid (HI2.out.step hb3)
        clear hb3
        rw [HX.out.1]
        simp only [repL]
        go_wp2_with fail
        go_ret
        exact ⟨by first | rfl | simp, HI3.out.below⟩
end Go.Proofs.Ytlmdkmflbhnlgaa
