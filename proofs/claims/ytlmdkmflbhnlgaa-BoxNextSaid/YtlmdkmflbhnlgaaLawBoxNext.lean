/- The law BoxNext: what is next, done, again and again, comes in the queue's order, and each is sent. No condition. -/
import Derived.Test.YtlmdkmflbhnlgaaPBoxNext
import Derived.Test.YtlmdkmflbhnlgaaSame05
namespace Go.Proofs.Ytlmdkmflbhnlgaa
open Go.RowKit
set_option maxRecDepth 100000 in
set_option maxHeartbeats 16000000 in
theorem boxNext_walk (w : World) (B : Option Addr) (m d : Nat) (gs : List SF) (hg : RdSF w B gs) (hm : gs.length = m) (hgi : ∀ s ∈ gs, SFIn w s) (hm2 : m ≤ 9223372036854775807) :
    Calls Try.prog 5 #[.slice B m d] w fun e w' => e = .returned (.bool true) ∧ Below w.heap.size w w' := by
  have HG := Lib.hid hg
  have HM := Lib.hid hm
  have HGI := Lib.hid hgi
  have HS14 := Lib.hid (fun no f A B c d W ha hb hl => Same14_any no f A B c d W ha hb hl)
  clear hg hm hgi
  by_cases h60 : m ≤ 60
  rotate_left
  · have hm1 : (60 : Int) < m := by omega
    go_enter Try.func5, Try.ntmps5
    go_wp2_with fail
    refine (alive_any w).mono ?_
    rintro e w2 ⟨rfl, hb2⟩
    have HB2 := Lib.hid hb2
    clear hb2
    go_wp2_with fail
    go_ret
    exact ⟨by first | rfl | simp, HB2.out⟩
  have hm60 : (m : Int) ≤ 60 := by omega
  go_enter Try.func5, Try.ntmps5
  go_wp2_with fail
  refine (alive_any w).mono ?_
  rintro e w2 ⟨rfl, hb2⟩
  have HB2 := Lib.hid hb2
  have hsz2 : w.heap.size ≤ w2.heap.size := hb2.size
  clear hb2
  go_wp2_with fail
  refine (New_any w2 w.heap.size 64 0 0 0 none false true [] (fun j h => by simp at h) rfl (by omega) (fun _ => rfl) (by simp) (by omega) (by omega) rfl hsz2).mono ?_
  rintro e w3 ⟨⟨b, ft, rfl, hA3, hft3⟩, hb3⟩
  have HB3 := Lib.hid (below_trans HB2.out hb3)
  have HA3 := Lib.hid hA3
  clear hA3 hft3 hb3
  go_wp2_with fail
  obtain ⟨W4, hW4⟩ : ∃ W4, w3.alloc (.cells #[.int .i64 64, .int .i64 0, .slice none 0 0] 58) = W4 := ⟨_, rfl⟩
  obtain ⟨qb, hqb⟩ : ∃ qb, w3.heap.size = qb := ⟨_, rfl⟩
  have HI4 : Hid (NxI w W4 ft b qb 0 0 0 none [] #[.int .i64 64, .int .i64 0, .slice none 0 0] (newX [] false true 64 0)) := by
    have hb4 : Below w3.heap.size w3 W4 := by rw [← hW4]; exact below_alloc (Below.refl _ _) _
    refine ⟨HA3.out.below hb4, ⟨by rw [← hW4]; exact heap_new_at hqb.symm, rfl, rfl, rfl, by decide, ⟨by simp, .inl ⟨rfl, rfl⟩⟩, by simp, by rw [← hqb]; exact HB3.out.size⟩, fun hm => ?_, by simp [blkA], below_trans HB3.out hb4⟩
    have := HA3.out.foot.2.2.1 _ hm
    omega
  have HP4 : Hid (PL (newX [] false true 64 0) 0 (([] : List QI).map absI)) := ⟨rfl, rfl, rfl, rfl, InvB.new _ _ _ _ _, List.Pairwise.nil, by simp, rfl⟩
  rw [hW4, hqb]
  have hwq : w.heap.size ≤ qb := by rw [← hqb]; exact HB3.out.size
  clear hW4 hqb HA3 HB3 HB2 hsz2
  go_loopw [28] (fun v wr => ∃ (k last c : Nat) (ft : List Nat) (A : Option Addr) (L : List QI) (cs : Array Value) (T : BX), k ≤ m ∧ v = .int .i64 k ∧ last ≤ k ∧ L.length ≤ k ∧ Hid (NxI w wr ft b qb k last c A L cs T) ∧ Hid (PL T last (L.map absI))) (fun v _ => m - (intOf v).toNat)
  case atStart => exact ⟨0, 0, 0, ft, none, [], _, _, by omega, rfl, by omega, by simp, HI4, HP4⟩
  case round =>
    obtain ⟨k, last, c, ft, A, L, cs, T, hk, rfl, hlk, hLk, HI, HP⟩ := hrel
    clear HI4 HP4
    by_cases hkm : k < m
    · have hkl : k < gs.length := by rw [HM.out]; exact hkm
      obtain ⟨ad, rfl, a0, a1, a2, a3, a4, a5, a6, a7, a8, a9, a10⟩ := (HG.out.below HI.out.below).at_ k hkl (k * 11) rfl
      have hmem : gs[k]'hkl ∈ gs := List.getElem_mem hkl
      obtain ⟨s, hs⟩ : ∃ s, gs[k]'hkl = s := ⟨_, rfl⟩
      rw [hs] at a0 a1 a2 a3 a4 a5 a6 a7 a8 a9 a10 hmem
      have HS := Lib.hid (HGI.out s hmem)
      clear hs hmem
      go_wp2_with fail
      refine calls_blk1 fun W1 q1 hb1 => ?_
      have hI1 := HI.out.step hb1
      have hlt : ∀ ad, s.A = some ad → bys s.f.data ≠ [] → ad.block < w.heap.size := fun ad e hne => rdlt HS.out.rd ad e hne
      refine (Put_any W1 w.heap.size k ft b s.c s.f.data.length s.A T s.f hI1.box (by omega) hI1.below.size (HS.out.rd.below hI1.below) HS.out.nz rfl HS.out.wf (fun ad e hne hm => by have h1 := hlt ad e hne; have h2 := hI1.box.foot.2.1 _ hm; omega)).mono ?_
      rintro e w2 ⟨rfl, hact⟩
      have hfr2 : w2.heap[wr.heap.size]? = some (.cells #[.int .i64 s.f.kind, .int .u32 s.f.id, .bool s.f.ext, .bool s.f.rtr, .bool s.f.brs, .bool s.f.esi, .bool s.f.sec, .int .u8 s.f.sdt, .int .u8 s.f.vcid, .int .u32 s.f.af, .slice s.A s.f.data.length s.c] 42 (0, 0)) := by
        obtain ⟨ft', -, -, ht⟩ := hact
        exact ht.heap q1 (fun hm => by have := HI.out.box.foot.2.2.1 _ hm; omega)
      obtain ⟨ft2, hI2, -, -⟩ := hI1.act hact
      have HI2 := Lib.hid hI2
      have HP2 := Lib.hid (HP.out.put s.f HS.out.wf.id0)
      have HLT := Lib.hid hlt
      obtain ⟨y0, y1, y2, y3, y4, y5, y6, y7, y8, y9, y10⟩ := cells11 hfr2
      generalize putT T s.f = T2 at HI2 HP2
      obtain ⟨kk, hkk⟩ : ∃ kk, putK T s.f = kk := ⟨_, rfl⟩
      obtain ⟨ke, hke⟩ : ∃ ke, putE T s.f = ke := ⟨_, rfl⟩
      rw [hkk, hke]
      clear hkk hke hact hfr2 hI2 hI1 hb1 q1 hlt a0 a1 a2 a3 a4 a5 a6 a7 a8 a9 a10
      go_wp2_with fail
      refine (RPut_any w2 w.heap.size qb 0 64 last c s.c s.f.data.length A s.A s.f L cs 58 HI2.out.ref rfl (by omega) (by omega) HI2.out.below.size (HS.out.rd.below HI2.out.below) HS.out.nz (fun ad e hne hq => by have := HLT.out ad e hne; omega) HS.out.wf.id0 HP.out.ok HP.out.srt).mono ?_
      rintro e w4 ⟨rfl, A', c', L', cs', h1, h2, h3, h4, -, -⟩
      have HI4 := Lib.hid (HI2.out.put h1 h3 h4)
      have HP4 : Hid (PL T2 (insN (L.map absI) last 64 s.f) (L'.map absI)) := by show PL _ _ _; rw [h2]; exact HP2.out
      have hL4 : L'.length ≤ k + 1 := by
        have h5 := insP_length (L.map absI) last 64 s.f
        rw [← h2, List.length_map, List.length_map] at h5
        omega
      have hn4 := insN_le (L.map absI) last 64 s.f
      obtain ⟨kk2, hkk⟩ : ∃ kk, insK (L.map absI) last 64 s.f = kk := ⟨_, rfl⟩
      obtain ⟨ke2, hke⟩ : ∃ ke, insE (L.map absI) 64 s.f = ke := ⟨_, rfl⟩
      rw [hkk, hke]
      generalize insN (L.map absI) last 64 s.f = last' at HI4 HP4 hn4
      clear hkk hke h1 h2 h3 h4 y0 y1 y2 y3 y4 y5 y6 y7 y8 y9 y10
      go_wp2_with fail
      go_roundw
      case rel => exact ⟨k + 1, last', c', ft2, A', L', cs', T2, by omega, by go_num, by omega, hL4, HI4, HP4⟩
      case measure => simp [intOf]; omega
    · obtain rfl : k = m := by omega
      obtain ⟨n, hn⟩ : ∃ n, L.length = n := ⟨_, rfl⟩
      have HN := Lib.hid hn
      rw [hn] at hLk
      have c2 : wr.cell? ⟨qb, 2, none⟩ = some (.slice A n c) := by rw [← hn]; exact cell_of_heap HI.out.ref.box 2 _ HI.out.ref.c2
      have HPS := Lib.hid HP.out.start
      have HNX := Lib.hid (HI.out.mono (show k ≤ k + 3 * 0 by omega))
      clear hn HP HI
      go_wp2_with fail
      go_loopw [44] (fun v wr => ∃ (j : Nat) (ft : List Nat) (T : BX), j ≤ n ∧ v = .int .i64 j ∧ Hid (NxI w wr ft b qb (k + 3 * j) last c A L cs T) ∧ Hid (PS T (L.map absI) j)) (fun v _ => n - (intOf v).toNat)
      case atStart => exact ⟨0, ft, T, by omega, rfl, HNX, HPS⟩
      case round =>
        obtain ⟨j, ft, T, hj, rfl, HI, HP⟩ := hrel
        clear HNX HPS
        by_cases hjn : j < n
        · have hjl : j < L.length := by rw [HN.out]; exact hjn
          have hjm : j < (L.map absI).length := by rw [List.length_map]; exact hjl
          obtain ⟨g, rfl, hc⟩ := own_cells12 HI.out.ref.own j hjl
          have hrow := HI.out.ref.data _ (List.getElem_mem hjl)
          obtain ⟨p1, p2, p3, p4, p5, p6⟩ := HP.out.next hjm
          have hxe : (L.map absI)[j] = absI L[j] := by simp
          rw [hxe] at p1 p2 p3 p4 p5 p6
          obtain ⟨x, hx⟩ : ∃ x, L[j]'hjl = x := ⟨_, rfl⟩
          rw [hx] at hc hrow p1 p2 p3 p4 p5 p6
          have a0 : wr.cell? ⟨g, j * 12, none⟩ = some (.int .i64 x.no) := hc 0 _ rfl
          have a1 := hc 1 _ rfl
          have a2 := hc 2 _ rfl
          have a3 := hc 3 _ rfl
          have a4 := hc 4 _ rfl
          have a5 := hc 5 _ rfl
          have a6 := hc 6 _ rfl
          have a7 := hc 7 _ rfl
          have a8 := hc 8 _ rfl
          have a9 := hc 9 _ rfl
          have a10 := hc 10 _ rfl
          have a11 := hc 11 _ rfl
          have HROW := Lib.hid hrow
          have P1 := Lib.hid p1
          have P2 : Hid (hasQ x.no T.q = true) := p2
          have P3 : Hid (PS (sentT T x.no) (L.map absI) (j + 1)) := p3
          have P4 : Hid (hasQ x.no (sentT T x.no).q = false) := p4
          have P5 : Hid (sentT (sentT T x.no) x.no = sentT T x.no) := p5
          have P6 : Hid (goneT (sentT T x.no) x.no = sentT T x.no) := p6
          clear hc hrow hx hxe p1 p2 p3 p4 p5 p6
          go_wp2_with fail
          refine calls_blk1 fun W1 q1 hb1 => ?_
          have HI1 := Lib.hid (HI.out.step hb1)
          have HROW1 := Lib.hid (HROW.out.below hb1)
          refine (Next_any W1 w.heap.size (k + 3 * j) ft b T HI1.out.box).mono ?_
          rintro e w2 ⟨he, hb2⟩
          have HI2 := Lib.hid (HI1.out.step hb2)
          have Q2 := Lib.hid (heap_below hb2 q1)
          have HROW2 := Lib.hid (HROW1.out.below hb2)
          have hsz12 : wr.heap.size < w2.heap.size := heap_lt Q2.out
          rcases he with ⟨h1, rfl⟩ | ⟨y, r, A', c', hq, rfl, hrow, hok, hfi⟩
          · rw [P1.out] at h1; cases h1
          rw [P1.out] at hq
          injection hq with hq hq2
          subst hq
          have HLEN : Hid (x.s.f.data.length ≤ 9223372036854775807) := hfi.len
          have HROWY := Lib.hid hrow
          clear q1 hb1 hb2 hrow hok hfi hq2 a0 a1 a2 a3 a4 a5 a6 a7 a8 a9 a10 a11
          have f0 := fun o => (cells12n (heap_push (o' := o) Q2.out)).1
          have f1 := fun o => (cells12n (heap_push (o' := o) Q2.out)).2.1
          have f2 := fun o => (cells12n (heap_push (o' := o) Q2.out)).2.2.1
          have f3 := fun o => (cells12n (heap_push (o' := o) Q2.out)).2.2.2.1
          have f4 := fun o => (cells12n (heap_push (o' := o) Q2.out)).2.2.2.2.1
          have f5 := fun o => (cells12n (heap_push (o' := o) Q2.out)).2.2.2.2.2.1
          have f6 := fun o => (cells12n (heap_push (o' := o) Q2.out)).2.2.2.2.2.2.1
          have f7 := fun o => (cells12n (heap_push (o' := o) Q2.out)).2.2.2.2.2.2.2.1
          have f8 := fun o => (cells12n (heap_push (o' := o) Q2.out)).2.2.2.2.2.2.2.2.1
          have f9 := fun o => (cells12n (heap_push (o' := o) Q2.out)).2.2.2.2.2.2.2.2.2.1
          have f10 := fun o => (cells12n (heap_push (o' := o) Q2.out)).2.2.2.2.2.2.2.2.2.2.1
          have f11 := fun o => (cells12n (heap_push (o' := o) Q2.out)).2.2.2.2.2.2.2.2.2.2.2
          simp only [itL, absI]
          go_wp2_with fail
          refine calls_blk1 fun W3 q3 hb3 => ?_
          refine (HS14.out x.no x.s.f A' x.s.A c' x.s.c W3 (HROWY.out.rd.below hb3) (HROW2.out.below hb3).rd HLEN.out).mono ?_
          rintro e w4 ⟨rfl, hb4⟩
          have HI4 := Lib.hid ((HI2.out.step hb3).step hb4)
          have Q4 := Lib.hid (heap_below hb4 q3)
          have e4 : w4.cell? ⟨w2.heap.size, 0, none⟩ = some (.int .i64 x.no) := cell_of_heap Q4.out 0 _ rfl
          have HFT : Hid (w2.heap.size ∉ ft) := fun hm => by have := HI2.out.box.foot.2.2.1 _ hm; omega
          clear q3 hb3 hb4 f0 f1 f2 f3 f4 f5 f6 f7 f8 f9 f10 f11
          go_wp2_with fail
          refine (BoxDone_any w4 w.heap.size (k + 3 * j) ft b T x.no HI4.out.box (by omega)).mono ?_
          rintro e w5 ⟨rfl, hact⟩
          rw [P2.out]
          simp only [if_true]
          have hsz24 : w2.heap.size < w4.heap.size := heap_lt Q4.out
          obtain ⟨ft5, hI5, hf5, ht5⟩ := HI4.out.act hact
          have e5 : w5.cell? ⟨w2.heap.size, 0, none⟩ = some (.int .i64 x.no) := cell_turn e4 ht5 HFT.out
          have hsz25 : w2.heap.size < w5.heap.size := Nat.lt_of_lt_of_le hsz24 ht5.size
          have HF5 : Hid (w2.heap.size ∉ ft5) := fun hm => by
            rcases hf5 _ hm with h1 | h1
            · exact HFT.out h1
            · omega
          have HI5 := Lib.hid hI5
          clear e4 hact hI5 hf5 ht5
          generalize sentT T x.no = T1 at HI5 P3 P4 P5 P6
          go_wp2_with fail
          refine (BoxDone_any w5 w.heap.size (k + 3 * j + 1) ft5 b T1 x.no HI5.out.box (by omega)).mono ?_
          rintro e w6 ⟨rfl, hact⟩
          rw [P4.out]
          rw [P5.out] at hact
          simp only [Bool.false_eq_true, if_false]
          obtain ⟨ft6, hI6, hf6, ht6⟩ := HI5.out.act hact
          have e6 : w6.cell? ⟨w2.heap.size, 0, none⟩ = some (.int .i64 x.no) := cell_turn e5 ht6 HF5.out
          have HI6 := Lib.hid hI6
          clear e5 hact hI6 hf6 ht6
          go_wp2_with fail
          refine (BoxCancel_any w6 w.heap.size (k + 3 * j + 1 + 1) ft6 b T1 x.no HI6.out.box (by omega)).mono ?_
          rintro e w7 ⟨rfl, hact⟩
          rw [P4.out]
          rw [P6.out] at hact
          simp only [Bool.false_eq_true, if_false]
          obtain ⟨ft7, hI7, hf7, ht7⟩ := HI6.out.act hact
          have HI7 := Lib.hid (hI7.mono (show k + 3 * j + 1 + 1 + 1 ≤ k + 3 * (j + 1) by omega))
          clear e6 hact hI7 hf7 ht7
          go_wp2_with fail
          go_roundw
          case rel => exact ⟨j + 1, ft7, T1, by omega, by go_num, HI7, P3⟩
          case measure => simp [intOf]; omega
        · obtain rfl : j = n := by omega
          have hq0 : T.q = [] := by rw [HP.out.eq]; exact List.drop_eq_nil_of_le (by rw [List.length_map, HN.out]; exact Nat.le_refl _)
          have hse := HP.out.sent
          go_wp2_with fail
          refine (Next_any wr w.heap.size (k + 3 * j) ft b T HI.out.box).mono ?_
          rintro e w2 ⟨he, hb2⟩
          rcases he with ⟨h1, rfl⟩ | ⟨y, r, A', c', hq, rfl, hrow, hok, hfi⟩
          rotate_left
          · rw [hq0] at hq; cases hq
          have HI2 := Lib.hid (HI.out.step hb2)
          clear h1 hb2
          have HRE := Lib.hid (fun W hW => Report_any W w.heap.size (k + 3 * j) ft b T hW)
          have hrep : (repL T).toArray = #[.int .i64 0, .int .i64 T.l.length, .int .i64 T.put, .int .i64 j, .int .i64 T.gone, .int .i64 T.came, .int .i64 T.kept, .int .i64 T.refused, .int .i64 T.over, .int .i64 T.taken] := by
            unfold repL
            rw [hq0, hse]; rfl
          rw [hrep] at HRE
          clear hrep hq0 hse
          go_wp2_with fail
          have HI5 := Lib.hid (HI2.out.step (below_alloc (Below.refl _ w2) (.cells #[.int .i64 0, .int .i64 0, .int .u32 0, .bool false, .bool false, .bool false, .bool false, .bool false, .int .u8 0, .int .u8 0, .int .u32 0, .slice none 0 0] 61)))
          clear c2
          generalize w2.alloc _ = W5 at HI5 ⊢
          have x2 : ∀ e : Ext W5, e.W.cell? ⟨qb, 2, none⟩ = some (.slice A j c) := fun e => by rw [← HN.out]; exact ext_cell (cell_of_heap HI5.out.ref.box 2 _ HI5.out.ref.c2) e
          refine wp_region_mix (fun w' => ∃ e : Ext W5, w' = e.W) [(true, 0), (true, 1), (true, 2), (true, 3), (true, 4), (true, 5), (true, 6), (true, 7), (true, 10), (true, 11), (true, 12), (true, 13), (true, 14), (false, 8), (true, 9), (true, 15), (true, 16), (true, 17), (true, 18), (false, 19), (true, 20), (true, 21), (true, 22), (true, 23)] [] (by kernel_rfl) (by kernel_rfl) (by intro _ _ d _ _ h; cases d <;> exact h) ⟨⟨W5.drew, (Below.refl _ _).drew⟩, rfl⟩ ?_
          simp only [pickM, pickL, List.drop_succ_cons, List.drop_zero]
          repeat (first | (refine mix_pure (by rfl) (by rfl) ?_; intro K hK; go_big_quiet_op; go_big_quiet_on) | (refine mix_nilc ⟨qb, 0, none⟩ (by rfl) (by kernel_rfl) ?_; go_simp))
          refine mix_eff (by rfl) ?_
          intro K hK
          go_simp
          refine (HRE.out _ (HI5.out.step (Below.refl _ _).drew).box).mono ?_
          rintro e w6 ⟨rfl, hb6⟩
          have hb56 : Below W5.heap.size W5 w6 := below_trans (Below.refl _ _).drew hb6
          refine hK _ _ ⟨⟨w6, hb56⟩, rfl⟩ ?_
          clear hK K
          have HI6 := Lib.hid (HI5.out.step hb56)
          have HB56 := Lib.hid hb56
          clear hb6 hb56
          have TF : ∀ W, Sem.run Try.prog (Instr.field 53 (.agg #[.int .i64 0, .int .i64 T.l.length, .int .i64 T.put, .int .i64 j, .int .i64 T.gone, .int .i64 T.came, .int .i64 T.kept, .int .i64 T.refused, .int .i64 T.over, .int .i64 T.taken]) 3) W = .ok (.int .i64 j) W := fun _ => by kernel_rfl
          have TG : ∀ W, Sem.run Try.prog (Instr.field 53 (.agg #[.int .i64 0, .int .i64 T.l.length, .int .i64 T.put, .int .i64 j, .int .i64 T.gone, .int .i64 T.came, .int .i64 T.kept, .int .i64 T.refused, .int .i64 T.over, .int .i64 T.taken]) 0) W = .ok (.int .i64 0) W := fun _ => by kernel_rfl
          repeat (refine mix_pure (by rfl) (by rfl) ?_; intro K hK; go_big_quiet_op; go_big_quiet_on)
          refine mix_eff (by rfl) ?_
          intro K hK
          go_simp
          refine (HRE.out _ HI6.out.box).mono ?_
          rintro e w7 ⟨rfl, hb7⟩
          have hb57 : Below W5.heap.size W5 w7 := below_trans HB56.out hb7
          refine hK _ _ ⟨⟨w7, hb57⟩, rfl⟩ ?_
          clear hK K
          have HB7 := Lib.hid (below_trans HI5.out.below hb57)
          clear hb7 hb57
          repeat (refine mix_pure (by rfl) (by rfl) ?_; intro K hK; go_big_quiet_op; go_big_quiet_on)
          refine mix_nil (wpList_nil ?_)
          clear TF TG x2
          go_wp2_with fail
          go_ret
          exact ⟨by first | rfl | simp, HB7.out⟩
end Go.Proofs.Ytlmdkmflbhnlgaa
