/- queue: Put. No condition. -/
import Derived.Test.YtlmdkmflbhnlgaaQueue7
namespace Go.Proofs.Ytlmdkmflbhnlgaa
open Go.RowKit
/-- What Put answers and leaves. -/
def PutQ (w : World) (base qb room last : Nat) (A : Option Addr) (l : List QN) (f : Fr) (e : Ending) (w' : World) : Prop :=
  (okF f = false ∧ e = .returned (.tuple #[.int .i64 0, .int .i64 2]) ∧ Below w.heap.size w w') ∨
  (okF f = true ∧ room ≤ l.length ∧ e = .returned (.tuple #[.int .i64 0, .int .i64 8]) ∧ Below w.heap.size w w') ∨
  (okF f = true ∧ l.length < room ∧ e = .returned (.tuple #[.int .i64 ((last : Int) + 1), .int .i64 0]) ∧ ∃ A' cap' l' B c, HeapQ w' base qb room (last + 1) A' cap' l' ∧ HeapTo kyQ l' l'.length ∧ l'.Perm (l ++ [⟨(last : Int) + 1, f, B, c, keyF f⟩]) ∧
    Row w' w.heap.size 5 B c (bys f.data) ∧ (∀ a ∈ blkA A', a ∈ blkA A ∨ w.heap.size ≤ a) ∧ Turn (qb :: blkA A) w w')
set_option maxRecDepth 100000 in
set_option maxHeartbeats 4000000 in
theorem qPut_any (w : World) (base qb room last cap d m : Nat) (A B : Option Addr) (l : List QN) (f : Fr) (h : HeapQ w base qb room last A cap l) (hh : HeapTo kyQ l l.length) (hlr : l.length ≤ room) (h64 : room ≤ 64) (hlast : last ≤ 1000000) (hbase : base ≤ w.heap.size)
    (hr : Rd w B (bys f.data)) (hz : B = none → d = 0) (hm : f.data.length = m) (hf : FrIn f) (hB : ∀ ad, B = some ad → bys f.data ≠ [] → ad.block ≠ qb) :
    Calls Try.prog 38 #[.pointer (some ⟨qb, 0, none⟩), frv f (.slice B m d)] w (PutQ w base qb room last A l f) := by
  have hqb : qb < w.heap.size := heap_lt h.box
  have HK := Lib.hid (fun W => Key_any f B d W hf.len hf.id0)
  have HCP := Lib.hid (fun (ho : okF f = true) W hW => Copy_any W f B d hW (by have := codeF_kind _ _ ((okF_iff f).1 ho).size; omega) hz)
  have HQ := Lib.hid h
  have HH := Lib.hid hh
  have HR := Lib.hid hr
  have hlen := hf.len
  obtain ⟨n, hn⟩ : ∃ n, l.length = n := ⟨_, rfl⟩
  rw [hn] at hlr
  have HN := Lib.hid hn
  obtain ⟨q, hq⟩ : ∃ q, okF f = q := ⟨_, rfl⟩
  obtain ⟨ky, hky⟩ : ∃ ky, keyF f = ky := ⟨_, rfl⟩
  rw [hq, hm, hky] at HK
  rw [hq, hm] at HCP
  rw [hm] at hlen
  have HQQ := Lib.hid hq
  have HKY := Lib.hid hky
  obtain ⟨fk, fi, fe, fr, f4, f5, f6, f7, f8, f9, data⟩ := f
  dsimp only [frv] at *
  have HM := Lib.hid hm
  have HBN := Lib.hid hB
  clear h hh hr hn hm hf hq hky hB
  cases q
  · go_enter Try.func38, Try.ntmps38
    go_wp2_with fail
    refine (HK.out _).mono ?_
    rintro e w1 ⟨rfl, hb⟩
    have HB1 := Lib.hid (below_trans (below_alloc (Below.refl _ _) _) hb)
    clear hb
    simp only [errV]
    go_wp2_with fail
    go_ret2
    exact .inl ⟨HQQ.out, rfl, HB1.out⟩
  · go_enter Try.func38, Try.ntmps38
    go_wp2_with fail
    refine calls_blk1 fun W1 q1 hb1 => ?_
    refine (HK.out _).mono ?_
    rintro e w1 ⟨rfl, hb⟩
    have HB1 := Lib.hid (below_trans hb1 hb)
    have Q1 := Lib.hid (heap_below hb q1)
    have HR1 := Lib.hid (HR.out.below HB1.out)
    have HQ1 := Lib.hid (HQ.out.below HB1.out)
    have hbx := HQ1.out.box
    rw [HN.out] at hbx
    have c0 : w1.cell? ⟨qb, 0, none⟩ = some (.int .i64 room) := cell_of_heap hbx 0 _ rfl
    have c1 : w1.cell? ⟨qb, 1, none⟩ = some (.int .i64 last) := cell_of_heap hbx 1 _ rfl
    have c2 : w1.cell? ⟨qb, 2, none⟩ = some (.slice A n cap) := cell_of_heap hbx 2 _ rfl
    have zf : ∀ o, w1.frozen? ⟨qb, o, none⟩ = false := fun o => by simp [World.frozen?, hbx]
    have HBX := Lib.hid hbx
    clear hb hb1 q1 hbx
    simp only [errV]
    by_cases hlt : n < room
    · go_wp2_with fail
      go_quiet (fail)
      go_wp2_with fail
      obtain ⟨W3, hW3⟩ : ∃ W3, (w1.drewN nq).setCell ⟨qb, 1, none⟩ (.int .i64 ((last : Int) + 1)) = W3 := ⟨_, rfl⟩
      have t3 : Turn [qb] w1 W3 := by rw [← hW3]; exact ((Turn.refl [qb] w1).drewN _).setCell (p := ⟨qb, 1, none⟩) (.inl (by simp)) _
      have hbx3 : W3.heap[qb]? = some (.cells #[.int .i64 room, .int .i64 ((last + 1 : Nat) : Int), .slice A n cap] 114 (0, 0)) := by rw [← hW3]; have := heap_setCell (w := w1.drewN nq) HBX.out 1 (.int .i64 ((last : Int) + 1)); simpa using this
      rw [hW3]
      have hne : w.heap.size ≠ qb := by omega
      have hq3 := t3.heap Q1.out (by simpa using hne)
      obtain ⟨y0, y1, y2, y3, y4, y5, y6, y7, y8, y9, y10⟩ := ext11 hq3
      have x1 : ∀ e : Ext W3, e.W.cell? ⟨qb, 1, none⟩ = some (.int .i64 ((last + 1 : Nat) : Int)) := fun e => ext_cell (cell_of_heap hbx3 1 _ rfl) e
      have hHQ3 : HeapQ W3 base qb room (last + 1) A cap l := by
        refine ⟨by rw [HN.out]; exact hbx3, HQ1.out.row.imp id ?_⟩
        rintro ⟨g, cur, rfl, hr⟩
        have := (HQ1.out.blk g (by simp [blkA])).1
        exact ⟨g, cur, rfl, t3.heap hr.blk (by simpa using this), hr.lo, hr.size, hr.len, hr.cap, hr.at_⟩
      have hrd3 : Rd W3 B (bys data) := fun j u hj => by
        obtain ⟨ad, e, hc⟩ := HR1.out j u hj
        refine ⟨ad, e, ?_⟩
        have hne2 := HBN.out ad e (by intro h0; rw [h0] at hj; simp at hj)
        have h4 := t3.block (ad.add j).block (cell_lt hc) (by rw [block_of_add]; simpa using hne2)
        unfold World.cell? at hc ⊢
        rw [h4]; exact hc
      have HR3 := Lib.hid hrd3
      have HQ3 := Lib.hid hHQ3
      have T3 := Lib.hid ((Turn.of (s := [qb]) HB1.out).tr t3)
      clear hW3 t3 hbx3 hq3 hHQ3 hrd3 c0 c1 c2 zf
      refine wp_region_mix (fun w' => ∃ e : Ext W3, w' = e.W) [(true, 0), (true, 1), (true, 2), (true, 3), (true, 4), (true, 5), (true, 6), (true, 7), (true, 8), (true, 11), (false, 9), (true, 10), (true, 12), (true, 13)] [14] (by kernel_rfl) (by kernel_rfl) (by intro _ _ d _ _ h; cases d <;> exact h) ⟨⟨W3.drew, (Below.refl _ _).drew⟩, rfl⟩ ?_
      simp only [pickM, pickL, List.drop_succ_cons, List.drop_zero]
      repeat (first | (refine mix_pure (by rfl) (by rfl) ?_; intro K hK; go_big_quiet_op; go_big_quiet_on) | (refine mix_nilc ⟨qb, 0, none⟩ (by rfl) (by kernel_rfl) ?_; go_simp))
      refine mix_eff (by rfl) ?_
      intro K hK
      go_simp
      refine (HCP.out trivial _ (HR3.out.below (Below.refl _ _).drew)).mono ?_
      rintro e w4 ⟨⟨B', c', rfl, hrow⟩, hb4⟩
      have hb34 : Below W3.heap.size W3 w4 := below_trans (Below.refl _ _).drew hb4
      refine hK _ _ ⟨⟨w4, hb34⟩, rfl⟩ ?_
      clear hK K
      repeat (first | (refine mix_pure (by rfl) (by rfl) ?_; intro K hK; go_big_quiet_op; go_big_quiet_on) | (refine mix_nilc ⟨qb, 0, none⟩ (by rfl) (by kernel_rfl) ?_; go_simp))
      refine mix_nil ?_
      have hPU := qHPush_any w4 base qb room (last + 1) cap n A l ⟨(last : Int) + 1, ⟨fk, fi, fe, fr, f4, f5, f6, f7, f8, f9, data⟩, B', c', ky⟩ (HQ3.out.below hb34) HH.out HN.out (by omega) (by have := T3.out.size; have := hb34.size; omega)
      dsimp only [qV] at hPU
      rw [HM.out] at hPU
      have HPU := Lib.hid hPU
      have T4 := Lib.hid (T3.out.tr (.of hb34))
      have HQ4 := Lib.hid (HQ3.out.below hb34)
      have HROW := Lib.hid (hrow.mono (show W3.heap.size ≤ W3.drew.heap.size from Nat.le_refl _))
      have h3s : w.heap.size ≤ W3.heap.size := T3.out.size
      clear hPU hrow hb4 hb34 y0 y1 y2 y3 y4 y5 y6 y7 y8 y9 y10 x1
      go_wp2_with fail
      refine HPU.out.mono ?_
      rintro e w5 ⟨rfl, A5, cap5, l5, h5, hh5, hp5, fr5, t5⟩
      have c1 : w5.cell? ⟨qb, 1, none⟩ = some (.int .i64 ((last + 1 : Nat) : Int)) := cell_of_heap h5.box 1 _ rfl
      have H5 := Lib.hid h5
      have HH5 := Lib.hid hh5
      have HP5 := Lib.hid hp5
      have FR5 := Lib.hid fr5
      have T5 := Lib.hid t5
      clear h5 hh5 hp5 fr5 t5
      go_wp2_with fail
      go_ret2
      refine .inr (.inr ⟨HQQ.out, by rw [HN.out]; exact hlt, rfl, A5, cap5, l5, B', c', H5.out, HH5.out, by rw [HKY.out]; exact HP5.out, ?_, fun a ha => ?_, ?_⟩)
      · refine (HROW.out.turn_ty T5.out fun k hk => ?_).mono h3s
        rcases List.mem_cons.1 hk with rfl | hk
        · exact ⟨_, _, _, HQ4.out.box, by decide⟩
        · obtain ⟨-, -, cs, h⟩ := HQ4.out.blk k hk
          exact ⟨_, _, _, h, by decide⟩
      · rcases FR5.out a ha with h | h
        · exact .inl h
        · right; have := T4.out.size; omega
      · exact (T4.out.mono (fun x hx => .inl (by simp at hx; subst hx; simp))).tr T5.out
    · have hge : room ≤ n := by omega
      go_wp2_with fail
      go_quiet (fail)
      go_wp2_with fail
      go_ret2
      exact .inr (.inl ⟨HQQ.out, by rw [HN.out]; exact hge, rfl, below_drewN HB1.out _⟩)
end Go.Proofs.Ytlmdkmflbhnlgaa
