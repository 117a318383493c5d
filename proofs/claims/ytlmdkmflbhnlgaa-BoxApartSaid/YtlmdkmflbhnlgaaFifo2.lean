/- fifo.Pop: the oldest frame is taken out of a ring. No condition. -/
import Derived.Test.YtlmdkmflbhnlgaaFifo1
namespace Go.Proofs.Ytlmdkmflbhnlgaa
open Go.RowKit
theorem fifoAt0_any (w : World) (fb first : Nat) (c1 : w.cell? ⟨fb, 705, none⟩ = some (.int .i64 first)) (hf : first < 64) :
    Calls Try.prog 61 #[.pointer (some ⟨fb, 0, none⟩), .int .i64 0] w fun e w' => e = .returned (.pointer (some ⟨fb, first * 11, none⟩)) ∧ Below w.heap.size w w' := by
  have h := fifoAt_any w fb first 0 c1 hf (by omega)
  have e : (first + 0) % 64 = first := by omega
  rw [e] at h
  exact h
theorem FifoI.cells {w : World} {fb room first over : Nat} {s : SF} {l : List SF} (h : FifoI w fb room first over (s :: l)) : ∀ k u, (frL s)[k]? = some u → w.cell? ⟨fb, first * 11 + k, none⟩ = some u := fun k u hk => by
  obtain ⟨cs, hh, hc⟩ := h
  have hf := hc.first
  have := hc.at_ 0 (by simp) k u hk
  have e : (first + 0) % 64 = first := by omega
  rw [e] at this
  exact cell_of_heap hh _ _ this
/-- What fifo.Pop answers and leaves. -/
def PopF (w : World) (fb room first over : Nat) (l : List SF) (e : Ending) (w' : World) : Prop :=
  (l = [] ∧ e = .returned (.tuple #[.agg zfL.toArray, .int .i64 9]) ∧ Below w.heap.size w w') ∨
  (∃ s r, l = s :: r ∧ e = .returned (.tuple #[.agg (frL s).toArray, .int .i64 0]) ∧ FifoI w' fb room ((first + 1) % 64) over r ∧ Turn [fb] w w')
theorem zfL_arr : (zfL.toArray : Array Value).all (·.oneCell') = true := by simp [zfL, Value.oneCell']
set_option maxRecDepth 100000 in
set_option maxHeartbeats 4000000 in
theorem fifoPop_any (w : World) (fb room first over : Nat) (l : List SF) (h : FifoI w fb room first over l) :
    Calls Try.prog 35 #[.pointer (some ⟨fb, 0, none⟩)] w (PopF w fb room first over l) := by
  cases l with
  | nil =>
    obtain ⟨cs, hh, hc⟩ := h
    have c706 : w.cell? ⟨fb, 706, none⟩ = some (.int .i64 0) := cell_of_heap hh 706 _ hc.c2
    have hfb := heap_lt hh
    clear hc hh
    go_enter Try.func35, Try.ntmps35
    go_wp2
    refine bodyPost_ret (v := .tuple #[.agg zfL.toArray, .int .i64 9]) (by simp [results, Try.results35, go_sem, zfL]) rfl (.inl ⟨rfl, rfl, ?_⟩)
    repeat (first | exact below_alloc (Below.refl _ _) _ | refine Below.setCell ?_ (by simp) _)
  | cons s l =>
    have HC := Lib.hid h
    have hcell := h.cells
    obtain ⟨cs, hh, hc⟩ := h
    have hf := hc.first
    have c705 : w.cell? ⟨fb, 705, none⟩ = some (.int .i64 first) := cell_of_heap hh 705 _ hc.c1
    have c706 : w.cell? ⟨fb, 706, none⟩ = some (.int .i64 ((l.length + 1 : Nat) : Int)) := cell_of_heap hh 706 _ hc.c2
    have hfb := heap_lt hh
    have hnr : l.length + 1 ≤ 64 := by have := hc.len; have := hc.room; simp at *; omega
    obtain ⟨n, hn⟩ : ∃ n, l.length = n := ⟨_, rfl⟩
    rw [hn] at c706 hnr
    have HN := Lib.hid hn
    have hne : (((n + 1 : Nat) : Int) == 0) = false := by rw [beq_eq_false_iff_ne]; omega
    have HHC := Lib.hid hc
    have HH := Lib.hid hh
    have a0 : w.cell? ⟨fb, first * 11, none⟩ = some (.int .i64 s.f.kind) := hcell 0 _ rfl
    have a1 := hcell 1 _ rfl
    have a2 := hcell 2 _ rfl
    have a3 := hcell 3 _ rfl
    have a4 := hcell 4 _ rfl
    have a5 := hcell 5 _ rfl
    have a6 := hcell 6 _ rfl
    have a7 := hcell 7 _ rfl
    have a8 := hcell 8 _ rfl
    have a9 := hcell 9 _ rfl
    have a10 := hcell 10 _ rfl
    clear hcell hc hh hn
    go_enter Try.func35, Try.ntmps35
    go_wp2_with fail
    refine calls_blk1 fun W1 q1 hb1 => ?_
    refine (fifoAt0_any W1 fb first (Below.cell_of hb1 c705) hf).mono ?_
    rintro e w1 ⟨rfl, hb⟩
    have hb2 := below_trans hb1 hb
    have Q1 := Lib.hid (heap_below hb q1)
    replace a0 := Below.cell_of hb2 a0
    replace a1 := Below.cell_of hb2 a1
    replace a2 := Below.cell_of hb2 a2
    replace a3 := Below.cell_of hb2 a3
    replace a4 := Below.cell_of hb2 a4
    replace a5 := Below.cell_of hb2 a5
    replace a6 := Below.cell_of hb2 a6
    replace a7 := Below.cell_of hb2 a7
    replace a8 := Below.cell_of hb2 a8
    replace a9 := Below.cell_of hb2 a9
    replace a10 := Below.cell_of hb2 a10
    have hfb1 : fb < w1.heap.size := Nat.lt_of_lt_of_le hfb hb2.size
    have HB1 := Lib.hid hb2
    have HH1 := Lib.hid (heap_below hb2 HH.out)
    clear hb hb1 q1 hb2 c705 c706
    go_wp2_with fail
    refine calls_blk1 fun W2 q2 hb2 => ?_
    refine (fifoAt0_any W2 fb first (Below.cell_of hb2 (cell_of_heap HH1.out 705 _ HHC.out.c1)) hf).mono ?_
    rintro e w2 ⟨rfl, hb⟩
    have hb3 := below_trans hb2 hb
    have R2 := Lib.hid (heap_below hb3 Q1.out)
    have F2 := Lib.hid (heap_below hb q2)
    have hne1 : w1.heap.size ≠ fb := by omega
    have hne0 : w.heap.size ≠ fb := by omega
    have hne2 : w.heap.size < w1.heap.size := heap_lt Q1.out
    have HB2 := Lib.hid (below_trans HB1.out hb3)
    have HH2 := Lib.hid (heap_below hb3 HH1.out)
    clear hb hb2 hb3 q2 a0 a1 a2 a3 a4 a5 a6 a7 a8 a9 a10
    have HT : Hid (w2.there fb (first * 11) 11) := there_of HH2.out _ _ (by rw [HHC.out.size]; omega)
    have HSC := Lib.hid (heap_setCells zfL (first * 11) HH2.out)
    have H1 := Lib.hid zfL_arr
    rename_i K0 hK0
    refine hK0 _ _ ?_
    refine wpList_plain rfl fun K hK => ?_
    go_simp
    refine hK _ _ ?_
    clear hK K
    refine wpList_plain rfl fun K hK => ?_
    go_simp
    refine hK _ _ ?_
    clear hK K
    refine wpList_plain rfl fun K hK => ?_
    refine wp_store_mid 42 (.tmp 23) (.tmp 22) rfl fb (first * 11) #[.int .i64 0, .int .u32 0, .bool false, .bool false, .bool false, .bool false, .bool false, .int .u8 0, .int .u8 0, .int .u32 0, .slice none 0 0] ?_ ?_ HT.out info_frame H1.out (hK _ _ ?_)
    · go_simp
    · go_simp
    simp only [Act.put]
    generalize hW5 : w2.setCells fb (first * 11) _ = W5
    have HSC5 : Hid (∃ ds : Array Value, W5.heap[fb]? = some (.cells ds 117 (0, 0)) ∧ ds.size = cs.size ∧ ∀ j, ds[j]? = if (first + 0) % 64 * 11 ≤ j ∧ j < (first + 0) % 64 * 11 + 11 ∧ j < cs.size then zfL[j - (first + 0) % 64 * 11]? else cs[j]?) := by
      have e : (first + 0) % 64 = first := by omega
      have := HSC.out
      rw [e]
      rw [← hW5]; exact this
    have HTU : Hid (Turn [fb] w2 W5) := by rw [← hW5]; exact Turn.setCells (.inl (by simp)) _ _ (Turn.refl _ _)
    clear hW5
    obtain ⟨ds, d1, d2, d3⟩ := HSC5.out
    have hm : (first + 0) % 64 < 64 := Nat.mod_lt _ (by omega)
    have c705 : W5.cell? ⟨fb, 705, none⟩ = some (.int .i64 first) := cell_of_heap d1 705 _ (by rw [d3, if_neg (by omega)]; exact HHC.out.c1)
    have c706 : W5.cell? ⟨fb, 706, none⟩ = some (.int .i64 ((n + 1 : Nat) : Int)) := cell_of_heap d1 706 _ (by rw [d3, if_neg (by omega)]; have := HHC.out.c2; simp only [List.length_cons] at this; rw [HN.out] at this; exact this)
    have zf : ∀ o, W5.frozen? ⟨fb, o, none⟩ = false := fun o => by simp [World.frozen?, d1]
    have r5 := HTU.out.heap R2.out (by simp; omega)
    have f5 := HTU.out.heap F2.out (by simp; omega)
    obtain ⟨r0, r1, r2, r3, r4, r5', r6, r7, r8, r9, r10⟩ := cells11 r5
    obtain ⟨f0, f1, f2, f3, f4, f5', f6, f7, f8, f9, f10⟩ := cells11 f5
    have zr : ∀ o, W5.frozen? ⟨w.heap.size, o, none⟩ = false := fun o => by simp [World.frozen?, r5]
    have D1 := Lib.hid d1
    have D2 := Lib.hid d2
    have D3 := Lib.hid d3
    clear d1 d2 d3 r5 f5 hm
    go_wp2_with fail
    refine bodyPost_ret (v := .tuple #[.agg (frL s).toArray, .int .i64 0]) (by simp [results, Try.results35, go_sem, frL, *]) rfl (.inr ⟨s, l, rfl, rfl, ⟨(ds.setIfInBounds 705 (.int .i64 (((first + 1) % 64 : Nat) : Int))).setIfInBounds 706 (.int .i64 l.length), ?_, FifoC.pop HHC.out D2.out D3.out⟩, ?_⟩)
    · repeat rw [Below.heap_setCell _ _ _ _ (show fb ≠ w.heap.size from Ne.symm hne0)]
      have h1 := heap_setCell (heap_setCell D1.out 705 (.int .i64 (((first + 1) % 64 : Nat) : Int))) 706 (.int .i64 n)
      rw [HN.out]
      simpa using h1
    · repeat (refine Turn.setCell ?_ (by simp) _)
      exact (Turn.of HB2.out).tr HTU.out
end Go.Proofs.Ytlmdkmflbhnlgaa
