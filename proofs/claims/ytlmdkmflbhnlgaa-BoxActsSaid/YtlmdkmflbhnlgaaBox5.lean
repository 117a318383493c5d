/- box.Report: what a box has counted. No condition. -/
import Derived.Test.YtlmdkmflbhnlgaaBox4
namespace Go.Proofs.Ytlmdkmflbhnlgaa
open Go.RowKit
def repL (T : BX) : List Value := [.int .i64 T.q.length, .int .i64 T.l.length, .int .i64 T.put, .int .i64 T.sent, .int .i64 T.gone, .int .i64 T.came, .int .i64 T.kept, .int .i64 T.refused, .int .i64 T.over, .int .i64 T.taken]
set_option maxRecDepth 100000 in
set_option maxHeartbeats 8000000 in
theorem Report_any (w : World) (base N : Nat) (ft : List Nat) (b : Nat) (T : BX) (h : BoxA w base N ft b T) :
    Calls Try.prog 18 #[.pointer (some ⟨b, 0, none⟩)] w fun e w' => e = .returned (.agg (repL T).toArray) ∧ Below w.heap.size w w' := by
  obtain ⟨qb, fb, RA, rc, QA, cap, ql, fl, first, fov, hI, -, -⟩ := h
  have hbl : b < w.heap.size := heap_lt hI.box
  have HI := Lib.hid hI
  have hql : ql.length = T.q.length := by have := hI.hq.length_eq; simpa using this
  have hfl : fl.length = T.l.length := by rw [← hI.hl]; simp
  have HQL := Lib.hid (fun W hW => qQLen_any W base qb T.oroom T.last cap QA ql hW)
  have HFL := Lib.hid (fun W hW => fifoLen_any W fb T.iroom first fov fl hW)
  rw [hql] at HQL
  rw [hfl] at HFL
  have c0 : w.cell? ⟨b, 5, none⟩ = some (.int .i64 0) := cell_of_heap hI.box 5 _ rfl
  have c1 : w.cell? ⟨b, 6, none⟩ = some (.int .i64 0) := cell_of_heap hI.box 6 _ rfl
  have c2 : w.cell? ⟨b, 7, none⟩ = some (.int .i64 T.put) := cell_of_heap hI.box 7 _ rfl
  have c3 : w.cell? ⟨b, 8, none⟩ = some (.int .i64 T.sent) := cell_of_heap hI.box 8 _ rfl
  have c4 : w.cell? ⟨b, 9, none⟩ = some (.int .i64 T.gone) := cell_of_heap hI.box 9 _ rfl
  have c5 : w.cell? ⟨b, 10, none⟩ = some (.int .i64 T.came) := cell_of_heap hI.box 10 _ rfl
  have c6 : w.cell? ⟨b, 11, none⟩ = some (.int .i64 T.kept) := cell_of_heap hI.box 11 _ rfl
  have c7 : w.cell? ⟨b, 12, none⟩ = some (.int .i64 T.refused) := cell_of_heap hI.box 12 _ rfl
  have c8 : w.cell? ⟨b, 13, none⟩ = some (.int .i64 T.over) := cell_of_heap hI.box 13 _ rfl
  have c9 : w.cell? ⟨b, 14, none⟩ = some (.int .i64 T.taken) := cell_of_heap hI.box 14 _ rfl
  simp only [repL]
  clear hI hql hfl
  generalize T.q.length = nq at *
  generalize T.l.length = nl at *
  go_enter Try.func18, Try.ntmps18
  go_wp2_with fail
  obtain ⟨W1, hW1, q1, hb1⟩ : ∃ W1, W1 = w.alloc (.cells #[.int .i64 0, .int .i64 0, .int .i64 0, .int .i64 0, .int .i64 0, .int .i64 0, .int .i64 0, .int .i64 0, .int .i64 0, .int .i64 0] 53) ∧ W1.heap[w.heap.size]? = some (.cells #[.int .i64 0, .int .i64 0, .int .i64 0, .int .i64 0, .int .i64 0, .int .i64 0, .int .i64 0, .int .i64 0, .int .i64 0, .int .i64 0] 53 (0, 0)) ∧ Below w.heap.size w W1 := ⟨_, rfl, heap_new_at rfl, below_alloc (Below.refl _ _) _⟩
  obtain ⟨W2, hW2, q2, hb2⟩ : ∃ W2, W2 = W1.alloc (.cells #[.int .i64 0, .int .i64 0, .int .i64 T.put, .int .i64 T.sent, .int .i64 T.gone, .int .i64 T.came, .int .i64 T.kept, .int .i64 T.refused, .int .i64 T.over, .int .i64 T.taken] 53) ∧ W2.heap[W1.heap.size]? = some (.cells #[.int .i64 0, .int .i64 0, .int .i64 T.put, .int .i64 T.sent, .int .i64 T.gone, .int .i64 T.came, .int .i64 T.kept, .int .i64 T.refused, .int .i64 T.over, .int .i64 T.taken] 53 (0, 0)) ∧ Below W1.heap.size W1 W2 := ⟨_, rfl, heap_new_at rfl, below_alloc (Below.refl _ _) _⟩
  have hs1 : W1.heap.size = w.heap.size + 1 := by rw [hW1]; simp
  rw [hs1] at q2
  rw [← hW1, ← hW2]
  have HB2 := Lib.hid (below_trans hb1 hb2)
  have q1' := heap_below hb2 q1
  have hbx := heap_below HB2.out HI.out.box
  have x2 : ∀ e : Ext W2, e.W.cell? ⟨b, 3, none⟩ = some (.pointer (some ⟨qb, 0, none⟩)) := fun e => ext_cell (cell_of_heap hbx 3 _ rfl) e
  have x3 : ∀ e : Ext W2, e.W.cell? ⟨b, 4, none⟩ = some (.pointer (some ⟨fb, 0, none⟩)) := fun e => ext_cell (cell_of_heap hbx 4 _ rfl) e
  have Q1 := Lib.hid q1'
  have Q2 := Lib.hid q2
  clear hW1 hW2 q1 q2 hb1 hb2 hs1 q1' hbx c0 c1 c2 c3 c4 c5 c6 c7 c8 c9
  refine wp_region_mix (fun w' => ∃ e : Ext W2, w' = e.W) [(true, 0), (true, 1), (true, 2), (true, 3), (true, 5), (true, 6), (true, 7), (true, 8), (false, 4), (true, 10), (false, 9)] [11, 12, 13] (by kernel_rfl) (by kernel_rfl) (by intro _ _ d _ _ h; cases d <;> exact h) ⟨⟨W2.drew, (Below.refl _ _).drew⟩, rfl⟩ ?_
  simp only [pickM, pickL, List.drop_succ_cons, List.drop_zero]
  repeat (first | (refine mix_pure (by rfl) (by rfl) ?_; intro K hK; go_big_quiet_op; go_big_quiet_on) | (refine mix_nilc ⟨b, 0, none⟩ (by rfl) (by kernel_rfl) ?_; go_simp))
  refine mix_eff (by rfl) ?_
  intro K hK
  go_simp
  refine (HQL.out _ ((HI.out.below HB2.out).below (Below.refl _ _).drew).queue.heap).mono ?_
  rintro e _ ⟨rfl, rfl⟩
  refine hK _ _ ⟨⟨W2.drew, (Below.refl _ _).drew⟩, rfl⟩ ?_
  clear hK K
  repeat (first | (refine mix_pure (by rfl) (by rfl) ?_; intro K hK; go_big_quiet_op; go_big_quiet_on) | (refine mix_nilc ⟨b, 0, none⟩ (by rfl) (by kernel_rfl) ?_; go_simp))
  refine mix_eff (by rfl) ?_
  intro K hK
  go_simp
  refine (HFL.out _ ((HI.out.below HB2.out).below (Below.refl _ _).drew).fifo).mono ?_
  rintro e _ ⟨rfl, rfl⟩
  refine hK _ _ ⟨⟨W2.drew, (Below.refl _ _).drew⟩, rfl⟩ ?_
  clear hK K x2 x3
  refine mix_nil ?_
  obtain ⟨W4, hW4⟩ : ∃ W4, W2.drew = W4 := ⟨_, rfl⟩
  have b1 : W4.heap[w.heap.size]? = some (.cells #[.int .i64 0, .int .i64 0, .int .i64 0, .int .i64 0, .int .i64 0, .int .i64 0, .int .i64 0, .int .i64 0, .int .i64 0, .int .i64 0] 53 (0, 0)) := by rw [← hW4]; exact Q1.out
  have b2 : W4.heap[w.heap.size + 1]? = some (.cells #[.int .i64 0, .int .i64 0, .int .i64 T.put, .int .i64 T.sent, .int .i64 T.gone, .int .i64 T.came, .int .i64 T.kept, .int .i64 T.refused, .int .i64 T.over, .int .i64 T.taken] 53 (0, 0)) := by rw [← hW4]; exact Q2.out
  have HB4 : Hid (Below w.heap.size w W4) := by rw [← hW4]; exact HB2.out.drew
  rw [hW4]
  have z1 : ∀ o, W4.frozen? ⟨w.heap.size, o, none⟩ = false := fun o => by simp [World.frozen?, b1]
  have z2 : ∀ o, W4.frozen? ⟨w.heap.size + 1, o, none⟩ = false := fun o => by simp [World.frozen?, b2]
  have r0 : W4.cell? ⟨w.heap.size, 0, none⟩ = some (.int .i64 0) := cell_of_heap b1 0 _ rfl
  have r1 : W4.cell? ⟨w.heap.size, 1, none⟩ = some (.int .i64 0) := cell_of_heap b1 1 _ rfl
  have r2 : W4.cell? ⟨w.heap.size, 2, none⟩ = some (.int .i64 0) := cell_of_heap b1 2 _ rfl
  have r3 : W4.cell? ⟨w.heap.size, 3, none⟩ = some (.int .i64 0) := cell_of_heap b1 3 _ rfl
  have r4 : W4.cell? ⟨w.heap.size, 4, none⟩ = some (.int .i64 0) := cell_of_heap b1 4 _ rfl
  have r5 : W4.cell? ⟨w.heap.size, 5, none⟩ = some (.int .i64 0) := cell_of_heap b1 5 _ rfl
  have r6 : W4.cell? ⟨w.heap.size, 6, none⟩ = some (.int .i64 0) := cell_of_heap b1 6 _ rfl
  have r7 : W4.cell? ⟨w.heap.size, 7, none⟩ = some (.int .i64 0) := cell_of_heap b1 7 _ rfl
  have r8 : W4.cell? ⟨w.heap.size, 8, none⟩ = some (.int .i64 0) := cell_of_heap b1 8 _ rfl
  have r9 : W4.cell? ⟨w.heap.size, 9, none⟩ = some (.int .i64 0) := cell_of_heap b1 9 _ rfl
  have s0 : W4.cell? ⟨w.heap.size + 1, 0, none⟩ = some (.int .i64 0) := cell_of_heap b2 0 _ rfl
  have s1 : W4.cell? ⟨w.heap.size + 1, 1, none⟩ = some (.int .i64 0) := cell_of_heap b2 1 _ rfl
  have s2 : W4.cell? ⟨w.heap.size + 1, 2, none⟩ = some (.int .i64 T.put) := cell_of_heap b2 2 _ rfl
  have s3 : W4.cell? ⟨w.heap.size + 1, 3, none⟩ = some (.int .i64 T.sent) := cell_of_heap b2 3 _ rfl
  have s4 : W4.cell? ⟨w.heap.size + 1, 4, none⟩ = some (.int .i64 T.gone) := cell_of_heap b2 4 _ rfl
  have s5 : W4.cell? ⟨w.heap.size + 1, 5, none⟩ = some (.int .i64 T.came) := cell_of_heap b2 5 _ rfl
  have s6 : W4.cell? ⟨w.heap.size + 1, 6, none⟩ = some (.int .i64 T.kept) := cell_of_heap b2 6 _ rfl
  have s7 : W4.cell? ⟨w.heap.size + 1, 7, none⟩ = some (.int .i64 T.refused) := cell_of_heap b2 7 _ rfl
  have s8 : W4.cell? ⟨w.heap.size + 1, 8, none⟩ = some (.int .i64 T.over) := cell_of_heap b2 8 _ rfl
  have s9 : W4.cell? ⟨w.heap.size + 1, 9, none⟩ = some (.int .i64 T.taken) := cell_of_heap b2 9 _ rfl
  clear hW4 b1 b2
  go_wp2_with fail
  refine bodyPost_ret (v := .agg #[.int .i64 nq, .int .i64 nl, .int .i64 T.put, .int .i64 T.sent, .int .i64 T.gone, .int .i64 T.came, .int .i64 T.kept, .int .i64 T.refused, .int .i64 T.over, .int .i64 T.taken]) (by simp [results, Try.results18, go_sem, *]) rfl ⟨rfl, ?_⟩
  repeat (refine Below.setCell ?_ (by simp) _)
  exact HB4.out
end Go.Proofs.Ytlmdkmflbhnlgaa
