/- omnibuslaw17.To: what a box is to be, for the program. No condition. -/
import Derived.Test.YtlmdkmflbhnlgaaTo
import Derived.Test.YtlmdkmflbhnlgaaBox3
namespace Go.Proofs.Ytlmdkmflbhnlgaa
open Go.RowKit
/-- What To leaves. -/
def To17Of (w : World) (out inn : Int) (rs : List Ru) (els xl : Bool) (e : Ending) (w' : World) : Prop := (∃ A c, e = .returned (confV out inn A rs.length c els xl) ∧ RRow w' w.heap.size A c rs) ∧ Below w.heap.size w w'
theorem info_conf : (Try.prog.info? 37).map (·.size) = some 5 := by kernel_rfl
theorem conf_one (out inn : Int) (A : Option Addr) (n c : Nat) (els xl : Bool) : (#[.int .i64 out, .int .i64 inn, .slice A n c, .bool els, .bool xl] : Array Value).all (·.oneCell') = true := by simp [Value.oneCell']
set_option maxRecDepth 100000 in
set_option maxHeartbeats 8000000 in
theorem To17_any (w : World) (out inn : Int) (A : Option Addr) (n c : Nat) (els xl : Bool) (rs : List Ru) (hr : RdRu w A rs) (hn : rs.length = n) (hb : n * 32 ≤ 140737488351232) :
    Calls Try.prog 11 #[confV out inn A n c els xl] w (To17Of w out inn rs els xl) := by
  have HT := Lib.hid (fun W hW => To15_any W A n c els rs hW hn hb)
  have HR := Lib.hid hr
  have HN := Lib.hid hn
  clear hr hn
  dsimp only [confV]
  go_enter Try.func11, Try.ntmps11
  go_wp2_with fail
  obtain ⟨W0, hW0, q1, q2, hb0⟩ : ∃ W0, W0 = (w.alloc (.cells #[.int .i64 out, .int .i64 inn, .slice A n c, .bool els, .bool xl] 26)).alloc (.cells #[.int .i64 0, .int .i64 0, .slice none 0 0, .bool false, .bool false] 37) ∧
      W0.heap[w.heap.size]? = some (.cells #[.int .i64 out, .int .i64 inn, .slice A n c, .bool els, .bool xl] 26 (0, 0)) ∧ W0.heap[w.heap.size + 1]? = some (.cells #[.int .i64 0, .int .i64 0, .slice none 0 0, .bool false, .bool false] 37 (0, 0)) ∧ Below w.heap.size w W0 :=
    ⟨_, rfl, heap_push (heap_new_at rfl), heap_new_at (by simp), below_alloc (below_alloc (Below.refl _ _) _) _⟩
  rw [← hW0]
  have x0 : ∀ e : Ext W0, e.W.cell? ⟨w.heap.size, 0, none⟩ = some (.int .i64 out) := fun e => ext_cell (cell_of_heap q1 0 _ rfl) e
  have x1 : ∀ e : Ext W0, e.W.cell? ⟨w.heap.size, 1, none⟩ = some (.int .i64 inn) := fun e => ext_cell (cell_of_heap q1 1 _ rfl) e
  have x2 : ∀ e : Ext W0, e.W.cell? ⟨w.heap.size, 2, none⟩ = some (.slice A n c) := fun e => ext_cell (cell_of_heap q1 2 _ rfl) e
  have x3 : ∀ e : Ext W0, e.W.cell? ⟨w.heap.size, 3, none⟩ = some (.bool els) := fun e => ext_cell (cell_of_heap q1 3 _ rfl) e
  have x4 : ∀ e : Ext W0, e.W.cell? ⟨w.heap.size, 4, none⟩ = some (.bool xl) := fun e => ext_cell (cell_of_heap q1 4 _ rfl) e
  have HB := Lib.hid hb0
  have Q2 := Lib.hid q2
  have hsz : w.heap.size + 1 < W0.heap.size := heap_lt q2
  clear q1 q2 hb0 hW0
  refine wp_region_mix (fun w' => ∃ e : Ext W0, w' = e.W) [(true, 0), (true, 1), (true, 2), (true, 3), (true, 4), (true, 5), (true, 7), (true, 8), (false, 6), (true, 9)] [10] (by kernel_rfl) (by kernel_rfl) (by intro _ _ d _ _ h; cases d <;> exact h) ⟨⟨W0.drew, (Below.refl _ _).drew⟩, rfl⟩ ?_
  simp only [pickM, pickL, List.drop_succ_cons, List.drop_zero]
  repeat (refine mix_pure (by rfl) (by rfl) ?_; intro K hK; go_big_quiet_op; go_big_quiet_on)
  refine mix_eff (by rfl) ?_
  intro K hK
  go_simp
  refine (HT.out _ (HR.out.below (below_trans HB.out (Below.refl _ _).drew))).mono ?_
  rintro e w1 ⟨⟨A', c', rfl, hrow⟩, hb1⟩
  have hb01 : Below W0.heap.size W0 w1 := below_trans (Below.refl _ _).drew hb1
  refine hK _ _ ⟨⟨w1, hb01⟩, rfl⟩ ?_
  clear hK K
  rw [HN.out]
  repeat (refine mix_pure (by rfl) (by rfl) ?_; intro K hK; go_big_quiet_op; go_big_quiet_on)
  refine mix_nil ?_
  have HH := Lib.hid (heap_below hb01 Q2.out)
  have HROW : Hid (RRow w1 (w.heap.size + 2) A' c' rs) := by
    rcases hrow with h | ⟨g, cur, h1, h2, h3, h4⟩
    · exact .inl h
    · have h3 : W0.heap.size ≤ g := h3
      exact .inr ⟨g, cur, h1, h2, by omega, h4⟩
  have HB1 := Lib.hid (below_trans HB.out hb01)
  have HT1 : Hid (w1.there (w.heap.size + 1) 0 5) := there_of HH.out _ _ (by simp)
  have HSC := Lib.hid (heap_setCells [.int .i64 out, .int .i64 inn, .slice A' n c', .bool els, .bool xl] 0 HH.out)
  have H1 := Lib.hid (conf_one out inn A' n c' els xl)
  clear hrow hb1 hb01 x0 x1 x2 x3 x4
  refine wpList_plain rfl fun K hK => ?_
  refine wp_store_mid 37 (.tmp 2) (.tmp 12) rfl (w.heap.size + 1) 0 #[.int .i64 out, .int .i64 inn, .slice A' n c', .bool els, .bool xl] ?_ ?_ HT1.out info_conf H1.out (hK _ _ ?_)
  · go_simp
  · go_simp
  simp only [Act.put]
  generalize hW5 : w1.setCells (w.heap.size + 1) 0 _ = W5
  have HSC5 : Hid (∃ ds : Array Value, W5.heap[w.heap.size + 1]? = some (.cells ds 37 (0, 0)) ∧ ∀ j, j < 5 → ds[j]? = [Value.int .i64 out, .int .i64 inn, .slice A' n c', .bool els, .bool xl][j]?) := by
    obtain ⟨ds, d1, d2, d3⟩ := HSC.out
    refine ⟨ds, by rw [← hW5]; exact d1, fun j hj => ?_⟩
    rw [d3 j, if_pos (by simp; omega), Nat.sub_zero]
  have HTU : Hid (Turn [w.heap.size + 1] w1 W5) := by rw [← hW5]; exact Turn.setCells (.inl (by simp)) _ _ (Turn.refl _ _)
  clear hW5
  obtain ⟨ds, d1, d3⟩ := HSC5.out
  have b0 : W5.cell? ⟨w.heap.size + 1, 0, none⟩ = some (.int .i64 out) := cell_of_heap d1 0 _ (d3 0 (by omega))
  have b1 : W5.cell? ⟨w.heap.size + 1, 1, none⟩ = some (.int .i64 inn) := cell_of_heap d1 1 _ (d3 1 (by omega))
  have b2 : W5.cell? ⟨w.heap.size + 1, 2, none⟩ = some (.slice A' n c') := cell_of_heap d1 2 _ (d3 2 (by omega))
  have b3 : W5.cell? ⟨w.heap.size + 1, 3, none⟩ = some (.bool els) := cell_of_heap d1 3 _ (d3 3 (by omega))
  have b4 : W5.cell? ⟨w.heap.size + 1, 4, none⟩ = some (.bool xl) := cell_of_heap d1 4 _ (d3 4 (by omega))
  clear d1 d3
  go_wp2_with fail
  refine bodyPost_ret (v := .agg #[.int .i64 out, .int .i64 inn, .slice A' n c', .bool els, .bool xl]) (by simp [results, Try.results11, go_sem, *]) rfl ⟨⟨A', c', by simp only [confV]; rw [HN.out], ?_⟩, ?_⟩
  · rcases HROW.out with h | ⟨g, cur, h1, h2, h3, h4⟩
    · exact .inl h
    · exact .inr ⟨g, cur, h1, HTU.out.heap h2 (by simp; omega), by omega, h4⟩
  · exact HB1.out.trans (HTU.out.below (by simp) (by have := HB1.out.size; omega))
end Go.Proofs.Ytlmdkmflbhnlgaa
