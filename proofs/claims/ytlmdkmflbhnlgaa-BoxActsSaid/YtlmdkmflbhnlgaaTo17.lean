/- omnibuslaw15.To, omnibuslaw17.To: a bank, and what a box is to be, for the program. No condition. -/
import Derived.Test.YtlmdkmflbhnlgaaAppK
import Derived.Test.YtlmdkmflbhnlgaaBox2
import Derived.Test.YtlmdkmflbhnlgaaBox3
namespace Go.Proofs.Ytlmdkmflbhnlgaa
open Go.RowKit
theorem own_blk {w : World} {base e size n c : Nat} {A : Option Addr} {xs : List Value} (h : w.ownsRow base e size (.slice A n c) n xs) : ∀ k ∈ blkA A, base ≤ k := by
  intro k hk
  rcases h.2 with ⟨hv, -⟩ | ⟨g, cap, cur, hv, hg, -⟩
  · injection hv with hv; subst hv; simp [blkA] at hk
  · injection hv with hv; subst hv; simp [blkA] at hk; omega
theorem own_turn {w w' : World} {s : List Nat} {base e size n c : Nat} {A : Option Addr} {xs : List Value} (h : w.ownsRow base e size (.slice A n c) n xs) (ht : Turn s w w') (hd : ∀ k ∈ blkA A, k ∉ s) : w'.ownsRow base e size (.slice A n c) n xs := by
  obtain ⟨h1, h2⟩ := h
  refine ⟨h1, h2.imp id ?_⟩
  rintro ⟨g, cap, cur, hv, hg, hh, r⟩
  refine ⟨g, cap, cur, hv, hg, ht.heap hh (hd g ?_), r⟩
  injection hv with hv
  subst hv
  simp [blkA]
/-- The loop's state. -/
structure ToI (w wr : World) (rs : List Ru) (els : Bool) (k : Nat) (A : Option Addr) (c : Nat) : Prop where
  res : wr.heap[w.heap.size + 1]? = some (.cells #[.slice none 0 0, .bool false] 35 (0, 0))
  out : wr.heap[w.heap.size + 1 + 1]? = some (.cells #[.slice A k c, .bool els] 35 (0, 0))
  own : wr.ownsRow (w.heap.size + 3) 91 10 (.slice A k c) k ((rs.take k).flatMap ruL)
  below : Below w.heap.size w wr
/-- What To leaves. -/
def ToOf (w : World) (rs : List Ru) (els : Bool) (e : Ending) (w' : World) : Prop := (∃ A c, e = .returned (.agg #[.slice A rs.length c, .bool els]) ∧ RRow w' w.heap.size A c rs) ∧ Below w.heap.size w w'
set_option maxRecDepth 100000 in
set_option maxHeartbeats 8000000 in
theorem To15_any (w : World) (A : Option Addr) (n c : Nat) (els : Bool) (rs : List Ru) (hr : RdRu w A rs) (hn : rs.length = n) (hb : n * 32 ≤ 140737488351232) :
    Calls Try.prog 32 #[.agg #[.slice A n c, .bool els]] w (ToOf w rs els) := by
  obtain ⟨i0, hi, hz0, hz1, hz2⟩ := info_rule
  have HR := Lib.hid hr
  have HN := Lib.hid hn
  have hn63 : (n : Int) ≤ 140737488351232 := by omega
  clear hr hn
  go_enter Try.func32, Try.ntmps32
  go_wp2_with fail
  have H0 : Hid (ToI w (((w.alloc (.cells #[.slice A n c, .bool els] 24)).alloc (.cells #[.slice none 0 0, .bool false] 35)).alloc (.cells #[.slice none 0 0, .bool els] 35)) rs els 0 none 0) :=
    ⟨heap_push (heap_new_at (by simp)), heap_new_at (by simp), ⟨by simp, .inl ⟨rfl, rfl⟩⟩, below_alloc (below_alloc (below_alloc (Below.refl _ _) _) _) _⟩
  go_loopw [12] (fun v wr => ∃ (k : Nat) (A' : Option Addr) (c' : Nat), k ≤ n ∧ v = .int .i64 k ∧ Hid (ToI w wr rs els k A' c')) (fun v _ => n - (intOf v).toNat)
  case atStart => exact ⟨0, none, 0, by omega, rfl, H0⟩
  case round =>
    obtain ⟨k, A', c', hk, rfl, HI⟩ := hrel
    by_cases hkn : k < n
    · have hkl : k < rs.length := by rw [HN.out]; exact hkn
      obtain ⟨ad, rfl, a0, a1, a2, a3, a4, a5, a6, a7, a8, a9⟩ := (HR.out.below HI.out.below).at_ k hkl (k * 10) rfl
      have htk : (rs.take (k + 1)).flatMap ruL = (rs.take k).flatMap ruL ++ ruL rs[k] := by
        rw [List.take_succ_eq_append_getElem hkl, List.flatMap_append]; simp
      obtain ⟨x, hx⟩ : ∃ x, rs[k]'hkl = x := ⟨_, rfl⟩
      rw [hx] at a0 a1 a2 a3 a4 a5 a6 a7 a8 a9 htk
      have HTK := Lib.hid htk
      have o0 : wr.cell? ⟨w.heap.size + 1 + 1, 0, none⟩ = some (.slice A' k c') := cell_of_heap HI.out.out 0 _ rfl
      have z0 : wr.frozen? ⟨w.heap.size + 1 + 1, 0, none⟩ = false := by simp [World.frozen?, HI.out.out]
      have hsz : w.heap.size + 1 + 1 < wr.heap.size := heap_lt HI.out.out
      have HONE := Lib.hid (ruL_one x)
      have HNB : Hid (∀ q, q < w.heap.size + 3 → q ∉ blkA A') := fun q hq hm => by have := own_blk HI.out.own q hm; omega
      clear htk hx
      go_wp2_with (at_builtin; refine wpList_appK rfl (.tmp 17) (.tmp 19) 33 rfl (w.heap.size + 3) 91 i0 _ 10 32 Try.underlying33 hi hz0 hz1 hz2 rfl (by omega) A' k c' _ rfl ((HI.out.own.alloc _).alloc _) (wr.heap.size + 1) _ _ (ruL x) rfl (heap_new_at (by simp)) rfl HONE.out (by unfold maxLen; omega) (by omega) (by simp; omega) ?_; intro w3 A3 c3 HO3 HT3 HF3; have h3 := HT3.out.heap (heap_push (heap_push HI.out.out)) (HNB.out _ (by omega)); have o3 := cell_of_heap h3 0 _ rfl; have z3 : w3.frozen? ⟨w.heap.size + 1 + 1, 0, none⟩ = false := by simp [World.frozen?, h3])
      go_roundw
      case rel =>
        refine ⟨k + 1, A3, c3, by omega, by go_num, ?_⟩
        have h3 := HT3.out.heap (heap_push (heap_push HI.out.out)) (HNB.out _ (by omega))
        have h1 := HT3.out.heap (heap_push (heap_push HI.out.res)) (HNB.out _ (by omega))
        have t4 : Turn [w.heap.size + 1 + 1] w3 (w3.setCell ⟨w.heap.size + 1 + 1, 0, none⟩ (.slice A3 (k + 1 : Nat) c3)) := (Turn.refl _ _).setCell (p := ⟨w.heap.size + 1 + 1, 0, none⟩) (.inl (by simp)) _
        have hbl : Below w.heap.size w w3 := by
          have h2 : Below wr.heap.size wr ((wr.alloc (.cells #[.int .i64 x.kinds, .int .u32 x.id, .int .u32 x.idm, .int .u8 x.sdt, .int .u8 x.sdtm, .int .u8 x.vcid, .int .u8 x.vcidm, .int .u32 x.af, .int .u32 x.afm, .bool x.inn] 120)).alloc (.cells #[.int .i64 x.kinds, .int .u32 x.id, .int .u32 x.idm, .int .u8 x.sdt, .int .u8 x.sdtm, .int .u8 x.vcid, .int .u8 x.vcidm, .int .u32 x.af, .int .u32 x.afm, .bool x.inn] 91)) := below_alloc (below_alloc (Below.refl _ _) _) _
          have h5 := HT3.out.below (base := w.heap.size) (fun q hq => by have := own_blk HI.out.own q hq; omega) (by simp; omega)
          exact (below_trans HI.out.below h2).trans h5
        refine ⟨t4.heap h1 (by simp), ?_, ?_, hbl.setCell (by simp; omega) _⟩
        · have := heap_setCell h3 0 (.slice A3 (k + 1 : Nat) c3)
          rw [this]; rfl
        · have ho := HO3.out
          rw [← HTK.out] at ho
          exact own_turn ho t4 (fun q hq => by
            rcases HF3.out q hq with h | h
            · have := own_blk HI.out.own q h; simp; omega
            · simp at h; simp; omega)
      case measure => simp [intOf]; omega
    · obtain rfl : k = n := by omega
      have r0 : wr.cell? ⟨w.heap.size + 1, 0, none⟩ = some (.slice none 0 0) := cell_of_heap HI.out.res 0 _ rfl
      have r1 : wr.cell? ⟨w.heap.size + 1, 1, none⟩ = some (.bool false) := cell_of_heap HI.out.res 1 _ rfl
      have zr : ∀ o, wr.frozen? ⟨w.heap.size + 1, o, none⟩ = false := fun o => by simp [World.frozen?, HI.out.res]
      have o0 : wr.cell? ⟨w.heap.size + 1 + 1, 0, none⟩ = some (.slice A' k c') := cell_of_heap HI.out.out 0 _ rfl
      have o1 : wr.cell? ⟨w.heap.size + 1 + 1, 1, none⟩ = some (.bool els) := cell_of_heap HI.out.out 1 _ rfl
      go_wp2_with fail
      refine bodyPost_ret (v := .agg #[.slice A' k c', .bool els]) (by simp [results, Try.results32, go_sem, *]) rfl ⟨⟨A', c', by rw [HN.out], ?_⟩, ?_⟩
      · have ho := HI.out.own
        have e : rs.take k = rs := by rw [← HN.out]; exact List.take_length
        rw [e] at ho
        have hturn : ∀ W, Turn [w.heap.size + 1] wr W → RRow W w.heap.size A' c' rs := fun W ht => by
          obtain ⟨A2, c2, e2, h2⟩ := RRow.of (own_turn ho ht (fun q hq => by have := own_blk HI.out.own q hq; simp; omega)) HN.out
          obtain ⟨rfl, rfl⟩ : A' = A2 ∧ c' = c2 := by injection e2 with e3 _ e4; exact ⟨e3, e4⟩
          rcases h2 with h | ⟨g, cur, h1, h2, h3, h4⟩
          · exact .inl h
          · exact .inr ⟨g, cur, h1, h2, by omega, h4⟩
        refine hturn _ ?_
        repeat (refine Turn.setCell ?_ (by simp) _)
        exact Turn.refl _ _
      · repeat (refine Below.setCell ?_ (by simp) _)
        exact HI.out.below
end Go.Proofs.Ytlmdkmflbhnlgaa
namespace Go.Proofs.Ytlmdkmflbhnlgaa
open Go.RowKit
/-- What To leaves. -/
def To17Of (w : World) (out inn : Int) (rs : List Ru) (els xl : Bool) (e : Ending) (w' : World) : Prop := (∃ A c, e = .returned (confV out inn A rs.length c els xl) ∧ RRow w' w.heap.size A c rs) ∧ Below w.heap.size w w'
theorem info_conf : (Try.prog.info? 37).map (·.size) = some 5 := by kernel_rfl
theorem conf_one (out inn : Int) (A : Option Addr) (n c : Nat) (els xl : Bool) : (#[.int .i64 out, .int .i64 inn, .slice A n c, .bool els, .bool xl] : Array Value).all (·.oneCell') = true := by simp [Value.oneCell']
set_option maxRecDepth 100000 in
set_option maxHeartbeats 8000000 in
theorem To17_any (w : World) (out inn : Int) (A : Option Addr) (n c : Nat) (els xl : Bool) (rs : List Ru) (hr : RdRu w A rs) (hn : rs.length = n) (hb : n * 32 ≤ 140737488351232) :
    Calls Try.prog 11 #[confV out inn A n c els xl] w (To17Of w out inn rs els xl) := by
  have HT := Lib.hid (fun W hW => To15_any W A n c els rs hW hn hb)
  have HR := Lib.hid hr
  have HN := Lib.hid hn
  clear hr hn
  dsimp only [confV]
  go_enter Try.func11, Try.ntmps11
  go_wp2_with fail
  obtain ⟨W0, hW0, q1, q2, hb0⟩ : ∃ W0, W0 = (w.alloc (.cells #[.int .i64 out, .int .i64 inn, .slice A n c, .bool els, .bool xl] 26)).alloc (.cells #[.int .i64 0, .int .i64 0, .slice none 0 0, .bool false, .bool false] 37) ∧
      W0.heap[w.heap.size]? = some (.cells #[.int .i64 out, .int .i64 inn, .slice A n c, .bool els, .bool xl] 26 (0, 0)) ∧ W0.heap[w.heap.size + 1]? = some (.cells #[.int .i64 0, .int .i64 0, .slice none 0 0, .bool false, .bool false] 37 (0, 0)) ∧ Below w.heap.size w W0 :=
    ⟨_, rfl, heap_push (heap_new_at rfl), heap_new_at (by simp), below_alloc (below_alloc (Below.refl _ _) _) _⟩
  rw [← hW0]
  have x0 : ∀ e : Ext W0, e.W.cell? ⟨w.heap.size, 0, none⟩ = some (.int .i64 out) := fun e => ext_cell (cell_of_heap q1 0 _ rfl) e
  have x1 : ∀ e : Ext W0, e.W.cell? ⟨w.heap.size, 1, none⟩ = some (.int .i64 inn) := fun e => ext_cell (cell_of_heap q1 1 _ rfl) e
  have x2 : ∀ e : Ext W0, e.W.cell? ⟨w.heap.size, 2, none⟩ = some (.slice A n c) := fun e => ext_cell (cell_of_heap q1 2 _ rfl) e
  have x3 : ∀ e : Ext W0, e.W.cell? ⟨w.heap.size, 3, none⟩ = some (.bool els) := fun e => ext_cell (cell_of_heap q1 3 _ rfl) e
  have x4 : ∀ e : Ext W0, e.W.cell? ⟨w.heap.size, 4, none⟩ = some (.bool xl) := fun e => ext_cell (cell_of_heap q1 4 _ rfl) e
  have HB := Lib.hid hb0
  have Q2 := Lib.hid q2
  have hsz : w.heap.size + 1 < W0.heap.size := heap_lt q2
  clear q1 q2 hb0 hW0
  refine wp_region_mix (fun w' => ∃ e : Ext W0, w' = e.W) [(true, 0), (true, 1), (true, 2), (true, 3), (true, 4), (true, 5), (true, 7), (true, 8), (false, 6), (true, 9)] [10] (by kernel_rfl) (by kernel_rfl) (by intro _ _ d _ _ h; cases d <;> exact h) ⟨⟨W0.drew, (Below.refl _ _).drew⟩, rfl⟩ ?_
  simp only [pickM, pickL, List.drop_succ_cons, List.drop_zero]
  repeat (refine mix_pure (by rfl) (by rfl) ?_; intro K hK; go_big_quiet_op; go_big_quiet_on)
  refine mix_eff (by rfl) ?_
  intro K hK
  go_simp
  refine (HT.out _ (HR.out.below (below_trans HB.out (Below.refl _ _).drew))).mono ?_
  rintro e w1 ⟨⟨A', c', rfl, hrow⟩, hb1⟩
  have hb01 : Below W0.heap.size W0 w1 := below_trans (Below.refl _ _).drew hb1
  refine hK _ _ ⟨⟨w1, hb01⟩, rfl⟩ ?_
  clear hK K
  rw [HN.out]
  repeat (refine mix_pure (by rfl) (by rfl) ?_; intro K hK; go_big_quiet_op; go_big_quiet_on)
  refine mix_nil ?_
  have HH := Lib.hid (heap_below hb01 Q2.out)
  have HROW : Hid (RRow w1 (w.heap.size + 2) A' c' rs) := by
    rcases hrow with h | ⟨g, cur, h1, h2, h3, h4⟩
    · exact .inl h
    · have h3 : W0.heap.size ≤ g := h3
      exact .inr ⟨g, cur, h1, h2, by omega, h4⟩
  have HB1 := Lib.hid (below_trans HB.out hb01)
  have HT1 : Hid (w1.there (w.heap.size + 1) 0 5) := there_of HH.out _ _ (by simp)
  have HSC := Lib.hid (heap_setCells [.int .i64 out, .int .i64 inn, .slice A' n c', .bool els, .bool xl] 0 HH.out)
  have H1 := Lib.hid (conf_one out inn A' n c' els xl)
  clear hrow hb1 hb01 x0 x1 x2 x3 x4
  refine wpList_plain rfl fun K hK => ?_
  refine wp_store_mid 37 (.tmp 2) (.tmp 12) rfl (w.heap.size + 1) 0 #[.int .i64 out, .int .i64 inn, .slice A' n c', .bool els, .bool xl] ?_ ?_ HT1.out info_conf H1.out (hK _ _ ?_)
  · go_simp
  · go_simp
  simp only [Act.put]
  generalize hW5 : w1.setCells (w.heap.size + 1) 0 _ = W5
  have HSC5 : Hid (∃ ds : Array Value, W5.heap[w.heap.size + 1]? = some (.cells ds 37 (0, 0)) ∧ ∀ j, j < 5 → ds[j]? = [Value.int .i64 out, .int .i64 inn, .slice A' n c', .bool els, .bool xl][j]?) := by
    obtain ⟨ds, d1, d2, d3⟩ := HSC.out
    refine ⟨ds, by rw [← hW5]; exact d1, fun j hj => ?_⟩
    rw [d3 j, if_pos (by simp; omega), Nat.sub_zero]
  have HTU : Hid (Turn [w.heap.size + 1] w1 W5) := by rw [← hW5]; exact Turn.setCells (.inl (by simp)) _ _ (Turn.refl _ _)
  clear hW5
  obtain ⟨ds, d1, d3⟩ := HSC5.out
  have b0 : W5.cell? ⟨w.heap.size + 1, 0, none⟩ = some (.int .i64 out) := cell_of_heap d1 0 _ (d3 0 (by omega))
  have b1 : W5.cell? ⟨w.heap.size + 1, 1, none⟩ = some (.int .i64 inn) := cell_of_heap d1 1 _ (d3 1 (by omega))
  have b2 : W5.cell? ⟨w.heap.size + 1, 2, none⟩ = some (.slice A' n c') := cell_of_heap d1 2 _ (d3 2 (by omega))
  have b3 : W5.cell? ⟨w.heap.size + 1, 3, none⟩ = some (.bool els) := cell_of_heap d1 3 _ (d3 3 (by omega))
  have b4 : W5.cell? ⟨w.heap.size + 1, 4, none⟩ = some (.bool xl) := cell_of_heap d1 4 _ (d3 4 (by omega))
  clear d1 d3
  go_wp2_with fail
  refine bodyPost_ret (v := .agg #[.int .i64 out, .int .i64 inn, .slice A' n c', .bool els, .bool xl]) (by simp [results, Try.results11, go_sem, *]) rfl ⟨⟨A', c', by simp only [confV]; rw [HN.out], ?_⟩, ?_⟩
  · rcases HROW.out with h | ⟨g, cur, h1, h2, h3, h4⟩
    · exact .inl h
    · exact .inr ⟨g, cur, h1, HTU.out.heap h2 (by simp; omega), by omega, h4⟩
  · exact HB1.out.trans (HTU.out.below (by simp) (by have := HB1.out.size; omega))
end Go.Proofs.Ytlmdkmflbhnlgaa
