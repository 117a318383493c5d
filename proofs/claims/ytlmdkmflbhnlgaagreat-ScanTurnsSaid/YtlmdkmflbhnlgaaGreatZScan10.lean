/- Words, walks and plain facts that several laws need, part 10: each with its own head. No condition. -/
import Derived.Test.YtlmdkmflbhnlgaaGreatZScan9
-- ScanU: The machine's first part: how a bit is taken. No condition.
namespace Go.Proofs.YtlmdkmflbhnlgaaGreat
open Go.RowKit
variable {w : World} {s : List Nat} {mp : Nat} {S : MS} {a : MA}
theorem NxtFits.congr {S' : MS} {x : Nxt} (h : NxtFits S x) (hn : S'.need = S.need) (hf : S'.f = S.f) : NxtFits S' x := by
  cases x <;> simp only [NxtFits, hn, hf] at h ⊢ <;> exact h
theorem wpList_appU {W : World} {ops : Array Oper} {rest : List Oper} {o : Oper} {f : Act} {Q : Exit → Act → World → Prop} (hgd : o.guard = none) (sl x : Operand)
    (ho : o.op = .call { callee := .builtin .append, args := #[sl, x], argTypes := #[22, 22] })
    (A : Option Addr) (n c : Nat) (l : List Nat) (hs : f.eval sl = .slice A n c) (hown : Row W 0 5 A c (bys l)) (hn : l.length = n) (q d b : Nat) (hx : f.eval x = .slice (some ⟨q, 0, none⟩) 1 d) (hq : W.heap[q]? = some (.cells #[.int .u8 b] 5 (0, 0))) (h63 : n ≤ 100000)
    (h : ∀ (w3 : World) (A3 : Option Addr) (c3 : Nat), Hid (Row w3 0 5 A3 c3 (bys (l ++ [b]))) → Hid (Turn (blkA A) W w3) → Hid (∀ k ∈ blkA A3, k ∈ blkA A ∨ W.heap.size ≤ k) → wpList Tryz.prog ops Q rest (f.put o.dst (.slice A3 (n + 1 : Nat) c3)) w3) : wpList Tryz.prog ops Q (o :: rest) f W :=
  wpList_plain hgd fun _ hK => oper_appU sl x ho A n c l hs hown hn q d b hx hq h63 fun w3 A3 c3 h1 h2 h3 => hK _ _ (h w3 A3 c3 h1 h2 h3)
theorem MR.c17 (h : MR w s mp S a) : w.cell? ⟨mp, 17, none⟩ = some (.slice a.rA S.raw.length a.rc) := h.cell 17 _ rfl
theorem MR.notmp (h : MR w s mp S a) {A : Option Addr} {c : Nat} {l : List Nat} (hR : RowU w s A c l) : mp ∉ blkA A := fun hm => hR.1.ne_ty h.cells (by decide) mp hm rfl
set_option maxRecDepth 100000 in
set_option maxHeartbeats 8000000 in
theorem mDynamic (h : MR w s mp S a) (b n k : Nat) (hn : S.raw.length = n) (hn2 : n ≤ 30000) (hk : S.l.length = k) (hk2 : k ≤ 999) (hb : b ≤ 1) (hl01 : ∀ x ∈ S.l, x ≤ 1) (need : Nat) (hnd : S.need = need) (hf : NxtFits S S.next) :
    Calls Tryz.prog 25 #[.pointer (some ⟨mp, 0, none⟩), .int .u8 b] w (MDone w s mp (dynM S b)) := by
  obtain ⟨j, hj⟩ : ∃ j, n - 5 = j := ⟨_, rfl⟩
  obtain ⟨d, hd⟩ : ∃ d, n - j = d := ⟨_, rfl⟩
  have hlen1 : (S.raw ++ [b]).length = n + 1 := by simp [hn]
  have hlen2 : (S.l ++ [b]).length = k + 1 := by simp [hk]
  have HDS1 : Hid (∀ A3 c3, (mca S a).setIfInBounds 17 (.slice A3 (n + 1 : Nat) c3) = mca { S with raw := S.raw ++ [b] } { a with rA := A3, rc := c3 }) := by
    show ∀ A3 c3, _
    intro A3 c3; rw [← hlen1]; rfl
  have HDS2 : Hid (∀ A3 c3 A4 c4, (mca { S with raw := S.raw ++ [b] } { a with rA := A3, rc := c3 }).setIfInBounds 18 (.slice A4 (k + 1 : Nat) c4) = mca { S with raw := S.raw ++ [b], l := S.l ++ [b] } { a with rA := A3, rc := c3, lA := A4, lc := c4 }) := by
    show ∀ A3 c3 A4 c4, _
    intro A3 c3 A4 c4; rw [← hlen2]; rfl
  have hdl : (S.raw.drop j).length = d := by rw [List.length_drop, hn]; exact hd
  obtain ⟨F, hF⟩ : ∃ F, fullR S.raw = F := ⟨_, rfl⟩
  have H5R : Hid (∀ r : Nat, RunIs (S.raw.drop j) r → ((r : Int) == 5) = F) := by
    show ∀ r : Nat, _
    intro r hr; rw [← hF]; exact five_run S.raw r (by rw [hn, hj]; exact hr)
  obtain ⟨y, hy⟩ : ∃ y, S.raw.getD (n - 1) 0 = y := ⟨_, rfl⟩
  have hs : dynM S b = if F = true ∧ b = y then badM S 4 else if F = true then { S with raw := S.raw ++ [b] } else if k + 1 = need then nextM { S with raw := S.raw ++ [b], l := S.l ++ [b] } else { S with raw := S.raw ++ [b], l := S.l ++ [b] } := by
    rw [← hF, ← hk, ← hnd, ← hy, ← hn]; rfl
  obtain ⟨T, hT⟩ : ∃ T, dynM S b = T := ⟨_, rfl⟩
  rw [hT] at hs ⊢
  have HSS := Lib.hid hs
  have hFn : F = true → 5 ≤ n := by intro hf; rw [← hF] at hf; unfold fullR at hf; rw [Bool.and_eq_true, decide_eq_true_eq, hn] at hf; exact hf.1
  have c17 : w.cell? ⟨mp, 17, none⟩ = some (.slice a.rA n a.rc) := h.cell 17 _ (by rw [← hn]; rfl)
  have c18 : w.cell? ⟨mp, 18, none⟩ = some (.slice a.lA k a.lc) := h.cell 18 _ (by rw [← hk]; rfl)
  have HH := Lib.hid h
  have HN := Lib.hid hn
  have HK := Lib.hid hk
  have HLEN2 := Lib.hid hlen2
  have HND := Lib.hid hnd
  have HF := Lib.hid hf
  have HL01 : Hid (∀ x ∈ S.l ++ [b], x ≤ 1) := fun x hx => (List.mem_append.1 hx).elim (hl01 x) (fun h => by simp at h; omega)
  have HDL := Lib.hid hdl
  have HRUN := Lib.hid (fun (b0 off c : Nat) A (W : World) hA (hR : Rd W A (bys (S.raw.drop j))) => runBits_any b0 off d c A (S.raw.drop j) W hA hdl (by omega) hR)
  have hif : (if (5 : Int) < (n : Int) then (n : Int) - 5 else 0) = (j : Int) := by split <;> omega
  have hjn : ¬ n < j := by omega
  have HIF := Lib.hid hif
  have HJ := Lib.hid hj
  have HHD := Lib.hid hd
  have hdn : d = 0 → n = 0 := by omega
  have HDN := Lib.hid hdn
  have HFN := Lib.hid hFn
  have hshape : (a.rA = none ∧ n = 0 ∧ a.rc = 0) ∨ ∃ g, a.rA = some ⟨g, 0, none⟩ ∧ n ≤ a.rc ∧ (0 < n → w.cell? ⟨g, n - 1, none⟩ = some (.int .u8 y)) := by
    have hr := h.rest.raw.1
    by_cases h0 : n = 0
    · rcases hr.2 with ⟨hv, -⟩ | ⟨g, cap, cur, hv, -⟩
      · injection hv with e1 e2 e3; exact .inl ⟨e1, h0, e3⟩
      · injection hv with e1 e2 e3; exact .inr ⟨g, e1, by omega, by omega⟩
    · obtain ⟨g, hg, k1, k2, k3⟩ := h.rest.raw.at_ (n - 1) (by omega)
      exact .inr ⟨g, hg, by omega, fun _ => by rw [← hy]; exact k3⟩
  clear h hn hk hj hd hlen1 hlen2 hdl hF hy hs hT hl01 hnd hf hFn hb hif hdn
  rcases hshape with ⟨hra, hn0, hrc⟩ | ⟨g, hra, hnc, hgy⟩
  · subst hn0
    rw [hra, hrc] at c17
    have HRA := Lib.hid hra
    have HRC := Lib.hid hrc
    clear hra hrc
    cases F
    · rw [if_neg (by intro h; cases h.1), if_neg (by simp)] at HSS
      by_cases hnk : k + 1 = need
      · rw [if_pos hnk] at HSS
        have g1 : (((k : Int) + 1) == (need : Int)) = true := by simp; omega
        have HNK := Lib.hid hnk
        clear hnk
        have c17e : ∀ e : Ext w, e.W.cell? ⟨mp, 17, none⟩ = some (.slice none 0 0) := fun e => ext_cell c17 e
        go_enter Tryz.func25, Tryz.ntmps25
        go_wp2_with fail
        refine wp_region_mix (fun w' => ∃ e : Ext w, w' = e.W) [(true, 0), (true, 1), (true, 2), (true, 3), (true, 4), (true, 5), (true, 6), (true, 7), (true, 8), (true, 9), (false, 10), (true, 11)] [12, 13, 14] (by kernel_rfl) (by kernel_rfl) (by intro _ _ d _ _ h; cases d <;> exact h) ⟨⟨w.drew, (Below.refl _ _).drew⟩, rfl⟩ ?_
        simp only [pickM, pickL, List.drop_succ_cons, List.drop_zero]
        repeat (first | (refine mix_pure (by rfl) (by rfl) ?_; intro K hK; go_big_quiet_op; go_big_quiet_on) | (refine mix_nilc ⟨mp, 0, none⟩ (by rfl) (by kernel_rfl) ?_; go_simp))
        refine mix_eff (by rfl) ?_
        intro K hK
        go_simp
        refine hK _ _ ⟨⟨_, (Below.refl _ _).drew⟩, rfl⟩ ?_
        clear hK K
        repeat (first | (refine mix_pure (by rfl) (by rfl) ?_; intro K hK; go_big_quiet_op; go_big_quiet_on) | (refine mix_nilc ⟨mp, 0, none⟩ (by rfl) (by kernel_rfl) ?_; go_simp))
        refine mix_nil ?_
        have hbd : Below w.heap.size w w.drew := (Below.refl _ _).drew
        have hd0 : d = 0 := by have := HHD.out; omega
        have hrd9 : Rd w.drew none (bys (S.raw.drop j)) := by
          rw [List.eq_nil_of_length_eq_zero (by rw [HDL.out]; omega : (S.raw.drop j).length = 0)]
          exact Rd.nil _ _
        have HRN := Lib.hid (HRUN.out 0 0 0 none w.drew (fun h0 => by omega) hrd9)
        rw [hd0] at HRN
        have HH5 := Lib.hid (HH.out.below hbd)
        have HB0 := Lib.hid hbd
        clear hrd9 hbd c17 c18 c17e
        generalize w.drew = w0 at *
        go_wp2_with fail
        refine HRN.out.mono ?_
        rintro e w5 ⟨⟨r, rfl, hrr⟩, hb5⟩
        have hr5 := H5R.out r hrr
        have H5 := Lib.hid (HH5.out.below hb5)
        have HB5 := Lib.hid (below_trans HB0.out hb5)
        clear hrr hb5 HRN HH5 HB0
        have c17 : w5.cell? ⟨mp, 17, none⟩ = some (.slice none 0 0) := by have h17 := H5.out.c17; rw [HN.out, HRA.out, HRC.out] at h17; exact h17
        have c18 : w5.cell? ⟨mp, 18, none⟩ = some (.slice a.lA k a.lc) := H5.out.cell 18 _ (by rw [← HK.out]; rfl)
        have c17e : ∀ e : Ext w5, e.W.cell? ⟨mp, 17, none⟩ = some (.slice none 0 0) := fun e => ext_cell c17 e
        go_wp2_with fail
        refine wp_region_mix (fun w' => ∃ e : Ext w5, w' = e.W) [(true, 0), (true, 1), (true, 2), (true, 3), (true, 4), (true, 5), (true, 6), (true, 7), (true, 8), (true, 9), (true, 10), (true, 11), (true, 12), (true, 13), (true, 14), (true, 15), (true, 16)] [] (by kernel_rfl) (by kernel_rfl) (by intro _ _ d _ _ h; cases d <;> exact h) ⟨⟨w5.drew, (Below.refl _ _).drew⟩, rfl⟩ ?_
        simp only [pickM, pickL, List.drop_succ_cons, List.drop_zero]
        repeat (first | (refine mix_pure (by rfl) (by rfl) ?_; intro K hK; go_big_quiet_op; go_big_quiet_on) | (refine mix_nilc ⟨mp, 0, none⟩ (by rfl) (by kernel_rfl) ?_; go_simp) | (refine mix_skip (by rfl) ?_; go_simp))
        refine mix_nil (wpList_nil ?_)
        clear c17 c18 c17e 
        have hbd : Below w5.heap.size w5 w5.drew := (Below.refl _ _).drew
        have H6 := Lib.hid (H5.out.below hbd)
        have HB6 := Lib.hid (below_trans HB5.out hbd)
        clear hbd H5 HB5
        generalize w5.drew = w6 at *
        have d17 : w6.cell? ⟨mp, 17, none⟩ = some (.slice none 0 0) := by have h17 := H6.out.c17; rw [HN.out, HRA.out, HRC.out] at h17; exact h17
        go_wp2_with (first
          | (at_builtin; refine wpList_appU rfl (.tmp 42) (.tmp 44) rfl none 0 0 S.raw (by kernel_rfl) (by have := (H6.out.alloc (.cells #[.int .u8 b] 5)).rest.raw.1; rw [HRA.out, HRC.out] at this; exact this) HN.out w6.heap.size 1 b (by kernel_rfl) (heap_new_at rfl) (by omega) ?_; intro W3 A3 c3 HR3 T3 N3; have HM3 := Lib.hid (T3.out.heap (H6.out.alloc (.cells #[.int .u8 b] 5)).cells (by have := (H6.out.alloc (.cells #[.int .u8 b] 5)).notmp (H6.out.alloc (.cells #[.int .u8 b] 5)).rest.raw; rw [HRA.out] at this; exact this)))
          | (refine wpList_sputN HM3.out rfl rfl 22 (.tmp 47) (.tmp 45) rfl 17 (.slice A3 (0 + 1 : Nat) c3) (by kernel_rfl) (by kernel_rfl) rfl info_slcS (by simp [mca, mcs]) (mca { S with raw := S.raw ++ [b] } { a with rA := A3, rc := c3 }) (HDS1.out A3 c3) ?_; intro W4 M4 T4; obtain ⟨h4, t4, n4⟩ := (H6.out.alloc (.cells #[.int .u8 b] 5)).rawApp (A3 := A3) (c3 := c3) (b := b) (by rw [HRA.out]; exact T3.out) HR3.out (by rw [HRA.out]; exact N3.out) M4.out T4.out; have H7 := Lib.hid h4; have T7 : Hid (Turn s w6 W4) := (Turn.of (below_alloc (Below.refl _ _) (.cells #[.int .u8 b] 5))).tr t4; have N7 : Hid (∀ k ∈ blkA A3 ++ s, k ∈ s ∨ w6.heap.size ≤ k) := (fun k hk => (n4 k hk).imp id (fun h => Nat.le_trans (below_alloc (Below.refl w6.heap.size w6) (.cells #[.int .u8 b] 5)).size h)); have d18 : W4.cell? ⟨mp, 18, none⟩ = some (.slice a.lA k a.lc) := h4.cell 18 _ (by rw [← HK.out]; rfl); clear h4 t4 n4)
          | (at_builtin; refine wpList_appU rfl (.tmp 53) (.tmp 55) rfl a.lA k a.lc S.l (by kernel_rfl) (H7.out.alloc (.cells #[.int .u8 b] 5)).rest.l.1 HK.out W4.heap.size 1 b (by kernel_rfl) (heap_new_at rfl) (by omega) ?_; intro W13 A13 c13 HR13 T13 N13; have HM13 := Lib.hid (T13.out.heap (H7.out.alloc (.cells #[.int .u8 b] 5)).cells ((H7.out.alloc (.cells #[.int .u8 b] 5)).notmp (H7.out.alloc (.cells #[.int .u8 b] 5)).rest.l)))
          | (refine wpList_sputN HM13.out rfl rfl 22 (.tmp 58) (.tmp 56) rfl 18 (.slice A13 (k + 1 : Nat) c13) (by kernel_rfl) (by kernel_rfl) rfl info_slcS (by simp [mca, mcs]) (mca { S with raw := S.raw ++ [b], l := S.l ++ [b] } { a with rA := A3, rc := c3, lA := A13, lc := c13 }) (HDS2.out A3 c3 A13 c13) ?_; intro W14 M14 T14; obtain ⟨h14, t14, n14⟩ := (H7.out.alloc (.cells #[.int .u8 b] 5)).lApp (A3 := A13) (c3 := c13) (b := b) T13.out HR13.out N13.out M14.out T14.out; have H8 := Lib.hid h14; have T8 : Hid (Turn (blkA A3 ++ s) W4 W14) := (Turn.of (below_alloc (Below.refl _ _) (.cells #[.int .u8 b] 5))).tr t14; have N8 : Hid (∀ k ∈ blkA A13 ++ (blkA A3 ++ s), k ∈ blkA A3 ++ s ∨ W4.heap.size ≤ k) := (fun k hk => (n14 k hk).imp id (fun h => Nat.le_trans (below_alloc (Below.refl W4.heap.size W4) (.cells #[.int .u8 b] 5)).size h)); clear h14 t14 n14))
        clear d17 d18 M4 M14 T3 T4 T13 T14 N3 N13 HR3 HR13 HM3 HM13
        generalize hs8 : blkA A13 ++ (blkA A3 ++ s) = s8 at *
        generalize hs7 : blkA A3 ++ s = s7 at *
        clear hs8 hs7
        have f18 : ∀ e : Ext W14, e.W.cell? ⟨mp, 18, none⟩ = some (.slice A13 (k + 1 : Nat) c13) := fun e => ext_cell (H8.out.cell 18 _ (by rw [← HLEN2.out]; rfl)) e
        have f19 : ∀ e : Ext W14, e.W.cell? ⟨mp, 19, none⟩ = some (.int .i64 need) := fun e => ext_cell (H8.out.cell 19 _ (by rw [← HND.out]; rfl)) e
        have HRAWP : Hid (0 < (S.raw ++ [b]).length) := by show 0 < (S.raw ++ [b]).length; simp
        refine wp_region_mix (fun w' => ∃ e : Ext W14, w' = e.W) [(true, 0), (true, 1), (true, 2), (true, 3), (true, 4), (true, 5), (true, 6), (true, 7), (true, 8), (true, 9)] [] (by kernel_rfl) (by kernel_rfl) (by intro _ _ d _ _ h; cases d <;> exact h) ⟨⟨W14.drew, (Below.refl _ _).drew⟩, rfl⟩ ?_
        simp only [pickM, pickL, List.drop_succ_cons, List.drop_zero]
        repeat (first | (refine mix_pure (by rfl) (by rfl) ?_; intro K hK; go_big_quiet_op; go_big_quiet_on) | (refine mix_nilc ⟨mp, 0, none⟩ (by rfl) (by kernel_rfl) ?_; go_simp))
        refine mix_nil (wpList_nil ?_)
        clear f18 f19
        have hbd : Below W14.heap.size W14 W14.drew := (Below.refl _ _).drew
        have H9 := Lib.hid (H8.out.below hbd)
        have T9 := Lib.hid (T8.out.tr (Turn.of (s := s7) hbd))
        have TT : Hid (Turn s w6 W14.drew) := T7.out.trans T9.out N7.out
        have NN : Hid (∀ k ∈ s8, k ∈ s ∨ w6.heap.size ≤ k) := fun k hk => (N8.out k hk).elim (N7.out k) (fun h => .inr (Nat.le_trans T7.out.size h))
        clear hbd H8 H7 T8 T7 T9 N7 N8
        generalize W14.drew = W15 at *
        obtain ⟨hv, hcall⟩ | ⟨hv, hcall⟩ | ⟨hv, hcall⟩ | ⟨hv, hcall⟩ | ⟨hv, hcall⟩ | ⟨hv, hcall⟩ | ⟨hv, hcall⟩ | ⟨hv, hcall⟩ | ⟨hv, hcall⟩ | ⟨x, y, z, hv, hcall⟩ | ⟨x, y, hv, hcall⟩ := mNext (S := { S with raw := S.raw ++ [b], l := S.l ++ [b] }) H9.out (by show (S.l ++ [b]).length = S.need; rw [HLEN2.out, HND.out]; exact HNK.out) (HF.out.congr rfl rfl) (by show (S.l ++ [b]).length ≤ 1000; rw [HLEN2.out]; omega) HL01.out HRAWP.out
        · have c16 : W15.cell? ⟨mp, 16, none⟩ = some (.func (.func 27) #[.pointer (some ⟨mp, 0, none⟩)] #[]) := H9.out.cell 16 _ (by rw [← hv]; rfl)
          have HC := Lib.hid hcall
          clear hcall hv
          go_wp2_with fail
          refine HC.out.mono ?_
          rintro e w16 ⟨rfl, hA⟩
          go_wp2_with fail
          go_end0
          exact ⟨rfl, HSS.out ▸ (hA.after NN.out TT.out).pre HB6.out⟩
        · have c16 : W15.cell? ⟨mp, 16, none⟩ = some (.func (.func 51) #[.pointer (some ⟨mp, 0, none⟩)] #[]) := H9.out.cell 16 _ (by rw [← hv]; rfl)
          have HC := Lib.hid hcall
          clear hcall hv
          go_wp2_with fail
          refine HC.out.mono ?_
          rintro e w16 ⟨rfl, hA⟩
          go_wp2_with fail
          go_end0
          exact ⟨rfl, HSS.out ▸ (hA.after NN.out TT.out).pre HB6.out⟩
        · have c16 : W15.cell? ⟨mp, 16, none⟩ = some (.func (.func 74) #[.pointer (some ⟨mp, 0, none⟩)] #[]) := H9.out.cell 16 _ (by rw [← hv]; rfl)
          have HC := Lib.hid hcall
          clear hcall hv
          go_wp2_with fail
          refine HC.out.mono ?_
          rintro e w16 ⟨rfl, hA⟩
          go_wp2_with fail
          go_end0
          exact ⟨rfl, HSS.out ▸ (hA.after NN.out TT.out).pre HB6.out⟩
        · have c16 : W15.cell? ⟨mp, 16, none⟩ = some (.func (.func 98) #[.pointer (some ⟨mp, 0, none⟩)] #[]) := H9.out.cell 16 _ (by rw [← hv]; rfl)
          have HC := Lib.hid hcall
          clear hcall hv
          go_wp2_with fail
          refine HC.out.mono ?_
          rintro e w16 ⟨rfl, hA⟩
          go_wp2_with fail
          go_end0
          exact ⟨rfl, HSS.out ▸ (hA.after NN.out TT.out).pre HB6.out⟩
        · have c16 : W15.cell? ⟨mp, 16, none⟩ = some (.func (.func 73) #[.pointer (some ⟨mp, 0, none⟩)] #[]) := H9.out.cell 16 _ (by rw [← hv]; rfl)
          have HC := Lib.hid hcall
          clear hcall hv
          go_wp2_with fail
          refine HC.out.mono ?_
          rintro e w16 ⟨rfl, hA⟩
          go_wp2_with fail
          go_end0
          exact ⟨rfl, HSS.out ▸ (hA.after NN.out TT.out).pre HB6.out⟩
        · have c16 : W15.cell? ⟨mp, 16, none⟩ = some (.func (.func 97) #[.pointer (some ⟨mp, 0, none⟩)] #[]) := H9.out.cell 16 _ (by rw [← hv]; rfl)
          have HC := Lib.hid hcall
          clear hcall hv
          go_wp2_with fail
          refine HC.out.mono ?_
          rintro e w16 ⟨rfl, hA⟩
          go_wp2_with fail
          go_end0
          exact ⟨rfl, HSS.out ▸ (hA.after NN.out TT.out).pre HB6.out⟩
        · have c16 : W15.cell? ⟨mp, 16, none⟩ = some (.func (.func 96) #[.pointer (some ⟨mp, 0, none⟩)] #[]) := H9.out.cell 16 _ (by rw [← hv]; rfl)
          have HC := Lib.hid hcall
          clear hcall hv
          go_wp2_with fail
          refine HC.out.mono ?_
          rintro e w16 ⟨rfl, hA⟩
          go_wp2_with fail
          go_end0
          exact ⟨rfl, HSS.out ▸ (hA.after NN.out TT.out).pre HB6.out⟩
        · have c16 : W15.cell? ⟨mp, 16, none⟩ = some (.func (.func 109) #[.pointer (some ⟨mp, 0, none⟩)] #[]) := H9.out.cell 16 _ (by rw [← hv]; rfl)
          have HC := Lib.hid hcall
          clear hcall hv
          go_wp2_with fail
          refine HC.out.mono ?_
          rintro e w16 ⟨rfl, hA⟩
          go_wp2_with fail
          go_end0
          exact ⟨rfl, HSS.out ▸ (hA.after NN.out TT.out).pre HB6.out⟩
        · have c16 : W15.cell? ⟨mp, 16, none⟩ = some (.func (.func 110) #[.pointer (some ⟨mp, 0, none⟩)] #[]) := H9.out.cell 16 _ (by rw [← hv]; rfl)
          have HC := Lib.hid hcall
          clear hcall hv
          go_wp2_with fail
          refine HC.out.mono ?_
          rintro e w16 ⟨rfl, hA⟩
          go_wp2_with fail
          go_end0
          exact ⟨rfl, HSS.out ▸ (hA.after NN.out TT.out).pre HB6.out⟩
        · have c16 : W15.cell? ⟨mp, 16, none⟩ = some (.func (.func 105) #[] #[.pointer (some ⟨x, 0, none⟩), .pointer (some ⟨y, 0, none⟩), .pointer (some ⟨z, 0, none⟩)]) := H9.out.cell 16 _ (by rw [← hv]; rfl)
          have HC := Lib.hid hcall
          clear hcall hv
          go_wp2_with fail
          refine HC.out.mono ?_
          rintro e w16 ⟨rfl, hA⟩
          go_wp2_with fail
          go_end0
          exact ⟨rfl, HSS.out ▸ (hA.after NN.out TT.out).pre HB6.out⟩
        · have c16 : W15.cell? ⟨mp, 16, none⟩ = some (.func (.func 116) #[] #[.pointer (some ⟨x, 0, none⟩), .pointer (some ⟨y, 0, none⟩)]) := H9.out.cell 16 _ (by rw [← hv]; rfl)
          have HC := Lib.hid hcall
          clear hcall hv
          go_wp2_with fail
          refine HC.out.mono ?_
          rintro e w16 ⟨rfl, hA⟩
          go_wp2_with fail
          go_end0
          exact ⟨rfl, HSS.out ▸ (hA.after NN.out TT.out).pre HB6.out⟩
      · rw [if_neg hnk] at HSS
        have g1 : (((k : Int) + 1) == (need : Int)) = false := by simp; omega
        clear hnk
        have c17e : ∀ e : Ext w, e.W.cell? ⟨mp, 17, none⟩ = some (.slice none 0 0) := fun e => ext_cell c17 e
        go_enter Tryz.func25, Tryz.ntmps25
        go_wp2_with fail
        refine wp_region_mix (fun w' => ∃ e : Ext w, w' = e.W) [(true, 0), (true, 1), (true, 2), (true, 3), (true, 4), (true, 5), (true, 6), (true, 7), (true, 8), (true, 9), (false, 10), (true, 11)] [12, 13, 14] (by kernel_rfl) (by kernel_rfl) (by intro _ _ d _ _ h; cases d <;> exact h) ⟨⟨w.drew, (Below.refl _ _).drew⟩, rfl⟩ ?_
        simp only [pickM, pickL, List.drop_succ_cons, List.drop_zero]
        repeat (first | (refine mix_pure (by rfl) (by rfl) ?_; intro K hK; go_big_quiet_op; go_big_quiet_on) | (refine mix_nilc ⟨mp, 0, none⟩ (by rfl) (by kernel_rfl) ?_; go_simp))
        refine mix_eff (by rfl) ?_
        intro K hK
        go_simp
        refine hK _ _ ⟨⟨_, (Below.refl _ _).drew⟩, rfl⟩ ?_
        clear hK K
        repeat (first | (refine mix_pure (by rfl) (by rfl) ?_; intro K hK; go_big_quiet_op; go_big_quiet_on) | (refine mix_nilc ⟨mp, 0, none⟩ (by rfl) (by kernel_rfl) ?_; go_simp))
        refine mix_nil ?_
        have hbd : Below w.heap.size w w.drew := (Below.refl _ _).drew
        have hd0 : d = 0 := by have := HHD.out; omega
        have hrd9 : Rd w.drew none (bys (S.raw.drop j)) := by
          rw [List.eq_nil_of_length_eq_zero (by rw [HDL.out]; omega : (S.raw.drop j).length = 0)]
          exact Rd.nil _ _
        have HRN := Lib.hid (HRUN.out 0 0 0 none w.drew (fun h0 => by omega) hrd9)
        rw [hd0] at HRN
        have HH5 := Lib.hid (HH.out.below hbd)
        have HB0 := Lib.hid hbd
        clear hrd9 hbd c17 c18 c17e
        generalize w.drew = w0 at *
        go_wp2_with fail
        refine HRN.out.mono ?_
        rintro e w5 ⟨⟨r, rfl, hrr⟩, hb5⟩
        have hr5 := H5R.out r hrr
        have H5 := Lib.hid (HH5.out.below hb5)
        have HB5 := Lib.hid (below_trans HB0.out hb5)
        clear hrr hb5 HRN HH5 HB0
        have c17 : w5.cell? ⟨mp, 17, none⟩ = some (.slice none 0 0) := by have h17 := H5.out.c17; rw [HN.out, HRA.out, HRC.out] at h17; exact h17
        have c18 : w5.cell? ⟨mp, 18, none⟩ = some (.slice a.lA k a.lc) := H5.out.cell 18 _ (by rw [← HK.out]; rfl)
        have c17e : ∀ e : Ext w5, e.W.cell? ⟨mp, 17, none⟩ = some (.slice none 0 0) := fun e => ext_cell c17 e
        go_wp2_with fail
        refine wp_region_mix (fun w' => ∃ e : Ext w5, w' = e.W) [(true, 0), (true, 1), (true, 2), (true, 3), (true, 4), (true, 5), (true, 6), (true, 7), (true, 8), (true, 9), (true, 10), (true, 11), (true, 12), (true, 13), (true, 14), (true, 15), (true, 16)] [] (by kernel_rfl) (by kernel_rfl) (by intro _ _ d _ _ h; cases d <;> exact h) ⟨⟨w5.drew, (Below.refl _ _).drew⟩, rfl⟩ ?_
        simp only [pickM, pickL, List.drop_succ_cons, List.drop_zero]
        repeat (first | (refine mix_pure (by rfl) (by rfl) ?_; intro K hK; go_big_quiet_op; go_big_quiet_on) | (refine mix_nilc ⟨mp, 0, none⟩ (by rfl) (by kernel_rfl) ?_; go_simp) | (refine mix_skip (by rfl) ?_; go_simp))
        refine mix_nil (wpList_nil ?_)
        clear c17 c18 c17e 
        have hbd : Below w5.heap.size w5 w5.drew := (Below.refl _ _).drew
        have H6 := Lib.hid (H5.out.below hbd)
        have HB6 := Lib.hid (below_trans HB5.out hbd)
        clear hbd H5 HB5
        generalize w5.drew = w6 at *
        have d17 : w6.cell? ⟨mp, 17, none⟩ = some (.slice none 0 0) := by have h17 := H6.out.c17; rw [HN.out, HRA.out, HRC.out] at h17; exact h17
        go_wp2_with (first
          | (at_builtin; refine wpList_appU rfl (.tmp 42) (.tmp 44) rfl none 0 0 S.raw (by kernel_rfl) (by have := (H6.out.alloc (.cells #[.int .u8 b] 5)).rest.raw.1; rw [HRA.out, HRC.out] at this; exact this) HN.out w6.heap.size 1 b (by kernel_rfl) (heap_new_at rfl) (by omega) ?_; intro W3 A3 c3 HR3 T3 N3; have HM3 := Lib.hid (T3.out.heap (H6.out.alloc (.cells #[.int .u8 b] 5)).cells (by have := (H6.out.alloc (.cells #[.int .u8 b] 5)).notmp (H6.out.alloc (.cells #[.int .u8 b] 5)).rest.raw; rw [HRA.out] at this; exact this)))
          | (refine wpList_sputN HM3.out rfl rfl 22 (.tmp 47) (.tmp 45) rfl 17 (.slice A3 (0 + 1 : Nat) c3) (by kernel_rfl) (by kernel_rfl) rfl info_slcS (by simp [mca, mcs]) (mca { S with raw := S.raw ++ [b] } { a with rA := A3, rc := c3 }) (HDS1.out A3 c3) ?_; intro W4 M4 T4; obtain ⟨h4, t4, n4⟩ := (H6.out.alloc (.cells #[.int .u8 b] 5)).rawApp (A3 := A3) (c3 := c3) (b := b) (by rw [HRA.out]; exact T3.out) HR3.out (by rw [HRA.out]; exact N3.out) M4.out T4.out; have H7 := Lib.hid h4; have T7 : Hid (Turn s w6 W4) := (Turn.of (below_alloc (Below.refl _ _) (.cells #[.int .u8 b] 5))).tr t4; have N7 : Hid (∀ k ∈ blkA A3 ++ s, k ∈ s ∨ w6.heap.size ≤ k) := (fun k hk => (n4 k hk).imp id (fun h => Nat.le_trans (below_alloc (Below.refl w6.heap.size w6) (.cells #[.int .u8 b] 5)).size h)); have d18 : W4.cell? ⟨mp, 18, none⟩ = some (.slice a.lA k a.lc) := h4.cell 18 _ (by rw [← HK.out]; rfl); clear h4 t4 n4)
          | (at_builtin; refine wpList_appU rfl (.tmp 53) (.tmp 55) rfl a.lA k a.lc S.l (by kernel_rfl) (H7.out.alloc (.cells #[.int .u8 b] 5)).rest.l.1 HK.out W4.heap.size 1 b (by kernel_rfl) (heap_new_at rfl) (by omega) ?_; intro W13 A13 c13 HR13 T13 N13; have HM13 := Lib.hid (T13.out.heap (H7.out.alloc (.cells #[.int .u8 b] 5)).cells ((H7.out.alloc (.cells #[.int .u8 b] 5)).notmp (H7.out.alloc (.cells #[.int .u8 b] 5)).rest.l)))
          | (refine wpList_sputN HM13.out rfl rfl 22 (.tmp 58) (.tmp 56) rfl 18 (.slice A13 (k + 1 : Nat) c13) (by kernel_rfl) (by kernel_rfl) rfl info_slcS (by simp [mca, mcs]) (mca { S with raw := S.raw ++ [b], l := S.l ++ [b] } { a with rA := A3, rc := c3, lA := A13, lc := c13 }) (HDS2.out A3 c3 A13 c13) ?_; intro W14 M14 T14; obtain ⟨h14, t14, n14⟩ := (H7.out.alloc (.cells #[.int .u8 b] 5)).lApp (A3 := A13) (c3 := c13) (b := b) T13.out HR13.out N13.out M14.out T14.out; have H8 := Lib.hid h14; have T8 : Hid (Turn (blkA A3 ++ s) W4 W14) := (Turn.of (below_alloc (Below.refl _ _) (.cells #[.int .u8 b] 5))).tr t14; have N8 : Hid (∀ k ∈ blkA A13 ++ (blkA A3 ++ s), k ∈ blkA A3 ++ s ∨ W4.heap.size ≤ k) := (fun k hk => (n14 k hk).imp id (fun h => Nat.le_trans (below_alloc (Below.refl W4.heap.size W4) (.cells #[.int .u8 b] 5)).size h)); clear h14 t14 n14))
        clear d17 d18 M4 M14 T3 T4 T13 T14 N3 N13 HR3 HR13 HM3 HM13
        generalize hs8 : blkA A13 ++ (blkA A3 ++ s) = s8 at *
        generalize hs7 : blkA A3 ++ s = s7 at *
        clear hs8 hs7
        have f18 : ∀ e : Ext W14, e.W.cell? ⟨mp, 18, none⟩ = some (.slice A13 (k + 1 : Nat) c13) := fun e => ext_cell (H8.out.cell 18 _ (by rw [← HLEN2.out]; rfl)) e
        have f19 : ∀ e : Ext W14, e.W.cell? ⟨mp, 19, none⟩ = some (.int .i64 need) := fun e => ext_cell (H8.out.cell 19 _ (by rw [← HND.out]; rfl)) e
        have HRAWP : Hid (0 < (S.raw ++ [b]).length) := by show 0 < (S.raw ++ [b]).length; simp
        refine wp_region_mix (fun w' => ∃ e : Ext W14, w' = e.W) [(true, 0), (true, 1), (true, 2), (true, 3), (true, 4), (true, 5), (true, 6), (true, 7), (true, 8), (true, 9)] [] (by kernel_rfl) (by kernel_rfl) (by intro _ _ d _ _ h; cases d <;> exact h) ⟨⟨W14.drew, (Below.refl _ _).drew⟩, rfl⟩ ?_
        simp only [pickM, pickL, List.drop_succ_cons, List.drop_zero]
        repeat (first | (refine mix_pure (by rfl) (by rfl) ?_; intro K hK; go_big_quiet_op; go_big_quiet_on) | (refine mix_nilc ⟨mp, 0, none⟩ (by rfl) (by kernel_rfl) ?_; go_simp))
        refine mix_nil (wpList_nil ?_)
        clear f18 f19
        have hbd : Below W14.heap.size W14 W14.drew := (Below.refl _ _).drew
        have H9 := Lib.hid (H8.out.below hbd)
        have T9 := Lib.hid (T8.out.tr (Turn.of (s := s7) hbd))
        have TT : Hid (Turn s w6 W14.drew) := T7.out.trans T9.out N7.out
        have NN : Hid (∀ k ∈ s8, k ∈ s ∨ w6.heap.size ≤ k) := fun k hk => (N8.out k hk).elim (N7.out k) (fun h => .inr (Nat.le_trans T7.out.size h))
        clear hbd H8 H7 T8 T7 T9 N7 N8
        generalize W14.drew = W15 at *
        go_wp2_with fail
        go_end0
        exact ⟨rfl, HSS.out ▸ ((MAct.same H9.out (Turn.refl _ _)).after NN.out TT.out).pre HB6.out⟩
    · exact absurd (HFN.out rfl) (by omega)
  · rw [hra] at c17
    have HRA := Lib.hid hra
    have hc1 : ¬ a.rc < n := by omega
    clear hra
    cases F
    · rw [if_neg (by intro h; cases h.1), if_neg (by simp)] at HSS
      by_cases hnk : k + 1 = need
      · rw [if_pos hnk] at HSS
        have g1 : (((k : Int) + 1) == (need : Int)) = true := by simp; omega
        have HNK := Lib.hid hnk
        clear hnk
        have c17e : ∀ e : Ext w, e.W.cell? ⟨mp, 17, none⟩ = some (.slice (some ⟨g, 0, none⟩) n a.rc) := fun e => ext_cell c17 e
        go_enter Tryz.func25, Tryz.ntmps25
        go_wp2_with fail
        refine wp_region_mix (fun w' => ∃ e : Ext w, w' = e.W) [(true, 0), (true, 1), (true, 2), (true, 3), (true, 4), (true, 5), (true, 6), (true, 7), (true, 8), (true, 9), (false, 10), (true, 11)] [12, 13, 14] (by kernel_rfl) (by kernel_rfl) (by intro _ _ d _ _ h; cases d <;> exact h) ⟨⟨w.drew, (Below.refl _ _).drew⟩, rfl⟩ ?_
        simp only [pickM, pickL, List.drop_succ_cons, List.drop_zero]
        repeat (first | (refine mix_pure (by rfl) (by rfl) ?_; intro K hK; go_big_quiet_op; go_big_quiet_on) | (refine mix_nilc ⟨mp, 0, none⟩ (by rfl) (by kernel_rfl) ?_; go_simp))
        refine mix_eff (by rfl) ?_
        intro K hK
        go_simp
        rw [HIF.out]
        refine hK _ _ ⟨⟨_, (Below.refl _ _).drew⟩, rfl⟩ ?_
        clear hK K
        repeat (first | (refine mix_pure (by rfl) (by rfl) ?_; intro K hK; go_big_quiet_op; go_big_quiet_on) | (refine mix_nilc ⟨mp, 0, none⟩ (by rfl) (by kernel_rfl) ?_; go_simp))
        refine mix_nil ?_
        have hbd : Below w.heap.size w w.drew := (Below.refl _ _).drew
        obtain ⟨A9, hA9⟩ : ∃ A9, (if a.rc = j then (some ⟨g, 0, none⟩ : Option Addr) else some ⟨g, j, none⟩) = A9 := ⟨_, rfl⟩
        rw [hA9]
        have hA9' : 0 < d → A9 = some ⟨g, j, none⟩ := by intro h0; rw [← hA9, if_neg (by have := HHD.out; omega)]
        have hrd9 : Rd w.drew A9 (bys (S.raw.drop j)) := by
          by_cases h0 : 0 < d
          · rw [hA9' h0]
            have hr := (HH.out.below hbd).rest.raw.1.rd
            rw [HRA.out] at hr
            have := rd_drop hr j
            rwa [Nat.zero_add] at this
          · rw [List.eq_nil_of_length_eq_zero (by rw [HDL.out]; omega : (S.raw.drop j).length = 0)]
            exact Rd.nil _ _
        have HRN := Lib.hid (HRUN.out g j (a.rc - j) A9 w.drew hA9' hrd9)
        rw [← HHD.out] at HRN
        have HH5 := Lib.hid (HH.out.below hbd)
        have HB0 := Lib.hid hbd
        clear hA9 hA9' hrd9 hbd c17 c18 c17e
        generalize w.drew = w0 at *
        go_wp2_with fail
        refine HRN.out.mono ?_
        rintro e w5 ⟨⟨r, rfl, hrr⟩, hb5⟩
        have hr5 := H5R.out r hrr
        have H5 := Lib.hid (HH5.out.below hb5)
        have HB5 := Lib.hid (below_trans HB0.out hb5)
        clear hrr hb5 HRN HH5 HB0
        have c17 : w5.cell? ⟨mp, 17, none⟩ = some (.slice (some ⟨g, 0, none⟩) n a.rc) := by have h17 := H5.out.c17; rw [HN.out, HRA.out] at h17; exact h17
        have c18 : w5.cell? ⟨mp, 18, none⟩ = some (.slice a.lA k a.lc) := H5.out.cell 18 _ (by rw [← HK.out]; rfl)
        have c17e : ∀ e : Ext w5, e.W.cell? ⟨mp, 17, none⟩ = some (.slice (some ⟨g, 0, none⟩) n a.rc) := fun e => ext_cell c17 e
        go_wp2_with fail
        refine wp_region_mix (fun w' => ∃ e : Ext w5, w' = e.W) [(true, 0), (true, 1), (true, 2), (true, 3), (true, 4), (true, 5), (true, 6), (true, 7), (true, 8), (true, 9), (true, 10), (true, 11), (true, 12), (true, 13), (true, 14), (true, 15), (true, 16)] [] (by kernel_rfl) (by kernel_rfl) (by intro _ _ d _ _ h; cases d <;> exact h) ⟨⟨w5.drew, (Below.refl _ _).drew⟩, rfl⟩ ?_
        simp only [pickM, pickL, List.drop_succ_cons, List.drop_zero]
        repeat (first | (refine mix_pure (by rfl) (by rfl) ?_; intro K hK; go_big_quiet_op; go_big_quiet_on) | (refine mix_nilc ⟨mp, 0, none⟩ (by rfl) (by kernel_rfl) ?_; go_simp) | (refine mix_skip (by rfl) ?_; go_simp))
        refine mix_nil (wpList_nil ?_)
        clear c17 c18 c17e 
        have hbd : Below w5.heap.size w5 w5.drew := (Below.refl _ _).drew
        have H6 := Lib.hid (H5.out.below hbd)
        have HB6 := Lib.hid (below_trans HB5.out hbd)
        clear hbd H5 HB5
        generalize w5.drew = w6 at *
        have d17 : w6.cell? ⟨mp, 17, none⟩ = some (.slice (some ⟨g, 0, none⟩) n a.rc) := by have h17 := H6.out.c17; rw [HN.out, HRA.out] at h17; exact h17
        go_wp2_with (first
          | (at_builtin; refine wpList_appU rfl (.tmp 42) (.tmp 44) rfl (some ⟨g, 0, none⟩) n a.rc S.raw (by kernel_rfl) (by have := (H6.out.alloc (.cells #[.int .u8 b] 5)).rest.raw.1; rw [HRA.out] at this; exact this) HN.out w6.heap.size 1 b (by kernel_rfl) (heap_new_at rfl) (by omega) ?_; intro W3 A3 c3 HR3 T3 N3; have HM3 := Lib.hid (T3.out.heap (H6.out.alloc (.cells #[.int .u8 b] 5)).cells (by have := (H6.out.alloc (.cells #[.int .u8 b] 5)).notmp (H6.out.alloc (.cells #[.int .u8 b] 5)).rest.raw; rw [HRA.out] at this; exact this)))
          | (refine wpList_sputN HM3.out rfl rfl 22 (.tmp 47) (.tmp 45) rfl 17 (.slice A3 (n + 1 : Nat) c3) (by kernel_rfl) (by kernel_rfl) rfl info_slcS (by simp [mca, mcs]) (mca { S with raw := S.raw ++ [b] } { a with rA := A3, rc := c3 }) (HDS1.out A3 c3) ?_; intro W4 M4 T4; obtain ⟨h4, t4, n4⟩ := (H6.out.alloc (.cells #[.int .u8 b] 5)).rawApp (A3 := A3) (c3 := c3) (b := b) (by rw [HRA.out]; exact T3.out) HR3.out (by rw [HRA.out]; exact N3.out) M4.out T4.out; have H7 := Lib.hid h4; have T7 : Hid (Turn s w6 W4) := (Turn.of (below_alloc (Below.refl _ _) (.cells #[.int .u8 b] 5))).tr t4; have N7 : Hid (∀ k ∈ blkA A3 ++ s, k ∈ s ∨ w6.heap.size ≤ k) := (fun k hk => (n4 k hk).imp id (fun h => Nat.le_trans (below_alloc (Below.refl w6.heap.size w6) (.cells #[.int .u8 b] 5)).size h)); have d18 : W4.cell? ⟨mp, 18, none⟩ = some (.slice a.lA k a.lc) := h4.cell 18 _ (by rw [← HK.out]; rfl); clear h4 t4 n4)
          | (at_builtin; refine wpList_appU rfl (.tmp 53) (.tmp 55) rfl a.lA k a.lc S.l (by kernel_rfl) (H7.out.alloc (.cells #[.int .u8 b] 5)).rest.l.1 HK.out W4.heap.size 1 b (by kernel_rfl) (heap_new_at rfl) (by omega) ?_; intro W13 A13 c13 HR13 T13 N13; have HM13 := Lib.hid (T13.out.heap (H7.out.alloc (.cells #[.int .u8 b] 5)).cells ((H7.out.alloc (.cells #[.int .u8 b] 5)).notmp (H7.out.alloc (.cells #[.int .u8 b] 5)).rest.l)))
          | (refine wpList_sputN HM13.out rfl rfl 22 (.tmp 58) (.tmp 56) rfl 18 (.slice A13 (k + 1 : Nat) c13) (by kernel_rfl) (by kernel_rfl) rfl info_slcS (by simp [mca, mcs]) (mca { S with raw := S.raw ++ [b], l := S.l ++ [b] } { a with rA := A3, rc := c3, lA := A13, lc := c13 }) (HDS2.out A3 c3 A13 c13) ?_; intro W14 M14 T14; obtain ⟨h14, t14, n14⟩ := (H7.out.alloc (.cells #[.int .u8 b] 5)).lApp (A3 := A13) (c3 := c13) (b := b) T13.out HR13.out N13.out M14.out T14.out; have H8 := Lib.hid h14; have T8 : Hid (Turn (blkA A3 ++ s) W4 W14) := (Turn.of (below_alloc (Below.refl _ _) (.cells #[.int .u8 b] 5))).tr t14; have N8 : Hid (∀ k ∈ blkA A13 ++ (blkA A3 ++ s), k ∈ blkA A3 ++ s ∨ W4.heap.size ≤ k) := (fun k hk => (n14 k hk).imp id (fun h => Nat.le_trans (below_alloc (Below.refl W4.heap.size W4) (.cells #[.int .u8 b] 5)).size h)); clear h14 t14 n14))
        clear d17 d18 M4 M14 T3 T4 T13 T14 N3 N13 HR3 HR13 HM3 HM13
        generalize hs8 : blkA A13 ++ (blkA A3 ++ s) = s8 at *
        generalize hs7 : blkA A3 ++ s = s7 at *
        clear hs8 hs7
        have f18 : ∀ e : Ext W14, e.W.cell? ⟨mp, 18, none⟩ = some (.slice A13 (k + 1 : Nat) c13) := fun e => ext_cell (H8.out.cell 18 _ (by rw [← HLEN2.out]; rfl)) e
        have f19 : ∀ e : Ext W14, e.W.cell? ⟨mp, 19, none⟩ = some (.int .i64 need) := fun e => ext_cell (H8.out.cell 19 _ (by rw [← HND.out]; rfl)) e
        have HRAWP : Hid (0 < (S.raw ++ [b]).length) := by show 0 < (S.raw ++ [b]).length; simp
        refine wp_region_mix (fun w' => ∃ e : Ext W14, w' = e.W) [(true, 0), (true, 1), (true, 2), (true, 3), (true, 4), (true, 5), (true, 6), (true, 7), (true, 8), (true, 9)] [] (by kernel_rfl) (by kernel_rfl) (by intro _ _ d _ _ h; cases d <;> exact h) ⟨⟨W14.drew, (Below.refl _ _).drew⟩, rfl⟩ ?_
        simp only [pickM, pickL, List.drop_succ_cons, List.drop_zero]
        repeat (first | (refine mix_pure (by rfl) (by rfl) ?_; intro K hK; go_big_quiet_op; go_big_quiet_on) | (refine mix_nilc ⟨mp, 0, none⟩ (by rfl) (by kernel_rfl) ?_; go_simp))
        refine mix_nil (wpList_nil ?_)
        clear f18 f19
        have hbd : Below W14.heap.size W14 W14.drew := (Below.refl _ _).drew
        have H9 := Lib.hid (H8.out.below hbd)
        have T9 := Lib.hid (T8.out.tr (Turn.of (s := s7) hbd))
        have TT : Hid (Turn s w6 W14.drew) := T7.out.trans T9.out N7.out
        have NN : Hid (∀ k ∈ s8, k ∈ s ∨ w6.heap.size ≤ k) := fun k hk => (N8.out k hk).elim (N7.out k) (fun h => .inr (Nat.le_trans T7.out.size h))
        clear hbd H8 H7 T8 T7 T9 N7 N8
        generalize W14.drew = W15 at *
        obtain ⟨hv, hcall⟩ | ⟨hv, hcall⟩ | ⟨hv, hcall⟩ | ⟨hv, hcall⟩ | ⟨hv, hcall⟩ | ⟨hv, hcall⟩ | ⟨hv, hcall⟩ | ⟨hv, hcall⟩ | ⟨hv, hcall⟩ | ⟨x, y, z, hv, hcall⟩ | ⟨x, y, hv, hcall⟩ := mNext (S := { S with raw := S.raw ++ [b], l := S.l ++ [b] }) H9.out (by show (S.l ++ [b]).length = S.need; rw [HLEN2.out, HND.out]; exact HNK.out) (HF.out.congr rfl rfl) (by show (S.l ++ [b]).length ≤ 1000; rw [HLEN2.out]; omega) HL01.out HRAWP.out
        · have c16 : W15.cell? ⟨mp, 16, none⟩ = some (.func (.func 27) #[.pointer (some ⟨mp, 0, none⟩)] #[]) := H9.out.cell 16 _ (by rw [← hv]; rfl)
          have HC := Lib.hid hcall
          clear hcall hv
          go_wp2_with fail
          refine HC.out.mono ?_
          rintro e w16 ⟨rfl, hA⟩
          go_wp2_with fail
          go_end0
          exact ⟨rfl, HSS.out ▸ (hA.after NN.out TT.out).pre HB6.out⟩
        · have c16 : W15.cell? ⟨mp, 16, none⟩ = some (.func (.func 51) #[.pointer (some ⟨mp, 0, none⟩)] #[]) := H9.out.cell 16 _ (by rw [← hv]; rfl)
          have HC := Lib.hid hcall
          clear hcall hv
          go_wp2_with fail
          refine HC.out.mono ?_
          rintro e w16 ⟨rfl, hA⟩
          go_wp2_with fail
          go_end0
          exact ⟨rfl, HSS.out ▸ (hA.after NN.out TT.out).pre HB6.out⟩
        · have c16 : W15.cell? ⟨mp, 16, none⟩ = some (.func (.func 74) #[.pointer (some ⟨mp, 0, none⟩)] #[]) := H9.out.cell 16 _ (by rw [← hv]; rfl)
          have HC := Lib.hid hcall
          clear hcall hv
          go_wp2_with fail
          refine HC.out.mono ?_
          rintro e w16 ⟨rfl, hA⟩
          go_wp2_with fail
          go_end0
          exact ⟨rfl, HSS.out ▸ (hA.after NN.out TT.out).pre HB6.out⟩
        · have c16 : W15.cell? ⟨mp, 16, none⟩ = some (.func (.func 98) #[.pointer (some ⟨mp, 0, none⟩)] #[]) := H9.out.cell 16 _ (by rw [← hv]; rfl)
          have HC := Lib.hid hcall
          clear hcall hv
          go_wp2_with fail
          refine HC.out.mono ?_
          rintro e w16 ⟨rfl, hA⟩
          go_wp2_with fail
          go_end0
          exact ⟨rfl, HSS.out ▸ (hA.after NN.out TT.out).pre HB6.out⟩
        · have c16 : W15.cell? ⟨mp, 16, none⟩ = some (.func (.func 73) #[.pointer (some ⟨mp, 0, none⟩)] #[]) := H9.out.cell 16 _ (by rw [← hv]; rfl)
          have HC := Lib.hid hcall
          clear hcall hv
          go_wp2_with fail
          refine HC.out.mono ?_
          rintro e w16 ⟨rfl, hA⟩
          go_wp2_with fail
          go_end0
          exact ⟨rfl, HSS.out ▸ (hA.after NN.out TT.out).pre HB6.out⟩
        · have c16 : W15.cell? ⟨mp, 16, none⟩ = some (.func (.func 97) #[.pointer (some ⟨mp, 0, none⟩)] #[]) := H9.out.cell 16 _ (by rw [← hv]; rfl)
          have HC := Lib.hid hcall
          clear hcall hv
          go_wp2_with fail
          refine HC.out.mono ?_
          rintro e w16 ⟨rfl, hA⟩
          go_wp2_with fail
          go_end0
          exact ⟨rfl, HSS.out ▸ (hA.after NN.out TT.out).pre HB6.out⟩
        · have c16 : W15.cell? ⟨mp, 16, none⟩ = some (.func (.func 96) #[.pointer (some ⟨mp, 0, none⟩)] #[]) := H9.out.cell 16 _ (by rw [← hv]; rfl)
          have HC := Lib.hid hcall
          clear hcall hv
          go_wp2_with fail
          refine HC.out.mono ?_
          rintro e w16 ⟨rfl, hA⟩
          go_wp2_with fail
          go_end0
          exact ⟨rfl, HSS.out ▸ (hA.after NN.out TT.out).pre HB6.out⟩
        · have c16 : W15.cell? ⟨mp, 16, none⟩ = some (.func (.func 109) #[.pointer (some ⟨mp, 0, none⟩)] #[]) := H9.out.cell 16 _ (by rw [← hv]; rfl)
          have HC := Lib.hid hcall
          clear hcall hv
          go_wp2_with fail
          refine HC.out.mono ?_
          rintro e w16 ⟨rfl, hA⟩
          go_wp2_with fail
          go_end0
          exact ⟨rfl, HSS.out ▸ (hA.after NN.out TT.out).pre HB6.out⟩
        · have c16 : W15.cell? ⟨mp, 16, none⟩ = some (.func (.func 110) #[.pointer (some ⟨mp, 0, none⟩)] #[]) := H9.out.cell 16 _ (by rw [← hv]; rfl)
          have HC := Lib.hid hcall
          clear hcall hv
          go_wp2_with fail
          refine HC.out.mono ?_
          rintro e w16 ⟨rfl, hA⟩
          go_wp2_with fail
          go_end0
          exact ⟨rfl, HSS.out ▸ (hA.after NN.out TT.out).pre HB6.out⟩
        · have c16 : W15.cell? ⟨mp, 16, none⟩ = some (.func (.func 105) #[] #[.pointer (some ⟨x, 0, none⟩), .pointer (some ⟨y, 0, none⟩), .pointer (some ⟨z, 0, none⟩)]) := H9.out.cell 16 _ (by rw [← hv]; rfl)
          have HC := Lib.hid hcall
          clear hcall hv
          go_wp2_with fail
          refine HC.out.mono ?_
          rintro e w16 ⟨rfl, hA⟩
          go_wp2_with fail
          go_end0
          exact ⟨rfl, HSS.out ▸ (hA.after NN.out TT.out).pre HB6.out⟩
        · have c16 : W15.cell? ⟨mp, 16, none⟩ = some (.func (.func 116) #[] #[.pointer (some ⟨x, 0, none⟩), .pointer (some ⟨y, 0, none⟩)]) := H9.out.cell 16 _ (by rw [← hv]; rfl)
          have HC := Lib.hid hcall
          clear hcall hv
          go_wp2_with fail
          refine HC.out.mono ?_
          rintro e w16 ⟨rfl, hA⟩
          go_wp2_with fail
          go_end0
          exact ⟨rfl, HSS.out ▸ (hA.after NN.out TT.out).pre HB6.out⟩
      · rw [if_neg hnk] at HSS
        have g1 : (((k : Int) + 1) == (need : Int)) = false := by simp; omega
        clear hnk
        have c17e : ∀ e : Ext w, e.W.cell? ⟨mp, 17, none⟩ = some (.slice (some ⟨g, 0, none⟩) n a.rc) := fun e => ext_cell c17 e
        go_enter Tryz.func25, Tryz.ntmps25
        go_wp2_with fail
        refine wp_region_mix (fun w' => ∃ e : Ext w, w' = e.W) [(true, 0), (true, 1), (true, 2), (true, 3), (true, 4), (true, 5), (true, 6), (true, 7), (true, 8), (true, 9), (false, 10), (true, 11)] [12, 13, 14] (by kernel_rfl) (by kernel_rfl) (by intro _ _ d _ _ h; cases d <;> exact h) ⟨⟨w.drew, (Below.refl _ _).drew⟩, rfl⟩ ?_
        simp only [pickM, pickL, List.drop_succ_cons, List.drop_zero]
        repeat (first | (refine mix_pure (by rfl) (by rfl) ?_; intro K hK; go_big_quiet_op; go_big_quiet_on) | (refine mix_nilc ⟨mp, 0, none⟩ (by rfl) (by kernel_rfl) ?_; go_simp))
        refine mix_eff (by rfl) ?_
        intro K hK
        go_simp
        rw [HIF.out]
        refine hK _ _ ⟨⟨_, (Below.refl _ _).drew⟩, rfl⟩ ?_
        clear hK K
        repeat (first | (refine mix_pure (by rfl) (by rfl) ?_; intro K hK; go_big_quiet_op; go_big_quiet_on) | (refine mix_nilc ⟨mp, 0, none⟩ (by rfl) (by kernel_rfl) ?_; go_simp))
        refine mix_nil ?_
        have hbd : Below w.heap.size w w.drew := (Below.refl _ _).drew
        obtain ⟨A9, hA9⟩ : ∃ A9, (if a.rc = j then (some ⟨g, 0, none⟩ : Option Addr) else some ⟨g, j, none⟩) = A9 := ⟨_, rfl⟩
        rw [hA9]
        have hA9' : 0 < d → A9 = some ⟨g, j, none⟩ := by intro h0; rw [← hA9, if_neg (by have := HHD.out; omega)]
        have hrd9 : Rd w.drew A9 (bys (S.raw.drop j)) := by
          by_cases h0 : 0 < d
          · rw [hA9' h0]
            have hr := (HH.out.below hbd).rest.raw.1.rd
            rw [HRA.out] at hr
            have := rd_drop hr j
            rwa [Nat.zero_add] at this
          · rw [List.eq_nil_of_length_eq_zero (by rw [HDL.out]; omega : (S.raw.drop j).length = 0)]
            exact Rd.nil _ _
        have HRN := Lib.hid (HRUN.out g j (a.rc - j) A9 w.drew hA9' hrd9)
        rw [← HHD.out] at HRN
        have HH5 := Lib.hid (HH.out.below hbd)
        have HB0 := Lib.hid hbd
        clear hA9 hA9' hrd9 hbd c17 c18 c17e
        generalize w.drew = w0 at *
        go_wp2_with fail
        refine HRN.out.mono ?_
        rintro e w5 ⟨⟨r, rfl, hrr⟩, hb5⟩
        have hr5 := H5R.out r hrr
        have H5 := Lib.hid (HH5.out.below hb5)
        have HB5 := Lib.hid (below_trans HB0.out hb5)
        clear hrr hb5 HRN HH5 HB0
        have c17 : w5.cell? ⟨mp, 17, none⟩ = some (.slice (some ⟨g, 0, none⟩) n a.rc) := by have h17 := H5.out.c17; rw [HN.out, HRA.out] at h17; exact h17
        have c18 : w5.cell? ⟨mp, 18, none⟩ = some (.slice a.lA k a.lc) := H5.out.cell 18 _ (by rw [← HK.out]; rfl)
        have c17e : ∀ e : Ext w5, e.W.cell? ⟨mp, 17, none⟩ = some (.slice (some ⟨g, 0, none⟩) n a.rc) := fun e => ext_cell c17 e
        go_wp2_with fail
        refine wp_region_mix (fun w' => ∃ e : Ext w5, w' = e.W) [(true, 0), (true, 1), (true, 2), (true, 3), (true, 4), (true, 5), (true, 6), (true, 7), (true, 8), (true, 9), (true, 10), (true, 11), (true, 12), (true, 13), (true, 14), (true, 15), (true, 16)] [] (by kernel_rfl) (by kernel_rfl) (by intro _ _ d _ _ h; cases d <;> exact h) ⟨⟨w5.drew, (Below.refl _ _).drew⟩, rfl⟩ ?_
        simp only [pickM, pickL, List.drop_succ_cons, List.drop_zero]
        repeat (first | (refine mix_pure (by rfl) (by rfl) ?_; intro K hK; go_big_quiet_op; go_big_quiet_on) | (refine mix_nilc ⟨mp, 0, none⟩ (by rfl) (by kernel_rfl) ?_; go_simp) | (refine mix_skip (by rfl) ?_; go_simp))
        refine mix_nil (wpList_nil ?_)
        clear c17 c18 c17e 
        have hbd : Below w5.heap.size w5 w5.drew := (Below.refl _ _).drew
        have H6 := Lib.hid (H5.out.below hbd)
        have HB6 := Lib.hid (below_trans HB5.out hbd)
        clear hbd H5 HB5
        generalize w5.drew = w6 at *
        have d17 : w6.cell? ⟨mp, 17, none⟩ = some (.slice (some ⟨g, 0, none⟩) n a.rc) := by have h17 := H6.out.c17; rw [HN.out, HRA.out] at h17; exact h17
        go_wp2_with (first
          | (at_builtin; refine wpList_appU rfl (.tmp 42) (.tmp 44) rfl (some ⟨g, 0, none⟩) n a.rc S.raw (by kernel_rfl) (by have := (H6.out.alloc (.cells #[.int .u8 b] 5)).rest.raw.1; rw [HRA.out] at this; exact this) HN.out w6.heap.size 1 b (by kernel_rfl) (heap_new_at rfl) (by omega) ?_; intro W3 A3 c3 HR3 T3 N3; have HM3 := Lib.hid (T3.out.heap (H6.out.alloc (.cells #[.int .u8 b] 5)).cells (by have := (H6.out.alloc (.cells #[.int .u8 b] 5)).notmp (H6.out.alloc (.cells #[.int .u8 b] 5)).rest.raw; rw [HRA.out] at this; exact this)))
          | (refine wpList_sputN HM3.out rfl rfl 22 (.tmp 47) (.tmp 45) rfl 17 (.slice A3 (n + 1 : Nat) c3) (by kernel_rfl) (by kernel_rfl) rfl info_slcS (by simp [mca, mcs]) (mca { S with raw := S.raw ++ [b] } { a with rA := A3, rc := c3 }) (HDS1.out A3 c3) ?_; intro W4 M4 T4; obtain ⟨h4, t4, n4⟩ := (H6.out.alloc (.cells #[.int .u8 b] 5)).rawApp (A3 := A3) (c3 := c3) (b := b) (by rw [HRA.out]; exact T3.out) HR3.out (by rw [HRA.out]; exact N3.out) M4.out T4.out; have H7 := Lib.hid h4; have T7 : Hid (Turn s w6 W4) := (Turn.of (below_alloc (Below.refl _ _) (.cells #[.int .u8 b] 5))).tr t4; have N7 : Hid (∀ k ∈ blkA A3 ++ s, k ∈ s ∨ w6.heap.size ≤ k) := (fun k hk => (n4 k hk).imp id (fun h => Nat.le_trans (below_alloc (Below.refl w6.heap.size w6) (.cells #[.int .u8 b] 5)).size h)); have d18 : W4.cell? ⟨mp, 18, none⟩ = some (.slice a.lA k a.lc) := h4.cell 18 _ (by rw [← HK.out]; rfl); clear h4 t4 n4)
          | (at_builtin; refine wpList_appU rfl (.tmp 53) (.tmp 55) rfl a.lA k a.lc S.l (by kernel_rfl) (H7.out.alloc (.cells #[.int .u8 b] 5)).rest.l.1 HK.out W4.heap.size 1 b (by kernel_rfl) (heap_new_at rfl) (by omega) ?_; intro W13 A13 c13 HR13 T13 N13; have HM13 := Lib.hid (T13.out.heap (H7.out.alloc (.cells #[.int .u8 b] 5)).cells ((H7.out.alloc (.cells #[.int .u8 b] 5)).notmp (H7.out.alloc (.cells #[.int .u8 b] 5)).rest.l)))
          | (refine wpList_sputN HM13.out rfl rfl 22 (.tmp 58) (.tmp 56) rfl 18 (.slice A13 (k + 1 : Nat) c13) (by kernel_rfl) (by kernel_rfl) rfl info_slcS (by simp [mca, mcs]) (mca { S with raw := S.raw ++ [b], l := S.l ++ [b] } { a with rA := A3, rc := c3, lA := A13, lc := c13 }) (HDS2.out A3 c3 A13 c13) ?_; intro W14 M14 T14; obtain ⟨h14, t14, n14⟩ := (H7.out.alloc (.cells #[.int .u8 b] 5)).lApp (A3 := A13) (c3 := c13) (b := b) T13.out HR13.out N13.out M14.out T14.out; have H8 := Lib.hid h14; have T8 : Hid (Turn (blkA A3 ++ s) W4 W14) := (Turn.of (below_alloc (Below.refl _ _) (.cells #[.int .u8 b] 5))).tr t14; have N8 : Hid (∀ k ∈ blkA A13 ++ (blkA A3 ++ s), k ∈ blkA A3 ++ s ∨ W4.heap.size ≤ k) := (fun k hk => (n14 k hk).imp id (fun h => Nat.le_trans (below_alloc (Below.refl W4.heap.size W4) (.cells #[.int .u8 b] 5)).size h)); clear h14 t14 n14))
        clear d17 d18 M4 M14 T3 T4 T13 T14 N3 N13 HR3 HR13 HM3 HM13
        generalize hs8 : blkA A13 ++ (blkA A3 ++ s) = s8 at *
        generalize hs7 : blkA A3 ++ s = s7 at *
        clear hs8 hs7
        have f18 : ∀ e : Ext W14, e.W.cell? ⟨mp, 18, none⟩ = some (.slice A13 (k + 1 : Nat) c13) := fun e => ext_cell (H8.out.cell 18 _ (by rw [← HLEN2.out]; rfl)) e
        have f19 : ∀ e : Ext W14, e.W.cell? ⟨mp, 19, none⟩ = some (.int .i64 need) := fun e => ext_cell (H8.out.cell 19 _ (by rw [← HND.out]; rfl)) e
        have HRAWP : Hid (0 < (S.raw ++ [b]).length) := by show 0 < (S.raw ++ [b]).length; simp
        refine wp_region_mix (fun w' => ∃ e : Ext W14, w' = e.W) [(true, 0), (true, 1), (true, 2), (true, 3), (true, 4), (true, 5), (true, 6), (true, 7), (true, 8), (true, 9)] [] (by kernel_rfl) (by kernel_rfl) (by intro _ _ d _ _ h; cases d <;> exact h) ⟨⟨W14.drew, (Below.refl _ _).drew⟩, rfl⟩ ?_
        simp only [pickM, pickL, List.drop_succ_cons, List.drop_zero]
        repeat (first | (refine mix_pure (by rfl) (by rfl) ?_; intro K hK; go_big_quiet_op; go_big_quiet_on) | (refine mix_nilc ⟨mp, 0, none⟩ (by rfl) (by kernel_rfl) ?_; go_simp))
        refine mix_nil (wpList_nil ?_)
        clear f18 f19
        have hbd : Below W14.heap.size W14 W14.drew := (Below.refl _ _).drew
        have H9 := Lib.hid (H8.out.below hbd)
        have T9 := Lib.hid (T8.out.tr (Turn.of (s := s7) hbd))
        have TT : Hid (Turn s w6 W14.drew) := T7.out.trans T9.out N7.out
        have NN : Hid (∀ k ∈ s8, k ∈ s ∨ w6.heap.size ≤ k) := fun k hk => (N8.out k hk).elim (N7.out k) (fun h => .inr (Nat.le_trans T7.out.size h))
        clear hbd H8 H7 T8 T7 T9 N7 N8
        generalize W14.drew = W15 at *
        go_wp2_with fail
        go_end0
        exact ⟨rfl, HSS.out ▸ ((MAct.same H9.out (Turn.refl _ _)).after NN.out TT.out).pre HB6.out⟩
    · have h5n := HFN.out rfl
      obtain ⟨m, hm⟩ : ∃ m, n - 1 = m := ⟨_, rfl⟩
      have hm2 : (n : Int) - 1 = (m : Int) := by omega
      have hm3 : m < n := by omega
      rw [hm] at hgy
      have HY := Lib.hid (hgy (by omega))
      clear hgy hm
      by_cases hby : b = y
      · subst hby
        rw [if_pos ⟨rfl, rfl⟩] at HSS
        have c17e : ∀ e : Ext w, e.W.cell? ⟨mp, 17, none⟩ = some (.slice (some ⟨g, 0, none⟩) n a.rc) := fun e => ext_cell c17 e
        go_enter Tryz.func25, Tryz.ntmps25
        go_wp2_with fail
        refine wp_region_mix (fun w' => ∃ e : Ext w, w' = e.W) [(true, 0), (true, 1), (true, 2), (true, 3), (true, 4), (true, 5), (true, 6), (true, 7), (true, 8), (true, 9), (false, 10), (true, 11)] [12, 13, 14] (by kernel_rfl) (by kernel_rfl) (by intro _ _ d _ _ h; cases d <;> exact h) ⟨⟨w.drew, (Below.refl _ _).drew⟩, rfl⟩ ?_
        simp only [pickM, pickL, List.drop_succ_cons, List.drop_zero]
        repeat (first | (refine mix_pure (by rfl) (by rfl) ?_; intro K hK; go_big_quiet_op; go_big_quiet_on) | (refine mix_nilc ⟨mp, 0, none⟩ (by rfl) (by kernel_rfl) ?_; go_simp))
        refine mix_eff (by rfl) ?_
        intro K hK
        go_simp
        rw [HIF.out]
        refine hK _ _ ⟨⟨_, (Below.refl _ _).drew⟩, rfl⟩ ?_
        clear hK K
        repeat (first | (refine mix_pure (by rfl) (by rfl) ?_; intro K hK; go_big_quiet_op; go_big_quiet_on) | (refine mix_nilc ⟨mp, 0, none⟩ (by rfl) (by kernel_rfl) ?_; go_simp))
        refine mix_nil ?_
        have hbd : Below w.heap.size w w.drew := (Below.refl _ _).drew
        obtain ⟨A9, hA9⟩ : ∃ A9, (if a.rc = j then (some ⟨g, 0, none⟩ : Option Addr) else some ⟨g, j, none⟩) = A9 := ⟨_, rfl⟩
        rw [hA9]
        have hA9' : 0 < d → A9 = some ⟨g, j, none⟩ := by intro h0; rw [← hA9, if_neg (by have := HHD.out; omega)]
        have hrd9 : Rd w.drew A9 (bys (S.raw.drop j)) := by
          by_cases h0 : 0 < d
          · rw [hA9' h0]
            have hr := (HH.out.below hbd).rest.raw.1.rd
            rw [HRA.out] at hr
            have := rd_drop hr j
            rwa [Nat.zero_add] at this
          · rw [List.eq_nil_of_length_eq_zero (by rw [HDL.out]; omega : (S.raw.drop j).length = 0)]
            exact Rd.nil _ _
        have HRN := Lib.hid (HRUN.out g j (a.rc - j) A9 w.drew hA9' hrd9)
        rw [← HHD.out] at HRN
        have HH5 := Lib.hid (HH.out.below hbd)
        have HB0 := Lib.hid hbd
        clear hA9 hA9' hrd9 hbd c17 c18 c17e
        generalize w.drew = w0 at *
        go_wp2_with fail
        refine HRN.out.mono ?_
        rintro e w5 ⟨⟨r, rfl, hrr⟩, hb5⟩
        have hr5 := H5R.out r hrr
        have H5 := Lib.hid (HH5.out.below hb5)
        have HB5 := Lib.hid (below_trans HB0.out hb5)
        clear hrr hb5 HRN HH5 HB0
        have c17 : w5.cell? ⟨mp, 17, none⟩ = some (.slice (some ⟨g, 0, none⟩) n a.rc) := by have h17 := H5.out.c17; rw [HN.out, HRA.out] at h17; exact h17
        have c18 : w5.cell? ⟨mp, 18, none⟩ = some (.slice a.lA k a.lc) := H5.out.cell 18 _ (by rw [← HK.out]; rfl)
        have c17e : ∀ e : Ext w5, e.W.cell? ⟨mp, 17, none⟩ = some (.slice (some ⟨g, 0, none⟩) n a.rc) := fun e => ext_cell c17 e
        have cye : ∀ e : Ext w5, e.W.cell? ⟨g, m, none⟩ = some (.int .u8 b) := fun e => ext_cell (Below.cell_of HB5.out HY.out) e
        go_wp2_with fail
        refine wp_region_mix (fun w' => ∃ e : Ext w5, w' = e.W) [(true, 0), (true, 1), (true, 2), (true, 3), (true, 4), (true, 5), (true, 6), (true, 7), (true, 8), (true, 9), (true, 10), (true, 11), (true, 12), (true, 13), (true, 14), (true, 15), (true, 16)] [] (by kernel_rfl) (by kernel_rfl) (by intro _ _ d _ _ h; cases d <;> exact h) ⟨⟨w5.drew, (Below.refl _ _).drew⟩, rfl⟩ ?_
        simp only [pickM, pickL, List.drop_succ_cons, List.drop_zero]
        repeat (first | (refine mix_pure (by rfl) (by rfl) ?_; intro K hK; go_big_quiet_op; go_big_quiet_on) | (refine mix_nilc ⟨mp, 0, none⟩ (by rfl) (by kernel_rfl) ?_; go_simp) | (refine mix_skip (by rfl) ?_; go_simp))
        refine mix_nil (wpList_nil ?_)
        clear c17 c18 c17e cye
        have hbd : Below w5.heap.size w5 w5.drew := (Below.refl _ _).drew
        have H6 := Lib.hid (H5.out.below hbd)
        have HB6 := Lib.hid (below_trans HB5.out hbd)
        clear hbd H5 HB5
        generalize w5.drew = w6 at *
        have d17 : w6.cell? ⟨mp, 17, none⟩ = some (.slice (some ⟨g, 0, none⟩) n a.rc) := by have h17 := H6.out.c17; rw [HN.out, HRA.out] at h17; exact h17
        go_wp2_with fail
        refine (mBad H6.out 4).mono ?_
        rintro e w7 ⟨rfl, hA⟩
        go_wp2_with fail
        go_end0
        exact ⟨rfl, HSS.out ▸ hA.pre HB6.out⟩
      · have g2 : ((b : Int) == (y : Int)) = false := by simp; omega
        rw [if_neg (fun h => hby h.2), if_pos rfl] at HSS
        have c17e : ∀ e : Ext w, e.W.cell? ⟨mp, 17, none⟩ = some (.slice (some ⟨g, 0, none⟩) n a.rc) := fun e => ext_cell c17 e
        go_enter Tryz.func25, Tryz.ntmps25
        go_wp2_with fail
        refine wp_region_mix (fun w' => ∃ e : Ext w, w' = e.W) [(true, 0), (true, 1), (true, 2), (true, 3), (true, 4), (true, 5), (true, 6), (true, 7), (true, 8), (true, 9), (false, 10), (true, 11)] [12, 13, 14] (by kernel_rfl) (by kernel_rfl) (by intro _ _ d _ _ h; cases d <;> exact h) ⟨⟨w.drew, (Below.refl _ _).drew⟩, rfl⟩ ?_
        simp only [pickM, pickL, List.drop_succ_cons, List.drop_zero]
        repeat (first | (refine mix_pure (by rfl) (by rfl) ?_; intro K hK; go_big_quiet_op; go_big_quiet_on) | (refine mix_nilc ⟨mp, 0, none⟩ (by rfl) (by kernel_rfl) ?_; go_simp))
        refine mix_eff (by rfl) ?_
        intro K hK
        go_simp
        rw [HIF.out]
        refine hK _ _ ⟨⟨_, (Below.refl _ _).drew⟩, rfl⟩ ?_
        clear hK K
        repeat (first | (refine mix_pure (by rfl) (by rfl) ?_; intro K hK; go_big_quiet_op; go_big_quiet_on) | (refine mix_nilc ⟨mp, 0, none⟩ (by rfl) (by kernel_rfl) ?_; go_simp))
        refine mix_nil ?_
        have hbd : Below w.heap.size w w.drew := (Below.refl _ _).drew
        obtain ⟨A9, hA9⟩ : ∃ A9, (if a.rc = j then (some ⟨g, 0, none⟩ : Option Addr) else some ⟨g, j, none⟩) = A9 := ⟨_, rfl⟩
        rw [hA9]
        have hA9' : 0 < d → A9 = some ⟨g, j, none⟩ := by intro h0; rw [← hA9, if_neg (by have := HHD.out; omega)]
        have hrd9 : Rd w.drew A9 (bys (S.raw.drop j)) := by
          by_cases h0 : 0 < d
          · rw [hA9' h0]
            have hr := (HH.out.below hbd).rest.raw.1.rd
            rw [HRA.out] at hr
            have := rd_drop hr j
            rwa [Nat.zero_add] at this
          · rw [List.eq_nil_of_length_eq_zero (by rw [HDL.out]; omega : (S.raw.drop j).length = 0)]
            exact Rd.nil _ _
        have HRN := Lib.hid (HRUN.out g j (a.rc - j) A9 w.drew hA9' hrd9)
        rw [← HHD.out] at HRN
        have HH5 := Lib.hid (HH.out.below hbd)
        have HB0 := Lib.hid hbd
        clear hA9 hA9' hrd9 hbd c17 c18 c17e
        generalize w.drew = w0 at *
        go_wp2_with fail
        refine HRN.out.mono ?_
        rintro e w5 ⟨⟨r, rfl, hrr⟩, hb5⟩
        have hr5 := H5R.out r hrr
        have H5 := Lib.hid (HH5.out.below hb5)
        have HB5 := Lib.hid (below_trans HB0.out hb5)
        clear hrr hb5 HRN HH5 HB0
        have c17 : w5.cell? ⟨mp, 17, none⟩ = some (.slice (some ⟨g, 0, none⟩) n a.rc) := by have h17 := H5.out.c17; rw [HN.out, HRA.out] at h17; exact h17
        have c18 : w5.cell? ⟨mp, 18, none⟩ = some (.slice a.lA k a.lc) := H5.out.cell 18 _ (by rw [← HK.out]; rfl)
        have c17e : ∀ e : Ext w5, e.W.cell? ⟨mp, 17, none⟩ = some (.slice (some ⟨g, 0, none⟩) n a.rc) := fun e => ext_cell c17 e
        have cye : ∀ e : Ext w5, e.W.cell? ⟨g, m, none⟩ = some (.int .u8 y) := fun e => ext_cell (Below.cell_of HB5.out HY.out) e
        go_wp2_with fail
        refine wp_region_mix (fun w' => ∃ e : Ext w5, w' = e.W) [(true, 0), (true, 1), (true, 2), (true, 3), (true, 4), (true, 5), (true, 6), (true, 7), (true, 8), (true, 9), (true, 10), (true, 11), (true, 12), (true, 13), (true, 14), (true, 15), (true, 16)] [] (by kernel_rfl) (by kernel_rfl) (by intro _ _ d _ _ h; cases d <;> exact h) ⟨⟨w5.drew, (Below.refl _ _).drew⟩, rfl⟩ ?_
        simp only [pickM, pickL, List.drop_succ_cons, List.drop_zero]
        repeat (first | (refine mix_pure (by rfl) (by rfl) ?_; intro K hK; go_big_quiet_op; go_big_quiet_on) | (refine mix_nilc ⟨mp, 0, none⟩ (by rfl) (by kernel_rfl) ?_; go_simp) | (refine mix_skip (by rfl) ?_; go_simp))
        refine mix_nil (wpList_nil ?_)
        clear c17 c18 c17e cye
        have hbd : Below w5.heap.size w5 w5.drew := (Below.refl _ _).drew
        have H6 := Lib.hid (H5.out.below hbd)
        have HB6 := Lib.hid (below_trans HB5.out hbd)
        clear hbd H5 HB5
        generalize w5.drew = w6 at *
        have d17 : w6.cell? ⟨mp, 17, none⟩ = some (.slice (some ⟨g, 0, none⟩) n a.rc) := by have h17 := H6.out.c17; rw [HN.out, HRA.out] at h17; exact h17
        go_wp2_with (first
          | (at_builtin; refine wpList_appU rfl (.tmp 42) (.tmp 44) rfl (some ⟨g, 0, none⟩) n a.rc S.raw (by kernel_rfl) (by have := (H6.out.alloc (.cells #[.int .u8 b] 5)).rest.raw.1; rw [HRA.out] at this; exact this) HN.out w6.heap.size 1 b (by kernel_rfl) (heap_new_at rfl) (by omega) ?_; intro W3 A3 c3 HR3 T3 N3; have HM3 := Lib.hid (T3.out.heap (H6.out.alloc (.cells #[.int .u8 b] 5)).cells (by have := (H6.out.alloc (.cells #[.int .u8 b] 5)).notmp (H6.out.alloc (.cells #[.int .u8 b] 5)).rest.raw; rw [HRA.out] at this; exact this)))
          | (refine wpList_sputN HM3.out rfl rfl 22 (.tmp 47) (.tmp 45) rfl 17 (.slice A3 (n + 1 : Nat) c3) (by kernel_rfl) (by kernel_rfl) rfl info_slcS (by simp [mca, mcs]) (mca { S with raw := S.raw ++ [b] } { a with rA := A3, rc := c3 }) (HDS1.out A3 c3) ?_; intro W4 M4 T4; obtain ⟨h4, t4, n4⟩ := (H6.out.alloc (.cells #[.int .u8 b] 5)).rawApp (A3 := A3) (c3 := c3) (b := b) (by rw [HRA.out]; exact T3.out) HR3.out (by rw [HRA.out]; exact N3.out) M4.out T4.out; have H7 := Lib.hid h4; have T7 : Hid (Turn s w6 W4) := (Turn.of (below_alloc (Below.refl _ _) (.cells #[.int .u8 b] 5))).tr t4; have N7 : Hid (∀ k ∈ blkA A3 ++ s, k ∈ s ∨ w6.heap.size ≤ k) := (fun k hk => (n4 k hk).imp id (fun h => Nat.le_trans (below_alloc (Below.refl w6.heap.size w6) (.cells #[.int .u8 b] 5)).size h)); have d18 : W4.cell? ⟨mp, 18, none⟩ = some (.slice a.lA k a.lc) := h4.cell 18 _ (by rw [← HK.out]; rfl); clear h4 t4 n4))
        go_end0
        exact ⟨rfl, HSS.out ▸ ((MAct.same H7.out (Turn.refl _ _)).after N7.out T7.out).pre HB6.out⟩
end Go.Proofs.YtlmdkmflbhnlgaaGreat
-- ScanW: scan's See: a bit is seen. No condition.
namespace Go.Proofs.YtlmdkmflbhnlgaaGreat
open Go.RowKit
variable {w : World} {s : List Nat} {mp : Nat} {S : MS} {a : MA}
/-- One of the calls that take a bit. -/
def StepCall (mp b : Nat) (v : Value) (W : World) (Q : Ending → World → Prop) : Prop :=
  (v = .func (.func 25) #[.pointer (some ⟨mp, 0, none⟩)] #[] ∧ Calls Tryz.prog 25 #[.pointer (some ⟨mp, 0, none⟩), .int .u8 b] W Q) ∨ (v = .func (.func 114) #[.pointer (some ⟨mp, 0, none⟩)] #[] ∧ Calls Tryz.prog 114 #[.pointer (some ⟨mp, 0, none⟩), .int .u8 b] W Q) ∨ (∃ x1 x2 x3 x4 x5, v = .func (.func 127) #[] #[.pointer (some ⟨x1, 0, none⟩), .pointer (some ⟨x2, 0, none⟩), .pointer (some ⟨x3, 0, none⟩), .pointer (some ⟨x4, 0, none⟩), .pointer (some ⟨x5, 0, none⟩)] ∧ Calls Tryz.prog 127 #[.int .u8 b, .pointer (some ⟨x1, 0, none⟩), .pointer (some ⟨x2, 0, none⟩), .pointer (some ⟨x3, 0, none⟩), .pointer (some ⟨x4, 0, none⟩), .pointer (some ⟨x5, 0, none⟩)] W Q) ∨ (∃ x1 x2 x3, v = .func (.func 131) #[] #[.pointer (some ⟨x1, 0, none⟩), .pointer (some ⟨x2, 0, none⟩), .pointer (some ⟨x3, 0, none⟩)] ∧ Calls Tryz.prog 131 #[.int .u8 b, .pointer (some ⟨x1, 0, none⟩), .pointer (some ⟨x2, 0, none⟩), .pointer (some ⟨x3, 0, none⟩)] W Q)
theorem mStep (h : MR w s mp S a) (ok : MOk S) (hk : S.kind < 2) (hr : S.raw.length ≤ 30000) (b : Nat) (hb : b ≤ 1) : StepCall mp b a.sv w (MDone w s mp (stepM S b)) := by
  have hx := h.rest.step
  have hst := ok.stp hk
  cases e : S.step with
  | dynamic =>
    rw [e] at hx hst
    obtain ⟨k1, k2, k3, k4⟩ := hst
    rw [stepM_dyn e]
    exact .inl ⟨hx, mDynamic h b _ _ rfl hr rfl (by omega) hb ok.l _ rfl k4⟩
  | last =>
    rw [e] at hx hst
    have k1 : S.at_ < 9 := hst
    rw [stepM_last e]
    exact .inr (.inl ⟨hx, mLast h b hb (by omega)⟩)
  | part prev ev ah size d =>
    rw [e] at hx hst
    obtain ⟨k1, k2, k3, k4, k5, k6, k7, k8⟩ := hst
    obtain ⟨p, q, r, u, t, dv, hv, b1, b2, b3, b4, b5, b6⟩ := hx
    have hsz : size ≤ 30000 := by
      cases d with
      | fd k =>
        obtain ⟨hk, rfl, rfl, hs⟩ := k4
        have e1 : fsize (4 + kSize 2) 4 true = 27 := rfl
        have e2 : fsize (4 + kSize 3) 4 true = 32 := rfl
        rcases hk with rfl | rfl <;> omega
      | xl1 =>
        obtain ⟨rfl, rfl, hs⟩ := k4
        have e1 : fsize 20 8 false = 22 := rfl
        omega
      | xl2 z =>
        obtain ⟨hz1, hz2, rfl, rfl, hs⟩ := k4
        have e1 : fsize (109 + 8 * z) 8 false = 122 + 9 * z := by unfold fsize; rw [if_neg (by omega), if_neg (by simp)]; omega
        omega
    rw [stepM_part e]
    exact .inr (.inr (.inl ⟨p, q, r, u, t, hv, mPartStep h p q r u t prev ev size b _ ah d dv b1 b2 b3 b4 b5 b6 k4 k1 hb k2 k3 rfl (by omega) ok.own k6 hr ok.raw k7 (by omega) ok.l⟩))
  | mark l x =>
    rw [e] at hx hst
    obtain ⟨k1, k2, k3, k4, k5, k6⟩ := hst
    obtain ⟨p, q, r, A, c, av, hv, b1, b2, b3, b4, b5⟩ := hx
    rw [stepM_mark e]
    exact .inr (.inr (.inr ⟨p, q, r, hv, mMarkStep h p q r A c _ l x av b b1 b2 b3 b4 b5 rfl (by omega) (by omega) k3⟩))
/-- What See and Status answer, and what they leave. -/
def SeeOf (w : World) (s : List Nat) (mp : Nat) (S : MS) (e : Ending) (w' : World) : Prop :=
  ∃ A c s' a', e = .returned (.tuple #[.agg (stL S.kind S.err S.sf A c).toArray, .int .i64 0]) ∧ MR w' s' mp S a' ∧ (∀ k ∈ s', k ∈ s ∨ w.heap.size ≤ k) ∧ Turn s w w' ∧ Row w' w.heap.size 5 A c (bys S.sf.data) ∧ ∀ k ∈ blkA A, k ∉ s'
theorem cells_of_stL (k e : Nat) (f : Fr) (A : Option Addr) (c : Nat) : (stL k e f A c).length = 13 := rfl
set_option maxRecDepth 100000 in
set_option maxHeartbeats 4000000 in
theorem mSee (h : MR w s mp S a) (ok : MOk S) (hn : S.seen ≤ 29000) (b : Nat) (hb : b ≤ 1) :
    Calls Tryz.prog 13 #[.pointer (some ⟨mp, 0, none⟩), .int .u8 b] w (SeeOf w s mp (seeM S b)) := by
  have hok := seeM_ok ok b hb
  have hsfd := hok.sfd
  obtain ⟨n, hnn⟩ : ∃ n, S.seen = n := ⟨_, rfl⟩
  obtain ⟨kd, hkd⟩ : ∃ kd, S.kind = kd := ⟨_, rfl⟩
  have c14 : w.cell? ⟨mp, 14, none⟩ = some (.int .i64 n) := h.cell 14 _ (by rw [← hnn]; rfl)
  have c1 : w.cell? ⟨mp, 1, none⟩ = some (.int .i64 kd) := h.cell 1 _ (by rw [← hkd]; rfl)
  have HS : Hid (seeM S b = if kd < 2 then stepM { S with seen := S.seen + 1 } b else { S with seen := S.seen + 1 }) := by show seeM S b = _; rw [← hkd]; rfl
  have HSTEP : Hid (∀ W a', MR W s mp { S with seen := S.seen + 1 } a' → kd < 2 → StepCall mp b a'.sv W (MDone W s mp (stepM { S with seen := S.seen + 1 } b))) := by
    show ∀ W a', _
    intro W a' hW hk
    exact mStep hW ok.saw (by show S.kind < 2; omega) (by show S.raw.length ≤ 30000; have := ok.rawn; omega) b hb
  have HDS : Hid ((mca S a).setIfInBounds 14 (.int .i64 (n + 1 : Nat)) = mca { S with seen := S.seen + 1 } a) := by
    show (mca S a).setIfInBounds 14 (.int .i64 (n + 1 : Nat)) = _
    rw [← hnn]; rfl
  have HSTAT := Lib.hid (fun W s' a' (hW : MR W s' mp (seeM S b) a') => mStatus hW (by omega))
  obtain ⟨T, hT⟩ : ∃ T, seeM S b = T := ⟨_, rfl⟩
  rw [hT] at HS HSTAT ⊢
  have HH := Lib.hid h
  have hmpl := h.lt
  have hb2 : b < 2 := by omega
  have hnl : n ≤ 30000 := by omega
  have HNN := Lib.hid hnn
  have HKD := Lib.hid hkd
  have HSM : Hid (∀ k ∈ s, k < w.heap.size) := h.rest.mem.2
  have gb : decide ((1 : Int) < (b : Int)) = false := by simp; omega
  clear h ok hok hsfd hn hb hT hnn hkd
  obtain ⟨tk, htk⟩ : ∃ tk, T.kind = tk := ⟨_, rfl⟩
  obtain ⟨te, hte⟩ : ∃ te, T.err = te := ⟨_, rfl⟩
  obtain ⟨F, htf⟩ : ∃ F, T.sf = F := ⟨_, rfl⟩
  rw [htk, hte, htf] at HSTAT
  have HTK := Lib.hid htk
  have HTE := Lib.hid hte
  have HTF := Lib.hid htf
  clear htk hte htf
  by_cases hk : kd < 2
  · have gk : decide ((kd : Int) < 2) = true := by simp; omega
    rw [if_pos hk] at HS
    have HKK := Lib.hid hk
    clear hk
    go_enter Tryz.func13, Tryz.ntmps13
    go_upto_region 1 with (fail)
    obtain ⟨W1, hW1, q1, hb1⟩ : ∃ W1, w.alloc (.cells #[.int .i64 0, .int .i64 0, .int .i64 0, .int .u32 0, .bool false, .bool false, .bool false, .bool false, .bool false, .int .u8 0, .int .u8 0, .int .u32 0, .slice none 0 0] 30) = W1 ∧ W1.heap[w.heap.size]? = some (.cells #[.int .i64 0, .int .i64 0, .int .i64 0, .int .u32 0, .bool false, .bool false, .bool false, .bool false, .bool false, .int .u8 0, .int .u8 0, .int .u32 0, .slice none 0 0] 30 (0, 0)) ∧ Below w.heap.size w W1 := ⟨_, rfl, heap_new_at rfl, below_alloc (Below.refl _ _) _⟩
    rw [hW1]
    have H1 := Lib.hid (HH.out.below hb1)
    have B1 := Lib.hid (BoxV.new q1 HSM.out (Nat.le_refl _))
    have HB1 := Lib.hid hb1
    have z14 : W1.cell? ⟨mp, 14, none⟩ = some (.int .i64 n) := Below.cell_of hb1 c14
    have z1 : W1.cell? ⟨mp, 1, none⟩ = some (.int .i64 kd) := Below.cell_of hb1 c1
    clear c14 c1 hW1 q1 hb1
    go_upto_region 7 with (first | (refine wpList_mputN H1.out rfl rfl 3 (.tmp 20) (.tmp 18) rfl 14 (.int .i64 (n + 1 : Nat)) (by kernel_rfl) (by kernel_rfl) rfl info_intS (by decide) { S with seen := S.seen + 1 } a HDS.out (fun _ _ hm => hm) ?_; intro W2 H2 T2; have y1 : W2.cell? ⟨mp, 1, none⟩ = some (.int .i64 kd) := H2.out.cell 1 _ (by rw [← HKD.out]; rfl); have B2 := Lib.hid (B1.out.turn T2.out (fun _ hk => .inl hk)); have hsz2 := T2.out.size) | fail)
    obtain ⟨hv, hcall⟩ | ⟨hv, hcall⟩ | ⟨x1, x2, x3, x4, x5, hv, hcall⟩ | ⟨x1, x2, x3, hv, hcall⟩ := HSTEP.out _ _ H2.out HKK.out
    · have y3 : W2.cell? ⟨mp, 15, none⟩ = some (.func (.func 25) #[.pointer (some ⟨mp, 0, none⟩)] #[]) := H2.out.cell 15 _ (by rw [← hv]; rfl)
      have HC := Lib.hid hcall
      clear hcall hv y1
      go_wp2_with fail
      refine HC.out.mono ?_
      rintro e w3 ⟨rfl, s3, a3, h3, n3, t3⟩
      have H3 : Hid (MR w3 s3 mp T a3) := HS.out ▸ h3
      have B3 := Lib.hid (B2.out.turn t3 n3)
      have N3 : Hid (∀ k ∈ s3, k ∈ s ∨ w.heap.size ≤ k) := fun k hk => (n3 k hk).imp id (fun h => Nat.le_trans HB1.out.size (Nat.le_trans hsz2 h))
      have T3 := Lib.hid (T2.out.tr t3)
      have HG3 : Hid (w.heap.size < w3.heap.size) := heap_lt B3.out.1
      clear h3 n3 t3 H1 H2 B2 B1 T2 z14 z1 hsz2
      go_wp2_with fail
      refine (HSTAT.out _ _ _ H3.out).mono ?_
      rintro e w6 ⟨A', c', rfl, hrow, hb6⟩
      have H6 := Lib.hid (H3.out.below hb6)
      have B6 := Lib.hid (B3.out.turn (Turn.of (s := s3) hb6) (fun _ hk => .inl hk))
      have T6 := Lib.hid (T3.out.tr (Turn.of (s := s) hb6))
      have HROW := Lib.hid hrow
      have HS3 : Hid (∀ k ∈ s3, k < w3.heap.size) := H3.out.rest.mem.2
      have hs03 : w.heap.size ≤ w3.heap.size := Nat.le_trans HB1.out.size T3.out.size
      clear hrow hb6 H3 B3 T3
      go_wp2_with (first
        | (refine wpList_bputs (g := w.heap.size) B6.out.1 rfl 30 (.tmp 4) (.tmp 35) rfl 0 13 (stL tk te F A' c') rfl (by kernel_rfl) (by kernel_rfl) info_statusE (by simp [stL, Value.oneCell']) (by simp) (stL tk te F A' c').toArray (by kernel_rfl) ?_; intro W7 Q7 T7)
        | fail)
      have hbx := Q7.out
      refine bodyPost_ret (v := .tuple #[.agg (stL tk te F A' c').toArray, .int .i64 0]) ?_ rfl ?_
      · obtain ⟨k0, k1, k2, k3, k4, k5, k6, k7, k8, k9, k10, k11, k12⟩ := cells13 hbx
        simp [results, Tryz.results13, go_sem, stL, *]
      · have hrk : ∀ k ∈ blkA A', w3.heap.size ≤ k := fun k hk => own_blk HROW.out k hk
        have hg3 : w.heap.size < w3.heap.size := HG3.out
        refine ⟨A', c', s3, a3, by rw [HTK.out, HTE.out, HTF.out], H6.out.turnG T7.out B6.out.1 B6.out.2, N3.out, ?_, ?_, ?_⟩
        · exact ((Turn.of (s := s) HB1.out).tr T6.out).trans (T7.out.mono (s' := [w.heap.size]) (fun _ h => .inl h)) (fun k hk => .inr (by simp at hk; omega))
        · rw [HTF.out]
          exact (HROW.out.mono hs03).turn T7.out (fun ad e hm => by simp at hm; have := hrk ad.block (by rw [e]; simp [blkA]); omega)
        · intro k hk hm
          have := hrk k hk
          have := HS3.out k hm
          omega
    · have y3 : W2.cell? ⟨mp, 15, none⟩ = some (.func (.func 114) #[.pointer (some ⟨mp, 0, none⟩)] #[]) := H2.out.cell 15 _ (by rw [← hv]; rfl)
      have HC := Lib.hid hcall
      clear hcall hv y1
      go_wp2_with fail
      refine HC.out.mono ?_
      rintro e w3 ⟨rfl, s3, a3, h3, n3, t3⟩
      have H3 : Hid (MR w3 s3 mp T a3) := HS.out ▸ h3
      have B3 := Lib.hid (B2.out.turn t3 n3)
      have N3 : Hid (∀ k ∈ s3, k ∈ s ∨ w.heap.size ≤ k) := fun k hk => (n3 k hk).imp id (fun h => Nat.le_trans HB1.out.size (Nat.le_trans hsz2 h))
      have T3 := Lib.hid (T2.out.tr t3)
      have HG3 : Hid (w.heap.size < w3.heap.size) := heap_lt B3.out.1
      clear h3 n3 t3 H1 H2 B2 B1 T2 z14 z1 hsz2
      go_wp2_with fail
      refine (HSTAT.out _ _ _ H3.out).mono ?_
      rintro e w6 ⟨A', c', rfl, hrow, hb6⟩
      have H6 := Lib.hid (H3.out.below hb6)
      have B6 := Lib.hid (B3.out.turn (Turn.of (s := s3) hb6) (fun _ hk => .inl hk))
      have T6 := Lib.hid (T3.out.tr (Turn.of (s := s) hb6))
      have HROW := Lib.hid hrow
      have HS3 : Hid (∀ k ∈ s3, k < w3.heap.size) := H3.out.rest.mem.2
      have hs03 : w.heap.size ≤ w3.heap.size := Nat.le_trans HB1.out.size T3.out.size
      clear hrow hb6 H3 B3 T3
      go_wp2_with (first
        | (refine wpList_bputs (g := w.heap.size) B6.out.1 rfl 30 (.tmp 4) (.tmp 35) rfl 0 13 (stL tk te F A' c') rfl (by kernel_rfl) (by kernel_rfl) info_statusE (by simp [stL, Value.oneCell']) (by simp) (stL tk te F A' c').toArray (by kernel_rfl) ?_; intro W7 Q7 T7)
        | fail)
      have hbx := Q7.out
      refine bodyPost_ret (v := .tuple #[.agg (stL tk te F A' c').toArray, .int .i64 0]) ?_ rfl ?_
      · obtain ⟨k0, k1, k2, k3, k4, k5, k6, k7, k8, k9, k10, k11, k12⟩ := cells13 hbx
        simp [results, Tryz.results13, go_sem, stL, *]
      · have hrk : ∀ k ∈ blkA A', w3.heap.size ≤ k := fun k hk => own_blk HROW.out k hk
        have hg3 : w.heap.size < w3.heap.size := HG3.out
        refine ⟨A', c', s3, a3, by rw [HTK.out, HTE.out, HTF.out], H6.out.turnG T7.out B6.out.1 B6.out.2, N3.out, ?_, ?_, ?_⟩
        · exact ((Turn.of (s := s) HB1.out).tr T6.out).trans (T7.out.mono (s' := [w.heap.size]) (fun _ h => .inl h)) (fun k hk => .inr (by simp at hk; omega))
        · rw [HTF.out]
          exact (HROW.out.mono hs03).turn T7.out (fun ad e hm => by simp at hm; have := hrk ad.block (by rw [e]; simp [blkA]); omega)
        · intro k hk hm
          have := hrk k hk
          have := HS3.out k hm
          omega
    · have y3 : W2.cell? ⟨mp, 15, none⟩ = some (.func (.func 127) #[] #[.pointer (some ⟨x1, 0, none⟩), .pointer (some ⟨x2, 0, none⟩), .pointer (some ⟨x3, 0, none⟩), .pointer (some ⟨x4, 0, none⟩), .pointer (some ⟨x5, 0, none⟩)]) := H2.out.cell 15 _ (by rw [← hv]; rfl)
      have HC := Lib.hid hcall
      clear hcall hv y1
      go_wp2_with fail
      refine HC.out.mono ?_
      rintro e w3 ⟨rfl, s3, a3, h3, n3, t3⟩
      have H3 : Hid (MR w3 s3 mp T a3) := HS.out ▸ h3
      have B3 := Lib.hid (B2.out.turn t3 n3)
      have N3 : Hid (∀ k ∈ s3, k ∈ s ∨ w.heap.size ≤ k) := fun k hk => (n3 k hk).imp id (fun h => Nat.le_trans HB1.out.size (Nat.le_trans hsz2 h))
      have T3 := Lib.hid (T2.out.tr t3)
      have HG3 : Hid (w.heap.size < w3.heap.size) := heap_lt B3.out.1
      clear h3 n3 t3 H1 H2 B2 B1 T2 z14 z1 hsz2
      go_wp2_with fail
      refine (HSTAT.out _ _ _ H3.out).mono ?_
      rintro e w6 ⟨A', c', rfl, hrow, hb6⟩
      have H6 := Lib.hid (H3.out.below hb6)
      have B6 := Lib.hid (B3.out.turn (Turn.of (s := s3) hb6) (fun _ hk => .inl hk))
      have T6 := Lib.hid (T3.out.tr (Turn.of (s := s) hb6))
      have HROW := Lib.hid hrow
      have HS3 : Hid (∀ k ∈ s3, k < w3.heap.size) := H3.out.rest.mem.2
      have hs03 : w.heap.size ≤ w3.heap.size := Nat.le_trans HB1.out.size T3.out.size
      clear hrow hb6 H3 B3 T3
      go_wp2_with (first
        | (refine wpList_bputs (g := w.heap.size) B6.out.1 rfl 30 (.tmp 4) (.tmp 35) rfl 0 13 (stL tk te F A' c') rfl (by kernel_rfl) (by kernel_rfl) info_statusE (by simp [stL, Value.oneCell']) (by simp) (stL tk te F A' c').toArray (by kernel_rfl) ?_; intro W7 Q7 T7)
        | fail)
      have hbx := Q7.out
      refine bodyPost_ret (v := .tuple #[.agg (stL tk te F A' c').toArray, .int .i64 0]) ?_ rfl ?_
      · obtain ⟨k0, k1, k2, k3, k4, k5, k6, k7, k8, k9, k10, k11, k12⟩ := cells13 hbx
        simp [results, Tryz.results13, go_sem, stL, *]
      · have hrk : ∀ k ∈ blkA A', w3.heap.size ≤ k := fun k hk => own_blk HROW.out k hk
        have hg3 : w.heap.size < w3.heap.size := HG3.out
        refine ⟨A', c', s3, a3, by rw [HTK.out, HTE.out, HTF.out], H6.out.turnG T7.out B6.out.1 B6.out.2, N3.out, ?_, ?_, ?_⟩
        · exact ((Turn.of (s := s) HB1.out).tr T6.out).trans (T7.out.mono (s' := [w.heap.size]) (fun _ h => .inl h)) (fun k hk => .inr (by simp at hk; omega))
        · rw [HTF.out]
          exact (HROW.out.mono hs03).turn T7.out (fun ad e hm => by simp at hm; have := hrk ad.block (by rw [e]; simp [blkA]); omega)
        · intro k hk hm
          have := hrk k hk
          have := HS3.out k hm
          omega
    · have y3 : W2.cell? ⟨mp, 15, none⟩ = some (.func (.func 131) #[] #[.pointer (some ⟨x1, 0, none⟩), .pointer (some ⟨x2, 0, none⟩), .pointer (some ⟨x3, 0, none⟩)]) := H2.out.cell 15 _ (by rw [← hv]; rfl)
      have HC := Lib.hid hcall
      clear hcall hv y1
      go_wp2_with fail
      refine HC.out.mono ?_
      rintro e w3 ⟨rfl, s3, a3, h3, n3, t3⟩
      have H3 : Hid (MR w3 s3 mp T a3) := HS.out ▸ h3
      have B3 := Lib.hid (B2.out.turn t3 n3)
      have N3 : Hid (∀ k ∈ s3, k ∈ s ∨ w.heap.size ≤ k) := fun k hk => (n3 k hk).imp id (fun h => Nat.le_trans HB1.out.size (Nat.le_trans hsz2 h))
      have T3 := Lib.hid (T2.out.tr t3)
      have HG3 : Hid (w.heap.size < w3.heap.size) := heap_lt B3.out.1
      clear h3 n3 t3 H1 H2 B2 B1 T2 z14 z1 hsz2
      go_wp2_with fail
      refine (HSTAT.out _ _ _ H3.out).mono ?_
      rintro e w6 ⟨A', c', rfl, hrow, hb6⟩
      have H6 := Lib.hid (H3.out.below hb6)
      have B6 := Lib.hid (B3.out.turn (Turn.of (s := s3) hb6) (fun _ hk => .inl hk))
      have T6 := Lib.hid (T3.out.tr (Turn.of (s := s) hb6))
      have HROW := Lib.hid hrow
      have HS3 : Hid (∀ k ∈ s3, k < w3.heap.size) := H3.out.rest.mem.2
      have hs03 : w.heap.size ≤ w3.heap.size := Nat.le_trans HB1.out.size T3.out.size
      clear hrow hb6 H3 B3 T3
      go_wp2_with (first
        | (refine wpList_bputs (g := w.heap.size) B6.out.1 rfl 30 (.tmp 4) (.tmp 35) rfl 0 13 (stL tk te F A' c') rfl (by kernel_rfl) (by kernel_rfl) info_statusE (by simp [stL, Value.oneCell']) (by simp) (stL tk te F A' c').toArray (by kernel_rfl) ?_; intro W7 Q7 T7)
        | fail)
      have hbx := Q7.out
      refine bodyPost_ret (v := .tuple #[.agg (stL tk te F A' c').toArray, .int .i64 0]) ?_ rfl ?_
      · obtain ⟨k0, k1, k2, k3, k4, k5, k6, k7, k8, k9, k10, k11, k12⟩ := cells13 hbx
        simp [results, Tryz.results13, go_sem, stL, *]
      · have hrk : ∀ k ∈ blkA A', w3.heap.size ≤ k := fun k hk => own_blk HROW.out k hk
        have hg3 : w.heap.size < w3.heap.size := HG3.out
        refine ⟨A', c', s3, a3, by rw [HTK.out, HTE.out, HTF.out], H6.out.turnG T7.out B6.out.1 B6.out.2, N3.out, ?_, ?_, ?_⟩
        · exact ((Turn.of (s := s) HB1.out).tr T6.out).trans (T7.out.mono (s' := [w.heap.size]) (fun _ h => .inl h)) (fun k hk => .inr (by simp at hk; omega))
        · rw [HTF.out]
          exact (HROW.out.mono hs03).turn T7.out (fun ad e hm => by simp at hm; have := hrk ad.block (by rw [e]; simp [blkA]); omega)
        · intro k hk hm
          have := hrk k hk
          have := HS3.out k hm
          omega
  · have gk : decide ((kd : Int) < 2) = false := by simp; omega
    rw [if_neg hk] at HS
    clear hk
    go_enter Tryz.func13, Tryz.ntmps13
    go_upto_region 1 with (fail)
    obtain ⟨W1, hW1, q1, hb1⟩ : ∃ W1, w.alloc (.cells #[.int .i64 0, .int .i64 0, .int .i64 0, .int .u32 0, .bool false, .bool false, .bool false, .bool false, .bool false, .int .u8 0, .int .u8 0, .int .u32 0, .slice none 0 0] 30) = W1 ∧ W1.heap[w.heap.size]? = some (.cells #[.int .i64 0, .int .i64 0, .int .i64 0, .int .u32 0, .bool false, .bool false, .bool false, .bool false, .bool false, .int .u8 0, .int .u8 0, .int .u32 0, .slice none 0 0] 30 (0, 0)) ∧ Below w.heap.size w W1 := ⟨_, rfl, heap_new_at rfl, below_alloc (Below.refl _ _) _⟩
    rw [hW1]
    have H1 := Lib.hid (HH.out.below hb1)
    have B1 := Lib.hid (BoxV.new q1 HSM.out (Nat.le_refl _))
    have HB1 := Lib.hid hb1
    have z14 : W1.cell? ⟨mp, 14, none⟩ = some (.int .i64 n) := Below.cell_of hb1 c14
    have z1 : W1.cell? ⟨mp, 1, none⟩ = some (.int .i64 kd) := Below.cell_of hb1 c1
    clear c14 c1 hW1 q1 hb1
    have hs3 : MR W1 s mp S a := H1.out
    go_wp2_with (first | (refine wpList_mputN H1.out rfl rfl 3 (.tmp 20) (.tmp 18) rfl 14 (.int .i64 (n + 1 : Nat)) (by kernel_rfl) (by kernel_rfl) rfl info_intS (by decide) { S with seen := S.seen + 1 } a HDS.out (fun _ _ hm => hm) ?_; intro W2 H2 T2; have y1 : W2.cell? ⟨mp, 1, none⟩ = some (.int .i64 kd) := H2.out.cell 1 _ (by rw [← HKD.out]; rfl); have B2 := Lib.hid (B1.out.turn T2.out (fun _ hk => .inl hk)); have hsz2 := T2.out.size) | fail)
    obtain ⟨s3, a3, h3, hs3'⟩ : ∃ s3 a3, MR W2 s3 mp T a3 ∧ s = s3 := ⟨s, a, HS.out ▸ H2.out, rfl⟩
    have H3 := Lib.hid h3
    have B3 : Hid (BoxV W2 s3 w.heap.size _ 30) := hs3' ▸ B2.out
    have N3 : Hid (∀ k ∈ s3, k ∈ s ∨ w.heap.size ≤ k) := fun k hk => .inl (hs3' ▸ hk)
    have T3 := Lib.hid T2.out
    have HG3 : Hid (w.heap.size < W2.heap.size) := heap_lt B3.out.1
    clear h3 hs3 hs3' H1 H2 B2 B1 T2 z14 z1 hsz2 y1
    refine (HSTAT.out _ _ _ H3.out).mono ?_
    rintro e w6 ⟨A', c', rfl, hrow, hb6⟩
    have H6 := Lib.hid (H3.out.below hb6)
    have B6 := Lib.hid (B3.out.turn (Turn.of (s := s3) hb6) (fun _ hk => .inl hk))
    have T6 := Lib.hid (T3.out.tr (Turn.of (s := s) hb6))
    have HROW := Lib.hid hrow
    have HS3 : Hid (∀ k ∈ s3, k < W2.heap.size) := H3.out.rest.mem.2
    have hs03 : w.heap.size ≤ W2.heap.size := Nat.le_trans HB1.out.size T3.out.size
    clear hrow hb6 H3 B3 T3
    go_wp2_with (first
      | (refine wpList_bputs (g := w.heap.size) B6.out.1 rfl 30 (.tmp 4) (.tmp 35) rfl 0 13 (stL tk te F A' c') rfl (by kernel_rfl) (by kernel_rfl) info_statusE (by simp [stL, Value.oneCell']) (by simp) (stL tk te F A' c').toArray (by kernel_rfl) ?_; intro W7 Q7 T7)
      | fail)
    have hbx := Q7.out
    refine bodyPost_ret (v := .tuple #[.agg (stL tk te F A' c').toArray, .int .i64 0]) ?_ rfl ?_
    · obtain ⟨k0, k1, k2, k3, k4, k5, k6, k7, k8, k9, k10, k11, k12⟩ := cells13 hbx
      simp [results, Tryz.results13, go_sem, stL, *]
    · have hrk : ∀ k ∈ blkA A', W2.heap.size ≤ k := fun k hk => own_blk HROW.out k hk
      have hg3 : w.heap.size < W2.heap.size := HG3.out
      refine ⟨A', c', s3, a3, by rw [HTK.out, HTE.out, HTF.out], H6.out.turnG T7.out B6.out.1 B6.out.2, N3.out, ?_, ?_, ?_⟩
      · exact ((Turn.of (s := s) HB1.out).tr T6.out).trans (T7.out.mono (s' := [w.heap.size]) (fun _ h => .inl h)) (fun k hk => .inr (by simp at hk; omega))
      · rw [HTF.out]
        exact (HROW.out.mono hs03).turn T7.out (fun ad e hm => by simp at hm; have := hrk ad.block (by rw [e]; simp [blkA]); omega)
      · intro k hk hm
        have := hrk k hk
        have := HS3.out k hm
        omega
end Go.Proofs.YtlmdkmflbhnlgaaGreat
namespace Go.Proofs.YtlmdkmflbhnlgaaGreat
open Go.RowKit
/-- What Scan answers. -/
def ScanOf (w : World) (xl : Bool) (raw : List Nat) (e : Ending) (w' : World) : Prop :=
  ((bitsOk raw = true ∧ ∃ A c, e = .returned (.tuple #[.agg (stL (scanM xl raw).kind (scanM xl raw).err (scanM xl raw).sf A c).toArray, .int .i64 0]) ∧ Row w' w.heap.size 5 A c (bys (scanM xl raw).sf.data)) ∨
    (bitsOk raw = false ∧ e = .returned (.tuple #[.agg (stL 0 0 zFr none 0).toArray, .int .i64 2]))) ∧ Below w.heap.size w w'
theorem bitsOk_mem {l : List Nat} (h : bitsOk l = true) : ∀ x ∈ l, x ≤ 1 := by
  unfold bitsOk at h
  rw [Bool.and_eq_true, decide_eq_true_eq, decide_eq_true_eq] at h
  exact h.2
set_option maxRecDepth 100000 in
set_option maxHeartbeats 4000000 in
theorem mScan (w : World) (A : Option Addr) (c n : Nat) (raw : List Nat) (xl : Bool) (hr : Rd w A (bys raw)) (hn : raw.length = n) (hn2 : n ≤ 29000) :
    Calls Tryz.prog 10 #[.slice A n c, .bool xl] w (ScanOf w xl raw) := by
  have HCK := Lib.hid (fun W (hW : Rd W A (bys raw)) => BitsCheck_any A n c raw W hW hn (by omega))
  have HR := Lib.hid hr
  have HN := Lib.hid hn
  obtain ⟨ok, hok⟩ : ∃ ok, bitsOk raw = ok := ⟨_, rfl⟩
  rw [hok] at HCK
  have HOK := Lib.hid hok
  clear hr hn hok
  cases ok
  · simp only [Bool.false_eq_true, if_false] at HCK
    go_enter Tryz.func10, Tryz.ntmps10
    go_wp2_with fail
    refine calls_blk1 fun W1 q1 hb1 => ?_
    refine (HCK.out _ (HR.out.below hb1)).mono ?_
    rintro e _ ⟨rfl, rfl⟩
    have Q1 := Lib.hid q1
    have HB1 := Lib.hid hb1
    clear q1 hb1
    go_wp2_with (first
      | (refine wpList_bputs (g := w.heap.size) Q1.out rfl 30 (.tmp 4) (.tmp 14) rfl 0 13 (stL 0 0 zFr none 0) rfl (by kernel_rfl) (by kernel_rfl) info_statusE (by simp [stL, Value.oneCell']) (by simp) (stL 0 0 zFr none 0).toArray (by kernel_rfl) ?_; intro W7 Q7 T7)
      | fail)
    have hbx := Q7.out
    refine bodyPost_ret (v := .tuple #[.agg (stL 0 0 zFr none 0).toArray, .int .i64 2]) ?_ rfl ?_
    · obtain ⟨k0, k1, k2, k3, k4, k5, k6, k7, k8, k9, k10, k11, k12⟩ := cells13 hbx
      simp [results, Tryz.results10, go_sem, stL, *]
    · exact ⟨.inr ⟨HOK.out, rfl⟩, Below.trans HB1.out (T7.out.below (fun x hx => by simp at hx; omega) HB1.out.size)⟩
  · simp only [if_true] at HCK
    go_enter Tryz.func10, Tryz.ntmps10
    go_wp2_with fail
    refine calls_blk1 fun W1 q1 hb1 => ?_
    refine (HCK.out _ (HR.out.below hb1)).mono ?_
    rintro e _ ⟨rfl, rfl⟩
    have Q1 := Lib.hid q1
    have HB1 := Lib.hid hb1
    clear q1 hb1
    go_wp2_with fail
    refine (mNew xl W1).mono ?_
    rintro e w2 ⟨rfl, ⟨s2, a2, h2, n2⟩, hb2⟩
    have hw1 : w.heap.size < W1.heap.size := heap_lt Q1.out
    have HB2 : Hid (Below w.heap.size w w2) := HB1.out.trans (hb2.mono (by omega))
    have HQ2 := Lib.hid (heap_below hb2 Q1.out)
    have HRW2 := Lib.hid ((HR.out.below HB1.out).below hb2)
    have HM2 : Hid (∃ s a, MR w2 s W1.heap.size (scanM xl (raw.take 0)) a ∧ ∀ k ∈ s, W1.heap.size ≤ k) := ⟨s2, a2, h2, n2⟩
    have hw2 : W1.heap.size < w2.heap.size := h2.lt
    clear h2 n2 hb2
    generalize W1.heap.size = mp at *
    go_wp2_with fail
    go_loopw [9, 20] (fun bv iv wr => ∃ k : Nat, k ≤ n ∧ iv = .int .i64 k ∧ Hid (∃ s a, MR wr s mp (scanM xl (raw.take k)) a ∧ ∀ j ∈ s, mp ≤ j) ∧ Hid (Below mp w2 wr)) (fun _ iv _ => n - (intOf iv).toNat)
    case atStart => exact ⟨0, by omega, rfl, HM2, Below.refl _ _⟩
    case round =>
      obtain ⟨k, hk, rfl, HM, HW⟩ := hrel
      by_cases hkn : k < n
      · have hkl : k < raw.length := by rw [HN.out]; exact hkn
        have hbw : Below w.heap.size w wr := HB2.out.trans (HW.out.mono (by omega))
        obtain ⟨ad, rfl, ca⟩ := (HR.out.below hbw).at_ k hkl
        have hx := bitsOk_mem HOK.out raw[k] (List.getElem_mem hkl)
        have htk : raw.take (k + 1) = raw.take k ++ [raw[k]] := List.take_succ_eq_append_getElem hkl
        obtain ⟨x, hxe⟩ : ∃ x, raw[k] = x := ⟨_, rfl⟩
        rw [hxe] at ca hx htk
        obtain ⟨s3, a3, h3, n3⟩ := HM.out
        have hok3 : MOk (scanM xl (raw.take k)) := scanM_ok xl _ (fun y hy => bitsOk_mem HOK.out y (List.mem_of_mem_take hy))
        have hsee := mSee h3 hok3 (by rw [scanM_seen, List.length_take]; omega) x hx
        rw [← scanM_snoc, ← htk] at hsee
        have HSEE := Lib.hid hsee
        have N3 := Lib.hid n3
        have hmw := h3.lt
        clear hxe htk hsee hok3 h3 n3 hbw hkl
        go_wp2_with fail
        refine HSEE.out.mono ?_
        rintro e w4 ⟨A4, c4, s4, a4, rfl, h4, n4, t4, -, -⟩
        have HM4 : Hid (∃ s a, MR w4 s mp (scanM xl (raw.take (k + 1))) a ∧ ∀ j ∈ s, mp ≤ j) := ⟨s4, a4, h4, fun j hj => (n4 j hj).elim (N3.out j) (fun h => by omega)⟩
        have HW4 : Hid (Below mp w2 w4) := HW.out.trans (t4.below N3.out (by omega))
        clear h4 n4 t4
        go_wp2_with fail
        go_roundw
        case rel => exact ⟨k + 1, by omega, by go_num, HM4, HW4⟩
        case measure => simp [intOf]; omega
      · obtain rfl : n = k := by omega
        obtain ⟨s3, a3, h3, n3⟩ := HM.out
        rw [← HN.out, List.take_length] at h3
        have hok3 : MOk (scanM xl raw) := scanM_ok xl _ (fun y hy => bitsOk_mem HOK.out y hy)
        have hst := mStatus h3 (by have := hok3.sfd; omega)
        have HBW : Hid (Below w.heap.size w wr) := HB2.out.trans (HW.out.mono (by omega))
        have HQ3 : Hid (wr.heap[w.heap.size]? = _) := heap_belowG HW.out hw1 HQ2.out
        obtain ⟨tk, htk⟩ : ∃ tk, (scanM xl raw).kind = tk := ⟨_, rfl⟩
        obtain ⟨te, hte⟩ : ∃ te, (scanM xl raw).err = te := ⟨_, rfl⟩
        obtain ⟨F, htf⟩ : ∃ F, (scanM xl raw).sf = F := ⟨_, rfl⟩
        rw [htk, hte, htf] at hst
        have HTK := Lib.hid htk
        have HTE := Lib.hid hte
        have HTF := Lib.hid htf
        have HST := Lib.hid hst
        have hww : mp < wr.heap.size := h3.lt
        clear htk hte htf hst h3 n3 hok3 HM
        go_wp2_with fail
        refine HST.out.mono ?_
        rintro e w6 ⟨A', c', rfl, hrow, hb6⟩
        have HROW := Lib.hid hrow
        have HQ6 := Lib.hid (heap_below hb6 HQ3.out)
        have HB6 := Lib.hid (below_trans HBW.out hb6)
        clear hrow hb6
        go_wp2_with (first
          | (refine wpList_bputs (g := w.heap.size) HQ6.out rfl 30 (.tmp 4) (.tmp 30) rfl 0 13 (stL tk te F A' c') rfl (by kernel_rfl) (by kernel_rfl) info_statusE (by simp [stL, Value.oneCell']) (by simp) (stL tk te F A' c').toArray (by kernel_rfl) ?_; intro W7 Q7 T7)
          | fail)
        have hbx := Q7.out
        refine bodyPost_ret (v := .tuple #[.agg (stL tk te F A' c').toArray, .int .i64 0]) ?_ rfl ?_
        · obtain ⟨k0, k1, k2, k3, k4, k5, k6, k7, k8, k9, k10, k11, k12⟩ := cells13 hbx
          simp [results, Tryz.results10, go_sem, stL, *]
        · refine ⟨.inl ⟨HOK.out, A', c', by rw [HTK.out, HTE.out, HTF.out], ?_⟩, Below.trans HB6.out (T7.out.below (fun x hx => by simp at hx; omega) HB6.out.size)⟩
          rw [HTF.out]
          exact (HROW.out.mono (by omega)).turn T7.out (fun ad e hm => by simp at hm; have := own_blk HROW.out ad.block (by rw [e]; simp [blkA]); omega)
end Go.Proofs.YtlmdkmflbhnlgaaGreat
-- SameRef: The document's Same of frames at equal ones. No condition.
namespace Go.Proofs.YtlmdkmflbhnlgaaGreat
open Go.RowKit
set_option maxHeartbeats 1000000 in
theorem Same01_any (w : World) (A B : Option Addr) (c d n : Nat) (l : List Nat) (ha : Rd w A (bys l)) (hb : Rd w B (bys l)) (hn : l.length = n) (hn2 : n ≤ 9223372036854775807) :
    Calls Tryz.prog 46 #[.slice A n c, .slice B n d] w fun e w' => e = .returned (.bool true) ∧ Below w.heap.size w w' := by
  have HA := Lib.hid ha
  have HB := Lib.hid hb
  have HN := Lib.hid hn
  clear ha hb hn
  go_enter Tryz.func46, Tryz.ntmps46
  go_wp2_with fail
  go_loopw [13] (fun iv wr => ∃ k : Nat, k ≤ n ∧ iv = .int .i64 k ∧ Hid (Below w.heap.size w wr)) (fun iv _ => n - (intOf iv).toNat)
  case atStart => exact ⟨0, by omega, rfl, Below.refl _ _⟩
  case round =>
    obtain ⟨k, hk, rfl, HW⟩ := hrel
    by_cases hkn : k < n
    · have hkl : k < l.length := by rw [HN.out]; exact hkn
      obtain ⟨ad, rfl, ca⟩ := (HA.out.below HW.out).at_ k hkl
      obtain ⟨bd, rfl, cb⟩ := (HB.out.below HW.out).at_ k hkl
      obtain ⟨x, hx⟩ : ∃ x, l[k] = x := ⟨_, rfl⟩
      rw [hx] at ca cb
      have hki : (k : Int) < (n : Int) := by omega
      clear hx
      go_wp2_with fail
      go_quiet (fail)
      go_wp2_with fail
      go_roundw
      case rel => exact ⟨k + 1, by omega, by go_num, below_drewN HW.out _⟩
      case measure => simp [intOf]; omega
    · obtain rfl : n = k := by omega
      go_wp2_with fail
      go_ret
      exact ⟨rfl, HW.out⟩
set_option maxRecDepth 100000 in
set_option maxHeartbeats 4000000 in
theorem Same05_any (f : Fr) (A B : Option Addr) (c d : Nat) (w : World) (ha : Rd w A (bys f.data)) (hb : Rd w B (bys f.data)) (hl : f.data.length ≤ 9223372036854775807) :
    Calls Tryz.prog 24 #[frv f (.slice A f.data.length c), frv f (.slice B f.data.length d)] w fun e w' => e = .returned (.bool true) ∧ Below w.heap.size w w' := by
  obtain ⟨fk, fi, fe, fr, f4, f5, f6, f7, f8, f9, data⟩ := f
  dsimp only [frv] at *
  obtain ⟨n, hn⟩ : ∃ n, data.length = n := ⟨_, rfl⟩
  rw [hn] at hl ⊢
  have HE := Lib.hid (fun W hW1 hW2 => Same01_any W A B c d n data hW1 hW2 hn hl)
  have HA := Lib.hid ha
  have HB := Lib.hid hb
  clear ha hb hn
  go_enter Tryz.func24, Tryz.ntmps24
  go_upto_region 1 with (fail)
  simp only [List.append_eq, List.cons_append, List.nil_append]
  go_wp2_with fail
  refine (HE.out _ ((HA.out.alloc _).alloc _) ((HB.out.alloc _).alloc _)).mono ?_
  rintro e w' ⟨rfl, hb⟩
  have HBB := Lib.hid (below_trans (below_alloc (below_alloc (Below.refl _ _) _) _) hb)
  clear hb
  go_wp2_with fail
  go_ret
  exact ⟨by first | rfl | simp, HBB.out⟩
end Go.Proofs.YtlmdkmflbhnlgaaGreat
-- Same09: The document's Same of what rows are, at equal ones. No condition.
namespace Go.Proofs.YtlmdkmflbhnlgaaGreat
open Go.RowKit
set_option maxRecDepth 100000 in
set_option maxHeartbeats 4000000 in
theorem Same09_any (k e : Nat) (f : Fr) (A B : Option Addr) (c d : Nat) (w : World) (ha : Rd w A (bys f.data)) (hb : Rd w B (bys f.data)) (hl : f.data.length ≤ 9223372036854775807) :
    Calls Tryz.prog 11 #[.agg (stL k e f A c).toArray, .agg (stL k e f B d).toArray] w fun e w' => e = .returned (.bool true) ∧ Below w.heap.size w w' := by
  have HS := Lib.hid (fun W hW1 hW2 => Same05_any f A B c d W hW1 hW2 hl)
  have HA := Lib.hid ha
  have HB := Lib.hid hb
  obtain ⟨fk, fi, fe, fr, f4, f5, f6, f7, f8, f9, data⟩ := f
  dsimp only [frv, stL] at *
  clear ha hb
  go_enter Tryz.func11, Tryz.ntmps11
  go_wp2_with fail
  refine (HS.out _ ((HA.out.alloc _).alloc _) ((HB.out.alloc _).alloc _)).mono ?_
  rintro e w' ⟨rfl, hb⟩
  have HBB := Lib.hid (below_trans (below_alloc (below_alloc (Below.refl _ _) _) _) hb)
  clear hb
  go_wp2_with fail
  go_ret
  exact ⟨by first | rfl | simp, HBB.out⟩
end Go.Proofs.YtlmdkmflbhnlgaaGreat
-- Alive09: What the laws of layer 9 share: the document's examples. No condition.
namespace Go.Proofs.YtlmdkmflbhnlgaaGreat
open Go.RowKit
/-- Scan of a row of bits. -/
theorem scan_bits (w : World) (A : Option Addr) (c n : Nat) (raw : List Nat) (xl : Bool) (S : MS) (hS : scanM xl raw = S) (hb : bitsOk raw = true) (hr : Rd w A (bys raw)) (hn : raw.length = n) (hn2 : n ≤ 29000) :
    Calls Tryz.prog 10 #[.slice A n c, .bool xl] w fun e w' => (∃ A c, e = .returned (.tuple #[.agg #[.int .i64 S.kind, .int .i64 S.err, .int .i64 S.sf.kind, .int .u32 S.sf.id, .bool S.sf.ext, .bool S.sf.rtr, .bool S.sf.brs, .bool S.sf.esi, .bool S.sf.sec, .int .u8 S.sf.sdt, .int .u8 S.sf.vcid, .int .u32 S.sf.af, .slice A S.sf.data.length c], .int .i64 0]) ∧ Row w' w.heap.size 5 A c (bys S.sf.data)) ∧ Below w.heap.size w w' := by
  subst hS
  refine (mScan w A c n raw xl hr hn hn2).mono ?_
  rintro e w' ⟨⟨-, A, c, rfl, hrow⟩ | ⟨h, -⟩, hbl⟩
  · exact ⟨⟨A, c, rfl, hrow⟩, hbl⟩
  · rw [hb] at h; cases h
def exS : Fr := { kind := 1, id := 3, ext := false, rtr := false, brs := false, esi := false, sec := false, sdt := 0, vcid := 0, af := 0, data := [9] }
theorem exS_len : (stuffN (bodyC exS)).length = 45 := by kernel_rfl
theorem exS_head : ∃ n, (stuffN (headL exS)).length = n := ⟨_, rfl⟩
theorem exS_wire : (wireC exS).length = 55 := by kernel_rfl
theorem exS_bits : bitsOk (wireC exS) = true := by kernel_rfl
theorem exS_bits2 : bitsOk ((wireC exS).take 46) = true := by kernel_rfl
set_option maxRecDepth 100000 in
set_option maxHeartbeats 4000000 in
theorem alive09 (w : World) : Calls Tryz.prog 8 #[] w fun e w' => e = .returned (.bool true) ∧ Below w.heap.size w w' := by
  obtain ⟨NH, hNH⟩ := exS_head
  have HW := Lib.hid (fun W A c (hW : Rd W A (bys exS.data)) => Wire_ok exS A c 45 NH W rfl (by kernel_rfl) (by decide) hW (by intro x hx; simp [exS] at hx; omega) exS_len hNH)
  obtain ⟨S1, hS1⟩ : ∃ S, scanM true [1] = S := ⟨_, rfl⟩
  have k1 : S1.kind = 3 ∧ S1.err = 5 := by rw [← hS1]; exact ⟨by kernel_rfl, by kernel_rfl⟩
  obtain ⟨S2, hS2⟩ : ∃ S, scanM false ((wireC exS).take 46) = S := ⟨_, rfl⟩
  have k2 : S2.kind = 1 := by rw [← hS2]; kernel_rfl
  obtain ⟨S3, hS3⟩ : ∃ S, scanM false (wireC exS) = S := ⟨_, rfl⟩
  have k3 : S3.kind = 2 ∧ S3.sf.id = 3 := by rw [← hS3]; exact ⟨by kernel_rfl, by kernel_rfl⟩
  have H1 := Lib.hid (fun W A c (hr : Rd W A (bys [1])) => scan_bits W A c 1 [1] true S1 hS1 (by decide) hr rfl (by omega))
  have H2 := Lib.hid (fun W A c (hr : Rd W A (bys (wireC exS))) => scan_bits W A c 46 ((wireC exS).take 46) false S2 hS2 exS_bits2 (rd_take hr 46) (by rw [List.length_take, exS_wire]; rfl) (by omega))
  have H3 := Lib.hid (fun W A c (hr : Rd W A (bys (wireC exS))) => scan_bits W A c 55 (wireC exS) false S3 hS3 exS_bits hr exS_wire (by omega))
  clear hNH hS1 hS2 hS3
  obtain ⟨a1, a2⟩ := k1
  obtain ⟨a3, a4⟩ := k3
  rw [a1, a2] at H1
  rw [k2] at H2
  rw [a3, a4] at H3
  clear a1 a2 a3 a4 k2
  generalize S1.sf = F1 at *
  generalize S2.sf = F2 at *
  generalize S2.err = e2 at *
  generalize S3.sf = F3 at *
  generalize S3.err = e3 at *
  go_enter Tryz.func8, Tryz.ntmps8
  go_wp2_with fail
  refine (H1.out _ _ 1 (Rd.blk (heap_new_at rfl))).mono ?_
  rintro e w1 ⟨⟨A1, c1, rfl, -⟩, hb1⟩
  have HB1 := Lib.hid (below_trans (below_alloc (Below.refl w.heap.size w) _) hb1)
  clear hb1
  go_wp2_with fail
  refine calls_blk2 fun W2 q1 q2 hb2 => ?_
  refine (HW.out W2 _ 1 (Rd.blk q2)).mono ?_
  rintro e w3 ⟨⟨A3, c3, rfl, hrow⟩, hb3⟩
  obtain ⟨ga, rfl | hz⟩ := hrow.form
  rotate_left
  · rw [bys_length, exS_wire] at hz; cases hz
  have hcap := hrow.cap
  rw [bys_length, exS_wire] at hcap
  have HRD := Lib.hid hrow.rd
  have HB3 := Lib.hid (below_trans (below_trans HB1.out hb2) hb3)
  have Q1 := Lib.hid (heap_below hb3 q1)
  have hs1 : w.heap.size ≤ w1.heap.size := HB1.out.size
  clear q1 q2 hb2 hb3 hrow HB1
  generalize w1.heap.size = p1 at *
  go_wp2_with fail
  refine calls_blk1 fun W4 q4 hb4 => ?_
  refine (H2.out W4 _ _ (HRD.out.below hb4)).mono ?_
  rintro e w5 ⟨⟨A5, c5, rfl, -⟩, hb5⟩
  have hb35 := below_trans hb4 hb5
  have HR5 := Lib.hid (HRD.out.below hb35)
  have HB5 := Lib.hid (below_trans HB3.out hb35)
  have Q1 := Lib.hid (heap_below hb35 Q1.out)
  have Q4 := Lib.hid (heap_below hb5 q4)
  clear q4 hb4 hb5 hb35 HRD HB3
  generalize w3.heap.size = p3 at *
  have d0 : w5.cell? ⟨p3, 0, none⟩ = some (.slice (some ⟨ga, 0, none⟩) 55 c3) := cell_of_heap Q4.out 0 _ rfl
  have hp3 : p3 < w5.heap.size := heap_lt Q4.out
  go_wp2_with fail
  refine calls_blk1 fun W6 q6 hb6 => ?_
  refine (H3.out W6 _ _ (HR5.out.below hb6)).mono ?_
  rintro e w7 ⟨⟨A7, c7, rfl, -⟩, hb7⟩
  have hb57 := below_trans hb6 hb7
  have HB7 := Lib.hid (below_trans HB5.out hb57)
  have Q1' := Lib.hid (heap_below hb57 Q1.out)
  have Q6 := Lib.hid (heap_below hb7 q6)
  clear q6 hb6 hb7 hb57 HR5 HB5 Q1 Q4 d0
  generalize w5.heap.size = p5 at *
  have x0 : w7.cell? ⟨p1, 0, none⟩ = some (.int .i64 3) := cell_of_heap Q1'.out 0 _ rfl
  have x1 : w7.cell? ⟨p1, 1, none⟩ = some (.int .i64 5) := cell_of_heap Q1'.out 1 _ rfl
  have y0 : w7.cell? ⟨p5, 0, none⟩ = some (.int .i64 1) := cell_of_heap Q6.out 0 _ rfl
  have hl1 : p1 < w7.heap.size := heap_lt Q1'.out
  have hl5 : p5 < w7.heap.size := heap_lt Q6.out
  have hbf := Lib.hid (below_alloc HB7.out (.cells #[.int .i64 2, .int .i64 e3, .int .i64 F3.kind, .int .u32 3, .bool F3.ext, .bool F3.rtr, .bool F3.brs, .bool F3.esi, .bool F3.sec, .int .u8 F3.sdt, .int .u8 F3.vcid, .int .u32 F3.af, .slice A7 F3.data.length c7] 30))
  go_wp2_with fail
  go_ret
  exact ⟨by first | rfl | simp, hbf.out⟩
end Go.Proofs.YtlmdkmflbhnlgaaGreat
-- LawScanStays: The law ScanStays answers true. No condition.
namespace Go.Proofs.YtlmdkmflbhnlgaaGreat
open Go.RowKit
theorem bitsOk_app {a b : List Nat} (ha : bitsOk a = true) (hb : bitsOk b = true) (h : a.length + b.length ≤ 65536) : bitsOk (a ++ b) = true := by
  unfold bitsOk
  rw [Bool.and_eq_true, decide_eq_true_eq, decide_eq_true_eq, List.length_append]
  exact ⟨h, fun x hx => (List.mem_append.1 hx).elim (bitsOk_mem ha x) (bitsOk_mem hb x)⟩
theorem bitsOk_take {a : List Nat} (ha : bitsOk a = true) (k : Nat) : bitsOk (a.take k) = true := by
  have h1 := bitsOk_mem ha
  unfold bitsOk at ha ⊢
  rw [Bool.and_eq_true, decide_eq_true_eq, decide_eq_true_eq] at ha ⊢
  exact ⟨by rw [List.length_take]; omega, fun x hx => h1 x (List.mem_of_mem_take hx)⟩
/-- Scan of a row that is none of bits. -/
theorem scan_arg (w : World) (A : Option Addr) (c n : Nat) (raw : List Nat) (xl : Bool) (hb : bitsOk raw = false) (hr : Rd w A (bys raw)) (hn : raw.length = n) (hn2 : n ≤ 29000) :
    Calls Tryz.prog 10 #[.slice A n c, .bool xl] w fun e w' => e = .returned (.tuple #[.agg #[.int .i64 0, .int .i64 0, .int .i64 0, .int .u32 0, .bool false, .bool false, .bool false, .bool false, .bool false, .int .u8 0, .int .u8 0, .int .u32 0, .slice none 0 0], .int .i64 2]) ∧ Below w.heap.size w w' := by
  refine (mScan w A c n raw xl hr hn hn2).mono ?_
  rintro e w' ⟨⟨h, -⟩ | ⟨-, rfl⟩, hbl⟩
  · rw [hb] at h; cases h
  · exact ⟨rfl, hbl⟩
set_option maxRecDepth 100000 in
set_option maxHeartbeats 8000000 in
theorem scanStays_walk (w : World) (A0 A1 : Option Addr) (n0 c0 n1 c1 : Nat) (l0 l1 : List Nat) (xl : Bool) (hr0 : Rd w A0 (bys l0)) (hn0 : l0.length = n0) (hz0 : A0 = none → c0 = 0) (hm0 : n0 ≤ 9223372036854775807) (hnc0 : n0 ≤ c0) (hr1 : Rd w A1 (bys l1)) (hn1 : l1.length = n1) (hz1 : A1 = none → c1 = 0) (hm1 : n1 ≤ 9223372036854775807) :
    Calls Tryz.prog 3 #[.slice A0 n0 c0, .slice A1 n1 c1, .bool xl] w fun e w' => e = .returned (.bool true) ∧ Below w.heap.size w w' := by
  obtain ⟨i0, hi, hi0, hi1, hi2⟩ := info_parts info_u8
  have HAL := Lib.hid (fun W => alive09 W)
  by_cases h4 : 400 < n0
  · have g4 : decide ((400 : Int) < (n0 : Int)) = true := by simp; omega
    clear hr0 hr1 hz0 hz1
    go_enter Tryz.func3, Tryz.ntmps3
    go_wp2_with fail
    refine (HAL.out _).mono ?_
    rintro e w1 ⟨rfl, hb1⟩
    have HB1 := Lib.hid hb1
    clear hb1
    go_wp2_with fail
    go_ret
    exact ⟨rfl, HB1.out⟩
  have g4 : decide ((400 : Int) < (n0 : Int)) = false := by simp; omega
  by_cases h1 : 100 < n1
  · have g1 : decide ((100 : Int) < (n1 : Int)) = true := by simp; omega
    clear hr0 hr1 hz0 hz1
    go_enter Tryz.func3, Tryz.ntmps3
    go_wp2_with fail
    refine (HAL.out _).mono ?_
    rintro e w1 ⟨rfl, hb1⟩
    have HB1 := Lib.hid hb1
    clear hb1
    go_wp2_with fail
    go_ret
    exact ⟨rfl, HB1.out⟩
  have g1 : decide ((100 : Int) < (n1 : Int)) = false := by simp; omega
  have HR0 := Lib.hid hr0
  have HR1 := Lib.hid hr1
  have HN0 := Lib.hid hn0
  have HN1 := Lib.hid hn1
  have HCK := Lib.hid (fun W (hW : Rd W A1 (bys l1)) => BitsCheck_any A1 n1 c1 l1 W hW hn1 (by omega))
  obtain ⟨ok1, hok1⟩ : ∃ ok, bitsOk l1 = ok := ⟨_, rfl⟩
  rw [hok1] at HCK
  cases ok1
  · simp only [Bool.false_eq_true, if_false] at HCK
    clear hr0 hr1 hz0 hz1 hok1 hn0 hn1
    go_enter Tryz.func3, Tryz.ntmps3
    go_wp2_with fail
    refine (HAL.out _).mono ?_
    rintro e w1 ⟨rfl, hb1⟩
    have HB1 := Lib.hid hb1
    clear hb1
    go_wp2_with fail
    refine (HCK.out _ (HR1.out.below HB1.out)).mono ?_
    rintro e _ ⟨rfl, rfl⟩
    go_wp2_with fail
    go_ret
    exact ⟨rfl, HB1.out⟩
  simp only [if_true] at HCK
  obtain ⟨ok0, hok0⟩ : ∃ ok, bitsOk l0 = ok := ⟨_, rfl⟩
  cases ok0
  · have HSC := Lib.hid (fun W (hW : Rd W A0 (bys l0)) => scan_arg W A0 c0 n0 l0 xl hok0 hW hn0 (by omega))
    clear hr0 hr1 hz0 hz1 hok1 hn0 hn1 hok0
    go_enter Tryz.func3, Tryz.ntmps3
    go_wp2_with fail
    refine (HAL.out _).mono ?_
    rintro e w1 ⟨rfl, hb1⟩
    have HB1 := Lib.hid hb1
    clear hb1
    go_wp2_with fail
    refine (HCK.out _ (HR1.out.below HB1.out)).mono ?_
    rintro e _ ⟨rfl, rfl⟩
    go_wp2_with fail
    refine (HSC.out _ (HR0.out.below HB1.out)).mono ?_
    rintro e w2 ⟨rfl, hb2⟩
    have HB2 := Lib.hid (below_alloc (below_trans HB1.out hb2) (.cells #[.int .i64 0, .int .i64 0, .int .i64 0, .int .u32 0, .bool false, .bool false, .bool false, .bool false, .bool false, .int .u8 0, .int .u8 0, .int .u32 0, .slice none 0 0] 30))
    clear hb2
    go_wp2_with fail
    go_ret
    exact ⟨by first | rfl | simp, HB2.out⟩
  obtain ⟨S, hS⟩ : ∃ S, scanM xl l0 = S := ⟨_, rfl⟩
  obtain ⟨S', hS'⟩ : ∃ S, scanM xl (l0 ++ l1) = S := ⟨_, rfl⟩
  have HSC := Lib.hid (fun W (hW : Rd W A0 (bys l0)) => scan_bits W A0 c0 n0 l0 xl S hS hok0 hW hn0 (by omega))
  have HSC2 := Lib.hid (fun W A c (hW : Rd W A (bys (l0 ++ l1))) => scan_bits W A c (n0 + n1) (l0 ++ l1) xl S' hS' (bitsOk_app hok0 hok1 (by omega)) hW (by rw [List.length_append, hn0, hn1]) (by omega))
  have hstay : 2 ≤ S.kind → S'.kind = S.kind ∧ S'.err = S.err ∧ S'.sf = S.sf := by rw [← hS, ← hS']; exact scanM_stays xl l0 l1
  have hq : S.kind < 2 → S.err = 0 ∧ S.sf = zFr := by rw [← hS]; exact scanM_q xl l0
  have hsl : S.sf.data.length ≤ 20000 := by rw [← hS]; exact (scanM_ok xl l0 (bitsOk_mem hok0)).sfd
  have HLESS : Hid (S.kind < 2 → ∀ k W A, k ≤ n0 → Rd W A (bys l0) → Calls Tryz.prog 10 #[.slice A k c0, .bool xl] W fun e w' => (∃ (S : MS) (A : Option Addr) (c : Nat), S.kind < 2 ∧ e = .returned (.tuple #[.agg #[.int .i64 S.kind, .int .i64 S.err, .int .i64 S.sf.kind, .int .u32 S.sf.id, .bool S.sf.ext, .bool S.sf.rtr, .bool S.sf.brs, .bool S.sf.esi, .bool S.sf.sec, .int .u8 S.sf.sdt, .int .u8 S.sf.vcid, .int .u32 S.sf.af, .slice A S.sf.data.length c], .int .i64 0])) ∧ Below W.heap.size W w') := by
    show S.kind < 2 → _
    intro hk k W A hkn hW
    refine (scan_bits W A c0 k (l0.take k) xl _ rfl (bitsOk_take hok0 k) (rd_take hW k) (by rw [List.length_take]; omega) (by omega)).mono ?_
    rintro e w' ⟨⟨A, c, rfl, -⟩, hb⟩
    exact ⟨⟨scanM xl (l0.take k), A, c, scanM_less xl l0 k (by rw [hS]; exact hk), rfl⟩, hb⟩
  obtain ⟨tk, htk⟩ : ∃ tk, S.kind = tk := ⟨_, rfl⟩
  obtain ⟨te, hte⟩ : ∃ te, S.err = te := ⟨_, rfl⟩
  obtain ⟨F, htf⟩ : ∃ F, S.sf = F := ⟨_, rfl⟩
  rw [htk, hte, htf] at HSC hstay
  rw [htk, hte, htf] at hq
  rw [htk] at HLESS
  rw [htf] at hsl
  have HZ0 : Hid (bys l0 = [] → A0 = none → c0 = 0) := fun _ h => hz0 h
  have HZ1 : Hid (bys l1 = [] → A1 = none → c1 = 0) := fun _ h => hz1 h
  clear hr0 hr1 hz0 hz1 hok1 hn0 hn1 hok0 hS hS' htk hte htf
  by_cases hk : 2 ≤ tk
  · obtain ⟨j1, j2, j3⟩ := hstay hk
    rw [j1, j2, j3] at HSC2
    have g2 : decide ((2 : Int) ≤ (tk : Int)) = true := by simp; omega
    clear j1 j2 j3 hq hstay HLESS
    go_enter Tryz.func3, Tryz.ntmps3
    go_wp2_with fail
    refine (HAL.out _).mono ?_
    rintro e w1 ⟨rfl, hb1⟩
    have HB1 := Lib.hid hb1
    clear hb1
    go_wp2_with fail
    refine (HCK.out _ (HR1.out.below HB1.out)).mono ?_
    rintro e _ ⟨rfl, rfl⟩
    go_wp2_with fail
    refine (HSC.out _ (HR0.out.below HB1.out)).mono ?_
    rintro e w2 ⟨⟨A2, c2, rfl, hrow2⟩, hb2⟩
    have HB2 := Lib.hid (below_trans HB1.out hb2)
    have HRD2 := Lib.hid hrow2.rd
    clear hb2 hrow2 HB1
    go_upto_region 8 with (fail)
    obtain ⟨W3, hW3, q3, hb3⟩ : ∃ W3, w2.alloc (.cells #[.int .i64 tk, .int .i64 te, .int .i64 F.kind, .int .u32 F.id, .bool F.ext, .bool F.rtr, .bool F.brs, .bool F.esi, .bool F.sec, .int .u8 F.sdt, .int .u8 F.vcid, .int .u32 F.af, .slice A2 F.data.length c2] 30) = W3 ∧ W3.heap[w2.heap.size]? = some (.cells #[.int .i64 tk, .int .i64 te, .int .i64 F.kind, .int .u32 F.id, .bool F.ext, .bool F.rtr, .bool F.brs, .bool F.esi, .bool F.sec, .int .u8 F.sdt, .int .u8 F.vcid, .int .u32 F.af, .slice A2 F.data.length c2] 30 (0, 0)) ∧ Below w2.heap.size w2 W3 := ⟨_, rfl, heap_new_at rfl, below_alloc (Below.refl _ _) _⟩
    rw [hW3]
    have HB3 := Lib.hid (below_trans HB2.out hb3)
    have HRD3 := Lib.hid (HRD2.out.below hb3)
    have Q3 := Lib.hid q3
    have hp23 : w2.heap.size < W3.heap.size := heap_lt q3
    have hw2 : w.heap.size ≤ w2.heap.size := HB2.out.size
    clear hW3 q3 hb3 HRD2 HB2
    generalize w2.heap.size = p7 at *
    have HR03 := Lib.hid (HR0.out.below HB3.out)
    have H0 : Hid (Row (W3.alloc (.cells #[] 5)) W3.heap.size 5 (some ⟨W3.heap.size, 0, none⟩) 0 (bys [])) := own_lit (cs := []) (Nat.le_refl _) rfl (by decide)
    have HB34 := Lib.hid (below_alloc (Below.refl W3.heap.size W3) (.cells #[] 5))
    go_wp2_with (first
      | (at_builtin; refine wpList_appB rfl (.tmp 40) (.tmp 41) 22 rfl W3.heap.size 5 i0 (.int .u8 0) 1 Tryz.underlying22 hi hi0 hi1 hi2 rfl (some ⟨W3.heap.size, 0, none⟩) 0 0 (bys []) (by kernel_rfl) rfl H0.out A0 n0 c0 (bys l0) (by kernel_rfl) (by rw [bys_length]; exact HN0.out) (HR03.out.alloc _) (bys_one _) HZ0.out n0 (by omega) (by unfold maxLen; omega) (by omega) (by simp) ?_; intro W5 A5 c5 HROW5 HB5; have HB35 := Lib.hid (Below.trans HB34.out HB5.out); have HR15 := Lib.hid (HR1.out.below (below_trans HB3.out HB35.out)))
      | (at_builtin; refine wpList_appB rfl (.tmp 42) (.tmp 43) 22 rfl W3.heap.size 5 i0 (.int .u8 0) 1 Tryz.underlying22 hi hi0 hi1 hi2 rfl A5 n0 c5 (bys [] ++ bys l0) (by kernel_rfl) (by rw [List.length_append, bys_length, bys_length, HN0.out]; rw [List.length_nil]; omega) HROW5.out A1 n1 c1 (bys l1) (by kernel_rfl) (by rw [bys_length]; exact HN1.out) HR15.out (bys_one _) HZ1.out (n0 + n1) (by omega) (by unfold maxLen; omega) (by omega) HB35.out.size ?_; intro W6 A6 c6 HROW6 HB6))
    have hrd6 : Rd W6 A6 (bys (l0 ++ l1)) := by have k := HROW6.out.rd; rw [bys_append]; simpa [bys] using k
    have HB36 := Lib.hid (Below.trans HB35.out HB6.out)
    refine (HSC2.out _ _ _ hrd6).mono ?_
    rintro e w7 ⟨⟨A7, c7, rfl, hrow7⟩, hb7⟩
    have HB37 : Hid (Below W3.heap.size W3 w7) := below_trans HB36.out hb7
    have HRD7 := Lib.hid hrow7.rd
    have hb37 := HB37.out
    clear hrd6 hb7 hrow7 HROW5 HROW6 HB35 HB36 HR15 HB34 H0 HB5 HB6 HR03
    go_upto_region 9 with (fail)
    obtain ⟨W8, hW8, q8, hb8⟩ : ∃ W8, w7.alloc (.cells #[.int .i64 tk, .int .i64 te, .int .i64 F.kind, .int .u32 F.id, .bool F.ext, .bool F.rtr, .bool F.brs, .bool F.esi, .bool F.sec, .int .u8 F.sdt, .int .u8 F.vcid, .int .u32 F.af, .slice A7 F.data.length c7] 30) = W8 ∧ W8.heap[w7.heap.size]? = some (.cells #[.int .i64 tk, .int .i64 te, .int .i64 F.kind, .int .u32 F.id, .bool F.ext, .bool F.rtr, .bool F.brs, .bool F.esi, .bool F.sec, .int .u8 F.sdt, .int .u8 F.vcid, .int .u32 F.af, .slice A7 F.data.length c7] 30 (0, 0)) ∧ Below w7.heap.size w7 W8 := ⟨_, rfl, heap_new_at rfl, below_alloc (Below.refl _ _) _⟩
    rw [hW8]
    have hb38 := below_trans hb37 hb8
    have HB8 := Lib.hid (below_trans HB3.out hb38)
    have HRD3' := Lib.hid (HRD3.out.below hb38)
    have HRD7' := Lib.hid (HRD7.out.below hb8)
    obtain ⟨a0, a1, a2, a3, a4, a5, a6, a7, a8, a9, a10, a11, a12⟩ := cells13 (heap_below hb38 Q3.out)
    obtain ⟨z0, z1, z2, z3, z4, z5, z6, z7, z8, z9, z10, z11, z12⟩ := cells13 q8
    have HSAME := Lib.hid (Same09_any tk te F A2 A7 c2 c7 W8 HRD3'.out HRD7'.out (by omega))
    clear hW8 q8 hb8 hb38 hb37 HRD3 HRD7
    go_wp2_with fail
    refine HSAME.out.mono ?_
    rintro e w9 ⟨rfl, hb9⟩
    have HB9 := Lib.hid (below_trans HB8.out hb9)
    clear hb9
    go_wp2_with fail
    go_ret
    exact ⟨by first | rfl | simp, HB9.out⟩
  · obtain ⟨j2, j3⟩ := hq (by omega)
    have gte : ((te : Int) == 0) = true := by rw [j2]; rfl
    have gfk : (F.kind == 0) = true := by rw [j3]; rfl
    clear j2 j3
    have g2 : decide ((2 : Int) ≤ (tk : Int)) = false := by simp; omega
    have HLS := Lib.hid (HLESS.out (by omega))
    clear hq hstay HLESS
    go_enter Tryz.func3, Tryz.ntmps3
    go_wp2_with fail
    refine (HAL.out _).mono ?_
    rintro e w1 ⟨rfl, hb1⟩
    have HB1 := Lib.hid hb1
    clear hb1
    go_wp2_with fail
    refine (HCK.out _ (HR1.out.below HB1.out)).mono ?_
    rintro e _ ⟨rfl, rfl⟩
    go_wp2_with fail
    refine (HSC.out _ (HR0.out.below HB1.out)).mono ?_
    rintro e w2 ⟨⟨A2, c2, rfl, hrow2⟩, hb2⟩
    have HB2 := Lib.hid (below_trans HB1.out hb2)
    have HRD2 := Lib.hid hrow2.rd
    clear hb2 hrow2 HB1
    go_upto_region 8 with (fail)
    obtain ⟨W3, hW3, q3, hb3⟩ : ∃ W3, w2.alloc (.cells #[.int .i64 tk, .int .i64 te, .int .i64 F.kind, .int .u32 F.id, .bool F.ext, .bool F.rtr, .bool F.brs, .bool F.esi, .bool F.sec, .int .u8 F.sdt, .int .u8 F.vcid, .int .u32 F.af, .slice A2 F.data.length c2] 30) = W3 ∧ W3.heap[w2.heap.size]? = some (.cells #[.int .i64 tk, .int .i64 te, .int .i64 F.kind, .int .u32 F.id, .bool F.ext, .bool F.rtr, .bool F.brs, .bool F.esi, .bool F.sec, .int .u8 F.sdt, .int .u8 F.vcid, .int .u32 F.af, .slice A2 F.data.length c2] 30 (0, 0)) ∧ Below w2.heap.size w2 W3 := ⟨_, rfl, heap_new_at rfl, below_alloc (Below.refl _ _) _⟩
    rw [hW3]
    have HB3 := Lib.hid (below_trans HB2.out hb3)
    have HRD3 := Lib.hid (HRD2.out.below hb3)
    have Q3 := Lib.hid q3
    have hp23 : w2.heap.size < W3.heap.size := heap_lt q3
    have hw2 : w.heap.size ≤ w2.heap.size := HB2.out.size
    clear hW3 q3 hb3 HRD2 HB2
    generalize w2.heap.size = p7 at *
    have HR03 := Lib.hid (HR0.out.below HB3.out)
    have H0 : Hid (Row (W3.alloc (.cells #[] 5)) W3.heap.size 5 (some ⟨W3.heap.size, 0, none⟩) 0 (bys [])) := own_lit (cs := []) (Nat.le_refl _) rfl (by decide)
    have HB34 := Lib.hid (below_alloc (Below.refl W3.heap.size W3) (.cells #[] 5))
    go_wp2_with (first
      | (at_builtin; refine wpList_appB rfl (.tmp 40) (.tmp 41) 22 rfl W3.heap.size 5 i0 (.int .u8 0) 1 Tryz.underlying22 hi hi0 hi1 hi2 rfl (some ⟨W3.heap.size, 0, none⟩) 0 0 (bys []) (by kernel_rfl) rfl H0.out A0 n0 c0 (bys l0) (by kernel_rfl) (by rw [bys_length]; exact HN0.out) (HR03.out.alloc _) (bys_one _) HZ0.out n0 (by omega) (by unfold maxLen; omega) (by omega) (by simp) ?_; intro W5 A5 c5 HROW5 HB5; have HB35 := Lib.hid (Below.trans HB34.out HB5.out); have HR15 := Lib.hid (HR1.out.below (below_trans HB3.out HB35.out)))
      | (at_builtin; refine wpList_appB rfl (.tmp 42) (.tmp 43) 22 rfl W3.heap.size 5 i0 (.int .u8 0) 1 Tryz.underlying22 hi hi0 hi1 hi2 rfl A5 n0 c5 (bys [] ++ bys l0) (by kernel_rfl) (by rw [List.length_append, bys_length, bys_length, HN0.out]; rw [List.length_nil]; omega) HROW5.out A1 n1 c1 (bys l1) (by kernel_rfl) (by rw [bys_length]; exact HN1.out) HR15.out (bys_one _) HZ1.out (n0 + n1) (by omega) (by unfold maxLen; omega) (by omega) HB35.out.size ?_; intro W6 A6 c6 HROW6 HB6))
    have hrd6 : Rd W6 A6 (bys (l0 ++ l1)) := by have k := HROW6.out.rd; rw [bys_append]; simpa [bys] using k
    have HB36 := Lib.hid (Below.trans HB35.out HB6.out)
    refine (HSC2.out _ _ _ hrd6).mono ?_
    rintro e w7 ⟨⟨A7, c7, rfl, hrow7⟩, hb7⟩
    have HB37 : Hid (Below W3.heap.size W3 w7) := below_trans HB36.out hb7
    have HRD7 := Lib.hid hrow7.rd
    have hb37 := HB37.out
    clear hrd6 hb7 hrow7 HROW5 HROW6 HB35 HB36 HR15 HB34 H0 HB5 HB6 HR03
    go_upto_region 9 with (fail)
    obtain ⟨W8, hW8, hb8⟩ : ∃ W8, w7.alloc (.cells #[.int .i64 S'.kind, .int .i64 S'.err, .int .i64 S'.sf.kind, .int .u32 S'.sf.id, .bool S'.sf.ext, .bool S'.sf.rtr, .bool S'.sf.brs, .bool S'.sf.esi, .bool S'.sf.sec, .int .u8 S'.sf.sdt, .int .u8 S'.sf.vcid, .int .u32 S'.sf.af, .slice A7 S'.sf.data.length c7] 30) = W8 ∧ Below w7.heap.size w7 W8 := ⟨_, rfl, below_alloc (Below.refl _ _) _⟩
    rw [hW8]
    have hb38 := below_trans hb37 hb8
    have HB8 := Lib.hid (below_trans HB3.out hb38)
    have Q8 := Lib.hid (heap_below hb38 Q3.out)
    have a0 : W8.cell? ⟨p7, 0, none⟩ = some (.int .i64 tk) := cell_of_heap Q8.out 0 _ rfl
    have hp8 : p7 < W8.heap.size := heap_lt Q8.out
    clear hW8 hb8 hb38 hb37 HRD3 HRD7
    generalize hSK : S'.kind = sk' at *
    generalize hSE : S'.err = se' at *
    generalize hSF : S'.sf = sf' at *
    go_wp2_with fail
    go_loopw [61] (fun iv wr => ∃ k : Nat, k ≤ n0 ∧ iv = .int .i64 k ∧ Hid (Below W8.heap.size W8 wr)) (fun iv _ => n0 - (intOf iv).toNat)
    case atStart => exact ⟨0, by omega, rfl, Below.refl _ _⟩
    case round =>
      obtain ⟨k, hk, rfl, HW⟩ := hrel
      by_cases hkn : k < n0
      · have hkl : k < l0.length := by rw [HN0.out]; exact hkn
        obtain ⟨ad, rfl, -⟩ := HR0.out.at_ k hkl
        have HSK := Lib.hid (HLS.out k wr (some ad) (by omega) (HR0.out.below (below_trans HB8.out HW.out)))
        have hc0 : ¬ c0 < k := by omega
        clear hkl
        go_wp2_with fail
        refine HSK.out.mono ?_
        rintro e w9 ⟨⟨S9, A9, c9, hk9, rfl⟩, hb9⟩
        have g9 : decide ((2 : Int) ≤ (S9.kind : Int)) = false := by simp; omega
        have HW9 := Lib.hid (below_alloc (below_trans HW.out hb9) (.cells #[.int .i64 S9.kind, .int .i64 S9.err, .int .i64 S9.sf.kind, .int .u32 S9.sf.id, .bool S9.sf.ext, .bool S9.sf.rtr, .bool S9.sf.brs, .bool S9.sf.esi, .bool S9.sf.sec, .int .u8 S9.sf.sdt, .int .u8 S9.sf.vcid, .int .u32 S9.sf.af, .slice A9 S9.sf.data.length c9] 30))
        clear hb9
        go_wp2_with fail
        go_roundw
        case rel => exact ⟨k + 1, by omega, by go_num, HW9⟩
        case measure => simp [intOf]; omega
      · obtain rfl : n0 = k := by omega
        have HWF := Lib.hid (below_trans HB8.out HW.out)
        have Q9 := heap_below HW.out Q8.out
        have b1 : wr.cell? ⟨p7, 1, none⟩ = some (.int .i64 te) := cell_of_heap Q9 1 _ rfl
        have b2 : wr.cell? ⟨p7, 2, none⟩ = some (.int .i64 F.kind) := cell_of_heap Q9 2 _ rfl
        clear Q9
        go_wp2_with fail
        go_ret
        exact ⟨by first | rfl | simp, HWF.out⟩
end Go.Proofs.YtlmdkmflbhnlgaaGreat
