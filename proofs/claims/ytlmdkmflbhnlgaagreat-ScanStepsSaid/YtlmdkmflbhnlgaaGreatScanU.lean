/- The machine's first part: how a bit is taken. No condition. -/
import Derived.Test.YtlmdkmflbhnlgaaGreatScanS
namespace Go.Proofs.YtlmdkmflbhnlgaaGreat
open Go.RowKit
variable {w : World} {s : List Nat} {mp : Nat} {S : MS} {a : MA}
theorem NxtFits.congr {S' : MS} {x : Nxt} (h : NxtFits S x) (hn : S'.need = S.need) (hf : S'.f = S.f) : NxtFits S' x := by
  cases x <;> simp only [NxtFits, hn, hf] at h ⊢ <;> exact h
theorem wpList_appU {W : World} {ops : Array Oper} {rest : List Oper} {o : Oper} {f : Act} {Q : Exit → Act → World → Prop} (hgd : o.guard = none) (sl x : Operand)
    (ho : o.op = .call { callee := .builtin .append, args := #[sl, x], argTypes := #[22, 22] })
    (A : Option Addr) (n c : Nat) (l : List Nat) (hs : f.eval sl = .slice A n c) (hown : Row W 0 5 A c (bys l)) (hn : l.length = n) (q d b : Nat) (hx : f.eval x = .slice (some ⟨q, 0, none⟩) 1 d) (hq : W.heap[q]? = some (.cells #[.int .u8 b] 5 (0, 0))) (h63 : n ≤ 100000)
    (h : ∀ (w3 : World) (A3 : Option Addr) (c3 : Nat), Hid (Row w3 0 5 A3 c3 (bys (l ++ [b]))) → Hid (Turn (blkA A) W w3) → Hid (∀ k ∈ blkA A3, k ∈ blkA A ∨ W.heap.size ≤ k) → wpList Tryz.prog ops Q rest (f.put o.dst (.slice A3 (n + 1 : Nat) c3)) w3) : wpList Tryz.prog ops Q (o :: rest) f W :=
  wpList_plain hgd fun _ hK => oper_appU sl x ho A n c l hs hown hn q d b hx hq h63 fun w3 A3 c3 h1 h2 h3 => hK _ _ (h w3 A3 c3 h1 h2 h3)
theorem MR.c17 (h : MR w s mp S a) : w.cell? ⟨mp, 17, none⟩ = some (.slice a.rA S.raw.length a.rc) := h.cell 17 _ rfl
theorem MR.notmp (h : MR w s mp S a) {A : Option Addr} {c : Nat} {l : List Nat} (hR : RowU w s A c l) : mp ∉ blkA A := fun hm => hR.1.ne_ty h.cells (by decide) mp hm rfl
set_option maxRecDepth 100000 in
set_option maxHeartbeats 8000000 in
theorem mDynamic (h : MR w s mp S a) (b n k : Nat) (hn : S.raw.length = n) (hn2 : n ≤ 30000) (hk : S.l.length = k) (hk2 : k ≤ 999) (hb : b ≤ 1) (hl01 : ∀ x ∈ S.l, x ≤ 1) (need : Nat) (hnd : S.need = need) (hf : NxtFits S S.next) :
    Calls Tryz.prog 25 #[.pointer (some ⟨mp, 0, none⟩), .int .u8 b] w (MDone w s mp (dynM S b)) := by
  obtain ⟨j, hj⟩ : ∃ j, n - 5 = j := ⟨_, rfl⟩
  obtain ⟨d, hd⟩ : ∃ d, n - j = d := ⟨_, rfl⟩
  have hlen1 : (S.raw ++ [b]).length = n + 1 := by simp [hn]
  have hlen2 : (S.l ++ [b]).length = k + 1 := by simp [hk]
  have HDS1 : Hid (∀ A3 c3, (mca S a).setIfInBounds 17 (.slice A3 (n + 1 : Nat) c3) = mca { S with raw := S.raw ++ [b] } { a with rA := A3, rc := c3 }) := by
    show ∀ A3 c3, _
    intro A3 c3; rw [← hlen1]; rfl
  have HDS2 : Hid (∀ A3 c3 A4 c4, (mca { S with raw := S.raw ++ [b] } { a with rA := A3, rc := c3 }).setIfInBounds 18 (.slice A4 (k + 1 : Nat) c4) = mca { S with raw := S.raw ++ [b], l := S.l ++ [b] } { a with rA := A3, rc := c3, lA := A4, lc := c4 }) := by
    show ∀ A3 c3 A4 c4, _
    intro A3 c3 A4 c4; rw [← hlen2]; rfl
  have hdl : (S.raw.drop j).length = d := by rw [List.length_drop, hn]; exact hd
  obtain ⟨F, hF⟩ : ∃ F, fullR S.raw = F := ⟨_, rfl⟩
  have H5R : Hid (∀ r : Nat, RunIs (S.raw.drop j) r → ((r : Int) == 5) = F) := by
    show ∀ r : Nat, _
    intro r hr; rw [← hF]; exact five_run S.raw r (by rw [hn, hj]; exact hr)
  obtain ⟨y, hy⟩ : ∃ y, S.raw.getD (n - 1) 0 = y := ⟨_, rfl⟩
  have hs : dynM S b = if F = true ∧ b = y then badM S 4 else if F = true then { S with raw := S.raw ++ [b] } else if k + 1 = need then nextM { S with raw := S.raw ++ [b], l := S.l ++ [b] } else { S with raw := S.raw ++ [b], l := S.l ++ [b] } := by
    rw [← hF, ← hk, ← hnd, ← hy, ← hn]; rfl
  obtain ⟨T, hT⟩ : ∃ T, dynM S b = T := ⟨_, rfl⟩
  rw [hT] at hs ⊢
  have HSS := Lib.hid hs
  have hFn : F = true → 5 ≤ n := by intro hf; rw [← hF] at hf; unfold fullR at hf; rw [Bool.and_eq_true, decide_eq_true_eq, hn] at hf; exact hf.1
  have c17 : w.cell? ⟨mp, 17, none⟩ = some (.slice a.rA n a.rc) := h.cell 17 _ (by rw [← hn]; rfl)
  have c18 : w.cell? ⟨mp, 18, none⟩ = some (.slice a.lA k a.lc) := h.cell 18 _ (by rw [← hk]; rfl)
  have HH := Lib.hid h
  have HN := Lib.hid hn
  have HK := Lib.hid hk
  have HLEN2 := Lib.hid hlen2
  have HND := Lib.hid hnd
  have HF := Lib.hid hf
  have HL01 : Hid (∀ x ∈ S.l ++ [b], x ≤ 1) := fun x hx => (List.mem_append.1 hx).elim (hl01 x) (fun h => by simp at h; omega)
  have HDL := Lib.hid hdl
  have HRUN := Lib.hid (fun (b0 off c : Nat) A (W : World) hA (hR : Rd W A (bys (S.raw.drop j))) => runBits_any b0 off d c A (S.raw.drop j) W hA hdl (by omega) hR)
  have hif : (if (5 : Int) < (n : Int) then (n : Int) - 5 else 0) = (j : Int) := by split <;> omega
  have hjn : ¬ n < j := by omega
  have HIF := Lib.hid hif
  have HJ := Lib.hid hj
  have HHD := Lib.hid hd
  have hdn : d = 0 → n = 0 := by omega
  have HDN := Lib.hid hdn
  have HFN := Lib.hid hFn
  have hshape : (a.rA = none ∧ n = 0 ∧ a.rc = 0) ∨ ∃ g, a.rA = some ⟨g, 0, none⟩ ∧ n ≤ a.rc ∧ (0 < n → w.cell? ⟨g, n - 1, none⟩ = some (.int .u8 y)) := by
    have hr := h.rest.raw.1
    by_cases h0 : n = 0
    · rcases hr.2 with ⟨hv, -⟩ | ⟨g, cap, cur, hv, -⟩
      · injection hv with e1 e2 e3; exact .inl ⟨e1, h0, e3⟩
      · injection hv with e1 e2 e3; exact .inr ⟨g, e1, by omega, by omega⟩
    · obtain ⟨g, hg, k1, k2, k3⟩ := h.rest.raw.at_ (n - 1) (by omega)
      exact .inr ⟨g, hg, by omega, fun _ => by rw [← hy]; exact k3⟩
  clear h hn hk hj hd hlen1 hlen2 hdl hF hy hs hT hl01 hnd hf hFn hb hif hdn
  rcases hshape with ⟨hra, hn0, hrc⟩ | ⟨g, hra, hnc, hgy⟩
  · subst hn0
    rw [hra, hrc] at c17
    have HRA := Lib.hid hra
    have HRC := Lib.hid hrc
    clear hra hrc
    cases F
    · rw [if_neg (by intro h; cases h.1), if_neg (by simp)] at HSS
      by_cases hnk : k + 1 = need
      · rw [if_pos hnk] at HSS
        have g1 : (((k : Int) + 1) == (need : Int)) = true := by simp; omega
        have HNK := Lib.hid hnk
        clear hnk
        have c17e : ∀ e : Ext w, e.W.cell? ⟨mp, 17, none⟩ = some (.slice none 0 0) := fun e => ext_cell c17 e
        go_enter Tryz.func25, Tryz.ntmps25
        go_wp2_with fail
        refine wp_region_mix (fun w' => ∃ e : Ext w, w' = e.W) [(true, 0), (true, 1), (true, 2), (true, 3), (true, 4), (true, 5), (true, 6), (true, 7), (true, 8), (true, 9), (false, 10), (true, 11)] [12, 13, 14] (by kernel_rfl) (by kernel_rfl) (by intro _ _ d _ _ h; cases d <;> exact h) ⟨⟨w.drew, (Below.refl _ _).drew⟩, rfl⟩ ?_
        simp only [pickM, pickL, List.drop_succ_cons, List.drop_zero]
        repeat (first | (refine mix_pure (by rfl) (by rfl) ?_; intro K hK; go_big_quiet_op; go_big_quiet_on) | (refine mix_nilc ⟨mp, 0, none⟩ (by rfl) (by kernel_rfl) ?_; go_simp))
        refine mix_eff (by rfl) ?_
        intro K hK
        go_simp
        refine hK _ _ ⟨⟨_, (Below.refl _ _).drew⟩, rfl⟩ ?_
        clear hK K
        repeat (first | (refine mix_pure (by rfl) (by rfl) ?_; intro K hK; go_big_quiet_op; go_big_quiet_on) | (refine mix_nilc ⟨mp, 0, none⟩ (by rfl) (by kernel_rfl) ?_; go_simp))
        refine mix_nil ?_
        have hbd : Below w.heap.size w w.drew := (Below.refl _ _).drew
        have hd0 : d = 0 := by have := HHD.out; omega
        have hrd9 : Rd w.drew none (bys (S.raw.drop j)) := by
          rw [List.eq_nil_of_length_eq_zero (by rw [HDL.out]; omega : (S.raw.drop j).length = 0)]
          exact Rd.nil _ _
        have HRN := Lib.hid (HRUN.out 0 0 0 none w.drew (fun h0 => by omega) hrd9)
        rw [hd0] at HRN
        have HH5 := Lib.hid (HH.out.below hbd)
        have HB0 := Lib.hid hbd
        clear hrd9 hbd c17 c18 c17e
        generalize w.drew = w0 at *
        go_wp2_with fail
        refine HRN.out.mono ?_
        rintro e w5 ⟨⟨r, rfl, hrr⟩, hb5⟩
        have hr5 := H5R.out r hrr
        have H5 := Lib.hid (HH5.out.below hb5)
        have HB5 := Lib.hid (below_trans HB0.out hb5)
        clear hrr hb5 HRN HH5 HB0
        have c17 : w5.cell? ⟨mp, 17, none⟩ = some (.slice none 0 0) := by have h17 := H5.out.c17; rw [HN.out, HRA.out, HRC.out] at h17; exact h17
        have c18 : w5.cell? ⟨mp, 18, none⟩ = some (.slice a.lA k a.lc) := H5.out.cell 18 _ (by rw [← HK.out]; rfl)
        have c17e : ∀ e : Ext w5, e.W.cell? ⟨mp, 17, none⟩ = some (.slice none 0 0) := fun e => ext_cell c17 e
        go_wp2_with fail
        refine wp_region_mix (fun w' => ∃ e : Ext w5, w' = e.W) [(true, 0), (true, 1), (true, 2), (true, 3), (true, 4), (true, 5), (true, 6), (true, 7), (true, 8), (true, 9), (true, 10), (true, 11), (true, 12), (true, 13), (true, 14), (true, 15), (true, 16)] [] (by kernel_rfl) (by kernel_rfl) (by intro _ _ d _ _ h; cases d <;> exact h) ⟨⟨w5.drew, (Below.refl _ _).drew⟩, rfl⟩ ?_
        simp only [pickM, pickL, List.drop_succ_cons, List.drop_zero]
        repeat (first | (refine mix_pure (by rfl) (by rfl) ?_; intro K hK; go_big_quiet_op; go_big_quiet_on) | (refine mix_nilc ⟨mp, 0, none⟩ (by rfl) (by kernel_rfl) ?_; go_simp) | (refine mix_skip (by rfl) ?_; go_simp))
        refine mix_nil (wpList_nil ?_)
        clear c17 c18 c17e 
        have hbd : Below w5.heap.size w5 w5.drew := (Below.refl _ _).drew
        have H6 := Lib.hid (H5.out.below hbd)
        have HB6 := Lib.hid (below_trans HB5.out hbd)
        clear hbd H5 HB5
        generalize w5.drew = w6 at *
        have d17 : w6.cell? ⟨mp, 17, none⟩ = some (.slice none 0 0) := by have h17 := H6.out.c17; rw [HN.out, HRA.out, HRC.out] at h17; exact h17
        go_wp2_with (first
          | (at_builtin; refine wpList_appU rfl (.tmp 42) (.tmp 44) rfl none 0 0 S.raw (by kernel_rfl) (by have := (H6.out.alloc (.cells #[.int .u8 b] 5)).rest.raw.1; rw [HRA.out, HRC.out] at this; exact this) HN.out w6.heap.size 1 b (by kernel_rfl) (heap_new_at rfl) (by omega) ?_; intro W3 A3 c3 HR3 T3 N3; have HM3 := Lib.hid (T3.out.heap (H6.out.alloc (.cells #[.int .u8 b] 5)).cells (by have := (H6.out.alloc (.cells #[.int .u8 b] 5)).notmp (H6.out.alloc (.cells #[.int .u8 b] 5)).rest.raw; rw [HRA.out] at this; exact this)))
          | (refine wpList_sputN HM3.out rfl rfl 22 (.tmp 47) (.tmp 45) rfl 17 (.slice A3 (0 + 1 : Nat) c3) (by kernel_rfl) (by kernel_rfl) rfl info_slcS (by simp [mca, mcs]) (mca { S with raw := S.raw ++ [b] } { a with rA := A3, rc := c3 }) (HDS1.out A3 c3) ?_; intro W4 M4 T4; obtain ⟨h4, t4, n4⟩ := (H6.out.alloc (.cells #[.int .u8 b] 5)).rawApp (A3 := A3) (c3 := c3) (b := b) (by rw [HRA.out]; exact T3.out) HR3.out (by rw [HRA.out]; exact N3.out) M4.out T4.out; have H7 := Lib.hid h4; have T7 : Hid (Turn s w6 W4) := (Turn.of (below_alloc (Below.refl _ _) (.cells #[.int .u8 b] 5))).tr t4; have N7 : Hid (∀ k ∈ blkA A3 ++ s, k ∈ s ∨ w6.heap.size ≤ k) := (fun k hk => (n4 k hk).imp id (fun h => Nat.le_trans (below_alloc (Below.refl w6.heap.size w6) (.cells #[.int .u8 b] 5)).size h)); have d18 : W4.cell? ⟨mp, 18, none⟩ = some (.slice a.lA k a.lc) := h4.cell 18 _ (by rw [← HK.out]; rfl); clear h4 t4 n4)
          | (at_builtin; refine wpList_appU rfl (.tmp 53) (.tmp 55) rfl a.lA k a.lc S.l (by kernel_rfl) (H7.out.alloc (.cells #[.int .u8 b] 5)).rest.l.1 HK.out W4.heap.size 1 b (by kernel_rfl) (heap_new_at rfl) (by omega) ?_; intro W13 A13 c13 HR13 T13 N13; have HM13 := Lib.hid (T13.out.heap (H7.out.alloc (.cells #[.int .u8 b] 5)).cells ((H7.out.alloc (.cells #[.int .u8 b] 5)).notmp (H7.out.alloc (.cells #[.int .u8 b] 5)).rest.l)))
          | (refine wpList_sputN HM13.out rfl rfl 22 (.tmp 58) (.tmp 56) rfl 18 (.slice A13 (k + 1 : Nat) c13) (by kernel_rfl) (by kernel_rfl) rfl info_slcS (by simp [mca, mcs]) (mca { S with raw := S.raw ++ [b], l := S.l ++ [b] } { a with rA := A3, rc := c3, lA := A13, lc := c13 }) (HDS2.out A3 c3 A13 c13) ?_; intro W14 M14 T14; obtain ⟨h14, t14, n14⟩ := (H7.out.alloc (.cells #[.int .u8 b] 5)).lApp (A3 := A13) (c3 := c13) (b := b) T13.out HR13.out N13.out M14.out T14.out; have H8 := Lib.hid h14; have T8 : Hid (Turn (blkA A3 ++ s) W4 W14) := (Turn.of (below_alloc (Below.refl _ _) (.cells #[.int .u8 b] 5))).tr t14; have N8 : Hid (∀ k ∈ blkA A13 ++ (blkA A3 ++ s), k ∈ blkA A3 ++ s ∨ W4.heap.size ≤ k) := (fun k hk => (n14 k hk).imp id (fun h => Nat.le_trans (below_alloc (Below.refl W4.heap.size W4) (.cells #[.int .u8 b] 5)).size h)); clear h14 t14 n14))
        clear d17 d18 M4 M14 T3 T4 T13 T14 N3 N13 HR3 HR13 HM3 HM13
        generalize hs8 : blkA A13 ++ (blkA A3 ++ s) = s8 at *
        generalize hs7 : blkA A3 ++ s = s7 at *
        clear hs8 hs7
        have f18 : ∀ e : Ext W14, e.W.cell? ⟨mp, 18, none⟩ = some (.slice A13 (k + 1 : Nat) c13) := fun e => ext_cell (H8.out.cell 18 _ (by rw [← HLEN2.out]; rfl)) e
        have f19 : ∀ e : Ext W14, e.W.cell? ⟨mp, 19, none⟩ = some (.int .i64 need) := fun e => ext_cell (H8.out.cell 19 _ (by rw [← HND.out]; rfl)) e
        have HRAWP : Hid (0 < (S.raw ++ [b]).length) := by show 0 < (S.raw ++ [b]).length; simp
        refine wp_region_mix (fun w' => ∃ e : Ext W14, w' = e.W) [(true, 0), (true, 1), (true, 2), (true, 3), (true, 4), (true, 5), (true, 6), (true, 7), (true, 8), (true, 9)] [] (by kernel_rfl) (by kernel_rfl) (by intro _ _ d _ _ h; cases d <;> exact h) ⟨⟨W14.drew, (Below.refl _ _).drew⟩, rfl⟩ ?_
        simp only [pickM, pickL, List.drop_succ_cons, List.drop_zero]
        repeat (first | (refine mix_pure (by rfl) (by rfl) ?_; intro K hK; go_big_quiet_op; go_big_quiet_on) | (refine mix_nilc ⟨mp, 0, none⟩ (by rfl) (by kernel_rfl) ?_; go_simp))
        refine mix_nil (wpList_nil ?_)
        clear f18 f19
        have hbd : Below W14.heap.size W14 W14.drew := (Below.refl _ _).drew
        have H9 := Lib.hid (H8.out.below hbd)
        have T9 := Lib.hid (T8.out.tr (Turn.of (s := s7) hbd))
        have TT : Hid (Turn s w6 W14.drew) := T7.out.trans T9.out N7.out
        have NN : Hid (∀ k ∈ s8, k ∈ s ∨ w6.heap.size ≤ k) := fun k hk => (N8.out k hk).elim (N7.out k) (fun h => .inr (Nat.le_trans T7.out.size h))
        clear hbd H8 H7 T8 T7 T9 N7 N8
        generalize W14.drew = W15 at *
        obtain ⟨hv, hcall⟩ | ⟨hv, hcall⟩ | ⟨hv, hcall⟩ | ⟨hv, hcall⟩ | ⟨hv, hcall⟩ | ⟨hv, hcall⟩ | ⟨hv, hcall⟩ | ⟨hv, hcall⟩ | ⟨hv, hcall⟩ | ⟨x, y, z, hv, hcall⟩ | ⟨x, y, hv, hcall⟩ := mNext (S := { S with raw := S.raw ++ [b], l := S.l ++ [b] }) H9.out (by show (S.l ++ [b]).length = S.need; rw [HLEN2.out, HND.out]; exact HNK.out) (HF.out.congr rfl rfl) (by show (S.l ++ [b]).length ≤ 1000; rw [HLEN2.out]; omega) HL01.out HRAWP.out
        · have c16 : W15.cell? ⟨mp, 16, none⟩ = some (.func (.func 27) #[.pointer (some ⟨mp, 0, none⟩)] #[]) := H9.out.cell 16 _ (by rw [← hv]; rfl)
          have HC := Lib.hid hcall
          clear hcall hv
          go_wp2_with fail
          refine HC.out.mono ?_
          rintro e w16 ⟨rfl, hA⟩
          go_wp2_with fail
          go_end0
          exact ⟨rfl, HSS.out ▸ (hA.after NN.out TT.out).pre HB6.out⟩
        · have c16 : W15.cell? ⟨mp, 16, none⟩ = some (.func (.func 51) #[.pointer (some ⟨mp, 0, none⟩)] #[]) := H9.out.cell 16 _ (by rw [← hv]; rfl)
          have HC := Lib.hid hcall
          clear hcall hv
          go_wp2_with fail
          refine HC.out.mono ?_
          rintro e w16 ⟨rfl, hA⟩
          go_wp2_with fail
          go_end0
          exact ⟨rfl, HSS.out ▸ (hA.after NN.out TT.out).pre HB6.out⟩
        · have c16 : W15.cell? ⟨mp, 16, none⟩ = some (.func (.func 74) #[.pointer (some ⟨mp, 0, none⟩)] #[]) := H9.out.cell 16 _ (by rw [← hv]; rfl)
          have HC := Lib.hid hcall
          clear hcall hv
          go_wp2_with fail
          refine HC.out.mono ?_
          rintro e w16 ⟨rfl, hA⟩
          go_wp2_with fail
          go_end0
          exact ⟨rfl, HSS.out ▸ (hA.after NN.out TT.out).pre HB6.out⟩
        · have c16 : W15.cell? ⟨mp, 16, none⟩ = some (.func (.func 98) #[.pointer (some ⟨mp, 0, none⟩)] #[]) := H9.out.cell 16 _ (by rw [← hv]; rfl)
          have HC := Lib.hid hcall
          clear hcall hv
          go_wp2_with fail
          refine HC.out.mono ?_
          rintro e w16 ⟨rfl, hA⟩
          go_wp2_with fail
          go_end0
          exact ⟨rfl, HSS.out ▸ (hA.after NN.out TT.out).pre HB6.out⟩
        · have c16 : W15.cell? ⟨mp, 16, none⟩ = some (.func (.func 73) #[.pointer (some ⟨mp, 0, none⟩)] #[]) := H9.out.cell 16 _ (by rw [← hv]; rfl)
          have HC := Lib.hid hcall
          clear hcall hv
          go_wp2_with fail
          refine HC.out.mono ?_
          rintro e w16 ⟨rfl, hA⟩
          go_wp2_with fail
          go_end0
          exact ⟨rfl, HSS.out ▸ (hA.after NN.out TT.out).pre HB6.out⟩
        · have c16 : W15.cell? ⟨mp, 16, none⟩ = some (.func (.func 97) #[.pointer (some ⟨mp, 0, none⟩)] #[]) := H9.out.cell 16 _ (by rw [← hv]; rfl)
          have HC := Lib.hid hcall
          clear hcall hv
          go_wp2_with fail
          refine HC.out.mono ?_
          rintro e w16 ⟨rfl, hA⟩
          go_wp2_with fail
          go_end0
          exact ⟨rfl, HSS.out ▸ (hA.after NN.out TT.out).pre HB6.out⟩
        · have c16 : W15.cell? ⟨mp, 16, none⟩ = some (.func (.func 96) #[.pointer (some ⟨mp, 0, none⟩)] #[]) := H9.out.cell 16 _ (by rw [← hv]; rfl)
          have HC := Lib.hid hcall
          clear hcall hv
          go_wp2_with fail
          refine HC.out.mono ?_
          rintro e w16 ⟨rfl, hA⟩
          go_wp2_with fail
          go_end0
          exact ⟨rfl, HSS.out ▸ (hA.after NN.out TT.out).pre HB6.out⟩
        · have c16 : W15.cell? ⟨mp, 16, none⟩ = some (.func (.func 109) #[.pointer (some ⟨mp, 0, none⟩)] #[]) := H9.out.cell 16 _ (by rw [← hv]; rfl)
          have HC := Lib.hid hcall
          clear hcall hv
          go_wp2_with fail
          refine HC.out.mono ?_
          rintro e w16 ⟨rfl, hA⟩
          go_wp2_with fail
          go_end0
          exact ⟨rfl, HSS.out ▸ (hA.after NN.out TT.out).pre HB6.out⟩
        · have c16 : W15.cell? ⟨mp, 16, none⟩ = some (.func (.func 110) #[.pointer (some ⟨mp, 0, none⟩)] #[]) := H9.out.cell 16 _ (by rw [← hv]; rfl)
          have HC := Lib.hid hcall
          clear hcall hv
          go_wp2_with fail
          refine HC.out.mono ?_
          rintro e w16 ⟨rfl, hA⟩
          go_wp2_with fail
          go_end0
          exact ⟨rfl, HSS.out ▸ (hA.after NN.out TT.out).pre HB6.out⟩
        · have c16 : W15.cell? ⟨mp, 16, none⟩ = some (.func (.func 105) #[] #[.pointer (some ⟨x, 0, none⟩), .pointer (some ⟨y, 0, none⟩), .pointer (some ⟨z, 0, none⟩)]) := H9.out.cell 16 _ (by rw [← hv]; rfl)
          have HC := Lib.hid hcall
          clear hcall hv
          go_wp2_with fail
          refine HC.out.mono ?_
          rintro e w16 ⟨rfl, hA⟩
          go_wp2_with fail
          go_end0
          exact ⟨rfl, HSS.out ▸ (hA.after NN.out TT.out).pre HB6.out⟩
        · have c16 : W15.cell? ⟨mp, 16, none⟩ = some (.func (.func 116) #[] #[.pointer (some ⟨x, 0, none⟩), .pointer (some ⟨y, 0, none⟩)]) := H9.out.cell 16 _ (by rw [← hv]; rfl)
          have HC := Lib.hid hcall
          clear hcall hv
          go_wp2_with fail
          refine HC.out.mono ?_
          rintro e w16 ⟨rfl, hA⟩
          go_wp2_with fail
          go_end0
          exact ⟨rfl, HSS.out ▸ (hA.after NN.out TT.out).pre HB6.out⟩
      · rw [if_neg hnk] at HSS
        have g1 : (((k : Int) + 1) == (need : Int)) = false := by simp; omega
        clear hnk
        have c17e : ∀ e : Ext w, e.W.cell? ⟨mp, 17, none⟩ = some (.slice none 0 0) := fun e => ext_cell c17 e
        go_enter Tryz.func25, Tryz.ntmps25
        go_wp2_with fail
        refine wp_region_mix (fun w' => ∃ e : Ext w, w' = e.W) [(true, 0), (true, 1), (true, 2), (true, 3), (true, 4), (true, 5), (true, 6), (true, 7), (true, 8), (true, 9), (false, 10), (true, 11)] [12, 13, 14] (by kernel_rfl) (by kernel_rfl) (by intro _ _ d _ _ h; cases d <;> exact h) ⟨⟨w.drew, (Below.refl _ _).drew⟩, rfl⟩ ?_
        simp only [pickM, pickL, List.drop_succ_cons, List.drop_zero]
        repeat (first | (refine mix_pure (by rfl) (by rfl) ?_; intro K hK; go_big_quiet_op; go_big_quiet_on) | (refine mix_nilc ⟨mp, 0, none⟩ (by rfl) (by kernel_rfl) ?_; go_simp))
        refine mix_eff (by rfl) ?_
        intro K hK
        go_simp
        refine hK _ _ ⟨⟨_, (Below.refl _ _).drew⟩, rfl⟩ ?_
        clear hK K
        repeat (first | (refine mix_pure (by rfl) (by rfl) ?_; intro K hK; go_big_quiet_op; go_big_quiet_on) | (refine mix_nilc ⟨mp, 0, none⟩ (by rfl) (by kernel_rfl) ?_; go_simp))
        refine mix_nil ?_
        have hbd : Below w.heap.size w w.drew := (Below.refl _ _).drew
        have hd0 : d = 0 := by have := HHD.out; omega
        have hrd9 : Rd w.drew none (bys (S.raw.drop j)) := by
          rw [List.eq_nil_of_length_eq_zero (by rw [HDL.out]; omega : (S.raw.drop j).length = 0)]
          exact Rd.nil _ _
        have HRN := Lib.hid (HRUN.out 0 0 0 none w.drew (fun h0 => by omega) hrd9)
        rw [hd0] at HRN
        have HH5 := Lib.hid (HH.out.below hbd)
        have HB0 := Lib.hid hbd
        clear hrd9 hbd c17 c18 c17e
        generalize w.drew = w0 at *
        go_wp2_with fail
        refine HRN.out.mono ?_
        rintro e w5 ⟨⟨r, rfl, hrr⟩, hb5⟩
        have hr5 := H5R.out r hrr
        have H5 := Lib.hid (HH5.out.below hb5)
        have HB5 := Lib.hid (below_trans HB0.out hb5)
        clear hrr hb5 HRN HH5 HB0
        have c17 : w5.cell? ⟨mp, 17, none⟩ = some (.slice none 0 0) := by have h17 := H5.out.c17; rw [HN.out, HRA.out, HRC.out] at h17; exact h17
        have c18 : w5.cell? ⟨mp, 18, none⟩ = some (.slice a.lA k a.lc) := H5.out.cell 18 _ (by rw [← HK.out]; rfl)
        have c17e : ∀ e : Ext w5, e.W.cell? ⟨mp, 17, none⟩ = some (.slice none 0 0) := fun e => ext_cell c17 e
        go_wp2_with fail
        refine wp_region_mix (fun w' => ∃ e : Ext w5, w' = e.W) [(true, 0), (true, 1), (true, 2), (true, 3), (true, 4), (true, 5), (true, 6), (true, 7), (true, 8), (true, 9), (true, 10), (true, 11), (true, 12), (true, 13), (true, 14), (true, 15), (true, 16)] [] (by kernel_rfl) (by kernel_rfl) (by intro _ _ d _ _ h; cases d <;> exact h) ⟨⟨w5.drew, (Below.refl _ _).drew⟩, rfl⟩ ?_
        simp only [pickM, pickL, List.drop_succ_cons, List.drop_zero]
        repeat (first | (refine mix_pure (by rfl) (by rfl) ?_; intro K hK; go_big_quiet_op; go_big_quiet_on) | (refine mix_nilc ⟨mp, 0, none⟩ (by rfl) (by kernel_rfl) ?_; go_simp) | (refine mix_skip (by rfl) ?_; go_simp))
        refine mix_nil (wpList_nil ?_)
        clear c17 c18 c17e 
        have hbd : Below w5.heap.size w5 w5.drew := (Below.refl _ _).drew
        have H6 := Lib.hid (H5.out.below hbd)
        have HB6 := Lib.hid (below_trans HB5.out hbd)
        clear hbd H5 HB5
        generalize w5.drew = w6 at *
        have d17 : w6.cell? ⟨mp, 17, none⟩ = some (.slice none 0 0) := by have h17 := H6.out.c17; rw [HN.out, HRA.out, HRC.out] at h17; exact h17
        go_wp2_with (first
          | (at_builtin; refine wpList_appU rfl (.tmp 42) (.tmp 44) rfl none 0 0 S.raw (by kernel_rfl) (by have := (H6.out.alloc (.cells #[.int .u8 b] 5)).rest.raw.1; rw [HRA.out, HRC.out] at this; exact this) HN.out w6.heap.size 1 b (by kernel_rfl) (heap_new_at rfl) (by omega) ?_; intro W3 A3 c3 HR3 T3 N3; have HM3 := Lib.hid (T3.out.heap (H6.out.alloc (.cells #[.int .u8 b] 5)).cells (by have := (H6.out.alloc (.cells #[.int .u8 b] 5)).notmp (H6.out.alloc (.cells #[.int .u8 b] 5)).rest.raw; rw [HRA.out] at this; exact this)))
          | (refine wpList_sputN HM3.out rfl rfl 22 (.tmp 47) (.tmp 45) rfl 17 (.slice A3 (0 + 1 : Nat) c3) (by kernel_rfl) (by kernel_rfl) rfl info_slcS (by simp [mca, mcs]) (mca { S with raw := S.raw ++ [b] } { a with rA := A3, rc := c3 }) (HDS1.out A3 c3) ?_; intro W4 M4 T4; obtain ⟨h4, t4, n4⟩ := (H6.out.alloc (.cells #[.int .u8 b] 5)).rawApp (A3 := A3) (c3 := c3) (b := b) (by rw [HRA.out]; exact T3.out) HR3.out (by rw [HRA.out]; exact N3.out) M4.out T4.out; have H7 := Lib.hid h4; have T7 : Hid (Turn s w6 W4) := (Turn.of (below_alloc (Below.refl _ _) (.cells #[.int .u8 b] 5))).tr t4; have N7 : Hid (∀ k ∈ blkA A3 ++ s, k ∈ s ∨ w6.heap.size ≤ k) := (fun k hk => (n4 k hk).imp id (fun h => Nat.le_trans (below_alloc (Below.refl w6.heap.size w6) (.cells #[.int .u8 b] 5)).size h)); have d18 : W4.cell? ⟨mp, 18, none⟩ = some (.slice a.lA k a.lc) := h4.cell 18 _ (by rw [← HK.out]; rfl); clear h4 t4 n4)
          | (at_builtin; refine wpList_appU rfl (.tmp 53) (.tmp 55) rfl a.lA k a.lc S.l (by kernel_rfl) (H7.out.alloc (.cells #[.int .u8 b] 5)).rest.l.1 HK.out W4.heap.size 1 b (by kernel_rfl) (heap_new_at rfl) (by omega) ?_; intro W13 A13 c13 HR13 T13 N13; have HM13 := Lib.hid (T13.out.heap (H7.out.alloc (.cells #[.int .u8 b] 5)).cells ((H7.out.alloc (.cells #[.int .u8 b] 5)).notmp (H7.out.alloc (.cells #[.int .u8 b] 5)).rest.l)))
          | (refine wpList_sputN HM13.out rfl rfl 22 (.tmp 58) (.tmp 56) rfl 18 (.slice A13 (k + 1 : Nat) c13) (by kernel_rfl) (by kernel_rfl) rfl info_slcS (by simp [mca, mcs]) (mca { S with raw := S.raw ++ [b], l := S.l ++ [b] } { a with rA := A3, rc := c3, lA := A13, lc := c13 }) (HDS2.out A3 c3 A13 c13) ?_; intro W14 M14 T14; obtain ⟨h14, t14, n14⟩ := (H7.out.alloc (.cells #[.int .u8 b] 5)).lApp (A3 := A13) (c3 := c13) (b := b) T13.out HR13.out N13.out M14.out T14.out; have H8 := Lib.hid h14; have T8 : Hid (Turn (blkA A3 ++ s) W4 W14) := (Turn.of (below_alloc (Below.refl _ _) (.cells #[.int .u8 b] 5))).tr t14; have N8 : Hid (∀ k ∈ blkA A13 ++ (blkA A3 ++ s), k ∈ blkA A3 ++ s ∨ W4.heap.size ≤ k) := (fun k hk => (n14 k hk).imp id (fun h => Nat.le_trans (below_alloc (Below.refl W4.heap.size W4) (.cells #[.int .u8 b] 5)).size h)); clear h14 t14 n14))
        clear d17 d18 M4 M14 T3 T4 T13 T14 N3 N13 HR3 HR13 HM3 HM13
        generalize hs8 : blkA A13 ++ (blkA A3 ++ s) = s8 at *
        generalize hs7 : blkA A3 ++ s = s7 at *
        clear hs8 hs7
        have f18 : ∀ e : Ext W14, e.W.cell? ⟨mp, 18, none⟩ = some (.slice A13 (k + 1 : Nat) c13) := fun e => ext_cell (H8.out.cell 18 _ (by rw [← HLEN2.out]; rfl)) e
        have f19 : ∀ e : Ext W14, e.W.cell? ⟨mp, 19, none⟩ = some (.int .i64 need) := fun e => ext_cell (H8.out.cell 19 _ (by rw [← HND.out]; rfl)) e
        have HRAWP : Hid (0 < (S.raw ++ [b]).length) := by show 0 < (S.raw ++ [b]).length; simp
        refine wp_region_mix (fun w' => ∃ e : Ext W14, w' = e.W) [(true, 0), (true, 1), (true, 2), (true, 3), (true, 4), (true, 5), (true, 6), (true, 7), (true, 8), (true, 9)] [] (by kernel_rfl) (by kernel_rfl) (by intro _ _ d _ _ h; cases d <;> exact h) ⟨⟨W14.drew, (Below.refl _ _).drew⟩, rfl⟩ ?_
        simp only [pickM, pickL, List.drop_succ_cons, List.drop_zero]
        repeat (first | (refine mix_pure (by rfl) (by rfl) ?_; intro K hK; go_big_quiet_op; go_big_quiet_on) | (refine mix_nilc ⟨mp, 0, none⟩ (by rfl) (by kernel_rfl) ?_; go_simp))
        refine mix_nil (wpList_nil ?_)
        clear f18 f19
        have hbd : Below W14.heap.size W14 W14.drew := (Below.refl _ _).drew
        have H9 := Lib.hid (H8.out.below hbd)
        have T9 := Lib.hid (T8.out.tr (Turn.of (s := s7) hbd))
        have TT : Hid (Turn s w6 W14.drew) := T7.out.trans T9.out N7.out
        have NN : Hid (∀ k ∈ s8, k ∈ s ∨ w6.heap.size ≤ k) := fun k hk => (N8.out k hk).elim (N7.out k) (fun h => .inr (Nat.le_trans T7.out.size h))
        clear hbd H8 H7 T8 T7 T9 N7 N8
        generalize W14.drew = W15 at *
        go_wp2_with fail
        go_end0
        exact ⟨rfl, HSS.out ▸ ((MAct.same H9.out (Turn.refl _ _)).after NN.out TT.out).pre HB6.out⟩
    · exact absurd (HFN.out rfl) (by omega)
  · rw [hra] at c17
    have HRA := Lib.hid hra
    have hc1 : ¬ a.rc < n := by omega
    clear hra
    cases F
    · rw [if_neg (by intro h; cases h.1), if_neg (by simp)] at HSS
      by_cases hnk : k + 1 = need
      · rw [if_pos hnk] at HSS
        have g1 : (((k : Int) + 1) == (need : Int)) = true := by simp; omega
        have HNK := Lib.hid hnk
        clear hnk
        have c17e : ∀ e : Ext w, e.W.cell? ⟨mp, 17, none⟩ = some (.slice (some ⟨g, 0, none⟩) n a.rc) := fun e => ext_cell c17 e
        go_enter Tryz.func25, Tryz.ntmps25
        go_wp2_with fail
        refine wp_region_mix (fun w' => ∃ e : Ext w, w' = e.W) [(true, 0), (true, 1), (true, 2), (true, 3), (true, 4), (true, 5), (true, 6), (true, 7), (true, 8), (true, 9), (false, 10), (true, 11)] [12, 13, 14] (by kernel_rfl) (by kernel_rfl) (by intro _ _ d _ _ h; cases d <;> exact h) ⟨⟨w.drew, (Below.refl _ _).drew⟩, rfl⟩ ?_
        simp only [pickM, pickL, List.drop_succ_cons, List.drop_zero]
        repeat (first | (refine mix_pure (by rfl) (by rfl) ?_; intro K hK; go_big_quiet_op; go_big_quiet_on) | (refine mix_nilc ⟨mp, 0, none⟩ (by rfl) (by kernel_rfl) ?_; go_simp))
        refine mix_eff (by rfl) ?_
        intro K hK
        go_simp
        rw [HIF.out]
        refine hK _ _ ⟨⟨_, (Below.refl _ _).drew⟩, rfl⟩ ?_
        clear hK K
        repeat (first | (refine mix_pure (by rfl) (by rfl) ?_; intro K hK; go_big_quiet_op; go_big_quiet_on) | (refine mix_nilc ⟨mp, 0, none⟩ (by rfl) (by kernel_rfl) ?_; go_simp))
        refine mix_nil ?_
        have hbd : Below w.heap.size w w.drew := (Below.refl _ _).drew
        obtain ⟨A9, hA9⟩ : ∃ A9, (if a.rc = j then (some ⟨g, 0, none⟩ : Option Addr) else some ⟨g, j, none⟩) = A9 := ⟨_, rfl⟩
        rw [hA9]
        have hA9' : 0 < d → A9 = some ⟨g, j, none⟩ := by intro h0; rw [← hA9, if_neg (by have := HHD.out; omega)]
        have hrd9 : Rd w.drew A9 (bys (S.raw.drop j)) := by
          by_cases h0 : 0 < d
          · rw [hA9' h0]
            have hr := (HH.out.below hbd).rest.raw.1.rd
            rw [HRA.out] at hr
            have := rd_drop hr j
            rwa [Nat.zero_add] at this
          · rw [List.eq_nil_of_length_eq_zero (by rw [HDL.out]; omega : (S.raw.drop j).length = 0)]
            exact Rd.nil _ _
        have HRN := Lib.hid (HRUN.out g j (a.rc - j) A9 w.drew hA9' hrd9)
        rw [← HHD.out] at HRN
        have HH5 := Lib.hid (HH.out.below hbd)
        have HB0 := Lib.hid hbd
        clear hA9 hA9' hrd9 hbd c17 c18 c17e
        generalize w.drew = w0 at *
        go_wp2_with fail
        refine HRN.out.mono ?_
        rintro e w5 ⟨⟨r, rfl, hrr⟩, hb5⟩
        have hr5 := H5R.out r hrr
        have H5 := Lib.hid (HH5.out.below hb5)
        have HB5 := Lib.hid (below_trans HB0.out hb5)
        clear hrr hb5 HRN HH5 HB0
        have c17 : w5.cell? ⟨mp, 17, none⟩ = some (.slice (some ⟨g, 0, none⟩) n a.rc) := by have h17 := H5.out.c17; rw [HN.out, HRA.out] at h17; exact h17
        have c18 : w5.cell? ⟨mp, 18, none⟩ = some (.slice a.lA k a.lc) := H5.out.cell 18 _ (by rw [← HK.out]; rfl)
        have c17e : ∀ e : Ext w5, e.W.cell? ⟨mp, 17, none⟩ = some (.slice (some ⟨g, 0, none⟩) n a.rc) := fun e => ext_cell c17 e
        go_wp2_with fail
        refine wp_region_mix (fun w' => ∃ e : Ext w5, w' = e.W) [(true, 0), (true, 1), (true, 2), (true, 3), (true, 4), (true, 5), (true, 6), (true, 7), (true, 8), (true, 9), (true, 10), (true, 11), (true, 12), (true, 13), (true, 14), (true, 15), (true, 16)] [] (by kernel_rfl) (by kernel_rfl) (by intro _ _ d _ _ h; cases d <;> exact h) ⟨⟨w5.drew, (Below.refl _ _).drew⟩, rfl⟩ ?_
        simp only [pickM, pickL, List.drop_succ_cons, List.drop_zero]
        repeat (first | (refine mix_pure (by rfl) (by rfl) ?_; intro K hK; go_big_quiet_op; go_big_quiet_on) | (refine mix_nilc ⟨mp, 0, none⟩ (by rfl) (by kernel_rfl) ?_; go_simp) | (refine mix_skip (by rfl) ?_; go_simp))
        refine mix_nil (wpList_nil ?_)
        clear c17 c18 c17e 
        have hbd : Below w5.heap.size w5 w5.drew := (Below.refl _ _).drew
        have H6 := Lib.hid (H5.out.below hbd)
        have HB6 := Lib.hid (below_trans HB5.out hbd)
        clear hbd H5 HB5
        generalize w5.drew = w6 at *
        have d17 : w6.cell? ⟨mp, 17, none⟩ = some (.slice (some ⟨g, 0, none⟩) n a.rc) := by have h17 := H6.out.c17; rw [HN.out, HRA.out] at h17; exact h17
        go_wp2_with (first
          | (at_builtin; refine wpList_appU rfl (.tmp 42) (.tmp 44) rfl (some ⟨g, 0, none⟩) n a.rc S.raw (by kernel_rfl) (by have := (H6.out.alloc (.cells #[.int .u8 b] 5)).rest.raw.1; rw [HRA.out] at this; exact this) HN.out w6.heap.size 1 b (by kernel_rfl) (heap_new_at rfl) (by omega) ?_; intro W3 A3 c3 HR3 T3 N3; have HM3 := Lib.hid (T3.out.heap (H6.out.alloc (.cells #[.int .u8 b] 5)).cells (by have := (H6.out.alloc (.cells #[.int .u8 b] 5)).notmp (H6.out.alloc (.cells #[.int .u8 b] 5)).rest.raw; rw [HRA.out] at this; exact this)))
          | (refine wpList_sputN HM3.out rfl rfl 22 (.tmp 47) (.tmp 45) rfl 17 (.slice A3 (n + 1 : Nat) c3) (by kernel_rfl) (by kernel_rfl) rfl info_slcS (by simp [mca, mcs]) (mca { S with raw := S.raw ++ [b] } { a with rA := A3, rc := c3 }) (HDS1.out A3 c3) ?_; intro W4 M4 T4; obtain ⟨h4, t4, n4⟩ := (H6.out.alloc (.cells #[.int .u8 b] 5)).rawApp (A3 := A3) (c3 := c3) (b := b) (by rw [HRA.out]; exact T3.out) HR3.out (by rw [HRA.out]; exact N3.out) M4.out T4.out; have H7 := Lib.hid h4; have T7 : Hid (Turn s w6 W4) := (Turn.of (below_alloc (Below.refl _ _) (.cells #[.int .u8 b] 5))).tr t4; have N7 : Hid (∀ k ∈ blkA A3 ++ s, k ∈ s ∨ w6.heap.size ≤ k) := (fun k hk => (n4 k hk).imp id (fun h => Nat.le_trans (below_alloc (Below.refl w6.heap.size w6) (.cells #[.int .u8 b] 5)).size h)); have d18 : W4.cell? ⟨mp, 18, none⟩ = some (.slice a.lA k a.lc) := h4.cell 18 _ (by rw [← HK.out]; rfl); clear h4 t4 n4)
          | (at_builtin; refine wpList_appU rfl (.tmp 53) (.tmp 55) rfl a.lA k a.lc S.l (by kernel_rfl) (H7.out.alloc (.cells #[.int .u8 b] 5)).rest.l.1 HK.out W4.heap.size 1 b (by kernel_rfl) (heap_new_at rfl) (by omega) ?_; intro W13 A13 c13 HR13 T13 N13; have HM13 := Lib.hid (T13.out.heap (H7.out.alloc (.cells #[.int .u8 b] 5)).cells ((H7.out.alloc (.cells #[.int .u8 b] 5)).notmp (H7.out.alloc (.cells #[.int .u8 b] 5)).rest.l)))
          | (refine wpList_sputN HM13.out rfl rfl 22 (.tmp 58) (.tmp 56) rfl 18 (.slice A13 (k + 1 : Nat) c13) (by kernel_rfl) (by kernel_rfl) rfl info_slcS (by simp [mca, mcs]) (mca { S with raw := S.raw ++ [b], l := S.l ++ [b] } { a with rA := A3, rc := c3, lA := A13, lc := c13 }) (HDS2.out A3 c3 A13 c13) ?_; intro W14 M14 T14; obtain ⟨h14, t14, n14⟩ := (H7.out.alloc (.cells #[.int .u8 b] 5)).lApp (A3 := A13) (c3 := c13) (b := b) T13.out HR13.out N13.out M14.out T14.out; have H8 := Lib.hid h14; have T8 : Hid (Turn (blkA A3 ++ s) W4 W14) := (Turn.of (below_alloc (Below.refl _ _) (.cells #[.int .u8 b] 5))).tr t14; have N8 : Hid (∀ k ∈ blkA A13 ++ (blkA A3 ++ s), k ∈ blkA A3 ++ s ∨ W4.heap.size ≤ k) := (fun k hk => (n14 k hk).imp id (fun h => Nat.le_trans (below_alloc (Below.refl W4.heap.size W4) (.cells #[.int .u8 b] 5)).size h)); clear h14 t14 n14))
        clear d17 d18 M4 M14 T3 T4 T13 T14 N3 N13 HR3 HR13 HM3 HM13
        generalize hs8 : blkA A13 ++ (blkA A3 ++ s) = s8 at *
        generalize hs7 : blkA A3 ++ s = s7 at *
        clear hs8 hs7
        have f18 : ∀ e : Ext W14, e.W.cell? ⟨mp, 18, none⟩ = some (.slice A13 (k + 1 : Nat) c13) := fun e => ext_cell (H8.out.cell 18 _ (by rw [← HLEN2.out]; rfl)) e
        have f19 : ∀ e : Ext W14, e.W.cell? ⟨mp, 19, none⟩ = some (.int .i64 need) := fun e => ext_cell (H8.out.cell 19 _ (by rw [← HND.out]; rfl)) e
        have HRAWP : Hid (0 < (S.raw ++ [b]).length) := by show 0 < (S.raw ++ [b]).length; simp
        refine wp_region_mix (fun w' => ∃ e : Ext W14, w' = e.W) [(true, 0), (true, 1), (true, 2), (true, 3), (true, 4), (true, 5), (true, 6), (true, 7), (true, 8), (true, 9)] [] (by kernel_rfl) (by kernel_rfl) (by intro _ _ d _ _ h; cases d <;> exact h) ⟨⟨W14.drew, (Below.refl _ _).drew⟩, rfl⟩ ?_
        simp only [pickM, pickL, List.drop_succ_cons, List.drop_zero]
        repeat (first | (refine mix_pure (by rfl) (by rfl) ?_; intro K hK; go_big_quiet_op; go_big_quiet_on) | (refine mix_nilc ⟨mp, 0, none⟩ (by rfl) (by kernel_rfl) ?_; go_simp))
        refine mix_nil (wpList_nil ?_)
        clear f18 f19
        have hbd : Below W14.heap.size W14 W14.drew := (Below.refl _ _).drew
        have H9 := Lib.hid (H8.out.below hbd)
        have T9 := Lib.hid (T8.out.tr (Turn.of (s := s7) hbd))
        have TT : Hid (Turn s w6 W14.drew) := T7.out.trans T9.out N7.out
        have NN : Hid (∀ k ∈ s8, k ∈ s ∨ w6.heap.size ≤ k) := fun k hk => (N8.out k hk).elim (N7.out k) (fun h => .inr (Nat.le_trans T7.out.size h))
        clear hbd H8 H7 T8 T7 T9 N7 N8
        generalize W14.drew = W15 at *
        obtain ⟨hv, hcall⟩ | ⟨hv, hcall⟩ | ⟨hv, hcall⟩ | ⟨hv, hcall⟩ | ⟨hv, hcall⟩ | ⟨hv, hcall⟩ | ⟨hv, hcall⟩ | ⟨hv, hcall⟩ | ⟨hv, hcall⟩ | ⟨x, y, z, hv, hcall⟩ | ⟨x, y, hv, hcall⟩ := mNext (S := { S with raw := S.raw ++ [b], l := S.l ++ [b] }) H9.out (by show (S.l ++ [b]).length = S.need; rw [HLEN2.out, HND.out]; exact HNK.out) (HF.out.congr rfl rfl) (by show (S.l ++ [b]).length ≤ 1000; rw [HLEN2.out]; omega) HL01.out HRAWP.out
        · have c16 : W15.cell? ⟨mp, 16, none⟩ = some (.func (.func 27) #[.pointer (some ⟨mp, 0, none⟩)] #[]) := H9.out.cell 16 _ (by rw [← hv]; rfl)
          have HC := Lib.hid hcall
          clear hcall hv
          go_wp2_with fail
          refine HC.out.mono ?_
          rintro e w16 ⟨rfl, hA⟩
          go_wp2_with fail
          go_end0
          exact ⟨rfl, HSS.out ▸ (hA.after NN.out TT.out).pre HB6.out⟩
        · have c16 : W15.cell? ⟨mp, 16, none⟩ = some (.func (.func 51) #[.pointer (some ⟨mp, 0, none⟩)] #[]) := H9.out.cell 16 _ (by rw [← hv]; rfl)
          have HC := Lib.hid hcall
          clear hcall hv
          go_wp2_with fail
          refine HC.out.mono ?_
          rintro e w16 ⟨rfl, hA⟩
          go_wp2_with fail
          go_end0
          exact ⟨rfl, HSS.out ▸ (hA.after NN.out TT.out).pre HB6.out⟩
        · have c16 : W15.cell? ⟨mp, 16, none⟩ = some (.func (.func 74) #[.pointer (some ⟨mp, 0, none⟩)] #[]) := H9.out.cell 16 _ (by rw [← hv]; rfl)
          have HC := Lib.hid hcall
          clear hcall hv
          go_wp2_with fail
          refine HC.out.mono ?_
          rintro e w16 ⟨rfl, hA⟩
          go_wp2_with fail
          go_end0
          exact ⟨rfl, HSS.out ▸ (hA.after NN.out TT.out).pre HB6.out⟩
        · have c16 : W15.cell? ⟨mp, 16, none⟩ = some (.func (.func 98) #[.pointer (some ⟨mp, 0, none⟩)] #[]) := H9.out.cell 16 _ (by rw [← hv]; rfl)
          have HC := Lib.hid hcall
          clear hcall hv
          go_wp2_with fail
          refine HC.out.mono ?_
          rintro e w16 ⟨rfl, hA⟩
          go_wp2_with fail
          go_end0
          exact ⟨rfl, HSS.out ▸ (hA.after NN.out TT.out).pre HB6.out⟩
        · have c16 : W15.cell? ⟨mp, 16, none⟩ = some (.func (.func 73) #[.pointer (some ⟨mp, 0, none⟩)] #[]) := H9.out.cell 16 _ (by rw [← hv]; rfl)
          have HC := Lib.hid hcall
          clear hcall hv
          go_wp2_with fail
          refine HC.out.mono ?_
          rintro e w16 ⟨rfl, hA⟩
          go_wp2_with fail
          go_end0
          exact ⟨rfl, HSS.out ▸ (hA.after NN.out TT.out).pre HB6.out⟩
        · have c16 : W15.cell? ⟨mp, 16, none⟩ = some (.func (.func 97) #[.pointer (some ⟨mp, 0, none⟩)] #[]) := H9.out.cell 16 _ (by rw [← hv]; rfl)
          have HC := Lib.hid hcall
          clear hcall hv
          go_wp2_with fail
          refine HC.out.mono ?_
          rintro e w16 ⟨rfl, hA⟩
          go_wp2_with fail
          go_end0
          exact ⟨rfl, HSS.out ▸ (hA.after NN.out TT.out).pre HB6.out⟩
        · have c16 : W15.cell? ⟨mp, 16, none⟩ = some (.func (.func 96) #[.pointer (some ⟨mp, 0, none⟩)] #[]) := H9.out.cell 16 _ (by rw [← hv]; rfl)
          have HC := Lib.hid hcall
          clear hcall hv
          go_wp2_with fail
          refine HC.out.mono ?_
          rintro e w16 ⟨rfl, hA⟩
          go_wp2_with fail
          go_end0
          exact ⟨rfl, HSS.out ▸ (hA.after NN.out TT.out).pre HB6.out⟩
        · have c16 : W15.cell? ⟨mp, 16, none⟩ = some (.func (.func 109) #[.pointer (some ⟨mp, 0, none⟩)] #[]) := H9.out.cell 16 _ (by rw [← hv]; rfl)
          have HC := Lib.hid hcall
          clear hcall hv
          go_wp2_with fail
          refine HC.out.mono ?_
          rintro e w16 ⟨rfl, hA⟩
          go_wp2_with fail
          go_end0
          exact ⟨rfl, HSS.out ▸ (hA.after NN.out TT.out).pre HB6.out⟩
        · have c16 : W15.cell? ⟨mp, 16, none⟩ = some (.func (.func 110) #[.pointer (some ⟨mp, 0, none⟩)] #[]) := H9.out.cell 16 _ (by rw [← hv]; rfl)
          have HC := Lib.hid hcall
          clear hcall hv
          go_wp2_with fail
          refine HC.out.mono ?_
          rintro e w16 ⟨rfl, hA⟩
          go_wp2_with fail
          go_end0
          exact ⟨rfl, HSS.out ▸ (hA.after NN.out TT.out).pre HB6.out⟩
        · have c16 : W15.cell? ⟨mp, 16, none⟩ = some (.func (.func 105) #[] #[.pointer (some ⟨x, 0, none⟩), .pointer (some ⟨y, 0, none⟩), .pointer (some ⟨z, 0, none⟩)]) := H9.out.cell 16 _ (by rw [← hv]; rfl)
          have HC := Lib.hid hcall
          clear hcall hv
          go_wp2_with fail
          refine HC.out.mono ?_
          rintro e w16 ⟨rfl, hA⟩
          go_wp2_with fail
          go_end0
          exact ⟨rfl, HSS.out ▸ (hA.after NN.out TT.out).pre HB6.out⟩
        · have c16 : W15.cell? ⟨mp, 16, none⟩ = some (.func (.func 116) #[] #[.pointer (some ⟨x, 0, none⟩), .pointer (some ⟨y, 0, none⟩)]) := H9.out.cell 16 _ (by rw [← hv]; rfl)
          have HC := Lib.hid hcall
          clear hcall hv
          go_wp2_with fail
          refine HC.out.mono ?_
          rintro e w16 ⟨rfl, hA⟩
          go_wp2_with fail
          go_end0
          exact ⟨rfl, HSS.out ▸ (hA.after NN.out TT.out).pre HB6.out⟩
      · rw [if_neg hnk] at HSS
        have g1 : (((k : Int) + 1) == (need : Int)) = false := by simp; omega
        clear hnk
        have c17e : ∀ e : Ext w, e.W.cell? ⟨mp, 17, none⟩ = some (.slice (some ⟨g, 0, none⟩) n a.rc) := fun e => ext_cell c17 e
        go_enter Tryz.func25, Tryz.ntmps25
        go_wp2_with fail
        refine wp_region_mix (fun w' => ∃ e : Ext w, w' = e.W) [(true, 0), (true, 1), (true, 2), (true, 3), (true, 4), (true, 5), (true, 6), (true, 7), (true, 8), (true, 9), (false, 10), (true, 11)] [12, 13, 14] (by kernel_rfl) (by kernel_rfl) (by intro _ _ d _ _ h; cases d <;> exact h) ⟨⟨w.drew, (Below.refl _ _).drew⟩, rfl⟩ ?_
        simp only [pickM, pickL, List.drop_succ_cons, List.drop_zero]
        repeat (first | (refine mix_pure (by rfl) (by rfl) ?_; intro K hK; go_big_quiet_op; go_big_quiet_on) | (refine mix_nilc ⟨mp, 0, none⟩ (by rfl) (by kernel_rfl) ?_; go_simp))
        refine mix_eff (by rfl) ?_
        intro K hK
        go_simp
        rw [HIF.out]
        refine hK _ _ ⟨⟨_, (Below.refl _ _).drew⟩, rfl⟩ ?_
        clear hK K
        repeat (first | (refine mix_pure (by rfl) (by rfl) ?_; intro K hK; go_big_quiet_op; go_big_quiet_on) | (refine mix_nilc ⟨mp, 0, none⟩ (by rfl) (by kernel_rfl) ?_; go_simp))
        refine mix_nil ?_
        have hbd : Below w.heap.size w w.drew := (Below.refl _ _).drew
        obtain ⟨A9, hA9⟩ : ∃ A9, (if a.rc = j then (some ⟨g, 0, none⟩ : Option Addr) else some ⟨g, j, none⟩) = A9 := ⟨_, rfl⟩
        rw [hA9]
        have hA9' : 0 < d → A9 = some ⟨g, j, none⟩ := by intro h0; rw [← hA9, if_neg (by have := HHD.out; omega)]
        have hrd9 : Rd w.drew A9 (bys (S.raw.drop j)) := by
          by_cases h0 : 0 < d
          · rw [hA9' h0]
            have hr := (HH.out.below hbd).rest.raw.1.rd
            rw [HRA.out] at hr
            have := rd_drop hr j
            rwa [Nat.zero_add] at this
          · rw [List.eq_nil_of_length_eq_zero (by rw [HDL.out]; omega : (S.raw.drop j).length = 0)]
            exact Rd.nil _ _
        have HRN := Lib.hid (HRUN.out g j (a.rc - j) A9 w.drew hA9' hrd9)
        rw [← HHD.out] at HRN
        have HH5 := Lib.hid (HH.out.below hbd)
        have HB0 := Lib.hid hbd
        clear hA9 hA9' hrd9 hbd c17 c18 c17e
        generalize w.drew = w0 at *
        go_wp2_with fail
        refine HRN.out.mono ?_
        rintro e w5 ⟨⟨r, rfl, hrr⟩, hb5⟩
        have hr5 := H5R.out r hrr
        have H5 := Lib.hid (HH5.out.below hb5)
        have HB5 := Lib.hid (below_trans HB0.out hb5)
        clear hrr hb5 HRN HH5 HB0
        have c17 : w5.cell? ⟨mp, 17, none⟩ = some (.slice (some ⟨g, 0, none⟩) n a.rc) := by have h17 := H5.out.c17; rw [HN.out, HRA.out] at h17; exact h17
        have c18 : w5.cell? ⟨mp, 18, none⟩ = some (.slice a.lA k a.lc) := H5.out.cell 18 _ (by rw [← HK.out]; rfl)
        have c17e : ∀ e : Ext w5, e.W.cell? ⟨mp, 17, none⟩ = some (.slice (some ⟨g, 0, none⟩) n a.rc) := fun e => ext_cell c17 e
        go_wp2_with fail
        refine wp_region_mix (fun w' => ∃ e : Ext w5, w' = e.W) [(true, 0), (true, 1), (true, 2), (true, 3), (true, 4), (true, 5), (true, 6), (true, 7), (true, 8), (true, 9), (true, 10), (true, 11), (true, 12), (true, 13), (true, 14), (true, 15), (true, 16)] [] (by kernel_rfl) (by kernel_rfl) (by intro _ _ d _ _ h; cases d <;> exact h) ⟨⟨w5.drew, (Below.refl _ _).drew⟩, rfl⟩ ?_
        simp only [pickM, pickL, List.drop_succ_cons, List.drop_zero]
        repeat (first | (refine mix_pure (by rfl) (by rfl) ?_; intro K hK; go_big_quiet_op; go_big_quiet_on) | (refine mix_nilc ⟨mp, 0, none⟩ (by rfl) (by kernel_rfl) ?_; go_simp) | (refine mix_skip (by rfl) ?_; go_simp))
        refine mix_nil (wpList_nil ?_)
        clear c17 c18 c17e 
        have hbd : Below w5.heap.size w5 w5.drew := (Below.refl _ _).drew
        have H6 := Lib.hid (H5.out.below hbd)
        have HB6 := Lib.hid (below_trans HB5.out hbd)
        clear hbd H5 HB5
        generalize w5.drew = w6 at *
        have d17 : w6.cell? ⟨mp, 17, none⟩ = some (.slice (some ⟨g, 0, none⟩) n a.rc) := by have h17 := H6.out.c17; rw [HN.out, HRA.out] at h17; exact h17
        go_wp2_with (first
          | (at_builtin; refine wpList_appU rfl (.tmp 42) (.tmp 44) rfl (some ⟨g, 0, none⟩) n a.rc S.raw (by kernel_rfl) (by have := (H6.out.alloc (.cells #[.int .u8 b] 5)).rest.raw.1; rw [HRA.out] at this; exact this) HN.out w6.heap.size 1 b (by kernel_rfl) (heap_new_at rfl) (by omega) ?_; intro W3 A3 c3 HR3 T3 N3; have HM3 := Lib.hid (T3.out.heap (H6.out.alloc (.cells #[.int .u8 b] 5)).cells (by have := (H6.out.alloc (.cells #[.int .u8 b] 5)).notmp (H6.out.alloc (.cells #[.int .u8 b] 5)).rest.raw; rw [HRA.out] at this; exact this)))
          | (refine wpList_sputN HM3.out rfl rfl 22 (.tmp 47) (.tmp 45) rfl 17 (.slice A3 (n + 1 : Nat) c3) (by kernel_rfl) (by kernel_rfl) rfl info_slcS (by simp [mca, mcs]) (mca { S with raw := S.raw ++ [b] } { a with rA := A3, rc := c3 }) (HDS1.out A3 c3) ?_; intro W4 M4 T4; obtain ⟨h4, t4, n4⟩ := (H6.out.alloc (.cells #[.int .u8 b] 5)).rawApp (A3 := A3) (c3 := c3) (b := b) (by rw [HRA.out]; exact T3.out) HR3.out (by rw [HRA.out]; exact N3.out) M4.out T4.out; have H7 := Lib.hid h4; have T7 : Hid (Turn s w6 W4) := (Turn.of (below_alloc (Below.refl _ _) (.cells #[.int .u8 b] 5))).tr t4; have N7 : Hid (∀ k ∈ blkA A3 ++ s, k ∈ s ∨ w6.heap.size ≤ k) := (fun k hk => (n4 k hk).imp id (fun h => Nat.le_trans (below_alloc (Below.refl w6.heap.size w6) (.cells #[.int .u8 b] 5)).size h)); have d18 : W4.cell? ⟨mp, 18, none⟩ = some (.slice a.lA k a.lc) := h4.cell 18 _ (by rw [← HK.out]; rfl); clear h4 t4 n4)
          | (at_builtin; refine wpList_appU rfl (.tmp 53) (.tmp 55) rfl a.lA k a.lc S.l (by kernel_rfl) (H7.out.alloc (.cells #[.int .u8 b] 5)).rest.l.1 HK.out W4.heap.size 1 b (by kernel_rfl) (heap_new_at rfl) (by omega) ?_; intro W13 A13 c13 HR13 T13 N13; have HM13 := Lib.hid (T13.out.heap (H7.out.alloc (.cells #[.int .u8 b] 5)).cells ((H7.out.alloc (.cells #[.int .u8 b] 5)).notmp (H7.out.alloc (.cells #[.int .u8 b] 5)).rest.l)))
          | (refine wpList_sputN HM13.out rfl rfl 22 (.tmp 58) (.tmp 56) rfl 18 (.slice A13 (k + 1 : Nat) c13) (by kernel_rfl) (by kernel_rfl) rfl info_slcS (by simp [mca, mcs]) (mca { S with raw := S.raw ++ [b], l := S.l ++ [b] } { a with rA := A3, rc := c3, lA := A13, lc := c13 }) (HDS2.out A3 c3 A13 c13) ?_; intro W14 M14 T14; obtain ⟨h14, t14, n14⟩ := (H7.out.alloc (.cells #[.int .u8 b] 5)).lApp (A3 := A13) (c3 := c13) (b := b) T13.out HR13.out N13.out M14.out T14.out; have H8 := Lib.hid h14; have T8 : Hid (Turn (blkA A3 ++ s) W4 W14) := (Turn.of (below_alloc (Below.refl _ _) (.cells #[.int .u8 b] 5))).tr t14; have N8 : Hid (∀ k ∈ blkA A13 ++ (blkA A3 ++ s), k ∈ blkA A3 ++ s ∨ W4.heap.size ≤ k) := (fun k hk => (n14 k hk).imp id (fun h => Nat.le_trans (below_alloc (Below.refl W4.heap.size W4) (.cells #[.int .u8 b] 5)).size h)); clear h14 t14 n14))
        clear d17 d18 M4 M14 T3 T4 T13 T14 N3 N13 HR3 HR13 HM3 HM13
        generalize hs8 : blkA A13 ++ (blkA A3 ++ s) = s8 at *
        generalize hs7 : blkA A3 ++ s = s7 at *
        clear hs8 hs7
        have f18 : ∀ e : Ext W14, e.W.cell? ⟨mp, 18, none⟩ = some (.slice A13 (k + 1 : Nat) c13) := fun e => ext_cell (H8.out.cell 18 _ (by rw [← HLEN2.out]; rfl)) e
        have f19 : ∀ e : Ext W14, e.W.cell? ⟨mp, 19, none⟩ = some (.int .i64 need) := fun e => ext_cell (H8.out.cell 19 _ (by rw [← HND.out]; rfl)) e
        have HRAWP : Hid (0 < (S.raw ++ [b]).length) := by show 0 < (S.raw ++ [b]).length; simp
        refine wp_region_mix (fun w' => ∃ e : Ext W14, w' = e.W) [(true, 0), (true, 1), (true, 2), (true, 3), (true, 4), (true, 5), (true, 6), (true, 7), (true, 8), (true, 9)] [] (by kernel_rfl) (by kernel_rfl) (by intro _ _ d _ _ h; cases d <;> exact h) ⟨⟨W14.drew, (Below.refl _ _).drew⟩, rfl⟩ ?_
        simp only [pickM, pickL, List.drop_succ_cons, List.drop_zero]
        repeat (first | (refine mix_pure (by rfl) (by rfl) ?_; intro K hK; go_big_quiet_op; go_big_quiet_on) | (refine mix_nilc ⟨mp, 0, none⟩ (by rfl) (by kernel_rfl) ?_; go_simp))
        refine mix_nil (wpList_nil ?_)
        clear f18 f19
        have hbd : Below W14.heap.size W14 W14.drew := (Below.refl _ _).drew
        have H9 := Lib.hid (H8.out.below hbd)
        have T9 := Lib.hid (T8.out.tr (Turn.of (s := s7) hbd))
        have TT : Hid (Turn s w6 W14.drew) := T7.out.trans T9.out N7.out
        have NN : Hid (∀ k ∈ s8, k ∈ s ∨ w6.heap.size ≤ k) := fun k hk => (N8.out k hk).elim (N7.out k) (fun h => .inr (Nat.le_trans T7.out.size h))
        clear hbd H8 H7 T8 T7 T9 N7 N8
        generalize W14.drew = W15 at *
        go_wp2_with fail
        go_end0
        exact ⟨rfl, HSS.out ▸ ((MAct.same H9.out (Turn.refl _ _)).after NN.out TT.out).pre HB6.out⟩
    · have h5n := HFN.out rfl
      obtain ⟨m, hm⟩ : ∃ m, n - 1 = m := ⟨_, rfl⟩
      have hm2 : (n : Int) - 1 = (m : Int) := by omega
      have hm3 : m < n := by omega
      rw [hm] at hgy
      have HY := Lib.hid (hgy (by omega))
      clear hgy hm
      by_cases hby : b = y
      · subst hby
        rw [if_pos ⟨rfl, rfl⟩] at HSS
        have c17e : ∀ e : Ext w, e.W.cell? ⟨mp, 17, none⟩ = some (.slice (some ⟨g, 0, none⟩) n a.rc) := fun e => ext_cell c17 e
        go_enter Tryz.func25, Tryz.ntmps25
        go_wp2_with fail
        refine wp_region_mix (fun w' => ∃ e : Ext w, w' = e.W) [(true, 0), (true, 1), (true, 2), (true, 3), (true, 4), (true, 5), (true, 6), (true, 7), (true, 8), (true, 9), (false, 10), (true, 11)] [12, 13, 14] (by kernel_rfl) (by kernel_rfl) (by intro _ _ d _ _ h; cases d <;> exact h) ⟨⟨w.drew, (Below.refl _ _).drew⟩, rfl⟩ ?_
        simp only [pickM, pickL, List.drop_succ_cons, List.drop_zero]
        repeat (first | (refine mix_pure (by rfl) (by rfl) ?_; intro K hK; go_big_quiet_op; go_big_quiet_on) | (refine mix_nilc ⟨mp, 0, none⟩ (by rfl) (by kernel_rfl) ?_; go_simp))
        refine mix_eff (by rfl) ?_
        intro K hK
        go_simp
        rw [HIF.out]
        refine hK _ _ ⟨⟨_, (Below.refl _ _).drew⟩, rfl⟩ ?_
        clear hK K
        repeat (first | (refine mix_pure (by rfl) (by rfl) ?_; intro K hK; go_big_quiet_op; go_big_quiet_on) | (refine mix_nilc ⟨mp, 0, none⟩ (by rfl) (by kernel_rfl) ?_; go_simp))
        refine mix_nil ?_
        have hbd : Below w.heap.size w w.drew := (Below.refl _ _).drew
        obtain ⟨A9, hA9⟩ : ∃ A9, (if a.rc = j then (some ⟨g, 0, none⟩ : Option Addr) else some ⟨g, j, none⟩) = A9 := ⟨_, rfl⟩
        rw [hA9]
        have hA9' : 0 < d → A9 = some ⟨g, j, none⟩ := by intro h0; rw [← hA9, if_neg (by have := HHD.out; omega)]
        have hrd9 : Rd w.drew A9 (bys (S.raw.drop j)) := by
          by_cases h0 : 0 < d
          · rw [hA9' h0]
            have hr := (HH.out.below hbd).rest.raw.1.rd
            rw [HRA.out] at hr
            have := rd_drop hr j
            rwa [Nat.zero_add] at this
          · rw [List.eq_nil_of_length_eq_zero (by rw [HDL.out]; omega : (S.raw.drop j).length = 0)]
            exact Rd.nil _ _
        have HRN := Lib.hid (HRUN.out g j (a.rc - j) A9 w.drew hA9' hrd9)
        rw [← HHD.out] at HRN
        have HH5 := Lib.hid (HH.out.below hbd)
        have HB0 := Lib.hid hbd
        clear hA9 hA9' hrd9 hbd c17 c18 c17e
        generalize w.drew = w0 at *
        go_wp2_with fail
        refine HRN.out.mono ?_
        rintro e w5 ⟨⟨r, rfl, hrr⟩, hb5⟩
        have hr5 := H5R.out r hrr
        have H5 := Lib.hid (HH5.out.below hb5)
        have HB5 := Lib.hid (below_trans HB0.out hb5)
        clear hrr hb5 HRN HH5 HB0
        have c17 : w5.cell? ⟨mp, 17, none⟩ = some (.slice (some ⟨g, 0, none⟩) n a.rc) := by have h17 := H5.out.c17; rw [HN.out, HRA.out] at h17; exact h17
        have c18 : w5.cell? ⟨mp, 18, none⟩ = some (.slice a.lA k a.lc) := H5.out.cell 18 _ (by rw [← HK.out]; rfl)
        have c17e : ∀ e : Ext w5, e.W.cell? ⟨mp, 17, none⟩ = some (.slice (some ⟨g, 0, none⟩) n a.rc) := fun e => ext_cell c17 e
        have cye : ∀ e : Ext w5, e.W.cell? ⟨g, m, none⟩ = some (.int .u8 b) := fun e => ext_cell (Below.cell_of HB5.out HY.out) e
        go_wp2_with fail
        refine wp_region_mix (fun w' => ∃ e : Ext w5, w' = e.W) [(true, 0), (true, 1), (true, 2), (true, 3), (true, 4), (true, 5), (true, 6), (true, 7), (true, 8), (true, 9), (true, 10), (true, 11), (true, 12), (true, 13), (true, 14), (true, 15), (true, 16)] [] (by kernel_rfl) (by kernel_rfl) (by intro _ _ d _ _ h; cases d <;> exact h) ⟨⟨w5.drew, (Below.refl _ _).drew⟩, rfl⟩ ?_
        simp only [pickM, pickL, List.drop_succ_cons, List.drop_zero]
        repeat (first | (refine mix_pure (by rfl) (by rfl) ?_; intro K hK; go_big_quiet_op; go_big_quiet_on) | (refine mix_nilc ⟨mp, 0, none⟩ (by rfl) (by kernel_rfl) ?_; go_simp) | (refine mix_skip (by rfl) ?_; go_simp))
        refine mix_nil (wpList_nil ?_)
        clear c17 c18 c17e cye
        have hbd : Below w5.heap.size w5 w5.drew := (Below.refl _ _).drew
        have H6 := Lib.hid (H5.out.below hbd)
        have HB6 := Lib.hid (below_trans HB5.out hbd)
        clear hbd H5 HB5
        generalize w5.drew = w6 at *
        have d17 : w6.cell? ⟨mp, 17, none⟩ = some (.slice (some ⟨g, 0, none⟩) n a.rc) := by have h17 := H6.out.c17; rw [HN.out, HRA.out] at h17; exact h17
        go_wp2_with fail
        refine (mBad H6.out 4).mono ?_
        rintro e w7 ⟨rfl, hA⟩
        go_wp2_with fail
        go_end0
        exact ⟨rfl, HSS.out ▸ hA.pre HB6.out⟩
      · have g2 : ((b : Int) == (y : Int)) = false := by simp; omega
        rw [if_neg (fun h => hby h.2), if_pos rfl] at HSS
        have c17e : ∀ e : Ext w, e.W.cell? ⟨mp, 17, none⟩ = some (.slice (some ⟨g, 0, none⟩) n a.rc) := fun e => ext_cell c17 e
        go_enter Tryz.func25, Tryz.ntmps25
        go_wp2_with fail
        refine wp_region_mix (fun w' => ∃ e : Ext w, w' = e.W) [(true, 0), (true, 1), (true, 2), (true, 3), (true, 4), (true, 5), (true, 6), (true, 7), (true, 8), (true, 9), (false, 10), (true, 11)] [12, 13, 14] (by kernel_rfl) (by kernel_rfl) (by intro _ _ d _ _ h; cases d <;> exact h) ⟨⟨w.drew, (Below.refl _ _).drew⟩, rfl⟩ ?_
        simp only [pickM, pickL, List.drop_succ_cons, List.drop_zero]
        repeat (first | (refine mix_pure (by rfl) (by rfl) ?_; intro K hK; go_big_quiet_op; go_big_quiet_on) | (refine mix_nilc ⟨mp, 0, none⟩ (by rfl) (by kernel_rfl) ?_; go_simp))
        refine mix_eff (by rfl) ?_
        intro K hK
        go_simp
        rw [HIF.out]
        refine hK _ _ ⟨⟨_, (Below.refl _ _).drew⟩, rfl⟩ ?_
        clear hK K
        repeat (first | (refine mix_pure (by rfl) (by rfl) ?_; intro K hK; go_big_quiet_op; go_big_quiet_on) | (refine mix_nilc ⟨mp, 0, none⟩ (by rfl) (by kernel_rfl) ?_; go_simp))
        refine mix_nil ?_
        have hbd : Below w.heap.size w w.drew := (Below.refl _ _).drew
        obtain ⟨A9, hA9⟩ : ∃ A9, (if a.rc = j then (some ⟨g, 0, none⟩ : Option Addr) else some ⟨g, j, none⟩) = A9 := ⟨_, rfl⟩
        rw [hA9]
        have hA9' : 0 < d → A9 = some ⟨g, j, none⟩ := by intro h0; rw [← hA9, if_neg (by have := HHD.out; omega)]
        have hrd9 : Rd w.drew A9 (bys (S.raw.drop j)) := by
          by_cases h0 : 0 < d
          · rw [hA9' h0]
            have hr := (HH.out.below hbd).rest.raw.1.rd
            rw [HRA.out] at hr
            have := rd_drop hr j
            rwa [Nat.zero_add] at this
          · rw [List.eq_nil_of_length_eq_zero (by rw [HDL.out]; omega : (S.raw.drop j).length = 0)]
            exact Rd.nil _ _
        have HRN := Lib.hid (HRUN.out g j (a.rc - j) A9 w.drew hA9' hrd9)
        rw [← HHD.out] at HRN
        have HH5 := Lib.hid (HH.out.below hbd)
        have HB0 := Lib.hid hbd
        clear hA9 hA9' hrd9 hbd c17 c18 c17e
        generalize w.drew = w0 at *
        go_wp2_with fail
        refine HRN.out.mono ?_
        rintro e w5 ⟨⟨r, rfl, hrr⟩, hb5⟩
        have hr5 := H5R.out r hrr
        have H5 := Lib.hid (HH5.out.below hb5)
        have HB5 := Lib.hid (below_trans HB0.out hb5)
        clear hrr hb5 HRN HH5 HB0
        have c17 : w5.cell? ⟨mp, 17, none⟩ = some (.slice (some ⟨g, 0, none⟩) n a.rc) := by have h17 := H5.out.c17; rw [HN.out, HRA.out] at h17; exact h17
        have c18 : w5.cell? ⟨mp, 18, none⟩ = some (.slice a.lA k a.lc) := H5.out.cell 18 _ (by rw [← HK.out]; rfl)
        have c17e : ∀ e : Ext w5, e.W.cell? ⟨mp, 17, none⟩ = some (.slice (some ⟨g, 0, none⟩) n a.rc) := fun e => ext_cell c17 e
        have cye : ∀ e : Ext w5, e.W.cell? ⟨g, m, none⟩ = some (.int .u8 y) := fun e => ext_cell (Below.cell_of HB5.out HY.out) e
        go_wp2_with fail
        refine wp_region_mix (fun w' => ∃ e : Ext w5, w' = e.W) [(true, 0), (true, 1), (true, 2), (true, 3), (true, 4), (true, 5), (true, 6), (true, 7), (true, 8), (true, 9), (true, 10), (true, 11), (true, 12), (true, 13), (true, 14), (true, 15), (true, 16)] [] (by kernel_rfl) (by kernel_rfl) (by intro _ _ d _ _ h; cases d <;> exact h) ⟨⟨w5.drew, (Below.refl _ _).drew⟩, rfl⟩ ?_
        simp only [pickM, pickL, List.drop_succ_cons, List.drop_zero]
        repeat (first | (refine mix_pure (by rfl) (by rfl) ?_; intro K hK; go_big_quiet_op; go_big_quiet_on) | (refine mix_nilc ⟨mp, 0, none⟩ (by rfl) (by kernel_rfl) ?_; go_simp) | (refine mix_skip (by rfl) ?_; go_simp))
        refine mix_nil (wpList_nil ?_)
        clear c17 c18 c17e cye
        have hbd : Below w5.heap.size w5 w5.drew := (Below.refl _ _).drew
        have H6 := Lib.hid (H5.out.below hbd)
        have HB6 := Lib.hid (below_trans HB5.out hbd)
        clear hbd H5 HB5
        generalize w5.drew = w6 at *
        have d17 : w6.cell? ⟨mp, 17, none⟩ = some (.slice (some ⟨g, 0, none⟩) n a.rc) := by have h17 := H6.out.c17; rw [HN.out, HRA.out] at h17; exact h17
        go_wp2_with (first
          | (at_builtin; refine wpList_appU rfl (.tmp 42) (.tmp 44) rfl (some ⟨g, 0, none⟩) n a.rc S.raw (by kernel_rfl) (by have := (H6.out.alloc (.cells #[.int .u8 b] 5)).rest.raw.1; rw [HRA.out] at this; exact this) HN.out w6.heap.size 1 b (by kernel_rfl) (heap_new_at rfl) (by omega) ?_; intro W3 A3 c3 HR3 T3 N3; have HM3 := Lib.hid (T3.out.heap (H6.out.alloc (.cells #[.int .u8 b] 5)).cells (by have := (H6.out.alloc (.cells #[.int .u8 b] 5)).notmp (H6.out.alloc (.cells #[.int .u8 b] 5)).rest.raw; rw [HRA.out] at this; exact this)))
          | (refine wpList_sputN HM3.out rfl rfl 22 (.tmp 47) (.tmp 45) rfl 17 (.slice A3 (n + 1 : Nat) c3) (by kernel_rfl) (by kernel_rfl) rfl info_slcS (by simp [mca, mcs]) (mca { S with raw := S.raw ++ [b] } { a with rA := A3, rc := c3 }) (HDS1.out A3 c3) ?_; intro W4 M4 T4; obtain ⟨h4, t4, n4⟩ := (H6.out.alloc (.cells #[.int .u8 b] 5)).rawApp (A3 := A3) (c3 := c3) (b := b) (by rw [HRA.out]; exact T3.out) HR3.out (by rw [HRA.out]; exact N3.out) M4.out T4.out; have H7 := Lib.hid h4; have T7 : Hid (Turn s w6 W4) := (Turn.of (below_alloc (Below.refl _ _) (.cells #[.int .u8 b] 5))).tr t4; have N7 : Hid (∀ k ∈ blkA A3 ++ s, k ∈ s ∨ w6.heap.size ≤ k) := (fun k hk => (n4 k hk).imp id (fun h => Nat.le_trans (below_alloc (Below.refl w6.heap.size w6) (.cells #[.int .u8 b] 5)).size h)); have d18 : W4.cell? ⟨mp, 18, none⟩ = some (.slice a.lA k a.lc) := h4.cell 18 _ (by rw [← HK.out]; rfl); clear h4 t4 n4))
        go_end0
        exact ⟨rfl, HSS.out ▸ ((MAct.same H7.out (Turn.refl _ _)).after N7.out T7.out).pre HB6.out⟩
end Go.Proofs.YtlmdkmflbhnlgaaGreat
