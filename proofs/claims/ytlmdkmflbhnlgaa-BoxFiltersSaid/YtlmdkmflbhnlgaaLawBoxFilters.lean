/- The law BoxFilters: what comes is refused just if the bank doesn't let it in. No condition. -/
import Derived.Test.YtlmdkmflbhnlgaaLawBoxF0
namespace Go.Proofs.Ytlmdkmflbhnlgaa
open Go.RowKit
theorem info_frame2 : ∃ i : TypeInfo, Try.prog.info? 42 = some i ∧ i.zero = some (.agg #[.int .i64 0, .int .u32 0, .bool false, .bool false, .bool false, .bool false, .bool false, .int .u8 0, .int .u8 0, .int .u32 0, .slice none 0 0]) ∧ i.size = 11 ∧ i.bytes = 48 := by
  have h : (Try.prog.info? 42).isSome = true ∧ (∀ i, Try.prog.info? 42 = some i → i.zero = some (.agg #[.int .i64 0, .int .u32 0, .bool false, .bool false, .bool false, .bool false, .bool false, .int .u8 0, .int .u8 0, .int .u32 0, .slice none 0 0]) ∧ i.size = 11 ∧ i.bytes = 48) := by
    refine ⟨by kernel_rfl, fun i hi => ?_⟩
    have h2 : (Try.prog.info? 42).map (fun i => (i.size, i.bytes)) = some (11, 48) := by kernel_rfl
    have h3 : (Try.prog.info? 42).bind (fun i => i.zero) = some (.agg #[.int .i64 0, .int .u32 0, .bool false, .bool false, .bool false, .bool false, .bool false, .int .u8 0, .int .u8 0, .int .u32 0, .slice none 0 0]) := by kernel_rfl
    rw [hi] at h2 h3
    simp at h2 h3
    exact ⟨h3, h2⟩
  obtain ⟨i, hi⟩ := Option.isSome_iff_exists.1 h.1
  exact ⟨i, hi, h.2 i hi⟩
set_option maxRecDepth 100000 in
set_option maxHeartbeats 16000000 in
theorem boxFilters_walk (w : World) (out inn : Int) (A B : Option Addr) (n c m d : Nat) (els xl : Bool) (rs : List Ru) (gs : List SF) (hr : RdRu w A rs) (hn : rs.length = n) (hb : n * 32 ≤ 140737488351232) (hwf : ∀ r ∈ rs, RuWf r)
    (hg : RdSF w B gs) (hm : gs.length = m) (hgi : ∀ s ∈ gs, SFIn w s) (hm2 : m ≤ 9223372036854775807) :
    Calls Try.prog 3 #[confV out inn A n c els xl, .slice B m d] w fun e w' => e = .returned (.bool true) ∧ Below w.heap.size w w' := by
  obtain ⟨i0, hi0, hz0, hz1, hz2⟩ := info_frame2
  have HT := Lib.hid (fun W hW => To17_any W out inn A n c els xl rs hW hn hb)
  have HR := Lib.hid hr
  have HN := Lib.hid hn
  have HWF := Lib.hid hwf
  have HG := Lib.hid hg
  have HM := Lib.hid hm
  have HGI := Lib.hid hgi
  dsimp only [confV] at *
  by_cases hok : (0 ≤ out ∧ out ≤ 64) ∧ (0 ≤ inn ∧ inn ≤ 64) ∧ bankOk rs = true
  · obtain ⟨⟨o0, o1⟩, ⟨j0, j1⟩, hbk⟩ := hok
    obtain ⟨out, rfl⟩ := Int.eq_ofNat_of_zero_le o0
    obtain ⟨inn, rfl⟩ := Int.eq_ofNat_of_zero_le j0
    have ho : out ≤ 64 := by omega
    have hi : inn ≤ 64 := by omega
    have h32 : n ≤ 32 := by
      unfold bankOk at hbk
      rw [hn] at hbk
      simp only [Bool.and_eq_true, decide_eq_true_eq] at hbk
      exact hbk.1
    have HBK := Lib.hid hbk
    clear hr hn hwf hg hm hgi hbk o0 o1 j0 j1
    by_cases h100 : m ≤ 100
    · go_enter Try.func3, Try.ntmps3
      go_wp2_with fail
      refine calls_blk1 fun W1 q1 hb1 => ?_
      refine (alive_any W1).mono ?_
      rintro e w2 ⟨rfl, hb2⟩
      have q2 := heap_below hb2 q1
      have c0 := cell_of_heap q2 0 (.int .i64 out) rfl
      have c1 := cell_of_heap q2 1 (.int .i64 inn) rfl
      have c2 := cell_of_heap q2 2 (.slice A n c) rfl
      have c3 := cell_of_heap q2 3 (.bool els) rfl
      have c4 := cell_of_heap q2 4 (.bool xl) rfl
      have HB2 := Lib.hid (below_trans hb1 hb2)
      have Q2 := Lib.hid q2
      clear q1 hb1 hb2 q2
      go_wp2_with fail
      refine (HT.out w2 (HR.out.below HB2.out)).mono ?_
      rintro e w3 ⟨⟨A3, d3, rfl, hrow3⟩, hb3⟩
      have HROW3 := Lib.hid hrow3
      have HB3 := Lib.hid (below_trans HB2.out hb3)
      have Q3 := Lib.hid (heap_below hb3 Q2.out)
      have HC3 := Lib.hid hrow3.cap
      clear hrow3 hb3 c0 c1 c2 c3 c4
      simp only [confV]
      go_wp2_with fail
      refine (New_any w3 (w.heap.size + 1) out inn rs.length d3 A3 els xl rs HROW3.out.rd rfl (by have := HC3.out; omega) (fun e => ?_) HWF.out ho hi HBK.out (by have := heap_lt Q3.out; omega)).mono ?_
      · rcases HROW3.out with ⟨_, h, _⟩ | ⟨g, cur, h, _⟩
        · exact h
        · rw [e] at h; cases h
      rintro e w4 ⟨⟨b, ft, rfl, hA4, hft4⟩, hb4⟩
      have q4 := heap_below hb4 Q3.out
      have c2 := cell_of_heap q4 2 (.slice A n c) rfl
      have HI4 : Hid (FI w w4 #[.int .i64 out, .int .i64 inn, .slice A n c, .bool els, .bool xl] rs els inn ft b 0 none 0 [] (newX rs els xl out inn)) :=
        ⟨q4, hA4, ⟨rfl, .inl ⟨rfl, rfl⟩⟩, by simp [blkA], by simp, rfl, rfl, rfl, below_trans HB3.out hb4⟩
      clear hA4 hft4 hb4 q4
      go_wp2_with fail
      clear c2
      have hm100 : (m : Int) ≤ 100 := by omega
      go_loopw [45, 7] (fun v s wr => ∃ (k kn : Nat) (ft : List Nat) (KA : Option Addr) (kc : Nat) (ks : List SF) (T : BX), k ≤ m ∧ v = .int .i64 k ∧ s = .slice KA kn kc ∧ kn ≤ k ∧ Hid (ks.length = kn) ∧ Hid (ks.map (·.f) = T.l) ∧ Hid (FI w wr #[.int .i64 out, .int .i64 inn, .slice A n c, .bool els, .bool xl] rs els inn ft b k KA kc ks T)) (fun v _ _ => m - (intOf v).toNat)
      case atStart => exact ⟨0, 0, ft, none, 0, [], newX rs els xl out inn, by omega, rfl, rfl, by omega, rfl, rfl, HI4⟩
      case round =>
        obtain ⟨k, kn, ft, KA, kc, ks, T, hk, rfl, rfl, hkn2, HKN, HKF, HI⟩ := hrel
        clear HI4
        by_cases hkm : k < m
        · have hkl : k < gs.length := by rw [HM.out]; exact hkm
          obtain ⟨ad, rfl, a0, a1, a2, a3, a4, a5, a6, a7, a8, a9, a10⟩ := (HG.out.below HI.out.below).at_ k hkl (k * 11) rfl
          have hmem : gs[k]'hkl ∈ gs := List.getElem_mem hkl
          obtain ⟨s, hs⟩ : ∃ s, gs[k]'hkl = s := ⟨_, rfl⟩
          rw [hs] at a0 a1 a2 a3 a4 a5 a6 a7 a8 a9 a10 hmem
          have HS := Lib.hid (HGI.out s hmem)
          clear hs hmem
          go_wp2_with fail
          refine calls_blk1 fun W1 q1 hb1 => ?_
          have hI1 := HI.out.step hb1
          have hlt : ∀ ad, s.A = some ad → bys s.f.data ≠ [] → ad.block ∉ ft := fun ad e hne hm => by
            have h1 := rdlt HS.out.rd ad e hne
            have h2 := hI1.box.foot.2.1 _ hm
            omega
          refine (Come_any W1 (w.heap.size + 1) k ft b s.c s.f.data.length s.A T s.f hI1.box (by omega) (by have := heap_lt hI1.conf; omega) (HS.out.rd.below hI1.below) HS.out.nz rfl HS.out.wf hlt).mono ?_
          rintro e w2 ⟨rfl, hact⟩
          have hfr2 : w2.heap[wr.heap.size]? = some (.cells #[.int .i64 s.f.kind, .int .u32 s.f.id, .bool s.f.ext, .bool s.f.rtr, .bool s.f.brs, .bool s.f.esi, .bool s.f.sec, .int .u8 s.f.sdt, .int .u8 s.f.vcid, .int .u32 s.f.af, .slice s.A s.f.data.length s.c] 42 (0, 0)) := by
            obtain ⟨ft', -, -, ht⟩ := hact
            exact ht.heap q1 (fun hm => by have := HI.out.box.foot.2.2.1 _ hm; omega)
          obtain ⟨ft2, hI2⟩ := hI1.come hact (comeT_rules T s.f)
          have HIN : Hid (∀ W A5 c5, RRow W (w2.heap.size) A5 c5 rs → Calls Try.prog 13 #[.agg #[.slice A5 rs.length c5, .bool els], frv s.f (.slice s.A s.f.data.length s.c)] W fun e w' => e = .returned (.tuple #[.bool (okF s.f && inR rs els s.f), errV (okF s.f)]) ∧ Below W.heap.size W w') := fun W A5 c5 hW => by
            have := In_any A5 s.A rs.length c5 s.c s.f.data.length els rs s.f W hW.rd rfl (by have := hW.cap; omega) HWF.out HS.out.wf rfl
            rw [HBK.out, Bool.true_and] at this
            exact this
          have hcT : comeT T s.f = if okF s.f then (if inR rs els s.f then (if T.l.length < inn then { T with came := T.came + 1, kept := T.kept + 1, l := T.l ++ [s.f] } else { T with came := T.came + 1, over := T.over + 1 }) else { T with came := T.came + 1, refused := T.refused + 1 }) else T := by unfold comeT; rw [HI.out.rules, HI.out.tels, HI.out.iroom]
          have hcK : comeK T s.f = if okF s.f then (if inR rs els s.f then (if T.l.length < inn then 0 else 2) else 1) else 0 := by unfold comeK; rw [HI.out.rules, HI.out.tels, HI.out.iroom]
          have hTl : T.l.length = kn := by rw [← HKF.out, List.length_map]; exact HKN.out
          generalize comeT T s.f = T1 at hcT hI2
          generalize comeK T s.f = kk at hcK ⊢
          obtain ⟨q, hq⟩ : ∃ q, okF s.f = q := ⟨_, rfl⟩
          obtain ⟨i, hi2⟩ : ∃ i, inR rs els s.f = i := ⟨_, rfl⟩
          rw [hq, hi2, hTl] at hcT hcK
          rw [hq, hi2] at HIN
          rw [hq]
          obtain ⟨y0, y1, y2, y3, y4, y5, y6, y7, y8, y9, y10⟩ := ext11 hfr2
          have x0 : ∀ e : Ext w2, e.W.cell? ⟨w.heap.size, 0, none⟩ = some (.int .i64 out) := fun e => ext_cell (cell_of_heap hI2.conf 0 _ rfl) e
          have x1 : ∀ e : Ext w2, e.W.cell? ⟨w.heap.size, 1, none⟩ = some (.int .i64 inn) := fun e => ext_cell (cell_of_heap hI2.conf 1 _ rfl) e
          have x2 : ∀ e : Ext w2, e.W.cell? ⟨w.heap.size, 2, none⟩ = some (.slice A n c) := fun e => ext_cell (cell_of_heap hI2.conf 2 _ rfl) e
          have x3 : ∀ e : Ext w2, e.W.cell? ⟨w.heap.size, 3, none⟩ = some (.bool els) := fun e => ext_cell (cell_of_heap hI2.conf 3 _ rfl) e
          have x4 : ∀ e : Ext w2, e.W.cell? ⟨w.heap.size, 4, none⟩ = some (.bool xl) := fun e => ext_cell (cell_of_heap hI2.conf 4 _ rfl) e
          have HI2 := Lib.hid hI2
          have HCT := Lib.hid hcT
          have HCK := Lib.hid hcK
          have HFR2 := Lib.hid hfr2
          clear q1 hb1 hI1 hlt hact hfr2 hI2 hcT hcK hTl hq hi2 a0 a1 a2 a3 a4 a5 a6 a7 a8 a9 a10
          go_wp2_with fail
          refine wp_region_mix (fun w' => ∃ e : Ext w2, w' = e.W) [(true, 0), (true, 3), (false, 1), (true, 2), (false, 4), (true, 5), (true, 6), (true, 7), (true, 8), (true, 9)] [] (by kernel_rfl) (by kernel_rfl) (by intro _ _ d _ _ h; cases d <;> exact h) ⟨⟨w2.drew, (Below.refl _ _).drew⟩, rfl⟩ ?_
          simp only [pickM, pickL, List.drop_succ_cons, List.drop_zero]
          repeat (refine mix_pure (by rfl) (by rfl) ?_; intro K hK; go_big_quiet_op; go_big_quiet_on)
          refine mix_eff (by rfl) ?_
          intro K hK
          go_simp
          refine (HT.out _ (HR.out.below (below_trans HI2.out.below (Below.refl _ _).drew))).mono ?_
          rintro e w5 ⟨⟨A5, c5, rfl, hrow5⟩, hb5⟩
          have hb25 : Below w2.heap.size w2 w5 := below_trans (Below.refl _ _).drew hb5
          refine hK _ _ ⟨⟨w5, hb25⟩, rfl⟩ ?_
          clear hK K
          have HROW5 := Lib.hid hrow5
          have HB25 := Lib.hid hb25
          clear hrow5 hb5 hb25
          simp only [confV]
          have TF : ∀ W, Sem.run Try.prog (Instr.field 37 (.agg #[.int .i64 out, .int .i64 inn, .slice A5 rs.length c5, .bool els, .bool xl]) 2) W = .ok (.agg #[.slice A5 rs.length c5, .bool els]) W := fun _ => by kernel_rfl
          repeat (refine mix_pure (by rfl) (by rfl) ?_; intro K hK; go_big_quiet_op; go_big_quiet_on)
          clear TF
          refine mix_eff (by rfl) ?_
          intro K hK
          go_simp
          refine (HIN.out w5 A5 c5 HROW5.out).mono ?_
          rintro e w6 ⟨rfl, hb6⟩
          have hb26 : Below w2.heap.size w2 w6 := below_trans HB25.out hb6
          refine hK _ _ ⟨⟨w6, hb26⟩, rfl⟩ ?_
          clear hK K
          repeat (refine mix_pure (by rfl) (by rfl) ?_; intro K hK; go_big_quiet_op; go_big_quiet_on)
          refine mix_nil (wpList_nil ?_)
          have HI6 := Lib.hid (HI2.out.step hb26)
          have HFR6 := Lib.hid (heap_below hb26 HFR2.out)
          clear hb6 hb26 y0 y1 y2 y3 y4 y5 y6 y7 y8 y9 y10 x0 x1 x2 x3 x4
          cases q
          · simp only [Bool.false_and, errV, Bool.false_eq_true, if_false]
            go_wp2_with fail
            go_roundw
            case rel =>
              have hct := HCT.out
              simp only [Bool.false_eq_true, if_false] at hct
              subst hct
              exact ⟨k + 1, kn, ft2, KA, kc, ks, _, by omega, by go_num, rfl, by omega, HKN, HKF, HI6⟩
            case measure => simp [intOf]; omega
          cases i
          · have hck := HCK.out
            simp only [Bool.false_eq_true, if_false, if_true] at hck
            subst hck
            simp only [Bool.true_and, errV, if_true]
            go_wp2_with fail
            go_roundw
            case rel =>
              have hct := HCT.out
              simp only [Bool.false_eq_true, if_false, if_true] at hct
              subst hct
              exact ⟨k + 1, kn, ft2, KA, kc, ks, { T with came := T.came + 1, refused := T.refused + 1 }, by omega, by go_num, rfl, by omega, HKN, HKF, HI6⟩
            case measure => simp [intOf]; omega
          · have c1 : w6.cell? ⟨w.heap.size, 1, none⟩ = some (.int .i64 inn) := cell_of_heap HI6.out.conf 1 _ rfl
            by_cases hroom : kn < inn
            · have hck := HCK.out
              simp only [if_true, if_pos hroom] at hck
              subst hck
              simp only [Bool.true_and, errV, if_true]
              obtain ⟨z0, z1, z2, z3, z4, z5, z6, z7, z8, z9, z10⟩ := cells11 HFR6.out
              have hown := HI6.out.own
              rw [HKN.out] at hown
              have HOWN := Lib.hid hown
              have HONE := Lib.hid (frL_one s)
              have hsz6 : w.heap.size + 1 ≤ w6.heap.size := heap_lt HI6.out.conf
              clear hown
              go_wp2_with (at_builtin; refine wpList_appK rfl (.tmp 77) (.tmp 79) 27 rfl (w.heap.size + 1) 42 i0 _ 11 48 Try.underlying27 hi0 hz0 hz1 hz2 rfl (by omega) KA kn kc (ks.flatMap frL) (by kernel_rfl) (HOWN.out.alloc _) w6.heap.size 1 42 (frL s) (by kernel_rfl) (heap_new_at rfl) rfl HONE.out (by unfold maxLen; omega) (by omega) (by simp; omega) ?_; intro w7 A7 c7 HO7 HT7 HF7)
              go_roundw
              case rel =>
                have hct := HCT.out
                simp only [if_true, if_pos hroom] at hct
                subst hct
                have hb7 := below_alloc (Below.refl _ w6) (.cells #[.int .i64 s.f.kind, .int .u32 s.f.id, .bool s.f.ext, .bool s.f.rtr, .bool s.f.brs, .bool s.f.esi, .bool s.f.sec, .int .u8 s.f.sdt, .int .u8 s.f.vcid, .int .u32 s.f.af, .slice s.A s.f.data.length s.c] 42)
                have ho7 := HO7.out
                rw [← HKN.out] at ho7
                refine ⟨k + 1, kn + 1, ft2, A7, c7, ks ++ [s], { T with came := T.came + 1, kept := T.kept + 1, l := T.l ++ [s.f] }, by omega, by go_num, rfl, by omega, ?_, ?_, (HI6.out.step hb7).keep s HS.out ho7 HT7.out HF7.out⟩
                · show _ = _; rw [List.length_append, HKN.out]; rfl
                · show _ = _; rw [List.map_append, HKF.out]; rfl
              case measure => simp [intOf]; omega
            · have hck := HCK.out
              simp only [if_true, if_neg hroom] at hck
              subst hck
              simp only [Bool.true_and, errV, if_true]
              go_wp2_with fail
              go_roundw
              case rel =>
                have hct := HCT.out
                simp only [if_true, if_neg hroom] at hct
                subst hct
                exact ⟨k + 1, kn, ft2, KA, kc, ks, { T with came := T.came + 1, over := T.over + 1 }, by omega, by go_num, rfl, by omega, HKN, HKF, HI6⟩
              case measure => simp [intOf]; omega
        · obtain rfl : k = m := by omega
          go_wp2_with fail
          go_loopw [89] (fun v wx => ∃ (j : Nat) (ft : List Nat) (T : BX), j ≤ kn ∧ v = .int .i64 j ∧ Hid (T.l = (ks.map (·.f)).drop j) ∧ Hid (FI w wx #[.int .i64 out, .int .i64 inn, .slice A n c, .bool els, .bool xl] rs els inn ft b (k + j) KA kc ks T)) (fun v _ => kn - (intOf v).toNat)
          case atStart => exact ⟨0, ft, T, by omega, rfl, HKF.out.symm, HI⟩
          case round =>
            obtain ⟨j, ft, T, hj, rfl, HTL, HJ⟩ := hrel
            clear HI HKF
            by_cases hjk : j < kn
            · have hjl : j < ks.length := by rw [HKN.out]; exact hjk
              have hown := HJ.out.own
              obtain ⟨g, rfl, hcell⟩ := own_cells hown j hjl
              have hcap := own_cap hown
              rw [HKN.out] at hcap
              obtain ⟨s, hs⟩ : ∃ s, ks[j]'hjl = s := ⟨_, rfl⟩
              have hmem : ks[j]'hjl ∈ ks := List.getElem_mem hjl
              have hdrop : (ks.map (·.f)).drop j = s.f :: (ks.map (·.f)).drop (j + 1) := by
                rw [List.drop_eq_getElem_cons (by simpa using hjl)]
                simp [hs]
              rw [hs] at hcell hmem
              have a0 : wr.cell? ⟨g, j * 11, none⟩ = some (.int .i64 s.f.kind) := hcell 0 _ rfl
              have a1 := hcell 1 _ rfl
              have a2 := hcell 2 _ rfl
              have a3 := hcell 3 _ rfl
              have a4 := hcell 4 _ rfl
              have a5 := hcell 5 _ rfl
              have a6 := hcell 6 _ rfl
              have a7 := hcell 7 _ rfl
              have a8 := hcell 8 _ rfl
              have a9 := hcell 9 _ rfl
              have a10 := hcell 10 _ rfl
              have HS := Lib.hid (HJ.out.kin s hmem)
              have HDR := Lib.hid hdrop
              clear hcell hown hs hmem hdrop
              go_wp2_with fail
              refine calls_blk1 fun W1 q1 hb1 => ?_
              have hI1 := HJ.out.step hb1
              refine (Take_any W1 (w.heap.size + 1) (k + j) ft b T hI1.box (by omega) (by have := heap_lt hI1.conf; omega)).mono ?_
              rintro e w2 ⟨hact, (⟨h0, -⟩ | ⟨f, r, A2, c2, hl2, rfl, hrow2, -, hfin⟩)⟩
              · rw [HTL.out, HDR.out] at h0; cases h0
              have hq2 : w2.heap[wr.heap.size]? = some (.cells #[.int .i64 s.f.kind, .int .u32 s.f.id, .bool s.f.ext, .bool s.f.rtr, .bool s.f.brs, .bool s.f.esi, .bool s.f.sec, .int .u8 s.f.sdt, .int .u8 s.f.vcid, .int .u32 s.f.af, .slice s.A s.f.data.length s.c] 42 (0, 0)) := by
                obtain ⟨ft', -, -, ht⟩ := hact
                exact ht.heap q1 (fun hm => by have := HJ.out.box.foot.2.2.1 _ hm; omega)
              obtain ⟨ft2, hI2⟩ := hI1.come hact (takeT_rules T)
              rw [HTL.out, HDR.out] at hl2
              injection hl2 with hl3 hl4
              subst hl3
              have hT2 : (takeT T).l = (ks.map (·.f)).drop (j + 1) := by unfold takeT; rw [HTL.out, HDR.out]
              have HT2 := Lib.hid hT2
              have HI2 := Lib.hid hI2
              have HROW2 := Lib.hid hrow2
              have b0 := fun o => heap_push (o' := o) hq2
              have bb := fun o => cells11 (b0 o)
              have y0 := fun o => (bb o).1
              have y1 := fun o => (bb o).2.1
              have y2 := fun o => (bb o).2.2.1
              have y3 := fun o => (bb o).2.2.2.1
              have y4 := fun o => (bb o).2.2.2.2.1
              have y5 := fun o => (bb o).2.2.2.2.2.1
              have y6 := fun o => (bb o).2.2.2.2.2.2.1
              have y7 := fun o => (bb o).2.2.2.2.2.2.2.1
              have y8 := fun o => (bb o).2.2.2.2.2.2.2.2.1
              have y9 := fun o => (bb o).2.2.2.2.2.2.2.2.2.1
              have y10 := fun o => (bb o).2.2.2.2.2.2.2.2.2.2
              clear hI2 hact hI1 hb1 q1 hq2 hl4 hT2 hrow2 bb b0 a0 a1 a2 a3 a4 a5 a6 a7 a8 a9 a10
              go_wp2_with fail
              have HSM := Lib.hid (fun W hW1 hW2 => Same_any s.f s.f A2 s.A c2 s.c W hW1 hW2 hfin.data HS.out.wf.data)
              rw [sameF_self] at HSM
              refine (HSM.out _ (HROW2.out.rd.alloc _) ((HS.out.rd.below HI2.out.below).alloc _)).mono ?_
              rintro e w3 ⟨rfl, hb3⟩
              have HI3 := Lib.hid (HI2.out.step (below_trans (below_alloc (Below.refl _ _) _) hb3))
              clear hb3 y0 y1 y2 y3 y4 y5 y6 y7 y8 y9 y10
              go_wp2_with fail
              go_roundw
              case rel => exact ⟨j + 1, ft2, takeT T, by omega, by go_num, HT2, HI3⟩
              case measure => simp [intOf]; omega
            · obtain rfl : j = kn := by omega
              go_wp2_with fail
              refine (Take_any wr (w.heap.size + 1) (k + j) ft b T HJ.out.box (by omega) (by have := heap_lt HJ.out.conf; omega)).mono ?_
              rintro e w2 ⟨hact, (⟨h0, rfl⟩ | ⟨f, r, A2, c2, hl2, rfl, -⟩)⟩
              rotate_left
              · rw [HTL.out, List.drop_eq_nil_of_le (by rw [List.length_map, HKN.out]; exact Nat.le_refl _)] at hl2; cases hl2
              have hb2 : Below w.heap.size w w2 := by
                obtain ⟨ft', -, -, ht⟩ := hact
                exact HJ.out.below.trans (ht.below (fun q hq => by have := HJ.out.box.foot.2.1 q hq; omega) HJ.out.below.size)
              have HB := Lib.hid hb2
              clear hact hb2
              simp only [zfL]
              go_wp2_with fail
              go_ret
              exact ⟨by first | rfl | simp, below_alloc HB.out _⟩
    · go_enter Try.func3, Try.ntmps3
      go_wp2_with fail
      refine calls_blk1 fun W1 q1 hb1 => ?_
      refine (alive_any W1).mono ?_
      rintro e w2 ⟨rfl, hb2⟩
      have q2 := heap_below hb2 q1
      have c0 := cell_of_heap q2 0 (.int .i64 out) rfl
      have c1 := cell_of_heap q2 1 (.int .i64 inn) rfl
      have c2 := cell_of_heap q2 2 (.slice A n c) rfl
      have c3 := cell_of_heap q2 3 (.bool els) rfl
      have c4 := cell_of_heap q2 4 (.bool xl) rfl
      have HB2 := Lib.hid (below_trans hb1 hb2)
      have Q2 := Lib.hid q2
      clear q1 hb1 hb2 q2
      go_wp2_with fail
      refine (HT.out w2 (HR.out.below HB2.out)).mono ?_
      rintro e w3 ⟨⟨A3, d3, rfl, hrow3⟩, hb3⟩
      have HROW3 := Lib.hid hrow3
      have HB3 := Lib.hid (below_trans HB2.out hb3)
      have Q3 := Lib.hid (heap_below hb3 Q2.out)
      have HC3 := Lib.hid hrow3.cap
      clear hrow3 hb3 c0 c1 c2 c3 c4
      simp only [confV]
      go_wp2_with fail
      refine (New_any w3 (w.heap.size + 1) out inn rs.length d3 A3 els xl rs HROW3.out.rd rfl (by have := HC3.out; omega) (fun e => ?_) HWF.out ho hi HBK.out (by have := heap_lt Q3.out; omega)).mono ?_
      · rcases HROW3.out with ⟨_, h, _⟩ | ⟨g, cur, h, _⟩
        · exact h
        · rw [e] at h; cases h
      rintro e w4 ⟨⟨b, ft, rfl, hA4, hft4⟩, hb4⟩
      have q4 := heap_below hb4 Q3.out
      have c2 := cell_of_heap q4 2 (.slice A n c) rfl
      have HB4 := Lib.hid (below_trans HB3.out hb4)
      have hm1 : (100 : Int) < m := by omega
      clear hA4 hft4 hb4 q4 c2
      go_wp2_with fail
      go_ret
      exact ⟨by first | rfl | simp, HB4.out⟩
  · have HOK := Lib.hid hok
    clear hr hn hwf hg hm hgi hok
    go_enter Try.func3, Try.ntmps3
    go_wp2_with fail
    refine calls_blk1 fun W1 q1 hb1 => ?_
    refine (alive_any W1).mono ?_
    rintro e w2 ⟨rfl, hb2⟩
    have q2 := heap_below hb2 q1
    have c0 := cell_of_heap q2 0 (.int .i64 out) rfl
    have c1 := cell_of_heap q2 1 (.int .i64 inn) rfl
    have c2 := cell_of_heap q2 2 (.slice A n c) rfl
    have c3 := cell_of_heap q2 3 (.bool els) rfl
    have c4 := cell_of_heap q2 4 (.bool xl) rfl
    have HB2 := Lib.hid (below_trans hb1 hb2)
    have Q2 := Lib.hid q2
    clear q1 hb1 hb2 q2
    go_wp2_with fail
    refine (HT.out w2 (HR.out.below HB2.out)).mono ?_
    rintro e w3 ⟨⟨A3, d3, rfl, hrow3⟩, hb3⟩
    have HROW3 := Lib.hid hrow3
    have HB3 := Lib.hid (below_trans HB2.out hb3)
    have Q3 := Lib.hid (heap_below hb3 Q2.out)
    have HC3 := Lib.hid hrow3.cap
    clear hrow3 hb3 c0 c1 c2 c3 c4
    simp only [confV]
    go_wp2_with fail
    refine (New_no w3 out inn rs.length d3 A3 els xl rs HROW3.out.rd rfl (by have := HC3.out; omega) (by have := HOK.out; by_cases h1 : out < 0 ∨ 64 < out; exact .inl h1; by_cases h2 : inn < 0 ∨ 64 < inn; exact .inr (.inl h2); refine .inr (.inr ?_); cases hb2 : bankOk rs; rfl; exact absurd ⟨⟨by omega, by omega⟩, ⟨by omega, by omega⟩, hb2⟩ this)).mono ?_
    rintro e w4 ⟨rfl, hb4⟩
    have HB4 := Lib.hid (below_trans HB3.out hb4)
    clear hb4
    go_wp2_with fail
    go_ret
    exact ⟨by first | rfl | simp, HB4.out⟩
end Go.Proofs.Ytlmdkmflbhnlgaa
