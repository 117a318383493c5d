/- A Classic frame begins and ends as it must: the law ClassicEnds answers true. No condition. -/
import Derived.Test.YtbjeblffmgghgaaLawClassicOrders
import Derived.Test.YtbjeblffmgghgaaRunBits
namespace Go.Proofs.Ytbjeblffmgghgaa
open Go.RowKit
theorem tails_raw (l : List Nat) : ∀ (last run : Nat) (out : List Nat), Tails last run out → Tails (rawE last run l).1 (rawE last run l).2 (out ++ l) := by
  induction l with
  | nil => intro last run out h; simpa [rawE] using h
  | cons x l ih =>
    intro last run out h
    have := ih x (seeN last run x) (out ++ [x]) (h.see x)
    simpa [rawE] using this
theorem run_raw (l : List Nat) (r : Nat) (h : RunIs (stuffN l) r) : r ≤ 5 := by
  have ht := tails_raw (stuffN l) 0 0 [] (.inl ⟨rfl, rfl⟩)
  have hr5 : (rawE 0 0 (stuffN l)).2 ≤ 5 := by unfold stuffN; rw [rawE_stf l 0 0 (by omega)]; exact stE_le l 0 0 (by omega)
  rw [List.nil_append] at ht
  generalize (rawE 0 0 (stuffN l)).1 = last at *
  generalize (rawE 0 0 (stuffN l)).2 = run at *
  generalize stuffN l = raw at *
  obtain ⟨h1, h2, h3⟩ := h
  refine Classical.byContradiction fun hgt => ?_
  rcases ht with ⟨rfl, rfl⟩ | ⟨hr1, pre, rfl, hp⟩
  · simp at h1; omega
  · have e0 : endN (pre ++ List.replicate run last) 0 = last := by
      unfold endN
      rw [List.getElem?_append_right (by simp; omega), List.getElem?_replicate, if_pos (by simp; omega)]; rfl
    have e1 := h2 run (by omega)
    rw [e0] at e1
    rcases List.eq_nil_or_concat pre with rfl | ⟨p, y, hpre⟩
    · simp at h1; omega
    · rw [List.concat_eq_append] at hpre
      subst hpre
      have hy := hp p y rfl
      unfold endN at e1
      have hlen : (p ++ [y] ++ List.replicate run last).length - 1 - run = p.length := by simp
      rw [hlen, List.getElem?_append_left (by simp), List.getElem?_append_right (by omega)] at e1
      simp at e1
      exact hy e1
theorem run_tail (ra : List Nat) (r : Nat) (h : RunIs (ra ++ List.replicate 10 1) r) : 10 ≤ r := by
  obtain ⟨h1, h2, h3⟩ := h
  refine Classical.byContradiction fun hlt => ?_
  have e : ∀ k, k < 10 → endN (ra ++ List.replicate 10 1) k = 1 := by
    intro k hk
    unfold endN
    rw [List.getElem?_append_right (by simp; omega), List.getElem?_replicate, if_pos (by simp; omega)]; rfl
  have h4 := h3 (by simp; omega)
  rw [e r (by omega), e 0 (by omega)] at h4
  exact h4 rfl
theorem rd_left {w : World} {A : Option Addr} {a b : List Nat} (h : Rd w A (bys (a ++ b))) : Rd w A (bys a) := by
  intro j u hj
  refine h j u ?_
  rw [bys_append, List.getElem?_append_left (List.getElem?_eq_some_iff.1 hj).1]
  exact hj
theorem wireC_bits (f : Fr) : ∀ x ∈ wireC f, x ≤ 1 := by
  intro x hx
  unfold wireC at hx
  rcases List.mem_append.1 hx with h | h
  · exact stuffN_bits (bodyC f) (coreC_bitsB f) x h
  · have := List.eq_of_mem_replicate h; omega
theorem rawC_head (f : Fr) : (stuffN (headL f)).length + 19 ≤ (stuffN (bodyC f)).length := by
  have e : bodyC f = headL f ++ (bitsN f.data.length 4 ++ bytesN f.data ++ bitsN (crcN 15 17817 0 (coreC f)) 15) := by unfold bodyC addN coreC; simp
  rw [e]
  unfold stuffN
  rw [stf_append, List.length_append]
  have := stf_ge (bitsN f.data.length 4 ++ bytesN f.data ++ bitsN (crcN 15 17817 0 (coreC f)) 15) (stE 0 0 (headL f)).1 (stE 0 0 (headL f)).2
  simp only [List.length_append, bitsN_length] at this
  omega
set_option maxRecDepth 100000 in
set_option maxHeartbeats 2000000 in
theorem ends_no (f : Fr) (A : Option Addr) (c : Nat) (w : World) (hf : f.data.length ≤ 9223372036854775807) (hm : ¬ (f.kind = 1 ∧ okF f = true)) :
    Calls Try.prog 14 #[frv f (.slice A f.data.length c)] w fun e w' => e = .returned (.bool true) ∧ Below w.heap.size w w' := by
  have HM := Lib.hid (fun W => mine_any f A c W hf)
  have HW := Lib.hid (fun W => Wire_no f A c W hf hm)
  have hd : (decide (f.kind = 1) && okF f) = false := by
    cases h : okF f with
    | false => simp
    | true => simp; exact fun hk => hm ⟨hk, h⟩
  rw [hd] at HM
  obtain ⟨kind, id, ext, rtr, brs, esi, sec, sdt, vcid, af, data⟩ := f
  dsimp only [frv] at *
  generalize data.length = n at *
  clear hm hd
  go_enter Try.func14, Try.ntmps14
  go_wp2_with fail
  refine calls_blk1 (fun W0 q1 hb => ?_)
  have HB := Lib.hid hb
  obtain ⟨a0, a1, a2, a3, a4, a5, a6, a7, a8, a9, a10⟩ := ext11 q1
  have hsz := ext_lt q1
  clear hb q1
  refine (extc_same (alive06 _)).mono ?_
  rintro x _ ⟨e1, rfl, rfl⟩
  go_wp2_with fail
  refine (extc (HW.out _)).mono ?_
  rintro x _ ⟨e3, rfl, rfl⟩
  go_wp2_with fail
  obtain ⟨gb, hgb⟩ : ∃ gb, e3.W.heap.size = gb := ⟨_, rfl⟩
  rw [hgb]
  refine calls_name (T := fun W1 => W1.heap[gb]? = some (.cells #[.slice none 0 0, .int .i64 0, .int .i64 0] 66) ∧ Below W0.heap.size W0 W1) ⟨heap_new_at hgb.symm, below_alloc e3.below _⟩ ?_
  rintro W1 ⟨q2, hb1⟩
  replace a0 := liftE hb1 a0
  replace a1 := liftE hb1 a1
  replace a2 := liftE hb1 a2
  replace a3 := liftE hb1 a3
  replace a4 := liftE hb1 a4
  replace a5 := liftE hb1 a5
  replace a6 := liftE hb1 a6
  replace a7 := liftE hb1 a7
  replace a8 := liftE hb1 a8
  replace a9 := liftE hb1 a9
  replace a10 := liftE hb1 a10
  have c0 := fun e : Ext W1 => cell_of_heap (heap_below e.below q2) 0 _ rfl
  have HB1 := Lib.hid hb1
  clear hsz hb1 q2 hgb
  go_wp2_with fail
  refine (extc_same (HM.out _)).mono ?_
  rintro x _ ⟨e2, rfl, rfl⟩
  go_wp2_with fail
  go_ret
  exact ⟨rfl, below_trans HB.out (below_trans HB1.out e2.below)⟩
set_option maxRecDepth 100000 in
set_option maxHeartbeats 4000000 in
theorem ends_main (f : Fr) (A : Option Addr) (c : Nat) (w : World) (h0 : 0 ≤ f.id) (hr : Rd w A (bys f.data)) (hby : isBytes f.data) (hk : f.kind = 1) (hok : okF f = true) :
    Calls Try.prog 14 #[frv f (.slice A f.data.length c)] w fun e w' => e = .returned (.bool true) ∧ Below w.heap.size w w' := by
  have hl8 := okF_len1 f hk hok
  have HM := Lib.hid (fun W => mine_any f A c W (by omega))
  rw [hok, decide_eq_true hk] at HM
  obtain ⟨NR, hNR⟩ : ∃ NR, (stuffN (bodyC f)).length = NR := ⟨_, rfl⟩
  obtain ⟨NH, hNH⟩ : ∃ NH, (stuffN (headL f)).length = NH := ⟨_, rfl⟩
  have hNR2 : NR ≤ 150 ∧ 34 ≤ NR := by
    have h1 := stuffN_le (bodyC f)
    have h2 : (bodyC f).length ≤ 118 ∧ 34 ≤ (bodyC f).length := by rw [bodyC_length]; split <;> omega
    have h3 := stuffN_ge (bodyC f)
    omega
  have hNH2 : 15 ≤ NH := by
    have h3 := stuffN_ge (headL f)
    have h2 : 15 ≤ (headL f).length := by rw [headL_length]; split <;> omega
    omega
  have hNHR : NH + 19 ≤ NR := by have := rawC_head f; omega
  have HW := Lib.hid (fun W (hW : Rd W A (bys f.data)) => Wire_ok f A c NR NH W hk hok h0 hW hby hNR hNH)
  have HWI : Hid (wireC f = stuffN (bodyC f) ++ List.replicate 10 1) := rfl
  have hbits := wireC_bits f
  obtain ⟨l0, hl0⟩ := raw_zero f
  have HRUN5 := Lib.hid (run_raw (bodyC f))
  have HRUN10 := Lib.hid (run_tail (stuffN (bodyC f)))
  have HR := Lib.hid hr
  obtain ⟨ra, hra⟩ : ∃ ra, stuffN (bodyC f) = ra := ⟨_, rfl⟩
  rw [hra] at HWI HRUN5 HRUN10 hl0 hNR
  obtain ⟨wi, hwi⟩ : ∃ wi, wireC f = wi := ⟨_, rfl⟩
  rw [hwi] at HWI HW hbits
  rw [← HWI.out] at HRUN10
  have hl1 : wi.length = NR + 10 := by rw [HWI.out, List.length_append, hNR]; simp
  have hok2 : (if bitsOk wi then (0 : Int) else 2) = 0 := by
    rw [if_pos]
    unfold bitsOk
    rw [decide_eq_true hbits, decide_eq_true (by omega)]; rfl
  have hw0 : wi[0]? = some 0 := by rw [HWI.out, hl0]; rfl
  obtain ⟨kind, id, ext, rtr, brs, esi, sec, sdt, vcid, af, data⟩ := f
  dsimp only [frv] at *
  generalize data.length = n at *
  have HNR := Lib.hid hNR
  have HL1 := Lib.hid hl1
  have HOK2 := Lib.hid hok2
  have HW0 := Lib.hid hw0
  obtain ⟨nw, hnw⟩ : ∃ nw, NR + 10 = nw := ⟨_, rfl⟩
  rw [hnw] at HW HL1
  have hsub10 : IntKind.i64.wrap ((nw : Int) - 10) = (NR : Int) := by rw [IntWalk.i64_in _ (by omega)]; omega
  have hn30 : ¬ (nw : Int) < 30 := by omega
  have hack : ((NR : Int) + 1 != IntKind.i64.wrap ((nw : Int) - 9)) = false := by rw [IntWalk.i64_in _ (by omega)]; simp; omega
  have hnh12 : ¬ (NH : Int) < 12 := by omega
  have hnh3 : ¬ (IntKind.i64.wrap (((NR : Int) + 1) - 10)) < (NH : Int) := by rw [IntWalk.i64_in _ (by omega)]; omega
  have HS10 := Lib.hid hsub10
  have hq1 : ((NR : Int) + 1) = (nw : Int) - 9 := by omega
  have hq2 : (NH : Int) + 19 ≤ (NR : Int) := by omega
  have hNRnw : NR ≤ nw ∧ 0 < nw ∧ nw ≤ 160 := by omega
  clear hr hNR hNH hok hk h0 hby hra hwi hbits hl0 hl1 hok2 hw0 hnw hsub10 hack hnh3 hNR2 hNH2 hNHR hl8
  go_enter Try.func14, Try.ntmps14
  go_wp2_with fail
  refine calls_blk1 (fun W0 q1 hb => ?_)
  have HB := Lib.hid hb
  obtain ⟨a0, a1, a2, a3, a4, a5, a6, a7, a8, a9, a10⟩ := ext11 q1
  have hsz := ext_lt q1
  clear hb q1
  refine (extc_same (alive06 _)).mono ?_
  rintro x _ ⟨e1, rfl, rfl⟩
  go_wp2_with fail
  refine (extc (HW.out _ ((HR.out.below HB.out).ext e1))).mono ?_
  rintro x _ ⟨e3, rfl, A4, c4, rfl, hrow4⟩
  obtain ⟨ga, rfl, hga, hca1, hca2⟩ := row_some (n := nw) hrow4 (by rw [HL1.out]) (by omega)
  have HROW4 := Lib.hid hrow4
  clear hrow4
  go_wp2_with fail
  obtain ⟨gb, hgb⟩ : ∃ gb, e3.W.heap.size = gb := ⟨_, rfl⟩
  rw [hgb]
  refine calls_name (T := fun W1 => W1.heap[gb]? = some (.cells #[.slice (some ⟨ga, 0, none⟩) nw c4, .int .i64 NH, .int .i64 ((nw : Int) - 9)] 66) ∧ Below W0.heap.size W0 W1 ∧ Below e3.W.heap.size e3.W W1) ⟨heap_new_at hgb.symm, below_alloc e3.below _, below_alloc (Below.refl _ _) _⟩ ?_
  rintro W1 ⟨q2, hb1, hb31⟩
  replace a0 := liftE hb1 a0
  replace a1 := liftE hb1 a1
  replace a2 := liftE hb1 a2
  replace a3 := liftE hb1 a3
  replace a4 := liftE hb1 a4
  replace a5 := liftE hb1 a5
  replace a6 := liftE hb1 a6
  replace a7 := liftE hb1 a7
  replace a8 := liftE hb1 a8
  replace a9 := liftE hb1 a9
  replace a10 := liftE hb1 a10
  have c0 := fun e : Ext W1 => cell_of_heap (heap_below e.below q2) 0 _ rfl
  have c1 : ∀ e : Ext W1, e.W.cell? ⟨gb, 1, none⟩ = some (.int .i64 NH) := fun e => cell_of_heap (heap_below e.below q2) 1 _ rfl
  have c2 : ∀ e : Ext W1, e.W.cell? ⟨gb, 2, none⟩ = some (.int .i64 ((nw : Int) - 9)) := fun e => cell_of_heap (heap_below e.below q2) 2 _ rfl
  have z0 : ∀ e : Ext W1, e.W.cell? ⟨ga, 0, none⟩ = some (.int .u8 0) := fun e => row_at HROW4.out (below_trans hb31 e.below) 0 0 HW0.out
  have HRD := Lib.hid (fun e : Ext W1 => (HROW4.out.rd.below hb31).ext e)
  have HB1 := Lib.hid hb1
  clear hsz hb1 q2 hgb hb31
  refine (extc_same (HM.out _)).mono ?_
  rintro x _ ⟨e2, rfl, rfl⟩
  go_wp2_with fail
  have hchk := BitsCheck_any (some ⟨ga, 0, none⟩) nw c4 wi e2.W (HRD.out e2) HL1.out (by omega)
  rw [HOK2.out] at hchk
  refine hchk.mono ?_
  rintro x _ ⟨rfl, rfl⟩
  clear hchk
  go_wp2_with fail
  refine (extc (runBits_any ga 0 nw c4 (some ⟨ga, 0, none⟩) wi e2.W (fun _ => rfl) HL1.out (by omega) (HRD.out e2))).mono ?_
  rintro x _ ⟨e5, rfl, r, rfl, hrun⟩
  have hr10 : (10 : Int) ≤ (r : Int) := by have := HRUN10.out r hrun; omega
  clear hrun
  go_wp2_with fail
  have hr2 : Rd e5.W (some ⟨ga, 0, none⟩) (bys ra) := rd_left (b := List.replicate 10 1) (by rw [← HWI.out]; exact HRD.out e5)
  have hnr : ra.length = nw - 10 := by have := HNR.out; omega
  refine (extc (runBits_any ga 0 (nw - 10) c4 (some ⟨ga, 0, none⟩) ra e5.W (fun _ => rfl) hnr (by omega) hr2)).mono ?_
  rintro x _ ⟨e6, rfl, r2, rfl, hrun⟩
  have hr5 : (r2 : Int) ≤ 5 := by have := HRUN5.out r2 hrun; omega
  clear hrun hr2 hnr
  go_wp2_with fail
  go_ret
  exact ⟨rfl, below_trans HB.out (below_trans HB1.out e6.below)⟩
theorem ends_walk (f : Fr) (A : Option Addr) (c : Nat) (w : World) (hf : f.data.length ≤ 9223372036854775807) (h0 : 0 ≤ f.id) (hr : Rd w A (bys f.data)) (hby : isBytes f.data) :
    Calls Try.prog 14 #[frv f (.slice A f.data.length c)] w fun e w' => e = .returned (.bool true) ∧ Below w.heap.size w w' := by
  by_cases hm : f.kind = 1 ∧ okF f = true
  · exact ends_main f A c w h0 hr hby hm.1 hm.2
  · exact ends_no f A c w hf hm
end Go.Proofs.Ytbjeblffmgghgaa
