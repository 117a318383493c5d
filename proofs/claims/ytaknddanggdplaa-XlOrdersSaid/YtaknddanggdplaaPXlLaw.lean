/- XL frames on the wire: lengths, runs, and where two of them first differ: plain laws of lists. No condition. -/
import Derived.Test.YtaknddanggdplaaXlWire
import Derived.Test.YtaknddanggdplaaPRuns
namespace Go.Proofs.Ytaknddanggdplaa
open Go.RowKit
theorem xl_len (f : Fr) (hk : f.kind = 3) (hok : okF f = true) : f.data.length ≤ 2048 := (okX f hk hok).2.2.1
theorem headX_zero (f : Fr) : ∃ l, headX f = 0 :: l := ⟨_, rfl⟩
theorem stuffN_zero' (l : List Nat) : ∃ m, stuffN (0 :: l) = 0 :: m := ⟨_, rfl⟩
theorem rawX_zero (f : Fr) : ∃ l, rawX f = 0 :: l := by
  obtain ⟨l, hl⟩ := headX_zero f
  obtain ⟨m, hm⟩ := stuffN_zero' l
  unfold rawX
  rw [hl, hm]
  exact ⟨_, rfl⟩
theorem stuffX_le (f : Fr) : (stuffN (headX f)).length ≤ 21 ∧ 17 ≤ (stuffN (headX f)).length := by
  have h1 := stuffN_len (headX f) (by obtain ⟨l, hl⟩ := headX_zero f; rw [hl]; simp)
  have h2 := stuffN_ge (headX f)
  rw [headX_length] at h1 h2
  omega
theorem fixX_length (f : Fr) : (fixN 8 false 1 (bodyX f)).length = 109 + 8 * f.data.length + (108 + 8 * f.data.length) / 8 := by
  rw [fixN_length 8 false 1 (bodyX f) (by decide), bodyX_length, if_neg (by omega)]
  simp
theorem rawX_len (f : Fr) : (rawX f).length = (stuffN (headX f)).length + 8 + (109 + 8 * f.data.length + (108 + 8 * f.data.length) / 8) := by
  unfold rawX
  simp only [List.length_append, fixX_length, List.length_cons, List.length_nil]
  omega
theorem xl_bound (f : Fr) (hk : f.kind = 3) (hok : okF f = true) : (stuffN (headX f)).length + 19 ≤ (rawX f).length ∧ (rawX f).length ≤ 40000 ∧ 12 ≤ (stuffN (headX f)).length := by
  have h1 := stuffX_le f
  have h2 := rawX_len f
  have h3 := xl_len f hk hok
  omega
theorem rawX_bits (f : Fr) : ∀ x ∈ rawX f, x ≤ 1 := by
  intro x hx
  unfold rawX at hx
  simp only [List.mem_append] at hx
  rcases hx with ((h | h) | h) | h
  · exact stuffN_bits _ (headX_bits f) x h
  · simp at h; omega
  · exact fixE_bits 8 _ (bodyX_bits f) _ _ x h
  · simp at h; omega
theorem leftE_7 (m : Nat) : leftE 8 8 (109 + 8 * m) = 3 := by
  have h8 : ∀ n, leftE 8 7 (n + 8) = leftE 8 7 n := fun n => by simp [leftE]
  have hk : ∀ k, leftE 8 7 (4 + 8 * k) = 3 := by
    intro k
    induction k with
    | zero => rfl
    | succ k ih => rw [show 4 + 8 * (k + 1) = (4 + 8 * k) + 8 by omega, h8]; exact ih
  rw [show 109 + 8 * m = (4 + 8 * (13 + m)) + 1 by omega]
  simp only [leftE]
  exact hk _
theorem start_runs (a r : Nat) (h : r ≤ 5) : runsM 9 a r [1, 0, 0, 1] = true ∧ rawE a r [1, 0, 0, 1] = (1, 1) := by
  have h1 := seeN_le a r 1
  constructor
  · simp only [runsM, Bool.and_eq_true, decide_eq_true_eq]
    refine ⟨by omega, ?_⟩
    simp [seeN]
  · simp [rawE, seeN]
theorem stop_runs (a r : Nat) (h : r ≤ 6) : runsM 9 a r [0, 1, 1, 0] = true := by
  have h1 := seeN_le a r 0
  simp only [runsM, Bool.and_eq_true, decide_eq_true_eq]
  refine ⟨by omega, ?_⟩
  simp [seeN]
theorem rawX_runs (f : Fr) : runsM 9 0 0 (rawX f) = true := by
  have hA := runsM_of 9 (by omega) _ 0 0 (stuffN_runs (headX f))
  have hA5 : (rawE 0 0 (stuffN (headX f))).2 ≤ 5 := by unfold stuffN; rw [rawE_stf _ 0 0 (by omega)]; exact stE_le _ 0 0 (by omega)
  obtain ⟨s1, s2⟩ := start_runs (rawE 0 0 (stuffN (headX f))).1 _ hA5
  obtain ⟨f1, f2, f3⟩ := fix_runs 8 (by omega) (bodyX f) (bodyX_bits f) 1 1 8 (by omega) (by omega) (by omega)
  rw [bodyX_length, leftE_7] at f2
  have hF : fixN 8 false 1 (bodyX f) = fixE 8 1 8 (bodyX f) := rfl
  have eB : rawE 0 0 (stuffN (headX f) ++ [1, 0, 0, 1]) = (1, 1) := by rw [rawE_append, s2]
  have eF : rawE 0 0 (stuffN (headX f) ++ [1, 0, 0, 1] ++ fixE 8 1 8 (bodyX f)) = rawE 1 1 (fixE 8 1 8 (bodyX f)) := by rw [rawE_append, eB]
  unfold rawX
  rw [hF, runsM_append, runsM_append, runsM_append, eF, eB, hA, s1, f1, stop_runs _ _ (by omega)]
  rfl
theorem rawX_see (f : Fr) : SeeOk 9 (stuffN (headX f)).length (rawX f) := by
  intro k hk
  refine ⟨runsM_at 9 _ (rawX_runs f) k hk, fun hk2 => ?_⟩
  have h := runs_at (stuffN (headX f)) (stuffN_runs (headX f)) k hk2
  have e : ∃ l, rawX f = stuffN (headX f) ++ l := ⟨[1, 0, 0, 1] ++ fixN 8 false 1 (bodyX f) ++ [0, 1, 1, 0], by unfold rawX; simp only [List.append_assoc]⟩
  obtain ⟨l, e⟩ := e
  have e1 : (rawX f).take k = (stuffN (headX f)).take k := by rw [e, List.take_append_of_le_length (by omega)]
  have e2 : (rawX f)[k] = (stuffN (headX f))[k] := by
    have h3 : (rawX f)[k]? = some (stuffN (headX f))[k] := by rw [e, List.getElem?_append_left hk2, List.getElem?_eq_getElem hk2]
    exact (List.getElem?_eq_some_iff.1 h3).2
  rw [e1, e2]
  exact h
/-! ### where two frames differ -/
theorem headX_first (f g : Fr) (f0 : 0 ≤ f.id) (f1 : f.id < 2048) (g0 : 0 ≤ g.id) (g1 : g.id < 2048) (hne : f.id ≠ g.id) : First (f.id < g.id) (headX f) (headX g) := by
  obtain ⟨n, hn⟩ := Int.eq_ofNat_of_zero_le f0
  obtain ⟨m, hm⟩ := Int.eq_ofNat_of_zero_le g0
  unfold headX
  rw [hn, hm]
  simp only [Int.toNat_natCast]
  have h : First (n < m) (bitsN n 11) (bitsN m 11) := bitsN_first 11 n m (by omega) (by omega) (by omega)
  exact ((h.ahead (bitsN 0 1)).behind (bitsN 6 5) (bitsN 6 5)).iff (by omega)
theorem wireX_head (f : Fr) : ∃ l, wireX f = stuffN (headX f) ++ l := ⟨[1, 0, 0, 1] ++ fixN 8 false 1 (bodyX f) ++ [0, 1, 1, 0] ++ List.replicate 10 1, by unfold wireX rawX; simp only [List.append_assoc]⟩
theorem xlOrders_plain (f g : Fr) (hk : f.kind = 3) (hkg : g.kind = 3) (fo : okF f = true) (go : okF g = true) (f0 : 0 ≤ f.id) (g0 : 0 ≤ g.id) (hne : f.id ≠ g.id) :
    ∃ j, j < (stuffN (headX f)).length ∧ j < (stuffN (headX g)).length ∧ (∀ i, i < j → (wireX f)[i]? = (wireX g)[i]?) ∧ ∃ x y, (wireX f)[j]? = some x ∧ (wireX g)[j]? = some y ∧ x ≠ y ∧ (x = 0 ↔ f.id < g.id) := by
  have h := (headX_first f g f0 (okX f hk fo).1 g0 (okX g hkg go).1 hne).stuffed
  obtain ⟨j, h1, h2, h3, x, y, h4, h5, h6⟩ := h.at
  obtain ⟨l, el⟩ := wireX_head f
  obtain ⟨m, em⟩ := wireX_head g
  rw [el, em]
  refine ⟨j, h1, h2, fun i hi => ?_, x, y, ?_, ?_, h6⟩
  · rw [List.getElem?_append_left (by omega), List.getElem?_append_left (by omega)]; exact h3 i hi
  · rw [List.getElem?_append_left h1]; exact h4
  · rw [List.getElem?_append_left h2]; exact h5
theorem okX_bare (f : Fr) (hk : f.kind = 3) (h : okF f = true) : f.ext = false ∧ f.rtr = false ∧ f.brs = false ∧ f.esi = false := by
  unfold okF at h
  simp only [Bool.and_eq_true] at h
  have h2 := h.2
  unfold sameF bareF zeroF at h2
  rw [hk] at h2
  simp at h2
  simp_all
theorem sameX (f g : Fr) (fk : f.kind = 3) (gk : g.kind = 3) (fo : okF f = true) (go : okF g = true) : sameF f g = decide (f.id = g.id ∧ f.sec = g.sec ∧ f.sdt = g.sdt ∧ f.vcid = g.vcid ∧ f.af = g.af ∧ f.data = g.data) := by
  obtain ⟨a1, a2, a3, a4⟩ := okX_bare f fk fo
  obtain ⟨b1, b2, b3, b4⟩ := okX_bare g gk go
  unfold sameF
  rw [fk, gk, a1, a2, a3, a4, b1, b2, b3, b4]
  rw [Bool.eq_iff_iff]
  simp only [decide_eq_true_eq]
  constructor
  · intro h; simp_all
  · intro h; simp_all
theorem codeX_eq (f : Fr) (hk : f.kind = 3) (hok : okF f = true) : codeX f = f.data.length - 1 := by
  unfold codeX
  rw [(okX f hk hok).2.2.2]
  simp
theorem toNat_ne {a b : Int} (ha : 0 ≤ a) (hb : 0 ≤ b) (h : a ≠ b) : a.toNat ≠ b.toNat := by omega
theorem wireX_diff (f g : Fr) (fk : f.kind = 3) (gk : g.kind = 3) (fo : okF f = true) (go : okF g = true) (fn : FrN f) (gn : FrN g) (h : ¬ (f.id = g.id ∧ f.sec = g.sec ∧ f.sdt = g.sdt ∧ f.vcid = g.vcid ∧ f.af = g.af ∧ f.data = g.data)) : Diff (wireX f) (wireX g) := by
  obtain ⟨fi, fl1, fl2, -⟩ := okX f fk fo
  obtain ⟨gi, gl1, gl2, -⟩ := okX g gk go
  by_cases hid : f.id = g.id
  · have hh : headX f = headX g := by unfold headX; rw [hid]
    suffices hb : Diff (bodyX f) (bodyX g) by
      unfold wireX rawX
      rw [hh]
      exact (((hb.fixed 8 false 1).ahead _).behind _ _).behind _ _
    unfold bodyX
    refine Diff.behind ?_ _ _
    unfold part3X
    by_cases h1 : f.sdt = g.sdt ∧ f.sec = g.sec ∧ f.data.length = g.data.length
    · obtain ⟨hsd, hse, hl⟩ := h1
      have hp1 : part1X f = part1X g := by unfold part1X; rw [hh, hsd, hse, codeX_eq f fk fo, codeX_eq g gk go, hl]
      have hp2 : part2X f = part2X g := by unfold part2X; rw [hp1, hh]
      rw [hp2]
      by_cases hv : f.vcid = g.vcid
      · rw [hv]
        by_cases ha : f.af = g.af
        · rw [ha]
          exact (bytesN_diff f.data g.data hl fn.data gn.data (fun hd => h ⟨hid, hse, hsd, hv, ha, hd⟩)).ahead _
        · exact Diff.behind (Diff.ahead (bitsN_diff 32 _ _ (by have := fn.af; omega) (by have := gn.af; omega) (toNat_ne fn.af.1 gn.af.1 ha)) _) _ _
      · exact Diff.behind (Diff.behind (Diff.ahead (bitsN_diff 8 _ _ (by have := fn.vcid; omega) (by have := gn.vcid; omega) (toNat_ne fn.vcid.1 gn.vcid.1 hv)) _) _ _) _ _
    · refine Diff.behind (Diff.behind (Diff.behind ?_ _ _) _ _) _ _
      unfold part2X
      refine Diff.behind ?_ _ _
      unfold part1X
      rw [hh, codeX_eq f fk fo, codeX_eq g gk go]
      refine Diff.behind ?_ _ _
      by_cases hsd : f.sdt = g.sdt
      · rw [hsd]
        by_cases hse : f.sec = g.sec
        · rw [hse]
          exact Diff.ahead (bitsN_diff 11 _ _ (by omega) (by omega) (fun hl => h1 ⟨hsd, hse, by omega⟩)) _
        · have hb := bitB_inj hse
          exact Diff.behind (Diff.ahead (bitsN_diff 1 _ _ (by cases f.sec <;> decide) (by cases g.sec <;> decide) hb) _) _ _
      · exact Diff.behind (Diff.behind (bitsN_diff 8 _ _ (by have := fn.sdt; omega) (by have := gn.sdt; omega) (toNat_ne fn.sdt.1 gn.sdt.1 hsd)) _ _) _ _
  · have hF := (headX_first f g fn.id0 fi gn.id0 gi hid).stuffed.diff
    obtain ⟨l, el⟩ := wireX_head f
    obtain ⟨m, em⟩ := wireX_head g
    rw [el, em]
    exact hF.behind _ _
theorem wireX_same (f g : Fr) (fk : f.kind = 3) (gk : g.kind = 3) (h : f.id = g.id ∧ f.sec = g.sec ∧ f.sdt = g.sdt ∧ f.vcid = g.vcid ∧ f.af = g.af ∧ f.data = g.data) : wireX f = wireX g := by
  obtain ⟨h1, h2, h3, h4, h5, h6⟩ := h
  have hh : headX f = headX g := by unfold headX; rw [h1]
  have hc : codeX f = codeX g := by unfold codeX; rw [fk, gk, h6]
  have hp1 : part1X f = part1X g := by unfold part1X; rw [hh, h2, h3, hc]
  have hp2 : part2X f = part2X g := by unfold part2X; rw [hp1, hh]
  have hp3 : part3X f = part3X g := by unfold part3X; rw [hp2, h4, h5, h6]
  have hb : bodyX f = bodyX g := by unfold bodyX; rw [hp3]
  unfold wireX rawX
  rw [hh, hb]
theorem xlApart_plain (f g : Fr) (fk : f.kind = 3) (gk : g.kind = 3) (fo : okF f = true) (go : okF g = true) (fn : FrN f) (gn : FrN g) :
    diffB (wireX f) (wireX g) (min (wireX f).length (wireX g).length) = !sameF f g := by
  rw [sameX f g fk gk fo go]
  by_cases h : f.id = g.id ∧ f.sec = g.sec ∧ f.sdt = g.sdt ∧ f.vcid = g.vcid ∧ f.af = g.af ∧ f.data = g.data
  · rw [decide_eq_true h, wireX_same f g fk gk h, same_apart]; rfl
  · rw [decide_eq_false h, diff_apart (wireX_diff f g fk gk fo go fn gn h)]; rfl
end Go.Proofs.Ytaknddanggdplaa
