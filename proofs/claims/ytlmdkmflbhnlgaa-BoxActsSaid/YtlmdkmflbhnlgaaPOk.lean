/- What it means that a frame may be: plain facts. No condition. -/
import Derived.Test.YtlmdkmflbhnlgaaCheck2
namespace Go.Proofs.Ytlmdkmflbhnlgaa
open Go.RowKit
theorem codeF_kind (k n : Int) (h : (codeF k n).isSome = true) : (k = 1 ∧ 0 ≤ n ∧ n ≤ 8) ∨ (k = 2 ∧ 0 ≤ n ∧ n ≤ 64) ∨ (k = 3 ∧ 1 ≤ n ∧ n ≤ 2048) := by
  unfold codeF loOf hiOf at h
  by_cases h2 : k = 2
  · right; left
    rw [if_pos h2] at h
    refine ⟨h2, ?_⟩
    by_cases hs : fdSizes[lb fdSizes n]? = some n
    · have hm : n ∈ fdSizes := List.mem_of_getElem? hs
      simp [fdSizes] at hm
      omega
    · simp [hs] at h
  · rw [if_neg h2] at h
    by_cases h1 : k = 1
    · left
      simp only [h1, if_true] at h
      by_cases hc : (0 : Int) ≤ n ∧ n ≤ 8
      · exact ⟨h1, hc⟩
      · simp [hc] at h
    · by_cases h3 : k = 3
      · right; right
        subst h3
        by_cases hc : (1 : Int) ≤ n ∧ n ≤ 2048
        · exact ⟨rfl, hc⟩
        · simp [hc] at h
      · simp [h1, h3] at h
        exfalso
        omega
/-- What a frame that may be is like. -/
structure OkF (f : Fr) : Prop where
  kind : f.kind = 1 ∨ f.kind = 2 ∨ f.kind = 3
  size : (codeF f.kind f.data.length).isSome = true
  id : f.id < if f.ext then 536870912 else 2048
  ext : f.kind ≠ 1 → f.ext = false
  rtr : f.kind ≠ 1 → f.rtr = false
  rtr0 : f.rtr = true → f.data = []
  brs : f.kind ≠ 2 → f.brs = false
  esi : f.kind ≠ 2 → f.esi = false
  sec : f.kind ≠ 3 → f.sec = false
  sdt : f.kind ≠ 3 → f.sdt = 0
  vcid : f.kind ≠ 3 → f.vcid = 0
  af : f.kind ≠ 3 → f.af = 0
theorem okF_iff (f : Fr) : okF f = true ↔ OkF f := by
  obtain ⟨kind, id, ext, rtr, brs, esi, sec, sdt, vcid, af, data⟩ := f
  unfold okF limF sameF bareF zeroF
  constructor
  · intro h
    simp at h
    obtain ⟨⟨⟨h1, h2⟩, h3⟩, h4⟩ := h
    have hk := codeF_kind _ _ h1
    obtain ⟨⟨a1, a2, a3, a4, a5⟩, a6, a7, a8⟩ := h4
    refine ⟨?_, h1, h2, ?_, ?_, ?_, ?_, ?_, ?_, ?_, ?_, ?_⟩ <;> dsimp only
    · omega
    all_goals (intro hh; simp_all)
  · rintro ⟨k1, k2, k3, k4, k5, k6, k7, k8, k9, k10, k11, k12⟩
    dsimp only at *
    simp
    refine ⟨⟨⟨k2, k3⟩, ?_⟩, ⟨?_, ?_, ?_, ?_, ?_⟩, ?_, ?_, ?_⟩
    · cases hr : rtr
      · exact .inl rfl
      · exact .inr (k6 hr)
    · by_cases hk : kind = 1
      · exact .inl hk
      · exact .inr (k4 hk)
    · by_cases hk : kind = 1
      · exact .inl hk
      · exact .inr (k5 hk)
    all_goals (by_cases hk2 : kind = 2 <;> by_cases hk3 : kind = 3 <;> simp_all)
end Go.Proofs.Ytlmdkmflbhnlgaa
