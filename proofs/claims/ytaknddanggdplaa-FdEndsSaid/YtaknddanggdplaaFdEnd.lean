/- How an FD frame ends. No condition. -/
import Derived.Test.YtaknddanggdplaaPFd
import Derived.Test.YtaknddanggdplaaRunTail
namespace Go.Proofs.Ytaknddanggdplaa
open Go.RowKit
theorem run_state (l : List Nat) (r : Nat) (h : RunIs l r) : r ≤ (rawE 0 0 l).2 := by
  have ht := tails_raw l 0 0 [] (.inl ⟨rfl, rfl⟩)
  rw [List.nil_append] at ht
  generalize (rawE 0 0 l).1 = last at *
  generalize (rawE 0 0 l).2 = run at *
  obtain ⟨h1, h2, h3⟩ := h
  refine Classical.byContradiction fun hgt => ?_
  rcases ht with ⟨rfl, rfl⟩ | ⟨hr1, pre, rfl, hp⟩
  · simp at h1; omega
  · have e0 : endN (pre ++ List.replicate run last) 0 = last := by
      unfold endN
      rw [List.getElem?_append_right (by simp; omega), List.getElem?_replicate, if_pos (by simp; omega)]; rfl
    have e1 := h2 run (by omega)
    rw [e0] at e1
    rcases List.eq_nil_or_concat pre with rfl | ⟨p, y, hpre⟩
    · simp at h1; omega
    · rw [List.concat_eq_append] at hpre
      subst hpre
      have hy := hp p y rfl
      unfold endN at e1
      have hlen : (p ++ [y] ++ List.replicate run last).length - 1 - run = p.length := by simp
      rw [hlen, List.getElem?_append_left (by simp), List.getElem?_append_right (by omega)] at e1
      simp at e1
      exact hy e1
theorem rawD_end (f : Fr) (r : Nat) (h : RunIs (rawD f) r) : r ≤ 5 := by
  have h1 := run_state _ r h
  have h2 := (rawD_runs f).2
  omega
end Go.Proofs.Ytaknddanggdplaa
