/- What stays so in a box, through any acts: plain facts. No condition. -/
import Derived.Test.YtlmdkmflbhnlgaaActs
namespace Go.Proofs.Ytlmdkmflbhnlgaa
open Go.RowKit
structure InvB (T : BX) : Prop where
  put : T.put = T.q.length + T.sent + T.gone
  came : T.came = T.kept + T.refused + T.over
  kept : T.kept = T.l.length + T.taken
  oroom : T.q.length ≤ T.oroom
  iroom : T.l.length ≤ T.iroom
  nodup : (T.q.map (·.no)).Nodup
  nos : ∀ y ∈ T.q, y.no ≤ (T.last : Int)
theorem rmQ_none {no : Int} {q : List QE} (h : ∀ y ∈ q, y.no ≠ no) : rmQ no q = q := by
  unfold rmQ
  rw [List.filter_eq_self]
  intro y hy; simpa using h y hy
theorem rmQ_length {no : Int} {q : List QE} (hnd : (q.map (·.no)).Nodup) (h : hasQ no q = true) : (rmQ no q).length + 1 = q.length := by
  induction q with
  | nil => simp [hasQ] at h
  | cons y q ih =>
    rw [List.map_cons, List.nodup_cons] at hnd
    by_cases e : y.no = no
    · have h0 : rmQ no q = q := rmQ_none fun z hz e2 => hnd.1 (by rw [e, ← e2]; exact List.mem_map_of_mem hz)
      have : rmQ no (y :: q) = rmQ no q := by unfold rmQ; rw [List.filter_cons, if_neg (by simp [e])]
      rw [this, h0]; rfl
    · have h1 : hasQ no q = true := by
        unfold hasQ at h ⊢
        rw [List.any_cons, decide_eq_false e, Bool.false_or] at h
        exact h
      have : rmQ no (y :: q) = y :: rmQ no q := by unfold rmQ; rw [List.filter_cons, if_pos (by simp [e])]
      rw [this, List.length_cons, ih hnd.2 h1, List.length_cons]
theorem InvB.new (rs : List Ru) (els xl : Bool) (out inn : Nat) : InvB (newX rs els xl out inn) := ⟨rfl, rfl, rfl, Nat.zero_le _, Nat.zero_le _, List.nodup_nil, fun y hy => by simp [newX] at hy⟩
theorem InvB.gone {T : BX} (h : InvB T) (no : Int) : InvB (goneT T no) := by
  unfold goneT
  split
  · rename_i hh
    have hl := rmQ_length h.nodup hh
    refine ⟨?_, h.came, h.kept, ?_, h.iroom, ?_, fun y hy => h.nos y ((List.mem_filter.1 hy).1)⟩
    · have := h.put; dsimp only; omega
    · have := h.oroom; dsimp only; omega
    · exact h.nodup.sublist ((List.filter_sublist).map _)
  · exact h
theorem InvB.sent {T : BX} (h : InvB T) (no : Int) : InvB (sentT T no) := by
  unfold sentT
  split
  · rename_i hh
    have hl := rmQ_length h.nodup hh
    refine ⟨?_, h.came, h.kept, ?_, h.iroom, ?_, fun y hy => h.nos y ((List.mem_filter.1 hy).1)⟩
    · have := h.put; dsimp only; omega
    · have := h.oroom; dsimp only; omega
    · exact h.nodup.sublist ((List.filter_sublist).map _)
  · exact h
theorem InvB.come {T : BX} (h : InvB T) (f : Fr) : InvB (comeT T f) := by
  unfold comeT
  have h1 := h.came
  have h2 := h.kept
  split
  · split
    · split
      · rename_i hr
        exact ⟨h.put, by dsimp only; omega, by dsimp only; rw [List.length_append, List.length_singleton]; omega, h.oroom, by dsimp only; rw [List.length_append, List.length_singleton]; omega, h.nodup, h.nos⟩
      · exact ⟨h.put, by dsimp only; omega, h.kept, h.oroom, h.iroom, h.nodup, h.nos⟩
    · exact ⟨h.put, by dsimp only; omega, h.kept, h.oroom, h.iroom, h.nodup, h.nos⟩
  · exact h
theorem InvB.take {T : BX} (h : InvB T) : InvB (takeT T) := by
  unfold takeT
  have h2 := h.kept
  have h3 := h.iroom
  split
  · exact h
  · rename_i f r e
    rw [e] at h2 h3
    simp only [List.length_cons] at h2 h3
    exact ⟨h.put, h.came, by dsimp only; omega, h.oroom, by dsimp only; omega, h.nodup, h.nos⟩
theorem InvB.putF {T : BX} (h : InvB T) (f : Fr) : InvB (putT T f) := by
  unfold putT
  split
  · exact h
  · split
    · split
      · rename_i hr
        have h1 := h.put
        refine ⟨by dsimp only; rw [insQ_length]; omega, h.came, h.kept, by dsimp only; rw [insQ_length]; omega, h.iroom, ?_, fun y hy => ?_⟩
        · have hp := (insQ_perm ⟨(T.last : Int) + 1, f⟩ T.q).map (·.no)
          rw [List.map_append] at hp
          dsimp only
          rw [hp.nodup_iff, List.nodup_append]
          refine ⟨h.nodup, by simp, fun a ha c hc => ?_⟩
          obtain ⟨x, hx, rfl⟩ := List.mem_map.1 ha
          simp at hc
          have := h.nos x hx
          omega
        · dsimp only
          rcases List.mem_append.1 ((insQ_perm _ _).mem_iff.1 hy) with hy | hy
          · have := h.nos y hy; omega
          · rw [List.mem_singleton.1 hy]; dsimp only; omega
      · exact h
    · exact h
theorem InvB.apply {T : BX} (h : InvB T) (a : Ac) : InvB (applyT T a) := by
  unfold applyT
  (repeat' split)
  · exact h.gone _
  · exact h
  · exact h.sent _
  · exact h.come _
  · exact h.take
  · exact h.putF _
theorem applyT_conf (T : BX) (a : Ac) : (applyT T a).rules = T.rules ∧ (applyT T a).els = T.els ∧ (applyT T a).xl = T.xl ∧ (applyT T a).oroom = T.oroom ∧ (applyT T a).iroom = T.iroom := by
  unfold applyT goneT sentT comeT takeT putT
  (repeat' split) <;> exact ⟨rfl, rfl, rfl, rfl, rfl⟩
end Go.Proofs.Ytlmdkmflbhnlgaa
