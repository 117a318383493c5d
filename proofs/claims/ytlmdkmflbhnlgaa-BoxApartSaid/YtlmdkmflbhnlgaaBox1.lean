/- box: small walks, and New. No condition. -/
import Derived.Test.YtlmdkmflbhnlgaaBox0
namespace Go.Proofs.Ytlmdkmflbhnlgaa
open Go.RowKit
theorem count0_any (b k : Nat) (n : Nat) (w : World) (h : w.cell? ⟨b, k, none⟩ = some (.int .i64 n)) (hz : w.frozen? ⟨b, k, none⟩ = false) (hn : n ≤ 1000000) :
    Calls Try.prog 36 #[.int .i64 0, .pointer (some ⟨b, k, none⟩)] w fun e w' => e = .returned (.int .i64 0) ∧ w' = w.setCell ⟨b, k, none⟩ (.int .i64 ((n : Int) + 1)) := by
  go_enter Try.func36, Try.ntmps36
  go_wp2
  go_ret
  exact ⟨rfl, rfl⟩
theorem countE_any (e0 : Int) (b k : Nat) (w : World) (he : e0 ≠ 0) :
    Calls Try.prog 36 #[.int .i64 e0, .pointer (some ⟨b, k, none⟩)] w fun e w' => e = .returned (.int .i64 e0) ∧ w = w' := by
  have h0 : (e0 == 0) = false := by simp [he]
  go_enter Try.func36, Try.ntmps36
  go_wp2
  go_ret
  exact ⟨rfl, rfl⟩
theorem gone_any (b : Nat) (w : World) : Calls Try.prog 49 #[.pointer (some ⟨b, 5, none⟩)] w fun e w' => e = .returned (.pointer (some ⟨b, 9, none⟩)) ∧ w = w' := by
  go_enter Try.func49, Try.ntmps49
  go_wp2
  go_ret
  exact ⟨rfl, rfl⟩
theorem sent_any (b : Nat) (w : World) : Calls Try.prog 48 #[.pointer (some ⟨b, 5, none⟩)] w fun e w' => e = .returned (.pointer (some ⟨b, 8, none⟩)) ∧ w = w' := by
  go_enter Try.func48, Try.ntmps48
  go_wp2
  go_ret
  exact ⟨rfl, rfl⟩
theorem info_rule : ∃ i : TypeInfo, Try.prog.info? 91 = some i ∧ i.zero = some (.agg #[.int .i64 0, .int .u32 0, .int .u32 0, .int .u8 0, .int .u8 0, .int .u8 0, .int .u8 0, .int .u32 0, .int .u32 0, .bool false]) ∧ i.size = 10 ∧ i.bytes = 32 := by
  have h : (Try.prog.info? 91).isSome = true ∧ (∀ i, Try.prog.info? 91 = some i → i.zero = some (.agg #[.int .i64 0, .int .u32 0, .int .u32 0, .int .u8 0, .int .u8 0, .int .u8 0, .int .u8 0, .int .u32 0, .int .u32 0, .bool false]) ∧ i.size = 10 ∧ i.bytes = 32) := by
    refine ⟨by kernel_rfl, fun i hi => ?_⟩
    have h2 : (Try.prog.info? 91).map (fun i => (i.size, i.bytes)) = some (10, 32) := by kernel_rfl
    have h3 : (Try.prog.info? 91).bind (fun i => i.zero) = some (.agg #[.int .i64 0, .int .u32 0, .int .u32 0, .int .u8 0, .int .u8 0, .int .u8 0, .int .u8 0, .int .u32 0, .int .u32 0, .bool false]) := by kernel_rfl
    rw [hi] at h2 h3
    simp at h2 h3
    exact ⟨h3, h2⟩
  obtain ⟨i, hi⟩ := Option.isSome_iff_exists.1 h.1
  exact ⟨i, hi, h.2 i hi⟩
set_option maxRecDepth 100000 in
/-- append of rules onto nothing. -/
theorem run_app_rules (w : World) (base : Nat) (A : Option Addr) (n c : Nat) (rs : List Ru) (hr : RdRu w A rs) (hn : rs.length = n) (hz : A = none → c = 0) (h32 : n ≤ 32) (hb : base ≤ w.heap.size) :
    ∃ A' c' w', (Builtin.append_ #[33, 33] 33 #[.slice none 0 0, .slice A n c]).run Try.prog w = .ok (.slice A' n c') w' ∧ RRow w' base A' c' rs ∧ Below w.heap.size w w' := by
  obtain ⟨i0, hi, hz0, hz1, hz2⟩ := info_rule
  cases A with
  | none =>
    have : rs = [] := by
      cases rs with
      | nil => rfl
      | cons x l => obtain ⟨ad, e, _⟩ := hr 0 (by simp); cases e
    subst this
    obtain rfl : c = 0 := hz rfl
    obtain rfl : n = 0 := by simpa using hn.symm
    have := run_append_owned_none (P := Try.prog) w base 33 33 91 i0 10 Try.underlying33 hi (.slice none 0 0) 0 [] ⟨rfl, .inl ⟨rfl, rfl⟩⟩
    exact ⟨none, 0, w, this, .inl ⟨rfl, rfl, rfl⟩, Below.refl _ _⟩
  | some ad =>
    have hcells : ∀ j u, (rs.flatMap ruL)[j]? = some u → w.cell? (ad.add j) = some u := fun j u hj => by
      have hlt : j < rs.length * 10 := by have := (List.getElem?_eq_some_iff.1 hj).1; rwa [flat_length ruL_length] at this
      have e : j = j / 10 * 10 + j % 10 := by omega
      rw [e, flat_get ruL_length rs (j / 10) (by omega) (j % 10) (by omega)] at hj
      obtain ⟨ad', e', hc⟩ := hr (j / 10) (by omega)
      injection e' with e'
      subst e'
      have := hc (j % 10) u hj
      rw [add_of_add] at this
      rw [e]; exact this
    have hone : ∀ u ∈ rs.flatMap ruL, u.oneCell' = true := fun u hu => by
      obtain ⟨r, _, h⟩ := List.mem_flatMap.1 hu
      exact ruL_one r u h
    obtain ⟨v', w', hrun, h2, h3, _, h5⟩ := run_append_own_at (P := Try.prog) w base 33 33 91 i0 _ 10 32 Try.underlying33 hi hz0 hz1 hz2 rfl (by omega) (.slice none 0 0) 0 [] ⟨rfl, .inl ⟨rfl, rfl⟩⟩ ad n c (rs.flatMap ruL) (by rw [flat_length ruL_length, hn]) hcells hone (by unfold maxLen; omega) (by omega) hb
    rw [Nat.zero_add, List.nil_append] at h2
    obtain ⟨A', c', rfl, hrow⟩ := RRow.of h2 hn
    exact ⟨A', c', w', hrun, hrow, (Below.refl w.heap.size w).grown h3 (Nat.le_refl _) (fun k hk => by cases hk)⟩
end Go.Proofs.Ytlmdkmflbhnlgaa
