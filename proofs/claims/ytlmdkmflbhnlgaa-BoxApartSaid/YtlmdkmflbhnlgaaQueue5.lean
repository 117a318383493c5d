/- queue: where an entry stands. No condition. -/
import Derived.Test.YtlmdkmflbhnlgaaQueue2
namespace Go.Proofs.Ytlmdkmflbhnlgaa
open Go.RowKit
theorem atNo_any (x : QN) (p : Nat) (no : Int) (w : World) (hp : w.cell? ⟨p, 0, none⟩ = some (.int .i64 no)) :
    Calls Try.prog 87 #[qV x, .pointer (some ⟨p, 0, none⟩)] w fun e w' => e = .returned (.bool (decide (x.no = no))) ∧ Below w.heap.size w w' := by
  have hpl : p < w.heap.size := cell_lt hp
  have hp2 := fun o => Below.cell_of (below_alloc (Below.refl _ w) o) hp
  obtain ⟨v, hv⟩ : ∃ v, decide (x.no = no) = v := ⟨_, rfl⟩
  rw [hv]
  have HV := Lib.hid hv
  clear hv
  dsimp only [qV]
  go_enter Try.func87, Try.ntmps87
  go_wp2
  go_ret
  exact ⟨ret_bool (by rw [← HV.out, Bool.eq_iff_iff]; simp), below_alloc (Below.refl _ _) _⟩
/-- Where the first entry of a number stands. -/
def AtNo (l : List QN) (no : Int) (w : World) (e : Ending) (w' : World) : Prop :=
  ((∃ (k : Nat) (h : k < l.length), e = .returned (.int .i64 k) ∧ l[k].no = no) ∨ (e = .returned (.int .i64 (-1)) ∧ ∀ j (h : j < l.length), l[j].no ≠ no)) ∧ Below w.heap.size w w'
set_option maxRecDepth 100000 in
set_option maxHeartbeats 1000000 in
theorem qIndex_any (w : World) (base qb room last cap n p : Nat) (A : Option Addr) (no : Int) (l : List QN) (h : HeapQ w base qb room last A cap l) (hn : l.length = n) (hc : n ≤ 1000) (hp : w.cell? ⟨p, 0, none⟩ = some (.int .i64 no)) :
    Calls Try.prog 86 #[.slice A n cap, .func (.func 87) #[] #[.pointer (some ⟨p, 0, none⟩)]] w (AtNo l no w) := by
  have HQ := Lib.hid h
  have HN := Lib.hid hn
  clear h hn
  go_enter Try.func86, Try.ntmps86
  go_wp2_with fail
  go_loopw [8] (fun iv wr => ∃ k : Nat, k ≤ n ∧ Hid (∀ j (h : j < l.length), j < k → l[j].no ≠ no) ∧ iv = .int .i64 k ∧ Hid (Below w.heap.size w wr)) (fun iv _ => n - (intOf iv).toNat)
  case atStart => exact ⟨0, by omega, fun j _ h => absurd h (by omega), rfl, Below.refl _ _⟩
  case round =>
    obtain ⟨k, hk, HK, rfl, HB⟩ := hrel
    by_cases hkn : k < n
    · have hkl : k < l.length := by rw [HN.out]; exact hkn
      obtain ⟨g, rfl, ci⟩ := (HQ.out.below HB.out).cells k hkl
      obtain ⟨x, hx⟩ : ∃ x, l[k]'hkl = x := ⟨_, rfl⟩
      rw [hx] at ci
      have a0 : wr.cell? ⟨g, k * 13, none⟩ = some (.int .i64 x.no) := ci 0 _ rfl
      have a1 := ci 1 _ rfl
      have a2 := ci 2 _ rfl
      have a3 := ci 3 _ rfl
      have a4 := ci 4 _ rfl
      have a5 := ci 5 _ rfl
      have a6 := ci 6 _ rfl
      have a7 := ci 7 _ rfl
      have a8 := ci 8 _ rfl
      have a9 := ci 9 _ rfl
      have a10 := ci 10 _ rfl
      have a11 := ci 11 _ rfl
      have a12 := ci 12 _ rfl
      have HA := Lib.hid (atNo_any x p no wr (Below.cell_of HB.out hp))
      obtain ⟨v, hv⟩ : ∃ v, decide (x.no = no) = v := ⟨_, rfl⟩
      rw [hv] at HA
      have HV := Lib.hid hv
      have HX := Lib.hid hx
      clear ci hv hx
      dsimp only [qV] at HA
      cases v
      · go_wp2_with fail
        refine HA.out.mono ?_
        rintro e w1 ⟨rfl, hb⟩
        have HB1 := Lib.hid (below_trans HB.out hb)
        clear hb
        go_wp2_with fail
        go_roundw
        case rel =>
          refine ⟨k + 1, by omega, fun j h hj => ?_, by go_num, HB1⟩
          by_cases hjk : j = k
          · subst hjk; rw [HX.out]; exact of_decide_eq_false HV.out
          · exact HK.out j h (by omega)
        case measure => simp [intOf]; omega
      · go_wp2_with fail
        refine HA.out.mono ?_
        rintro e w1 ⟨rfl, hb⟩
        have HB1 := Lib.hid (below_trans HB.out hb)
        clear hb
        go_wp2_with fail
        go_ret
        exact ⟨.inl ⟨k, hkl, rfl, by rw [HX.out]; exact of_decide_eq_true HV.out⟩, HB1.out⟩
    · obtain rfl : k = n := by omega
      go_wp2_with fail
      go_ret
      exact ⟨.inr ⟨rfl, fun j h => HK.out j h (by rw [← HN.out]; exact h)⟩, HB.out⟩
end Go.Proofs.Ytlmdkmflbhnlgaa
