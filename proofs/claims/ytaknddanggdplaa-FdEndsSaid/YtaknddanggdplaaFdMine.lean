/- May a frame be, of this kind: what the laws ask first. No condition. -/
import Derived.Test.YtaknddanggdplaaFdAlive
namespace Go.Proofs.Ytaknddanggdplaa
open Go.RowKit
theorem mine07_any (f : Fr) (A : Option Addr) (c : Nat) (w : World) (hl : f.data.length ≤ 9223372036854775807) :
    Calls Try.prog 20 #[frv f (.slice A f.data.length c)] w fun e w' => e = .returned (.bool (decide (f.kind = 2) && okF f)) ∧ Below w.heap.size w w' := by
  have HC := Lib.hid (fun W => Check_any f A c W hl)
  obtain ⟨kind, id, ext, rtr, brs, esi, sec, sdt, vcid, af, data⟩ := f
  obtain ⟨ok, hok⟩ : ∃ ok, okF ⟨kind, id, ext, rtr, brs, esi, sec, sdt, vcid, af, data⟩ = ok := ⟨_, rfl⟩
  rw [hok] at HC ⊢
  dsimp only [frv] at *
  generalize data.length = n at *
  clear hok
  unfold errV at HC
  by_cases hk : kind = 2
  · subst hk
    cases ok
    all_goals
      simp only [if_true, Bool.false_eq_true, if_false] at HC
      go_enter Try.func20, Try.ntmps20
      go_wp2_with fail
      refine (HC.out _).mono ?_
      rintro e w1 ⟨rfl, hb⟩
      have HB := Lib.hid hb
      clear hb
      go_wp2_with fail
      go_ret
      exact ⟨rfl, (below_alloc (Below.refl _ _) _).trans (HB.out.mono (by simp))⟩
  · have hkb : (kind == 2) = false := by rw [beq_eq_false_iff_ne]; exact hk
    have hd : decide (kind = 2) = false := decide_eq_false hk
    rw [hd, Bool.false_and]
    clear hk hd
    go_enter Try.func20, Try.ntmps20
    go_wp2_with fail
    go_ret
    exact ⟨rfl, below_alloc (Below.refl _ _) _⟩
theorem mine07_true {f : Fr} (hk : f.kind = 2) (hok : okF f = true) : (decide (f.kind = 2) && okF f) = true := by rw [decide_eq_true hk, hok]; rfl
theorem mine07_false {f : Fr} (h : ¬ (f.kind = 2 ∧ okF f = true)) : (decide (f.kind = 2) && okF f) = false := by
  cases h2 : okF f with
  | false => simp
  | true => simp; exact fun hk => h ⟨hk, h2⟩
end Go.Proofs.Ytaknddanggdplaa
