/- xl.Body: an XL frame's data part. No condition. -/
import Derived.Test.YtaknddanggdplaaPXl
import Derived.Test.YtaknddanggdplaaXlSeal
import Derived.Test.YtaknddanggdplaaStuffPut
namespace Go.Proofs.Ytaknddanggdplaa
open Go.RowKit
theorem okX (f : Fr) (hk : f.kind = 3) (h : okF f = true) : f.id < 2048 ∧ 1 ≤ f.data.length ∧ f.data.length ≤ 2048 ∧ codeF f.kind f.data.length = some ((f.data.length : Int) - 1) := by
  unfold okF at h
  simp only [Bool.and_eq_true, decide_eq_true_eq] at h
  obtain ⟨⟨⟨h1, h2⟩, -⟩, h3⟩ := h
  have he : f.ext = false := by
    unfold sameF bareF zeroF at h3
    simp only [decide_eq_true_eq, hk] at h3
    have := h3.2.2.1
    simp at this
    exact this.1
  unfold limF at h2
  rw [he] at h2
  have hc : codeF f.kind f.data.length = some ((f.data.length : Int) - 1) ∧ 1 ≤ (f.data.length : Int) ∧ (f.data.length : Int) ≤ 2048 := by
    rw [hk] at h1 ⊢
    unfold codeF at h1 ⊢
    rw [if_neg (by decide)] at h1 ⊢
    by_cases hb : loOf 3 ≤ (f.data.length : Int) ∧ (f.data.length : Int) ≤ hiOf 3
    · rw [if_pos hb]
      have a : loOf 3 = 1 := rfl
      have b : hiOf 3 = 2048 := rfl
      rw [a, b] at hb
      rw [a]
      exact ⟨rfl, hb.1, hb.2⟩
    · rw [if_neg hb] at h1
      cases h1
  exact ⟨by simpa using h2, by omega, by omega, hc.1⟩
theorem XlBody_no (f : Fr) (A : Option Addr) (c : Nat) (w : World) (hl : f.data.length ≤ 9223372036854775807) (hno : ¬ (f.kind = 3 ∧ okF f = true)) :
    Calls Try.prog 23 #[frv f (.slice A f.data.length c)] w fun e w' => e = .returned (.tuple #[.slice none 0 0, .int .i64 2]) ∧ Below w.heap.size w w' := by
  have HC := Lib.hid (fun W => Check_any f A c W hl)
  by_cases hk : f.kind = 3
  · have hok : okF f = false := by cases h : okF f with | false => rfl | true => exact absurd ⟨hk, h⟩ hno
    rw [hok] at HC
    have he : errV false = .int .i64 2 := rfl
    rw [he] at HC
    obtain ⟨kind, id, ext, rtr, brs, esi, sec, sdt, vcid, af, data⟩ := f
    dsimp only [frv] at *
    generalize data.length = n at *
    subst hk
    clear hno hok he
    go_enter Try.func23, Try.ntmps23
    go_wp2_with fail
    refine (HC.out _).mono ?_
    rintro e w1 ⟨rfl, hb⟩
    have HB := Lib.hid hb
    clear hb
    go_wp2_with fail
    go_ret2
    exact ⟨rfl, (below_alloc (Below.refl _ _) _).trans (HB.out.mono (by simp))⟩
  · obtain ⟨kind, id, ext, rtr, brs, esi, sec, sdt, vcid, af, data⟩ := f
    dsimp only [frv] at *
    generalize data.length = n at *
    have hkb : (kind != 3) = true := by rw [bne_iff_ne]; exact hk
    clear hno hk HC
    go_enter Try.func23, Try.ntmps23
    go_wp2_with fail
    go_ret2
    exact ⟨rfl, below_alloc (Below.refl _ _) _⟩
end Go.Proofs.Ytaknddanggdplaa
