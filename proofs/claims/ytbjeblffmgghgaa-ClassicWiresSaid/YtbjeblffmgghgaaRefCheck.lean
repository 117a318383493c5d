/- Which frames may be, by the document's answer: the same as the program's. No condition. -/
import Derived.Test.YtbjeblffmgghgaaRef05
namespace Go.Proofs.Ytbjeblffmgghgaa
open Go.RowKit

theorem okF_none (f : Fr) (h : codeF f.kind f.data.length = none) : okF f = false := by unfold okF; simp [h]
/-- One kind after the other: which frames may be. -/
theorem okF_1 (f : Fr) (hk : f.kind = 1) (h : (codeF f.kind f.data.length).isSome = true) :
    okF f = decide (f.id < (if f.ext then 536870912 else 2048) ∧ ¬ (f.rtr = true ∧ 0 < f.data.length) ∧ f.brs = false ∧ f.esi = false ∧ f.sec = false ∧ f.sdt = 0 ∧ f.vcid = 0 ∧ f.af = 0) := by
  rw [Bool.eq_iff_iff, okF_iff, decide_eq_true_eq]
  constructor
  · rintro ⟨k1, k2, k3, k4, k5, k6, k7, k8, k9, k10, k11, k12⟩
    refine ⟨k3, ?_, k7 (by omega), k8 (by omega), k9 (by omega), k10 (by omega), k11 (by omega), k12 (by omega)⟩
    rintro ⟨h1, h2⟩
    rw [k6 h1] at h2; simp at h2
  · rintro ⟨h1, h2, h3, h4, h5, h6, h7, h8⟩
    refine ⟨by omega, h, h1, by omega, by omega, ?_, fun _ => h3, fun _ => h4, fun _ => h5, fun _ => h6, fun _ => h7, fun _ => h8⟩
    intro hr
    by_cases hd : f.data = []
    · exact hd
    · exact absurd ⟨hr, List.length_pos_iff.2 hd⟩ h2
theorem okF_2 (f : Fr) (hk : f.kind = 2) (h : (codeF f.kind f.data.length).isSome = true) :
    okF f = decide (f.id < 2048 ∧ f.ext = false ∧ f.rtr = false ∧ f.sec = false ∧ f.sdt = 0 ∧ f.vcid = 0 ∧ f.af = 0) := by
  rw [Bool.eq_iff_iff, okF_iff, decide_eq_true_eq]
  constructor
  · rintro ⟨k1, k2, k3, k4, k5, k6, k7, k8, k9, k10, k11, k12⟩
    have he := k4 (by omega)
    rw [he] at k3
    exact ⟨by simpa using k3, he, k5 (by omega), k9 (by omega), k10 (by omega), k11 (by omega), k12 (by omega)⟩
  · rintro ⟨h1, h2, h3, h4, h5, h6, h7⟩
    exact ⟨by omega, h, by rw [h2]; simpa using h1, fun _ => h2, fun _ => h3, fun hr => (by rw [h3] at hr; cases hr), by omega, by omega, fun _ => h4, fun _ => h5, fun _ => h6, fun _ => h7⟩
theorem okF_3 (f : Fr) (hk : f.kind = 3) (h : (codeF f.kind f.data.length).isSome = true) :
    okF f = decide (f.id < 2048 ∧ f.ext = false ∧ f.rtr = false ∧ f.brs = false ∧ f.esi = false) := by
  rw [Bool.eq_iff_iff, okF_iff, decide_eq_true_eq]
  constructor
  · rintro ⟨k1, k2, k3, k4, k5, k6, k7, k8, k9, k10, k11, k12⟩
    have he := k4 (by omega)
    rw [he] at k3
    exact ⟨by simpa using k3, he, k5 (by omega), k7 (by omega), k8 (by omega)⟩
  · rintro ⟨h1, h2, h3, h4, h5⟩
    exact ⟨by omega, h, by rw [h2]; simpa using h1, fun _ => h2, fun _ => h3, fun hr => (by rw [h3] at hr; cases hr), fun _ => h4, fun _ => h5, by omega, by omega, by omega, by omega⟩
set_option maxRecDepth 100000 in
set_option maxHeartbeats 4000000 in
theorem CheckR_1 (f : Fr) (A : Option Addr) (c : Nat) (w : World) (hk : f.kind = 1) (co : Int) (hco : codeF f.kind f.data.length = some co) :
    Calls Try.prog 45 #[frv f (.slice A f.data.length c)] w fun e w' => e = .returned (errV (okF f)) ∧ Below w.heap.size w w' := by
  have hok := okF_1 f hk (by rw [hco]; rfl)
  have hc := fun W => CodeR_any f.kind f.data.length W
  rw [hco] at hc
  clear hco
  generalize okF f = ok at *
  obtain ⟨kind, id, ext, rtr, brs, esi, sec, sdt, vcid, af, data⟩ := f
  dsimp only [frv] at *
  subst hk
  generalize data.length = n at *
  have HOK := Lib.hid hok
  have HC := Lib.hid hc
  clear hok hc
  go_enter Try.func45, Try.ntmps45
  go_wp2_with (go_at_call 81; refine (HC.out _).mono ?_; rintro e w' ⟨rfl, rfl⟩; simp only [codeV_some])
  all_goals
    go_ret
    refine ⟨ret_int ?_, below_alloc (below_alloc (Below.refl _ _) _) _⟩
    rw [HOK.out]
    clear HOK HC
    first
      | (simp [*]; done)
      | (simp [*]; omega)
      | (simp_all; done)
      | (simp_all; omega)
set_option maxRecDepth 100000 in
set_option maxHeartbeats 4000000 in
theorem CheckR_2 (f : Fr) (A : Option Addr) (c : Nat) (w : World) (hk : f.kind = 2) (co : Int) (hco : codeF f.kind f.data.length = some co) :
    Calls Try.prog 45 #[frv f (.slice A f.data.length c)] w fun e w' => e = .returned (errV (okF f)) ∧ Below w.heap.size w w' := by
  have hok := okF_2 f hk (by rw [hco]; rfl)
  have hc := fun W => CodeR_any f.kind f.data.length W
  rw [hco] at hc
  clear hco
  generalize okF f = ok at *
  obtain ⟨kind, id, ext, rtr, brs, esi, sec, sdt, vcid, af, data⟩ := f
  dsimp only [frv] at *
  subst hk
  generalize data.length = n at *
  have HOK := Lib.hid hok
  have HC := Lib.hid hc
  clear hok hc
  go_enter Try.func45, Try.ntmps45
  go_wp2_with (go_at_call 81; refine (HC.out _).mono ?_; rintro e w' ⟨rfl, rfl⟩; simp only [codeV_some])
  all_goals
    go_ret
    refine ⟨ret_int ?_, below_alloc (below_alloc (Below.refl _ _) _) _⟩
    rw [HOK.out]
    clear HOK HC
    first
      | (simp [*]; done)
      | (simp [*]; omega)
      | (simp_all; done)
      | (simp_all; omega)
set_option maxRecDepth 100000 in
set_option maxHeartbeats 4000000 in
theorem CheckR_3 (f : Fr) (A : Option Addr) (c : Nat) (w : World) (hk : f.kind = 3) (co : Int) (hco : codeF f.kind f.data.length = some co) :
    Calls Try.prog 45 #[frv f (.slice A f.data.length c)] w fun e w' => e = .returned (errV (okF f)) ∧ Below w.heap.size w w' := by
  have hok := okF_3 f hk (by rw [hco]; rfl)
  have hc := fun W => CodeR_any f.kind f.data.length W
  rw [hco] at hc
  clear hco
  generalize okF f = ok at *
  obtain ⟨kind, id, ext, rtr, brs, esi, sec, sdt, vcid, af, data⟩ := f
  dsimp only [frv] at *
  subst hk
  generalize data.length = n at *
  have HOK := Lib.hid hok
  have HC := Lib.hid hc
  clear hok hc
  go_enter Try.func45, Try.ntmps45
  go_wp2_with (go_at_call 81; refine (HC.out _).mono ?_; rintro e w' ⟨rfl, rfl⟩; simp only [codeV_some])
  all_goals
    go_ret
    refine ⟨ret_int ?_, below_alloc (below_alloc (Below.refl _ _) _) _⟩
    rw [HOK.out]
    clear HOK HC
    first
      | (simp [*]; done)
      | (simp [*]; omega)
      | (simp_all; done)
      | (simp_all; omega)
set_option maxRecDepth 100000 in
set_option maxHeartbeats 1000000 in
theorem CheckR_any (f : Fr) (A : Option Addr) (c : Nat) (w : World) :
    Calls Try.prog 45 #[frv f (.slice A f.data.length c)] w fun e w' => e = .returned (errV (okF f)) ∧ Below w.heap.size w w' := by
  cases hco : codeF f.kind f.data.length with
  | none =>
    have hok := okF_none f hco
    have hc := fun W => CodeR_any f.kind f.data.length W
    rw [hco] at hc
    rw [hok]
    clear hco hok
    obtain ⟨kind, id, ext, rtr, brs, esi, sec, sdt, vcid, af, data⟩ := f
    dsimp only [frv] at *
    generalize data.length = n at *
    have HC := Lib.hid hc
    clear hc
    go_enter Try.func45, Try.ntmps45
    go_wp2_with (go_at_call 81; refine (HC.out _).mono ?_; rintro e w' ⟨rfl, rfl⟩; simp only [codeV_none])
    go_ret
    exact ⟨rfl, below_alloc (below_alloc (Below.refl _ _) _) _⟩
  | some co =>
    rcases codeF_kind _ _ (by rw [hco]; rfl) with ⟨hk, -⟩ | ⟨hk, -⟩ | ⟨hk, -⟩
    · exact CheckR_1 f A c w hk co hco
    · exact CheckR_2 f A c w hk co hco
    · exact CheckR_3 f A c w hk co hco
end Go.Proofs.Ytbjeblffmgghgaa
