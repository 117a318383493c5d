/- The document's Same of frames at equal ones. No condition. -/
import Derived.Test.YtlmdkmflbhnlgaaGreatSame
namespace Go.Proofs.YtlmdkmflbhnlgaaGreat
open Go.RowKit
set_option maxHeartbeats 1000000 in
theorem Same01_any (w : World) (A B : Option Addr) (c d n : Nat) (l : List Nat) (ha : Rd w A (bys l)) (hb : Rd w B (bys l)) (hn : l.length = n) (hn2 : n ≤ 9223372036854775807) :
    Calls Tryz.prog 46 #[.slice A n c, .slice B n d] w fun e w' => e = .returned (.bool true) ∧ Below w.heap.size w w' := by
  have HA := Lib.hid ha
  have HB := Lib.hid hb
  have HN := Lib.hid hn
  clear ha hb hn
  go_enter Tryz.func46, Tryz.ntmps46
  go_wp2_with fail
  go_loopw [13] (fun iv wr => ∃ k : Nat, k ≤ n ∧ iv = .int .i64 k ∧ Hid (Below w.heap.size w wr)) (fun iv _ => n - (intOf iv).toNat)
  case atStart => exact ⟨0, by omega, rfl, Below.refl _ _⟩
  case round =>
    obtain ⟨k, hk, rfl, HW⟩ := hrel
    by_cases hkn : k < n
    · have hkl : k < l.length := by rw [HN.out]; exact hkn
      obtain ⟨ad, rfl, ca⟩ := (HA.out.below HW.out).at_ k hkl
      obtain ⟨bd, rfl, cb⟩ := (HB.out.below HW.out).at_ k hkl
      obtain ⟨x, hx⟩ : ∃ x, l[k] = x := ⟨_, rfl⟩
      rw [hx] at ca cb
      have hki : (k : Int) < (n : Int) := by omega
      clear hx
      go_wp2_with fail
      go_quiet (fail)
      go_wp2_with fail
      go_roundw
      case rel => exact ⟨k + 1, by omega, by go_num, below_drewN HW.out _⟩
      case measure => simp [intOf]; omega
    · obtain rfl : n = k := by omega
      go_wp2_with fail
      go_ret
      exact ⟨rfl, HW.out⟩
set_option maxRecDepth 100000 in
set_option maxHeartbeats 4000000 in
theorem Same05_any (f : Fr) (A B : Option Addr) (c d : Nat) (w : World) (ha : Rd w A (bys f.data)) (hb : Rd w B (bys f.data)) (hl : f.data.length ≤ 9223372036854775807) :
    Calls Tryz.prog 24 #[frv f (.slice A f.data.length c), frv f (.slice B f.data.length d)] w fun e w' => e = .returned (.bool true) ∧ Below w.heap.size w w' := by
  obtain ⟨fk, fi, fe, fr, f4, f5, f6, f7, f8, f9, data⟩ := f
  dsimp only [frv] at *
  obtain ⟨n, hn⟩ : ∃ n, data.length = n := ⟨_, rfl⟩
  rw [hn] at hl ⊢
  have HE := Lib.hid (fun W hW1 hW2 => Same01_any W A B c d n data hW1 hW2 hn hl)
  have HA := Lib.hid ha
  have HB := Lib.hid hb
  clear ha hb hn
  go_enter Tryz.func24, Tryz.ntmps24
  go_upto_region 1 with (fail)
  simp only [List.append_eq, List.cons_append, List.nil_append]
  go_wp2_with fail
  refine (HE.out _ ((HA.out.alloc _).alloc _) ((HB.out.alloc _).alloc _)).mono ?_
  rintro e w' ⟨rfl, hb⟩
  have HBB := Lib.hid (below_trans (below_alloc (below_alloc (Below.refl _ _) _) _) hb)
  clear hb
  go_wp2_with fail
  go_ret
  exact ⟨by first | rfl | simp, HBB.out⟩
end Go.Proofs.YtlmdkmflbhnlgaaGreat
