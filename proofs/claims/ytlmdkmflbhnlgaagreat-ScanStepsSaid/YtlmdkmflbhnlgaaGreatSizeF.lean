/- frame.Size: the size that a code tells, for FD and XL frames. No condition. -/
import Derived.Test.YtlmdkmflbhnlgaaGreatFrame
namespace Go.Proofs.YtlmdkmflbhnlgaaGreat
open Go.RowKit
set_option maxHeartbeats 400000 in
theorem sizes_size_fd (ad : Addr) (n : Nat) (w : World) (h : n < 16) (hr : Rd w (some ad) (ins fdSizes)) :
    Calls Tryz.prog 126 #[.agg #[.slice (some ad) 16 16, .int .i64 0, .int .i64 0], .int .i64 n] w fun e w' => e = .returned (.tuple #[.int .i64 (fdSizes[n]'(by show n < 16; exact h)), .bool true]) ∧ Below w.heap.size w w' := by
  have hn : n < fdSizes.length := h
  obtain ⟨v, hv⟩ : ∃ v, fdSizes[n]'hn = v := ⟨_, rfl⟩
  have hc : ∀ o, (w.alloc o).cell? (ad.add n) = some (.int .i64 v) := fun o => by
    obtain ⟨ad', e, hc⟩ := (hr.alloc o) n (.int .i64 v) (by simp [ins, hn, hv])
    injection e with e; subst e; exact hc
  rw [hv]
  have h16 : (n : Int) < 16 := by omega
  have E0 : ∀ W, Sem.run Tryz.prog (binOp .neq 90 (.slice (some ad) 16 16) (.slice none 0 0)) W = .ok (.bool true) W := fun _ => by kernel_rfl
  clear hr hv
  go_enter Tryz.func126, Tryz.ntmps126
  go_wp2
  go_ret2
  exact ⟨rfl, below_alloc (Below.refl _ _) _⟩
set_option maxHeartbeats 400000 in
theorem sizes_size_xl (n : Nat) (w : World) (h : n < 2048) :
    Calls Tryz.prog 126 #[.agg #[.slice none 0 0, .int .i64 1, .int .i64 2048], .int .i64 n] w fun e w' => e = .returned (.tuple #[.int .i64 ((n : Int) + 1), .bool true]) ∧ Below w.heap.size w w' := by
  have E0 : ∀ W, Sem.run Tryz.prog (binOp .neq 90 (.slice none 0 0) (.slice none 0 0)) W = .ok (.bool false) W := fun _ => by kernel_rfl
  have hd : decide ((n : Int) ≤ 2047) = true := by simp; omega
  go_enter Tryz.func126, Tryz.ntmps126
  go_wp2
  go_quiet (fail)
  go_wp2
  go_ret2
  exact ⟨by first | rfl | simp; omega, below_drewN (below_alloc (Below.refl _ _) _) _⟩
set_option maxHeartbeats 400000 in
theorem Size_fd (n : Nat) (w : World) (h : n < 16) :
    Calls Tryz.prog 115 #[.int .i64 2, .int .i64 n] w fun e w' => e = .returned (.tuple #[.int .i64 (fdSizes[n]'(by show n < 16; exact h)), .int .i64 0]) ∧ Below w.heap.size w w' := by
  have HS := Lib.hid (fun ad W hr => sizes_size_fd ad n W h hr)
  have hn : n < fdSizes.length := h
  obtain ⟨v, hv⟩ : ∃ v, fdSizes[n]'hn = v := ⟨_, rfl⟩
  rw [hv] at HS ⊢
  clear hv hn
  have ask : Hid (Calls Tryz.prog 53 #[.func (.func 126) #[] #[], .int .i64 2, .int .i64 n] w fun e w' => e = .returned (.tuple #[.int .i64 v, .int .i64 0]) ∧ Below w.heap.size w w') := by
    show Calls _ _ _ _ _
    go_enter Tryz.func53, Tryz.ntmps53
    go_wp2_with fail
    refine (of_fd _).mono ?_
    rintro e w1 ⟨ad, rfl, hr, hb⟩
    have HB := Lib.hid hb
    have HR := Lib.hid hr
    clear hb hr
    go_wp2_with fail
    refine (HS.out ad _ HR.out).mono ?_
    rintro e w2 ⟨rfl, hb2⟩
    have HB2 := Lib.hid hb2
    clear hb2
    go_wp2
    go_ret2
    exact ⟨rfl, below_trans HB.out HB2.out⟩
  go_enter Tryz.func115, Tryz.ntmps115
  go_wp2_with fail
  refine ask.out.mono ?_
  rintro e w1 ⟨rfl, hb⟩
  have HB := Lib.hid hb
  clear hb
  go_wp2
  go_ret2
  exact ⟨rfl, HB.out⟩
set_option maxHeartbeats 400000 in
theorem Size_xl (n : Nat) (w : World) (h : n < 2048) :
    Calls Tryz.prog 115 #[.int .i64 3, .int .i64 n] w fun e w' => e = .returned (.tuple #[.int .i64 ((n : Int) + 1), .int .i64 0]) ∧ Below w.heap.size w w' := by
  have HS := Lib.hid (fun W => sizes_size_xl n W h)
  have HO := Lib.hid (fun W => of_other 3 W (by decide))
  have e1 : loOf 3 = 1 := by simp [loOf]
  have e2 : hiOf 3 = 2048 := by simp [hiOf]
  rw [e1, e2] at HO
  have ask : Hid (Calls Tryz.prog 53 #[.func (.func 126) #[] #[], .int .i64 3, .int .i64 n] w fun e w' => e = .returned (.tuple #[.int .i64 ((n : Int) + 1), .int .i64 0]) ∧ Below w.heap.size w w') := by
    show Calls _ _ _ _ _
    go_enter Tryz.func53, Tryz.ntmps53
    go_wp2_with fail
    refine (HO.out _).mono ?_
    rintro e w1 ⟨rfl, hb⟩
    have HB := Lib.hid hb
    clear hb
    go_wp2_with fail
    refine (HS.out _).mono ?_
    rintro e w2 ⟨rfl, hb2⟩
    have HB2 := Lib.hid hb2
    clear hb2
    go_wp2
    go_ret2
    exact ⟨rfl, below_trans HB.out HB2.out⟩
  go_enter Tryz.func115, Tryz.ntmps115
  go_wp2_with fail
  refine ask.out.mono ?_
  rintro e w1 ⟨rfl, hb⟩
  have HB := Lib.hid hb
  clear hb
  go_wp2
  go_ret2
  exact ⟨rfl, HB.out⟩
end Go.Proofs.YtlmdkmflbhnlgaaGreat
