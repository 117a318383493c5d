/- The document's example of an FD frame. No condition. -/
import Derived.Test.YtaknddanggdplaaFdWire
namespace Go.Proofs.Ytaknddanggdplaa
open Go.RowKit
theorem FdWire_okN (f : Fr) (A : Option Addr) (c NR NH : Nat) (w : World) (hk : f.kind = 2) (hok : okF f = true) (hf : FrN f) (hr : Rd w A (bys f.data)) (hNR : (rawD f).length = NR) (hNH : (stuffN (headD f)).length = NH) :
    Calls Try.prog 21 #[frv f (.slice A f.data.length c)] w fun e w' => (∃ A' c', e = .returned (.tuple #[.agg #[.slice A' (NR + 10 : Nat) c', .int .i64 (NH : Nat), .int .i64 (NR + 1 : Nat)], .int .i64 0]) ∧ Row w' w.heap.size 5 A' c' (bys (wireD f))) ∧ Below w.heap.size w w' :=
  FdWire_ok f A c NR NH w hk hok hf.id0 hr hf.data hNR hNH
def exD : Fr := { kind := 2, id := 1365, ext := false, rtr := false, brs := false, esi := false, sec := false, sdt := 0, vcid := 0, af := 0, data := [] }
theorem exD_ok : okF exD = true := by decide
theorem exD_n : FrN exD := ⟨by decide, by decide, by decide, by decide, by intro x hx; simp [exD] at hx⟩
set_option maxRecDepth 100000 in
set_option maxHeartbeats 1000000 in
theorem alive07 (w : World) : Calls Try.prog 19 #[] w fun e w' => e = .returned (.bool true) ∧ Below w.heap.size w w' := by
  obtain ⟨NR, hNR⟩ : ∃ NR, (rawD exD).length = NR := ⟨_, rfl⟩
  obtain ⟨NH, hNH⟩ : ∃ NH, (stuffN (headD exD)).length = NH := ⟨_, rfl⟩
  have hge : 45 ≤ NR ∧ NR ≤ 1000 := by have h1 := rawD_len exD; have h2 := raw0D_len exD; have h4 := sizeS_or exD.data.length; rw [hNR] at h1; have h3 : exD.data.length = 0 := rfl; rw [h3] at h1 h2 h4; omega
  obtain ⟨l, hl⟩ := rawD_zero exD
  have HW := Lib.hid (fun W (hW : Rd W none (bys [])) => FdWire_okN exD none 0 NR NH W rfl exD_ok exD_n hW hNR hNH)
  have hw0 : ∃ m, wireD exD = 0 :: m := ⟨l ++ List.replicate 10 1, by unfold wireD; rw [hl]; rfl⟩
  obtain ⟨m, hm⟩ := hw0
  rw [hm] at HW
  clear hNR hNH hl hm
  go_enter Try.func19, Try.ntmps19
  go_wp2_with fail
  refine (HW.out _ (Rd.nil _ _)).mono ?_
  rintro e w1 ⟨⟨A, c, rfl, hrow⟩, hb⟩
  obtain ⟨ga, hA⟩ := hrow.form
  rcases hA with rfl | hA
  · have c0 : w1.cell? ⟨ga, 0, none⟩ = some (.int .u8 0) := by
      have := hrow.cells (g := ga) rfl 0 (.int .u8 0) rfl
      exact this
    have hlt := cell_lt c0
    have hlt' : ga < w1.heap.size := hlt
    have HB := Lib.hid hb
    have h44 : (55 : Int) ≤ ((NR + 10 : Nat) : Int) := by omega
    have hi0 : (0 : Int) < ((NR + 10 : Nat) : Int) := by omega
    have hack : (((NR + 1 : Nat) : Int) == ((NR + 10 : Nat) : Int) - 9) = true := by rw [beq_iff_eq]; omega
    clear hrow hb hlt
    go_wp2_with fail
    go_ret
    exact ⟨by first | rfl | simp, below_alloc HB.out _⟩
  · simp [bys] at hA
end Go.Proofs.Ytaknddanggdplaa
