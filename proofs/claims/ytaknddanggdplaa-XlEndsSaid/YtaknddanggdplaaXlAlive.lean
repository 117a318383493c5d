/- The document's example of an XL frame. No condition. -/
import Derived.Test.YtaknddanggdplaaPXlLaw
namespace Go.Proofs.Ytaknddanggdplaa
open Go.RowKit
theorem XlWire_okN (f : Fr) (A : Option Addr) (c NR NH : Nat) (w : World) (hk : f.kind = 3) (hok : okF f = true) (hf : FrN f) (hr : Rd w A (bys f.data)) (hNR : (rawX f).length = NR) (hNH : (stuffN (headX f)).length = NH) :
    Calls Try.prog 17 #[frv f (.slice A f.data.length c)] w fun e w' => (∃ A' c', e = .returned (.tuple #[.agg #[.slice A' (NR + 10 : Nat) c', .int .i64 (NH : Nat), .int .i64 (NR + 1 : Nat)], .int .i64 0]) ∧ Row w' w.heap.size 5 A' c' (bys (wireX f))) ∧ Below w.heap.size w w' :=
  XlWire_ok f A c NR NH w hk hok hf.id0 hf.sdt hf.vcid hf.af hr hf.data hNR hNH
def exX : Fr := { kind := 3, id := 1365, ext := false, rtr := false, brs := false, esi := false, sec := false, sdt := 0, vcid := 0, af := 0, data := [1] }
theorem exX_ok : okF exX = true := by decide
theorem exX_n : FrN exX := ⟨by decide, by decide, by decide, by decide, by intro x hx; simp [exX] at hx; omega⟩
set_option maxRecDepth 100000 in
set_option maxHeartbeats 1000000 in
theorem alive08 (w : World) : Calls Try.prog 15 #[] w fun e w' => e = .returned (.bool true) ∧ Below w.heap.size w w' := by
  obtain ⟨NR, hNR⟩ : ∃ NR, (rawX exX).length = NR := ⟨_, rfl⟩
  obtain ⟨NH, hNH⟩ : ∃ NH, (stuffN (headX exX)).length = NH := ⟨_, rfl⟩
  have hge : 150 ≤ NR ∧ NR ≤ 1000 := by have h1 := rawX_len exX; have h2 := stuffX_le exX; rw [hNR] at h1; have h3 : exX.data.length = 1 := rfl; omega
  obtain ⟨l, hl⟩ := rawX_zero exX
  have HW := Lib.hid (fun W (hW : Rd W (some ⟨w.heap.size, 0, none⟩) (bys [1])) => XlWire_okN exX (some ⟨w.heap.size, 0, none⟩) 1 NR NH W rfl exX_ok exX_n hW hNR hNH)
  have hw0 : ∃ m, wireX exX = 0 :: m := ⟨l ++ List.replicate 10 1, by unfold wireX; rw [hl]; rfl⟩
  obtain ⟨m, hm⟩ := hw0
  rw [hm] at HW
  clear hNR hNH hl hm
  go_enter Try.func15, Try.ntmps15
  go_wp2_with fail
  refine (HW.out _ (Rd.blk (heap_new_at rfl))).mono ?_
  rintro e w1 ⟨⟨A, c, rfl, hrow⟩, hb⟩
  obtain ⟨ga, hA⟩ := hrow.form
  rcases hA with rfl | hA
  · have c0 : w1.cell? ⟨ga, 0, none⟩ = some (.int .u8 0) := by
      have := hrow.cells (g := ga) rfl 0 (.int .u8 0) rfl
      exact this
    have hlt := cell_lt c0
    have hlt' : ga < w1.heap.size := hlt
    have HB := Lib.hid (below_trans (below_alloc (Below.refl _ _) _) hb)
    have h44 : (150 : Int) ≤ ((NR + 10 : Nat) : Int) := by omega
    have hi0 : (0 : Int) < ((NR + 10 : Nat) : Int) := by omega
    have hack : (((NR + 1 : Nat) : Int) == ((NR + 10 : Nat) : Int) - 9) = true := by rw [beq_iff_eq]; omega
    clear hrow hb hlt
    go_wp2_with fail
    go_ret
    exact ⟨by first | rfl | simp, below_alloc HB.out _⟩
  · simp [bys] at hA
end Go.Proofs.Ytaknddanggdplaa
