/- What the laws of layer 6 share: the document's example, whether a frame may be, and what a frame on the wire begins with. No condition. -/
import Derived.Test.YtbjeblffmgghgaaWire
namespace Go.Proofs.Ytbjeblffmgghgaa
open Go.RowKit
theorem bodyC_zero (f : Fr) : ∃ l, bodyC f = 0 :: l := by
  unfold bodyC addN coreC headL
  split
  · exact ⟨_, rfl⟩
  · exact ⟨_, rfl⟩
theorem stuffN_zero (l : List Nat) : ∃ m, stuffN (0 :: l) = 0 :: m := ⟨_, rfl⟩
theorem raw_zero (f : Fr) : ∃ l, stuffN (bodyC f) = 0 :: l := by
  obtain ⟨l, e⟩ := bodyC_zero f
  rw [e]
  exact stuffN_zero l
/-- The example's frame. -/
def exF : Fr := { kind := 1, id := 1365, ext := false, rtr := false, brs := false, esi := false, sec := false, sdt := 0, vcid := 0, af := 0, data := [] }
theorem exF_ok : okF exF = true := by decide
set_option maxRecDepth 100000 in
set_option maxHeartbeats 1000000 in
theorem alive06 (w : World) : Calls Try.prog 33 #[] w fun e w' => e = .returned (.bool true) ∧ Below w.heap.size w w' := by
  obtain ⟨NR, hNR⟩ : ∃ NR, (stuffN (bodyC exF)).length = NR := ⟨_, rfl⟩
  obtain ⟨NH, hNH⟩ : ∃ NH, (stuffN (headL exF)).length = NH := ⟨_, rfl⟩
  have hge : 34 ≤ NR := by have := stuffN_ge (bodyC exF); rw [hNR, bodyC_length] at this; exact this
  have hle : NR ≤ 1000 := by have := stuffN_le (bodyC exF); rw [hNR, bodyC_length] at this; have h2 : (if exF.ext = true then 54 else 34) + 8 * exF.data.length = 34 := rfl; rw [h2] at this; omega
  obtain ⟨l, hl⟩ := raw_zero exF
  have HW := Lib.hid (Wire_ok exF none 0 NR NH w rfl exF_ok (by decide) (Rd.nil _ _) (by intro x hx; cases hx) hNR hNH)
  have hw0 : ∃ m, wireC exF = 0 :: m := ⟨l ++ List.replicate 10 1, by unfold wireC; rw [hl]; rfl⟩
  obtain ⟨m, hm⟩ := hw0
  rw [hm] at HW
  clear hNR hNH hl hm
  go_enter Try.func33, Try.ntmps33
  go_wp2_with fail
  refine HW.out.mono ?_
  rintro e w1 ⟨⟨A, c, rfl, hrow⟩, hb⟩
  obtain ⟨ga, hA⟩ := hrow.form
  rcases hA with rfl | hA
  · have c0 : w1.cell? ⟨ga, 0, none⟩ = some (.int .u8 0) := by
      have := hrow.cells (g := ga) rfl 0 (.int .u8 0) rfl
      exact this
    have hlt := cell_lt c0
    have hlt' : ga < w1.heap.size := hlt
    have HB := Lib.hid hb
    have h44 : (44 : Int) ≤ ((NR + 10 : Nat) : Int) := by omega
    have hi0 : (0 : Int) < ((NR + 10 : Nat) : Int) := by omega
    have hack : (((NR + 1 : Nat) : Int) == ((NR + 10 : Nat) : Int) - 9) = true := by rw [beq_iff_eq]; omega
    clear hrow hb hlt
    go_wp2_with fail
    go_ret
    exact ⟨by first | rfl | simp, below_alloc HB.out _⟩
  · simp [bys] at hA
theorem mine_any (f : Fr) (A : Option Addr) (c : Nat) (w : World) (hl : f.data.length ≤ 9223372036854775807) :
    Calls Try.prog 34 #[frv f (.slice A f.data.length c)] w fun e w' => e = .returned (.bool (decide (f.kind = 1) && okF f)) ∧ Below w.heap.size w w' := by
  have HC := Lib.hid (fun W => Check_any f A c W hl)
  obtain ⟨kind, id, ext, rtr, brs, esi, sec, sdt, vcid, af, data⟩ := f
  obtain ⟨ok, hok⟩ : ∃ ok, okF ⟨kind, id, ext, rtr, brs, esi, sec, sdt, vcid, af, data⟩ = ok := ⟨_, rfl⟩
  rw [hok] at HC ⊢
  dsimp only [frv] at *
  generalize data.length = n at *
  clear hok
  unfold errV at HC
  by_cases hk : kind = 1
  · subst hk
    cases ok
    all_goals
      simp only [if_true, Bool.false_eq_true, if_false] at HC
      go_enter Try.func34, Try.ntmps34
      go_wp2_with fail
      refine (HC.out _).mono ?_
      rintro e w1 ⟨rfl, hb⟩
      have HB := Lib.hid hb
      clear hb
      go_wp2_with fail
      go_ret
      exact ⟨rfl, (below_alloc (Below.refl _ _) _).trans (HB.out.mono (by simp))⟩
  · have hkb : (kind == 1) = false := by rw [beq_eq_false_iff_ne]; exact hk
    have hd : decide (kind = 1) = false := decide_eq_false hk
    rw [hd, Bool.false_and]
    clear hk hd
    go_enter Try.func34, Try.ntmps34
    go_wp2_with fail
    go_ret
    exact ⟨rfl, below_alloc (Below.refl _ _) _⟩
/-! ### runs, bit by bit -/
theorem runs_at (l : List Nat) (h : runsB 0 0 l = true) (k : Nat) (hk : k < l.length) : seeN (rawE 0 0 (l.take k)).1 (rawE 0 0 (l.take k)).2 l[k] ≤ 5 := by
  have e : l = l.take k ++ (l[k] :: l.drop (k + 1)) := by rw [← List.drop_eq_getElem_cons hk, List.take_append_drop]
  rw [e, runsB_append] at h
  simp only [Bool.and_eq_true, runsB, decide_eq_true_eq] at h
  exact h.2.1
theorem rawE_step (l : List Nat) (k : Nat) (hk : k < l.length) : rawE 0 0 (l.take (k + 1)) = (l[k], seeN (rawE 0 0 (l.take k)).1 (rawE 0 0 (l.take k)).2 l[k]) := by
  rw [List.take_succ_eq_append_getElem hk, rawE_append]
  rfl
end Go.Proofs.Ytbjeblffmgghgaa
