/- omnibuslaw17.alive: the document's example. No condition. -/
import Derived.Test.YtlmdkmflbhnlgaaBox5
namespace Go.Proofs.Ytlmdkmflbhnlgaa
open Go.RowKit
theorem cancelNil_any (no : Int) (w : World) : Calls Try.prog 23 #[.pointer none, .int .i64 no] w fun e w' => e = .returned (.int .i64 1) ∧ w = w' := by
  have hd : Calls Try.prog 47 #[.pointer none, .int .i64 no, .func (.func 49) #[] #[]] w fun e w' => e = .returned (.int .i64 1) ∧ w = w' := by
    go_enter Try.func47, Try.ntmps47
    go_wp2_with fail
    go_ret
    exact ⟨rfl, rfl⟩
  have HD := Lib.hid hd
  clear hd
  go_enter Try.func23, Try.ntmps23
  go_wp2_with fail
  refine HD.out.mono ?_
  rintro e _ ⟨rfl, rfl⟩
  go_wp2_with fail
  go_ret
  exact ⟨rfl, rfl⟩
/-- The example's frame. -/
def exF : Fr := ⟨1, 0, false, false, false, false, false, 0, 0, 0, []⟩
theorem exF_ok : okF exF = true := by decide
theorem exF_in : FrIn exF := ⟨by decide, by decide, by decide, by decide, by decide, by decide, by decide, by decide, fun x hx => by simp [exF] at hx, by decide⟩
set_option maxRecDepth 100000 in
set_option maxHeartbeats 8000000 in
theorem alive_any (w : World) : Calls Try.prog 9 #[] w fun e w' => e = .returned (.bool true) ∧ Below w.heap.size w w' := by
  have HN := Lib.hid (fun W => New_any W W.heap.size 1 1 0 0 none false false [] (fun j hj => by simp at hj) rfl (by omega) (fun _ => rfl) (by simp) (by omega) (by omega) (by decide) (Nat.le_refl _))
  have hcT : comeT (newX [] false false 1 1) exF = { newX [] false false 1 1 with came := 1, refused := 1 } := by unfold comeT; rw [exF_ok]; rfl
  have hcK : comeK (newX [] false false 1 1) exF = 1 := by unfold comeK; rw [exF_ok]; rfl
  have HCT := Lib.hid hcT
  have HCK := Lib.hid hcK
  clear hcT hcK
  go_enter Try.func9, Try.ntmps9
  go_wp2_with fail
  refine (HN.out w).mono ?_
  rintro e w1 ⟨⟨b, ft, rfl, hA, hft⟩, hb⟩
  have HA := Lib.hid hA
  have HFT := Lib.hid hft
  have HB := Lib.hid hb
  clear hA hft hb
  go_wp2_with fail
  have HC := Lib.hid (Come_any w1 w.heap.size 0 ft b 0 0 none (newX [] false false 1 1) exF HA.out (by omega) HB.out.size (fun j u hj => by simp [exF, bys] at hj) (fun _ => rfl) rfl exF_in (fun ad e => by cases e))
  rw [HCK.out, HCT.out, exF_ok] at HC
  refine HC.out.mono ?_
  rintro e w2 ⟨rfl, ft2, hA2, hf2, t2⟩
  have HA2 := Lib.hid hA2
  have HB2 : Hid (Below w.heap.size w w2) := HB.out.trans (t2.below (fun k hk => HFT.out k hk) HB.out.size)
  clear hA2 hf2 t2
  simp only [errV, if_true]
  go_wp2_with fail
  refine (Report_any w2 w.heap.size 1 ft2 b _ HA2.out).mono ?_
  rintro e w3 ⟨rfl, hb3⟩
  have HB3 := Lib.hid (HB2.out.trans (hb3.mono HB2.out.size))
  clear hb3
  simp only [repL, newX]
  go_wp2_with fail
  refine (cancelNil_any 1 _).mono ?_
  rintro e _ ⟨rfl, rfl⟩
  go_wp2_with fail
  go_ret
  exact ⟨by first | rfl | simp, below_alloc HB3.out _⟩
end Go.Proofs.Ytlmdkmflbhnlgaa
