/- stuff's state: how a row of raw bits ends. No condition. -/
import Derived.Test.YtaknddanggdplaaBlk
import Derived.Test.YtaknddanggdplaaPStuff
import Derived.Handy
namespace Go.Proofs.Ytaknddanggdplaa
open Go.RowKit
def seeL (last run x : Nat) : Nat := if 0 < run ∧ last = x then last else x
theorem full_any (b : Nat) (last run : Nat) (t : TypeId) (w : World) (h : w.heap[b]? = some (.cells #[.int .u8 last, .int .i64 run] t)) :
    Calls Try.prog 82 #[.pointer (some ⟨b, 0, none⟩)] w fun e w' => e = .returned (.bool (decide (run = 5))) ∧ w = w' := by
  have c0 := cell_of_heap h 0 _ rfl
  have c1 : w.cell? ⟨b, 1, none⟩ = some (.int .i64 run) := cell_of_heap h 1 _ rfl
  go_enter Try.func82, Try.ntmps82
  go_wp2
  go_ret
  exact ⟨ret_bool (by rw [Bool.eq_iff_iff]; simp; omega), rfl⟩
set_option maxHeartbeats 1000000 in
theorem see_any (b : Nat) (last run x : Nat) (t : TypeId) (w : World) (h : w.heap[b]? = some (.cells #[.int .u8 last, .int .i64 run] t)) (hr : run ≤ 1000000) :
    Calls Try.prog 83 #[.pointer (some ⟨b, 0, none⟩), .int .u8 x] w fun e w' => e = .returned (.tuple #[]) ∧ w'.heap[b]? = some (.cells #[.int .u8 (seeL last run x : Nat), .int .i64 (seeN last run x : Nat)] t) ∧ Touch b b w w' := by
  have c0 := cell_of_heap h 0 _ rfl
  have c1 : w.cell? ⟨b, 1, none⟩ = some (.int .i64 run) := cell_of_heap h 1 _ rfl
  have z0 : w.frozen? ⟨b, 0, none⟩ = false := by simp [World.frozen?, h]
  have z1 : w.frozen? ⟨b, 1, none⟩ = false := by simp [World.frozen?, h]
  have HH := Lib.hid h
  clear h
  by_cases hr0 : run = 0
  · subst hr0
    go_enter Try.func83, Try.ntmps83
    go_wp2
    go_end0
    refine ⟨rfl, ?_, ((Touch.refl b b w).setCell (p := ⟨b, 0, none⟩) (.inl rfl) _).setCell (p := ⟨b, 1, none⟩) (.inl rfl) _⟩
    rw [heap_setCell (heap_setCell HH.out 0 _) 1 _]
    simp [seeN, seeL]
  · by_cases he : last = x
    · have hei : ((run : Int) > 0) := by omega
      subst he
      go_enter Try.func83, Try.ntmps83
      go_wp2
      (first | go_returns | go_ret)
      refine ⟨rfl, ?_, (Touch.refl b b w).setCell (p := ⟨b, 1, none⟩) (.inl rfl) _⟩
      rw [heap_setCell HH.out 1 _]
      simp [seeN, seeL, show 0 < run by omega]
    · have hne : ¬ (last : Int) = (x : Int) := by omega
      go_enter Try.func83, Try.ntmps83
      go_wp2
      go_end0
      refine ⟨rfl, ?_, ((Touch.refl b b w).setCell (p := ⟨b, 0, none⟩) (.inl rfl) _).setCell (p := ⟨b, 1, none⟩) (.inl rfl) _⟩
      rw [heap_setCell (heap_setCell HH.out 0 _) 1 _]
      simp [seeN, seeL, he]
end Go.Proofs.Ytaknddanggdplaa
