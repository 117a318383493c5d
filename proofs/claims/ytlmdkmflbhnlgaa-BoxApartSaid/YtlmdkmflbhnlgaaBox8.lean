/- box.Next: the item to send. No condition. -/
import Derived.Test.YtlmdkmflbhnlgaaBox6
namespace Go.Proofs.Ytlmdkmflbhnlgaa
open Go.RowKit
/-- What Next answers. -/
def NextOf (w : World) (T : BX) (e : Ending) (w' : World) : Prop :=
  ((T.q = [] ∧ e = .returned (.tuple #[.agg #[.int .i64 0, .int .i64 0, .int .u32 0, .bool false, .bool false, .bool false, .bool false, .bool false, .int .u8 0, .int .u8 0, .int .u32 0, .slice none 0 0], .int .i64 9])) ∨
    ∃ (x : QE) (r : List QE) (A : Option Addr) (c : Nat), T.q = x :: r ∧ e = .returned (.tuple #[.agg (itL x.no x.f A c).toArray, .int .i64 0]) ∧ Row w' w.heap.size 5 A c (bys x.f.data) ∧ okF x.f = true ∧ FrIn x.f) ∧ Below w.heap.size w w'
set_option maxRecDepth 100000 in
set_option maxHeartbeats 16000000 in
theorem Next_any (w : World) (base N : Nat) (ft : List Nat) (b : Nat) (T : BX) (h : BoxA w base N ft b T) :
    Calls Try.prog 20 #[.pointer (some ⟨b, 0, none⟩)] w (NextOf w T) := by
  obtain ⟨qb, fb, RA, rc, QA, cap, ql, fl, first, fov, hI, hBD, rfl⟩ := h
  have hbl : b < w.heap.size := heap_lt hI.box
  have HI := Lib.hid hI
  have HHE := Lib.hid (fun W hW => Head_any W base qb T.oroom T.last cap QA ql hW)
  have c3 : w.cell? ⟨b, 3, none⟩ = some (.pointer (some ⟨qb, 0, none⟩)) := cell_of_heap hI.box 3 _ rfl
  clear hI hBD
  go_enter Try.func20, Try.ntmps20
  go_wp2_with fail
  refine calls_blk1 fun W1 q1 hb1 => ?_
  refine (HHE.out W1 (HI.out.below hb1).queue).mono ?_
  rintro e w2 ⟨he, hb⟩
  have Q1 := heap_below hb q1
  have HB := Lib.hid (below_trans hb1 hb)
  have hs1 : w.heap.size < W1.heap.size := heap_lt q1
  have zb : ∀ o, w2.frozen? ⟨w.heap.size, o, none⟩ = false := fun o => by simp [World.frozen?, Q1]
  have b0 : w2.cell? ⟨w.heap.size, 0, none⟩ = some (.int .i64 0) := cell_of_heap Q1 0 _ rfl
  have b1 : w2.cell? ⟨w.heap.size, 1, none⟩ = some (.int .i64 0) := cell_of_heap Q1 1 _ rfl
  have b2 : w2.cell? ⟨w.heap.size, 2, none⟩ = some (.int .u32 0) := cell_of_heap Q1 2 _ rfl
  have b3 : w2.cell? ⟨w.heap.size, 3, none⟩ = some (.bool false) := cell_of_heap Q1 3 _ rfl
  have b4 : w2.cell? ⟨w.heap.size, 4, none⟩ = some (.bool false) := cell_of_heap Q1 4 _ rfl
  have b5 : w2.cell? ⟨w.heap.size, 5, none⟩ = some (.bool false) := cell_of_heap Q1 5 _ rfl
  have b6 : w2.cell? ⟨w.heap.size, 6, none⟩ = some (.bool false) := cell_of_heap Q1 6 _ rfl
  have b7 : w2.cell? ⟨w.heap.size, 7, none⟩ = some (.bool false) := cell_of_heap Q1 7 _ rfl
  have b8 : w2.cell? ⟨w.heap.size, 8, none⟩ = some (.int .u8 0) := cell_of_heap Q1 8 _ rfl
  have b9 : w2.cell? ⟨w.heap.size, 9, none⟩ = some (.int .u8 0) := cell_of_heap Q1 9 _ rfl
  have b10 : w2.cell? ⟨w.heap.size, 10, none⟩ = some (.int .u32 0) := cell_of_heap Q1 10 _ rfl
  have b11 : w2.cell? ⟨w.heap.size, 11, none⟩ = some (.slice none 0 0) := cell_of_heap Q1 11 _ rfl
  clear hb hb1 q1 Q1 c3
  rcases he with ⟨h0, rfl⟩ | ⟨h0, A', c', rfl, hrow⟩
  · have HQ0 : Hid (T.q = []) := by
      show _ = _
      have := HI.out.hq
      rw [h0] at this
      exact (List.nil_perm.1 this)
    clear h0
    go_wp2_with fail
    refine bodyPost_ret (v := .tuple #[.agg #[.int .i64 0, .int .i64 0, .int .u32 0, .bool false, .bool false, .bool false, .bool false, .bool false, .int .u8 0, .int .u8 0, .int .u32 0, .slice none 0 0], .int .i64 9]) (by simp [results, Try.results20, go_sem, *]) rfl ⟨.inl ⟨HQ0.out, rfl⟩, ?_⟩
    repeat (refine Below.setCell ?_ (by simp) _)
    exact HB.out
  · have hq0 : ∃ y r, T.q = y :: r := by
      cases hT : T.q with
      | nil => have := HI.out.hq.length_eq; rw [hT, List.length_map, List.length_nil] at this; omega
      | cons y r => exact ⟨y, r, rfl⟩
    obtain ⟨y, r, hq⟩ := hq0
    have hI := HI.out
    have hhq := hI.hq
    have hhs := hI.hs
    rw [hq] at hhq hhs
    obtain ⟨-, hhd⟩ := head_eq hhq hhs hI.queue.ord (fun e he => (hI.queue.ok e he).2.1) hI.queue.nodup
    have hmem : ag ql 0 ∈ ql := by rw [ag_get h0]; exact List.getElem_mem _
    have hok := hI.queue.ok _ hmem
    obtain ⟨x, hx⟩ : ∃ x, ag ql 0 = x := ⟨_, rfl⟩
    rw [hx] at hhd hok hrow ⊢
    have HX : Hid (T.q = ⟨x.no, x.f⟩ :: r) := by show _ = _; rw [hq, ← hhd]; rfl
    have HROW := Lib.hid hrow
    have HOK := Lib.hid hok
    clear hq hI hhq hhs hhd hmem hok hx hrow h0
    simp only [itL]
    go_wp2_with fail
    refine bodyPost_ret (v := .tuple #[.agg #[.int .i64 x.no, .int .i64 x.f.kind, .int .u32 x.f.id, .bool x.f.ext, .bool x.f.rtr, .bool x.f.brs, .bool x.f.esi, .bool x.f.sec, .int .u8 x.f.sdt, .int .u8 x.f.vcid, .int .u32 x.f.af, .slice A' x.f.data.length c'], .int .i64 0]) (by simp [results, Try.results20, go_sem, *]) rfl ⟨.inr ⟨⟨x.no, x.f⟩, r, A', c', HX.out, rfl, ?_, HOK.out.1, HOK.out.2.2⟩, ?_⟩
    · repeat (refine Row.turn (s := [w.heap.size]) ?_ ((Turn.refl _ _).setCell (by simp) _) (fun ad e hm => by have := HROW.out.geq ad e; simp at hm; omega))
      exact HROW.out.mono (by omega)
    · repeat (refine Below.setCell ?_ (by simp) _)
      exact HB.out
end Go.Proofs.Ytlmdkmflbhnlgaa
