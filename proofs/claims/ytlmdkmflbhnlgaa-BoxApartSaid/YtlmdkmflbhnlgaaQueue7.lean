/- queue: Head and Cancel. No condition. -/
import Derived.Test.YtlmdkmflbhnlgaaQueue6
namespace Go.Proofs.Ytlmdkmflbhnlgaa
open Go.RowKit
set_option maxRecDepth 100000 in
set_option maxHeartbeats 4000000 in
theorem Head_any (w : World) (base qb room last cap : Nat) (A : Option Addr) (l : List QN) (h : QueueI w base qb room last A cap l) :
    Calls Try.prog 45 #[.pointer (some ⟨qb, 0, none⟩)] w (HeadOf w l) := by
  have hqb : qb < w.heap.size := heap_lt h.heap.box
  have c2 : w.cell? ⟨qb, 2, none⟩ = some (.slice A l.length cap) := cell_of_heap h.heap.box 2 _ rfl
  have hcap := h.heap.capm
  cases l with
  | nil =>
    clear h hcap
    go_enter Try.func45, Try.ntmps45
    go_wp2
    refine bodyPost_ret (v := .tuple #[.agg #[.int .i64 0, .int .i64 0, .int .u32 0, .bool false, .bool false, .bool false, .bool false, .bool false, .int .u8 0, .int .u8 0, .int .u32 0, .slice none 0 0], .int .i64 9]) (by simp [results, Try.results45, go_sem]) rfl ⟨.inl ⟨rfl, rfl⟩, ?_⟩
    repeat (first | exact below_alloc (Below.refl _ _) _ | refine Below.setCell ?_ (by simp) _)
  | cons x l =>
    obtain ⟨g, rfl, ci⟩ := h.heap.cells 0 (by simp)
    have hx : (x :: l)[0] = x := rfl
    rw [hx] at ci
    have hmem : x ∈ x :: l := List.mem_cons_self
    have hdat := h.data x hmem
    have hlen : x.f.data.length ≤ 2048 := by have := codeF_kind _ _ ((okF_iff x.f).1 (h.ok x hmem).1).size; omega
    have HO := Lib.hid (fun W hW => own_any W x hW (by omega) (fun e => hdat.none_ e))
    have HD := Lib.hid hdat
    obtain ⟨n, hn⟩ : ∃ n, l.length = n := ⟨_, rfl⟩
    have hnz : 0 < n + 1 := by omega
    rw [List.length_cons, hn] at c2 hcap
    obtain ⟨hcap, hm⟩ := hcap
    have hcm : (cap : Int) ≤ 9223372036854775807 := by unfold maxLen at hm; omega
    have hn63 : (n : Int) + 1 ≤ 64 := by have := h.len; have := h.room; simp only [List.length_cons] at *; omega
    have hne : (((n + 1 : Nat) : Int) == 0) = false := by rw [beq_eq_false_iff_ne]; omega
    have hag : ag (x :: l) 0 = x := rfl
    have a0 : w.cell? ⟨g, 0, none⟩ = some (.int .i64 x.no) := by have := ci 0 _ rfl; simpa using this
    have a1 : w.cell? ⟨g, 1, none⟩ = some (.int .i64 x.f.kind) := by have := ci 1 _ rfl; simpa using this
    have a2 : w.cell? ⟨g, 2, none⟩ = some (.int .u32 x.f.id) := by have := ci 2 _ rfl; simpa using this
    have a3 : w.cell? ⟨g, 3, none⟩ = some (.bool x.f.ext) := by have := ci 3 _ rfl; simpa using this
    have a4 : w.cell? ⟨g, 4, none⟩ = some (.bool x.f.rtr) := by have := ci 4 _ rfl; simpa using this
    have a5 : w.cell? ⟨g, 5, none⟩ = some (.bool x.f.brs) := by have := ci 5 _ rfl; simpa using this
    have a6 : w.cell? ⟨g, 6, none⟩ = some (.bool x.f.esi) := by have := ci 6 _ rfl; simpa using this
    have a7 : w.cell? ⟨g, 7, none⟩ = some (.bool x.f.sec) := by have := ci 7 _ rfl; simpa using this
    have a8 : w.cell? ⟨g, 8, none⟩ = some (.int .u8 x.f.sdt) := by have := ci 8 _ rfl; simpa using this
    have a9 : w.cell? ⟨g, 9, none⟩ = some (.int .u8 x.f.vcid) := by have := ci 9 _ rfl; simpa using this
    have a10 : w.cell? ⟨g, 10, none⟩ = some (.int .u32 x.f.af) := by have := ci 10 _ rfl; simpa using this
    have a11 : w.cell? ⟨g, 11, none⟩ = some (.slice x.A x.f.data.length x.c) := by have := ci 11 _ rfl; simpa using this
    have a12 : w.cell? ⟨g, 12, none⟩ = some (.int .u64 x.key) := by have := ci 12 _ rfl; simpa using this
    have hgl : g < w.heap.size := cell_lt a0
    have HAG := Lib.hid hag
    clear h hdat hm ci hx hmem hn hag
    dsimp only [qV] at HO
    go_enter Try.func45, Try.ntmps45
    go_wp2_with fail
    refine calls_blk1 fun W1 q1 hb1 => ?_
    refine (HO.out _ (HD.out.rd.below hb1)).mono ?_
    rintro e w1 ⟨⟨A', c', rfl, hrow⟩, hb⟩
    have Q1 := heap_below hb q1
    have zb : ∀ o, w1.frozen? ⟨w.heap.size, o, none⟩ = false := fun o => by simp [World.frozen?, Q1]
    have b0 : w1.cell? ⟨w.heap.size, 0, none⟩ = some (.int .i64 0) := cell_of_heap Q1 0 _ rfl
    have b1 : w1.cell? ⟨w.heap.size, 1, none⟩ = some (.int .i64 0) := cell_of_heap Q1 1 _ rfl
    have b2 : w1.cell? ⟨w.heap.size, 2, none⟩ = some (.int .u32 0) := cell_of_heap Q1 2 _ rfl
    have b3 : w1.cell? ⟨w.heap.size, 3, none⟩ = some (.bool false) := cell_of_heap Q1 3 _ rfl
    have b4 : w1.cell? ⟨w.heap.size, 4, none⟩ = some (.bool false) := cell_of_heap Q1 4 _ rfl
    have b5 : w1.cell? ⟨w.heap.size, 5, none⟩ = some (.bool false) := cell_of_heap Q1 5 _ rfl
    have b6 : w1.cell? ⟨w.heap.size, 6, none⟩ = some (.bool false) := cell_of_heap Q1 6 _ rfl
    have b7 : w1.cell? ⟨w.heap.size, 7, none⟩ = some (.bool false) := cell_of_heap Q1 7 _ rfl
    have b8 : w1.cell? ⟨w.heap.size, 8, none⟩ = some (.int .u8 0) := cell_of_heap Q1 8 _ rfl
    have b9 : w1.cell? ⟨w.heap.size, 9, none⟩ = some (.int .u8 0) := cell_of_heap Q1 9 _ rfl
    have b10 : w1.cell? ⟨w.heap.size, 10, none⟩ = some (.int .u32 0) := cell_of_heap Q1 10 _ rfl
    have b11 : w1.cell? ⟨w.heap.size, 11, none⟩ = some (.slice none 0 0) := cell_of_heap Q1 11 _ rfl
    have HB := Lib.hid (below_trans hb1 hb)
    have HROW := Lib.hid (hrow.mono (show w.heap.size + 1 ≤ W1.heap.size from heap_lt q1))
    clear hb hb1 hrow q1 Q1
    simp only [itL]
    go_wp2_with fail
    refine bodyPost_ret (v := .tuple #[.agg (itL x.no x.f A' c').toArray, .int .i64 0]) (by simp [results, Try.results45, go_sem, itL, *]) rfl ⟨.inr ⟨by simp, A', c', by rw [HAG.out], ?_⟩, ?_⟩
    · rw [HAG.out]
      repeat (refine Row.turn (s := [w.heap.size]) ?_ ((Turn.refl _ _).setCell (by simp) _) (fun ad e hm => by have := HROW.out.geq ad e; simp at hm; omega))
      exact HROW.out.mono (by omega)
    · repeat (refine Below.setCell ?_ (by simp) _)
      exact HB.out
/-- What Cancel answers and leaves. -/
def CancelQ (w : World) (base qb room last : Nat) (A : Option Addr) (cap : Nat) (l : List QN) (no : Int) (e : Ending) (w' : World) : Prop :=
  ((∀ x ∈ l, x.no ≠ no) ∧ e = .returned (.int .i64 9) ∧ Below w.heap.size w w') ∨
    (∃ x l', x ∈ l ∧ x.no = no ∧ e = .returned (.int .i64 0) ∧ HeapQ w' base qb room last A cap l' ∧ HeapTo kyQ l' l'.length ∧ l.Perm (x :: l') ∧ Turn (qb :: blkA A) w w')
set_option maxRecDepth 100000 in
set_option maxHeartbeats 4000000 in
theorem qCancel_any (w : World) (base qb room last cap : Nat) (A : Option Addr) (l : List QN) (no : Int) (h : HeapQ w base qb room last A cap l) (hh : HeapTo kyQ l l.length) (h64 : l.length ≤ 64) :
    Calls Try.prog 71 #[.pointer (some ⟨qb, 0, none⟩), .int .i64 no] w (CancelQ w base qb room last A cap l no) := by
  have hqb : qb < w.heap.size := heap_lt h.box
  have c2 : w.cell? ⟨qb, 2, none⟩ = some (.slice A l.length cap) := cell_of_heap h.box 2 _ rfl
  have HQ := Lib.hid h
  have HH := Lib.hid hh
  obtain ⟨n, hn⟩ : ∃ n, l.length = n := ⟨_, rfl⟩
  rw [hn] at c2 h64
  have HN := Lib.hid hn
  clear h hh hn
  go_enter Try.func71, Try.ntmps71
  go_wp2_with fail
  refine calls_blk1 fun W1 q1 hb1 => ?_
  refine (qIndex_any W1 base qb room last cap n w.heap.size A no l (HQ.out.below hb1) HN.out (by omega) (cell_of_heap q1 0 _ rfl)).mono ?_
  rintro e w1 ⟨he, hb⟩
  have HB := Lib.hid (below_trans hb1 hb)
  clear hb hb1 q1 c2
  rcases he with ⟨k, hk, rfl, hno⟩ | ⟨rfl, hno⟩
  · have hk2 : k < n := by rw [← HN.out]; exact hk
    obtain ⟨m, rfl⟩ : ∃ m, n = m + 1 := ⟨n - 1, by omega⟩
    have HR := Lib.hid (qRemove_any w1 base qb room last cap m k A l (HQ.out.below HB.out) HH.out HN.out (by omega) (by omega))
    have HNO := Lib.hid hno
    have HAG : Hid (ag l k = l[k]'hk) := ag_get hk
    have HMEM : Hid (l[k]'hk ∈ l) := List.getElem_mem hk
    have hnn : ¬ (k : Int) < 0 := by omega
    clear hno
    go_wp2_with fail
    refine HR.out.mono ?_
    rintro e w2 ⟨l', rfl, h2, hh2, hp2, t2⟩
    have HE : Hid (CancelQ w base qb room last A cap l no (.returned (.int .i64 0)) w2) := by
      refine .inr ⟨l[k]'hk, l', HMEM.out, HNO.out, rfl, h2, hh2, ?_, (Turn.of HB.out).tr t2⟩
      rw [← HAG.out]; exact hp2
    clear h2 hh2 hp2 t2
    go_wp2_with fail
    go_ret
    exact HE.out
  · have HNO := Lib.hid hno
    clear hno
    go_wp2_with fail
    go_ret
    refine .inl ⟨fun x hx => ?_, rfl, HB.out⟩
    obtain ⟨j, hj, rfl⟩ := List.getElem_of_mem hx
    exact HNO.out j hj
end Go.Proofs.Ytlmdkmflbhnlgaa
