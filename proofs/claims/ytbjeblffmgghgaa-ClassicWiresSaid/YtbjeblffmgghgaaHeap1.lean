/- The entries of layer 10's heap: which of two wins. No condition. -/
import Derived.Test.YtbjeblffmgghgaaKey
import Derived.Test.YtbjeblffmgghgaaAppend
import Derived.Test.YtbjeblffmgghgaaHeapPlain
namespace Go.Proofs.Ytbjeblffmgghgaa
open Go.RowKit
theorem cell_of_heap {w : World} {g : Nat} {cs : Array Value} {t : TypeId} {fr : Nat × Nat} (h : w.heap[g]? = some (.cells cs t fr)) (k : Nat) (v : Value) (hk : cs[k]? = some v) : w.cell? ⟨g, k, none⟩ = some v := by
  unfold World.cell?
  simp only
  rw [h]
  exact hk
theorem isNaN_int (n : Int) (w : World) : Calls Try.prog 134 #[.int .i64 n] w fun e w' => e = .returned (.bool false) ∧ w = w' := by
  go_enter Try.func134, Try.ntmps134
  go_wp2
  go_ret
  exact ⟨by simp, rfl⟩
set_option maxHeartbeats 400000 in
theorem cmp_int (a b : Int) (w : World) : Calls Try.prog 164 #[.int .i64 a, .int .i64 b] w fun e w' => e = .returned (.int .i64 (cmpI a b)) ∧ w = w' := by
  have hf : cmpI a b = if a < b then -1 else if b < a then 1 else 0 := rfl
  generalize cmpI a b = r at *
  have HF := Lib.hid hf
  clear hf
  go_enter Try.func164, Try.ntmps164
  go_wp2_with (go_at_call 134; refine (isNaN_int _ _).mono ?_; rintro e w' ⟨rfl, rfl⟩)
  all_goals
    go_ret
    exact ⟨ret_int (by rw [HF.out]; (repeat (first | rw [if_pos (by omega)] | rw [if_neg (by omega)]))), rfl⟩
set_option maxHeartbeats 400000 in
theorem Or_two (g : Nat) (x y : Int) (t : TypeId) (w : World) (h : w.heap[g]? = some (.cells #[.int .i64 x, .int .i64 y] t (0, 0))) :
    Calls Try.prog 163 #[.slice (some ⟨g, 0, none⟩) 2 2] w fun e w' => e = .returned (.int .i64 (if x = 0 then y else x)) ∧ w = w' := by
  have c0 : w.cell? ⟨g, 0, none⟩ = some (.int .i64 x) := by simp [World.cell?, h]
  have c1 : w.cell? ⟨g, 1, none⟩ = some (.int .i64 y) := by simp [World.cell?, h]
  obtain ⟨r, hf⟩ : ∃ r, r = if x = 0 then y else x := ⟨_, rfl⟩
  rw [← hf]
  have HF := Lib.hid hf
  clear hf h
  go_enter Try.func163, Try.ntmps163
  go_wp2
  go_loop [8] (fun iv => ∃ k : Nat, k ≤ 2 ∧ Hid (1 ≤ k → x = 0) ∧ Hid (2 ≤ k → y = 0) ∧ iv = .int .i64 k) (fun iv => 2 - (intOf iv).toNat)
  case atStart => exact ⟨0, by omega, fun h => absurd h (by omega), fun h => absurd h (by omega), rfl⟩
  case round =>
    obtain ⟨k, hk, K1, K2, rfl⟩ := hrel
    have hk' : k = 0 ∨ k = 1 ∨ k = 2 := by omega
    rcases hk' with rfl | rfl | rfl
    · by_cases hx : x = 0
      · go_wp2
        go_round
        case rel => exact ⟨1, by omega, fun _ => hx, fun h => absurd h (by omega), rfl⟩
        case measure => simp [intOf]
      · go_wp2
        go_ret
        exact ⟨ret_int (by rw [HF.out, if_neg hx]), rfl⟩
    · have hx := K1.out (by omega)
      by_cases hy : y = 0
      · go_wp2
        go_round
        case rel => exact ⟨2, by omega, fun _ => hx, fun _ => hy, rfl⟩
        case measure => simp [intOf]
      · go_wp2
        go_ret
        exact ⟨ret_int (by rw [HF.out, if_pos hx]), rfl⟩
    · have hx := K1.out (by omega)
      have hy := K2.out (by omega)
      go_wp2
      go_ret
      exact ⟨ret_int (by rw [HF.out, if_pos hx, hy]), rfl⟩
theorem ltE_cmp (k1 a1 k2 a2 : Int) : decide ((if cmpI k1 k2 = 0 then cmpI a1 a2 else cmpI k1 k2) < 0) = ltE (k1, a1) (k2, a2) := by
  unfold ltE cmpI
  rw [Bool.eq_iff_iff]
  simp only [decide_eq_true_eq, Bool.or_eq_true, Bool.and_eq_true]
  (repeat' split) <;> omega
set_option maxRecDepth 100000 in
set_option maxHeartbeats 2000000 in
theorem ahead_any (k1 a1 k2 a2 : Int) (w : World) : Calls Try.prog 162 #[.agg #[.int .u64 k1, .int .i64 a1], .agg #[.int .u64 k2, .int .i64 a2]] w fun e w' => e = .returned (.bool (ltE (k1, a1) (k2, a2))) ∧ Below w.heap.size w w' := by
  have hf := ltE_cmp k1 a1 k2 a2
  generalize ltE (k1, a1) (k2, a2) = r at *
  have HC := fun W => cmp_u64 k1 k2 W
  have HD := fun W => cmp_int a1 a2 W
  generalize cmpI k1 k2 = x at *
  generalize cmpI a1 a2 = y at *
  have HE := fun g t W => Or_two g x y t W
  generalize (if x = 0 then y else x) = z at *
  have HF := Lib.hid hf
  have H1 := Lib.hid HC
  have H2 := Lib.hid HD
  have H3 := Lib.hid HE
  clear hf HC HD HE
  go_enter Try.func162, Try.ntmps162
  go_wp2_with fail
  have b0 : ∀ v0 v1 v2 v3 t0 t1, ((w.alloc (.cells #[v0, v1] t0)).alloc (.cells #[v2, v3] t1)).cell? ⟨w.heap.size, 0, none⟩ = some v0 ∧ ((w.alloc (.cells #[v0, v1] t0)).alloc (.cells #[v2, v3] t1)).cell? ⟨w.heap.size, 1, none⟩ = some v1 ∧
      ((w.alloc (.cells #[v0, v1] t0)).alloc (.cells #[v2, v3] t1)).cell? ⟨w.heap.size + 1, 0, none⟩ = some v2 ∧ ((w.alloc (.cells #[v0, v1] t0)).alloc (.cells #[v2, v3] t1)).cell? ⟨w.heap.size + 1, 1, none⟩ = some v3 := fun v0 v1 v2 v3 t0 t1 => by
    have h0 : ((w.alloc (.cells #[v0, v1] t0)).alloc (.cells #[v2, v3] t1)).heap[w.heap.size]? = some (.cells #[v0, v1] t0) := heap_push (heap_new_at rfl)
    have h1 : ((w.alloc (.cells #[v0, v1] t0)).alloc (.cells #[v2, v3] t1)).heap[w.heap.size + 1]? = some (.cells #[v2, v3] t1) := heap_new_at (by simp)
    exact ⟨cell_of_heap h0 0 _ rfl, cell_of_heap h0 1 _ rfl, cell_of_heap h1 0 _ rfl, cell_of_heap h1 1 _ rfl⟩
  obtain ⟨c0, c1, c2, c3⟩ := b0 (.int .u64 k1) (.int .i64 a1) (.int .u64 k2) (.int .i64 a2) 90 90
  clear b0
  have HB : Hid (Below w.heap.size w ((w.alloc (.cells #[.int .u64 k1, .int .i64 a1] 90)).alloc (.cells #[.int .u64 k2, .int .i64 a2] 90))) := below_alloc (below_alloc (Below.refl _ _) _) _
  generalize (w.alloc (.cells #[.int .u64 k1, .int .i64 a1] 90)).alloc (.cells #[.int .u64 k2, .int .i64 a2] 90) = W0 at *
  go_region_held3 (fun w' => w'.cell? ⟨w.heap.size, 0, none⟩ = some (.int .u64 k1) ∧ w'.cell? ⟨w.heap.size, 1, none⟩ = some (.int .i64 a1) ∧ w'.cell? ⟨w.heap.size + 1, 0, none⟩ = some (.int .u64 k2) ∧ w'.cell? ⟨w.heap.size + 1, 1, none⟩ = some (.int .i64 a2))
    (first
      | go_keep
      | exact ⟨c0, c1, c2, c3⟩
      | (refine ⟨?_, ?_, ?_, ?_⟩ <;> simp [*]))
    (first
      | (go_at_call 49; refine (H1.out _).mono ?_; rintro x _ ⟨rfl, rfl⟩)
      | (go_at_call 164; refine (H2.out _).mono ?_; rintro x _ ⟨rfl, rfl⟩)
      | (go_at_call 163; refine (H3.out _ _ (World.drew (W0.alloc (.cells #[.int .i64 x, .int .i64 y] 3))) (heap_new_at rfl)).mono ?_; rintro x _ ⟨rfl, rfl⟩))
  go_wp2
  go_ret
  exact ⟨ret_bool HF.out, (below_alloc HB.out _).drew⟩
end Go.Proofs.Ytbjeblffmgghgaa
