/- slices.Repeat of one byte, ten times. No condition. -/
import Derived.Test.YtlmdkmflbhnlgaaGreatPot
import Derived.Laws.CopyOwn
import Derived.StillTailTactics
import Derived.Deep.DeepFit
namespace Go.Proofs.YtlmdkmflbhnlgaaGreat
open Go.RowKit
set_option maxRecDepth 100000 in
set_option maxHeartbeats 1000000 in
theorem mul64_lit (w : World) : Calls Tryz.prog 93 #[.int .u64 1, .int .u64 10] w fun e w' => e = .returned (.tuple #[.int .u64 0, .int .u64 10]) ∧ w = w' := by
  go_enter Tryz.func93, Tryz.ntmps93
  go_wp2
  go_ret2
  exact ⟨by kernel_rfl, rfl⟩
set_option maxHeartbeats 1000000 in
theorem mul_lit (w : World) : Calls Tryz.prog 70 #[.int .u64 1, .int .u64 10] w fun e w' => e = .returned (.tuple #[.int .u64 0, .int .u64 10]) ∧ w = w' := by
  have HM := Lib.hid mul64_lit
  go_enter Tryz.func70, Tryz.ntmps70
  go_wp2_with (go_at_call 93; refine (HM.out _).mono ?_; rintro e _ ⟨rfl, rfl⟩)
  go_ret2
  exact ⟨rfl, rfl⟩
def onesL (k n : Nat) : List Value := List.replicate k (.int .u8 1) ++ List.replicate (n - k) (.int .u8 0)
theorem onesL_length (k n : Nat) (h : k ≤ n) : (onesL k n).length = n := by simp [onesL]; omega
theorem onesL_splice (k m n : Nat) (h : k + m ≤ n) : splice (onesL k n) k (List.replicate m (.int .u8 1)) = onesL (k + m) n := by
  unfold splice onesL
  rw [List.take_left' (by simp), List.length_replicate, List.drop_append, List.drop_eq_nil_of_le (by simp), List.nil_append, List.length_replicate, List.drop_replicate, ← List.append_assoc, List.replicate_append_replicate]
  congr 2
  omega
set_option maxRecDepth 100000 in
set_option maxHeartbeats 2000000 in
theorem repeat_any (w : World) (h : Nat) (hh : w.heap[h]? = some (.cells #[.int .u8 1] 5)) :
    Calls Tryz.prog 44 #[.slice (some ⟨h, 0, none⟩) 1 1, .int .i64 10] w fun e w' => (∃ A c, e = .returned (.slice A 10 c) ∧ Row w' w.heap.size 5 A c (bys (List.replicate 10 1))) ∧ Below w.heap.size w w' := by
  obtain ⟨i0, hi, hz0, hz1, hz2⟩ := info_parts info_u8
  have hsz : (Tryz.prog.info? 5).map (·.size) = some 1 := by rw [hi]; simp [hz1]
  have HM := Lib.hid mul_lit
  have hone1 : ∀ v ∈ [Value.int .u8 1], v.oneCell' = true := by intro v hv; simp at hv; subst hv; rfl
  have HH := Lib.hid hh
  have hmk : ∀ W : World, Sem.run Tryz.prog (Instr.makeSlice 22 (.int .i64 10) (.int .i64 10)) W = .ok (.slice (some ⟨W.heap.size, 0, none⟩) 10 10) (W.alloc (.cells #[.int .u8 0, .int .u8 0, .int .u8 0, .int .u8 0, .int .u8 0, .int .u8 0, .int .u8 0, .int .u8 0, .int .u8 0, .int .u8 0] 5)) := fun _ => by kernel_rfl
  clear hh
  go_enter Tryz.func44, Tryz.ntmps44
  go_wp2_with (first
    | (go_at_call 70; refine (HM.out _).mono ?_; rintro e _ ⟨rfl, rfl⟩)
    | (with_reducible refine wpList_copy_splice rfl (.tmp 31) (.tmp 32) 22 22 rfl 5 Tryz.underlying22 hsz _ _ 10 10 1 1 rfl rfl w.heap.size 0 (List.replicate 10 (.int .u8 0)) 5 (heap_new_at rfl) [.int .u8 1] rfl (fun _ => ⟨rfl, _, rfl, World.news_of_block (heap_push HH.out)⟩) (by simp) hone1 w.heap.size w (below_alloc (Below.refl _ _) _) (Nat.le_refl _) ?_; intro w1 hs1 hb1))
  obtain ⟨g, hg⟩ : ∃ g, w.heap.size = g := ⟨_, rfl⟩
  have hs1' : Hid (w1.heap[g]? = some (.cells (onesL 1 10).toArray 5)) := by rw [← hg]; exact hs1
  have HB1 : Hid (Below g w w1) := by rw [← hg]; exact Lib.hid hb1
  have HG := Lib.hid hg
  rw [hg]
  clear hs1 hb1 hg hmk
  go_loopw [8] (fun v wr => ∃ k : Nat, 1 ≤ k ∧ k ≤ 10 ∧ v = .int .i64 k ∧ Hid (wr.heap[g]? = some (.cells (onesL k 10).toArray 5)) ∧ Hid (Below g w wr)) (fun v _ => 10 - (intOf v).toNat)
  case atStart => exact ⟨1, by omega, by omega, rfl, hs1', HB1⟩
  case round =>
    obtain ⟨k, hk1, hk2, rfl, HS, HB⟩ := hrel
    by_cases hlt : k < 10
    · obtain ⟨m, hm⟩ : ∃ m, Nat.min k (10 - k) = m := ⟨_, rfl⟩
      have hm1 : 1 ≤ m ∧ k + m ≤ 10 := by rw [← hm]; show 1 ≤ min k (10 - k) ∧ k + min k (10 - k) ≤ 10; omega
      have hi1 : (k : Int) ≤ 10 := by omega
      have hi0 : (0 : Int) ≤ k := by omega
      have HM1 := Lib.hid hm1
      have hsum : IntKind.i64.wrap ((k : Int) + (m : Int)) = (k : Int) + (m : Int) := IntWalk.i64_in _ (by omega)
      have hne10 : ¬ (10 : Nat) = k := by omega
      obtain ⟨d, hd⟩ : ∃ d, 10 - k = d := ⟨_, rfl⟩
      rw [hd] at hm
      obtain ⟨cs, hcs⟩ : ∃ cs, List.replicate m (Value.int .u8 1) = cs := ⟨_, rfl⟩
      obtain ⟨cur, hcur⟩ : ∃ cur, onesL k 10 = cur := ⟨_, rfl⟩
      have hcl : cs.length = m := by rw [← hcs]; simp
      have HC1 := Lib.hid (show cs.length = Nat.min k d by rw [hcl]; exact hm.symm)
      have hmk' : m ≤ k := by rw [← hm]; exact Nat.min_le_left _ _
      have HC2 := Lib.hid (show ∀ j v, cs[j]? = some v → wr.drew.cell? ((⟨g, 0, none⟩ : Addr).add j) = some v by
        intro j v hj
        have hjm : j < m := by have := (List.getElem?_eq_some_iff.1 hj).1; rw [hcl] at this; exact this
        refine World.news_of_block (w := wr.drew) HS.out j v ?_
        show (onesL k 10)[j]? = some v
        unfold onesL
        rw [List.getElem?_append_left (by simp; omega), ← hj, ← hcs]
        simp [hjm, show j < k by omega])
      have HC3 := Lib.hid (show k + cs.length ≤ cur.length by rw [hcl, ← hcur, onesL_length _ _ hk2]; exact hm1.2)
      have HC4 := Lib.hid (show ∀ v ∈ cs, v.oneCell' = true by intro v hv; rw [← hcs] at hv; rw [List.eq_of_mem_replicate hv]; rfl)
      have HS2 := Lib.hid (show wr.drew.heap[g]? = some (.cells cur.toArray 5) by rw [← hcur]; exact HS.out)
      have HSP := Lib.hid (show splice cur k cs = onesL (k + m) 10 by rw [← hcur, ← hcs]; exact onesL_splice k m 10 hm1.2)
      clear hcs hcur
      clear hm
      go_wp2_with fail
      go_region_law (first
        | (refine step_copy_splice rfl (.tmp 41) (.tmp 44) 22 22 rfl 5 Tryz.underlying22 hsz (some ⟨g, k, none⟩) (some ⟨g, 0, none⟩) d d k 10 (by kernel_rfl) (by kernel_rfl) g k cur 5 HS2.out cs HC1.out (fun _ => ⟨rfl, _, rfl, HC2.out⟩) HC3.out HC4.out g w HB.out.drew (Nat.le_refl _) ?_; intro w3 hs3 hb3))
      all_goals
        go_frame
        go_roundw
        case rel => ((repeat apply Exists.intro); exact ⟨⟨k + m, by omega, HM1.out.2, by go_num, by show _ = _; rw [← HSP.out]; exact hs3.out, hb3⟩, rfl⟩)
        case measure => simp [intOf]; have := HM1.out.1; omega
    · obtain rfl : k = 10 := by omega
      go_wp2_with fail
      go_ret
      have e : onesL 10 10 = bys (List.replicate 10 1) := rfl
      have hs := HS.out
      rw [e] at hs
      rw [HG.out]
      exact ⟨⟨_, _, rfl, ⟨by simp [bys_length], .inr ⟨g, 10, _, by rw [bys_length, List.length_replicate], Nat.le_refl _, hs, by simp [bys_length], by decide, by simp [bys_length], by simp [bys]⟩⟩⟩, HB.out⟩
end Go.Proofs.YtlmdkmflbhnlgaaGreat
