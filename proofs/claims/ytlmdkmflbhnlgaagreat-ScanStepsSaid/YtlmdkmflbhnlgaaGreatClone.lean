/- bytes.Clone and frame.Copy: bytes, and a frame, in memory of their own. No condition. -/
import Derived.Test.YtlmdkmflbhnlgaaGreatSame
import Derived.Test.YtlmdkmflbhnlgaaGreatAppB
import Derived.Test.YtlmdkmflbhnlgaaGreatOwn
namespace Go.Proofs.YtlmdkmflbhnlgaaGreat
open Go.RowKit
theorem info_u8c : (Tryz.prog.info? 5).map (fun i => (i.zero, i.size, i.bytes)) = some (some (.int .u8 0), 1, 1) := by kernel_rfl
set_option maxRecDepth 100000 in
set_option maxHeartbeats 1000000 in
theorem Clone_any (w : World) (A : Option Addr) (c n : Nat) (l : List Nat) (hr : Rd w A (bys l)) (hn : l.length = n) (hn2 : n ≤ 1000000) (hz : A = none → c = 0) :
    Calls Tryz.prog 52 #[.slice A n c] w fun e w' => (∃ A' c', e = .returned (.slice A' n c') ∧ Row w' w.heap.size 5 A' c' (bys l)) ∧ Below w.heap.size w w' := by
  obtain ⟨i0, hi, hz0, hz1, hz2⟩ := info_parts info_u8c
  cases A with
  | none =>
    have hl : l = [] := by
      cases l with
      | nil => rfl
      | cons x l => obtain ⟨ad, e, _⟩ := hr 0 _ (by simp [bys]; rfl); cases e
    subst hl
    obtain rfl : c = 0 := hz rfl
    obtain rfl : n = 0 := by simpa using hn.symm
    clear hr hn hz
    have E0 : ∀ W, Sem.run Tryz.prog (binOp .eql 22 (.slice none 0 0) (.slice none 0 0)) W = .ok (.bool true) W := fun _ => by kernel_rfl
    go_enter Tryz.func52, Tryz.ntmps52
    go_wp2
    go_ret
    exact ⟨⟨none, 0, rfl, Row.nil _ _ _⟩, Below.refl _ _⟩
  | some ad =>
    have HR := Lib.hid hr
    have HN := Lib.hid hn
    have H0 : Hid (Row (w.alloc (.cells #[] 5)) w.heap.size 5 (some ⟨w.heap.size, 0, none⟩) 0 (bys [])) := own_lit (cs := []) (Nat.le_refl _) rfl (by decide)
    clear hr hn hz
    have E0 : ∀ W, Sem.run Tryz.prog (binOp .eql 22 (.slice (some ad) n c) (.slice none 0 0)) W = .ok (.bool false) W := fun _ => by kernel_rfl
    go_enter Tryz.func52, Tryz.ntmps52
    go_wp2_with (at_builtin; refine wpList_appB rfl (.tmp 5) (.tmp 6) 22 rfl w.heap.size 5 i0 _ 1 Tryz.underlying22 hi hz0 hz1 hz2 rfl _ 0 0 (bys []) rfl rfl H0.out (some ad) n c (bys l) rfl (by rw [bys_length]; exact HN.out) (HR.out.alloc _) (bys_one _) (fun _ h => by cases h) n (by omega) (by unfold maxLen; omega) (by omega) (by simp) ?_; intro w3 A3 c3 hrow hb3)
    go_ret
    exact ⟨⟨_, _, rfl, hrow.out⟩, below_alloc (Below.refl _ _) _ |>.trans hb3.out⟩
set_option maxRecDepth 100000 in
set_option maxHeartbeats 1000000 in
theorem Copy_any (w : World) (f : Fr) (A : Option Addr) (c : Nat) (hr : Rd w A (bys f.data)) (hn2 : f.data.length ≤ 1000000) (hz : A = none → c = 0) :
    Calls Tryz.prog 28 #[frv f (.slice A f.data.length c)] w fun e w' => (∃ A' c', e = .returned (frv f (.slice A' f.data.length c')) ∧ Row w' w.heap.size 5 A' c' (bys f.data)) ∧ Below w.heap.size w w' := by
  obtain ⟨fk, fi, fe, fr, f4, f5, f6, f7, f8, f9, l⟩ := f
  dsimp only [frv] at *
  obtain ⟨n, hn⟩ : ∃ n, l.length = n := ⟨_, rfl⟩
  rw [hn] at hn2 ⊢
  have HC := fun W hW => Clone_any W A c n l hW hn hn2 hz
  have HR := Lib.hid hr
  have HC' := Lib.hid HC
  clear hr hn HC hz
  go_enter Tryz.func28, Tryz.ntmps28
  go_wp2_with fail
  refine calls_blk2 fun W1 q1 q2 hb1 => ?_
  refine (HC'.out _ (HR.out.below hb1)).mono ?_
  rintro e w1 ⟨⟨A', c', rfl, hrow⟩, hb⟩
  obtain ⟨a0, a1, a2, a3, a4, a5, a6, a7, a8, a9, a10⟩ := cells11 (heap_below hb q1)
  have z10 : w1.frozen? ⟨w.heap.size, 10, none⟩ = false := by simp [World.frozen?, heap_below hb q1]
  have k2 := Lib.hid (heap_below hb q2)
  obtain ⟨b0, b1, b2, b3, b4, b5, b6, b7, b8, b9, b10⟩ := cells11 k2.out
  have zb : ∀ o, w1.frozen? ⟨w.heap.size + 1, o, none⟩ = false := fun o => by simp [World.frozen?, k2.out]
  have HB := Lib.hid (below_trans hb1 hb)
  have HROW := Lib.hid (hrow.mono (heap_lt q2))
  clear hb hb1 hrow q1 q2
  go_wp2
  refine bodyPost_ret (v := .agg #[.int .i64 fk, .int .u32 fi, .bool fe, .bool fr, .bool f4, .bool f5, .bool f6, .int .u8 f7, .int .u8 f8, .int .u32 f9, .slice A' n c']) (by simp [results, Tryz.results28, go_sem, *]) rfl ⟨⟨A', c', rfl, ?_⟩, ?_⟩
  · repeat (refine Row.turn (s := [w.heap.size, w.heap.size + 1]) ?_ ((Turn.refl _ _).setCell (by simp) _) (fun ad e hm => by have := HROW.out.geq ad e; simp at hm; omega))
    exact HROW.out.mono (by omega)
  · repeat (refine Below.setCell ?_ (by simp) _)
    exact HB.out
end Go.Proofs.YtlmdkmflbhnlgaaGreat
