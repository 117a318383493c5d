/- box.New. No condition. -/
import Derived.Test.YtlmdkmflbhnlgaaBox0
namespace Go.Proofs.Ytlmdkmflbhnlgaa
open Go.RowKit
/-- A new box. -/
def newX (rs : List Ru) (els xl : Bool) (out inn : Nat) : BX := ⟨rs, els, xl, out, 0, [], inn, [], 0, 0, 0, 0, 0, 0, 0, 0⟩
abbrev confV (out inn : Int) (A : Option Addr) (n c : Nat) (els xl : Bool) : Value := .agg #[.int .i64 out, .int .i64 inn, .slice A n c, .bool els, .bool xl]
def NewOf (w : World) (base : Nat) (T : BX) (e : Ending) (w' : World) : Prop := (∃ b ft, e = .returned (.tuple #[.pointer (some ⟨b, 0, none⟩), .int .i64 0]) ∧ BoxA w' base 0 ft b T ∧ ∀ k ∈ ft, w.heap.size ≤ k) ∧ Below w.heap.size w w'
set_option maxRecDepth 100000 in
set_option maxHeartbeats 4000000 in
theorem New_any (w : World) (base out inn n c : Nat) (A : Option Addr) (els xl : Bool) (rs : List Ru) (hr : RdRu w A rs) (hn : rs.length = n) (hc : n ≤ 9223372036854775807) (hz : A = none → c = 0) (hwf : ∀ r ∈ rs, RuWf r) (ho : out ≤ 64) (hi : inn ≤ 64) (hb : bankOk rs = true) (hbase : base ≤ w.heap.size) :
    Calls Try.prog 10 #[confV out inn A n c els xl] w (NewOf w base (newX rs els xl out inn)) := by
  have h32 : n ≤ 32 := by
    unfold bankOk at hb
    rw [hn] at hb
    simp only [Bool.and_eq_true, decide_eq_true_eq] at hb
    exact hb.1
  have HFC := Lib.hid (fun W hW => FCheck_any A n c els rs W hW hn hc)
  rw [hb] at HFC
  have HR := Lib.hid hr
  have HN := Lib.hid hn
  have HZ := Lib.hid hz
  have HWF := Lib.hid hwf
  have HBK := Lib.hid hb
  clear hr hn hz hwf hb
  dsimp only [confV]
  go_enter Try.func10, Try.ntmps10
  go_wp2_with fail
  refine calls_blk1 fun W1 q1 hb1 => ?_
  have c0 : ∀ e : Ext W1, e.W.cell? ⟨w.heap.size, 0, none⟩ = some (.int .i64 out) := fun e => ext_cell (cell_of_heap q1 0 _ rfl) e
  have c1 : ∀ e : Ext W1, e.W.cell? ⟨w.heap.size, 1, none⟩ = some (.int .i64 inn) := fun e => ext_cell (cell_of_heap q1 1 _ rfl) e
  have c2 : ∀ e : Ext W1, e.W.cell? ⟨w.heap.size, 2, none⟩ = some (.slice A n c) := fun e => ext_cell (cell_of_heap q1 2 _ rfl) e
  have c3 : ∀ e : Ext W1, e.W.cell? ⟨w.heap.size, 3, none⟩ = some (.bool els) := fun e => ext_cell (cell_of_heap q1 3 _ rfl) e
  have c4 : ∀ e : Ext W1, e.W.cell? ⟨w.heap.size, 4, none⟩ = some (.bool xl) := fun e => ext_cell (cell_of_heap q1 4 _ rfl) e
  have Q1 := Lib.hid q1
  have HB1 := Lib.hid hb1
  clear q1 hb1
  refine (qNew_any out W1 ho).mono ?_
  rintro e _ ⟨rfl, rfl⟩
  obtain ⟨e2, he2⟩ : ∃ e2 : Ext W1, e2.W = W1.alloc (.cells #[.int .i64 out, .int .i64 0, .slice none 0 0] 114) := ⟨⟨_, below_alloc (Below.refl _ _) _⟩, rfl⟩
  have h2q : e2.W.heap[W1.heap.size]? = some (.cells #[.int .i64 out, .int .i64 0, .slice none 0 0] 114 (0, 0)) := by rw [he2]; exact heap_new_at rfl
  rw [← he2]
  clear he2
  go_wp2_with fail
  refine (fifoNew_any inn e2.W hi).mono ?_
  rintro e _ ⟨rfl, rfl⟩
  obtain ⟨e3, he3, hb23⟩ : ∃ e3 : Ext W1, e3.W = e2.W.alloc (.cells (Try.zeroCells117.setIfInBounds 704 (.int .i64 inn)) 117) ∧ Below e2.W.heap.size e2.W e3.W := ⟨⟨_, below_trans e2.below (below_alloc (Below.refl _ _) _)⟩, rfl, below_alloc (Below.refl _ _) _⟩
  have h3f : e3.W.heap[e2.W.heap.size]? = some (.cells (Try.zeroCells117.setIfInBounds 704 (.int .i64 inn)) 117 (0, 0)) := by rw [he3]; exact heap_new_at rfl
  have h3q := heap_below hb23 h2q
  rw [← he3]
  have H3F := Lib.hid h3f
  have H3Q := Lib.hid h3q
  have hs2 : W1.heap.size < e2.W.heap.size := heap_lt h2q
  clear he3 hb23 h2q h3f h3q
  go_wp2_with fail
  refine (HFC.out e3.W ((HR.out.below HB1.out).below e3.below)).mono ?_
  rintro e w4 ⟨rfl, hb4⟩
  obtain ⟨e4, he4⟩ : ∃ e4 : Ext W1, e4.W = w4 := ⟨⟨w4, below_trans e3.below hb4⟩, rfl⟩
  have h4f := heap_below hb4 H3F.out
  have h4q := heap_below hb4 H3Q.out
  rw [← he4] at h4f h4q ⊢
  have H4F := Lib.hid h4f
  have H4Q := Lib.hid h4q
  obtain ⟨A', c', w5, hrun, hrow, hb5⟩ := run_app_rules e4.W (w.heap.size + 1) A n c rs ((HR.out.below HB1.out).below e4.below) HN.out HZ.out h32 (by have := e4.below.size; have := heap_lt Q1.out; omega)
  have HRUN := Lib.hid hrun
  have HROW := Lib.hid hrow
  have HB5 := Lib.hid hb5
  have hz2 : w5.frozen? ⟨w.heap.size, 2, none⟩ = false := by simp [World.frozen?, heap_below hb5 (heap_below e4.below Q1.out)]
  obtain ⟨e5, he5⟩ : ∃ e5 : Ext W1, e5.W = w5 := ⟨⟨w5, below_trans e4.below hb5⟩, rfl⟩
  have HE5 := Lib.hid he5
  have d2 : w5.cell? ⟨w.heap.size, 2, none⟩ = some (.slice A n c) := by rw [← he5]; exact c2 e5
  have d3 : w5.cell? ⟨w.heap.size, 3, none⟩ = some (.bool els) := by rw [← he5]; exact c3 e5
  have d4 : w5.cell? ⟨w.heap.size, 4, none⟩ = some (.bool xl) := by rw [← he5]; exact c4 e5
  clear hrun hrow hb5 hb4 he4 h4f h4q he5
  simp only [errV]
  go_wp2_with (at_builtin; refine wpList_append_run rfl _ (.tmp 34) 33 33 rfl _ _ _ _ rfl rfl HRUN.out ?_)
  go_ret2
  have hq5 := heap_below HB5.out H4Q.out
  have hf5 := heap_below HB5.out H4F.out
  have hc5 := heap_below HB5.out (heap_below e4.below Q1.out)
  have hl0 : w.heap.size < W1.heap.size := heap_lt Q1.out
  have t6 : Turn [w.heap.size] w5 (w5.setCell ⟨w.heap.size, 2, none⟩ (.slice A' n c')) := (Turn.refl _ _).setCell (p := ⟨w.heap.size, 2, none⟩) (.inl (by simp)) _
  have hft : Foot [w.heap.size] w5 := fun k hk => by
    simp at hk
    subst hk
    exact ⟨_, _, _, hc5, by decide, by decide⟩
  have hq6 := t6.heap hq5 (by simp; omega)
  have hf6 := t6.heap hf5 (by simp; omega)
  have hr6 := HROW.out.turn t6 hft
  have hb7 := below_alloc (Below.refl _ (w5.setCell ⟨w.heap.size, 2, none⟩ (.slice A' n c'))) (.cells #[.slice A' n c', .bool els, .bool xl, .pointer (some ⟨W1.heap.size, 0, none⟩), .pointer (some ⟨e2.W.heap.size, 0, none⟩), .int .i64 0, .int .i64 0, .int .i64 0, .int .i64 0, .int .i64 0, .int .i64 0, .int .i64 0, .int .i64 0, .int .i64 0, .int .i64 0] 86)
  refine ⟨⟨_, _, rfl, ⟨W1.heap.size, e2.W.heap.size, A', c', none, 0, [], [], 0, 0, ⟨?_, ?_, QueueI.new ho (heap_below hb7 hq6), ⟨_, heap_below hb7 hf6, fz_C inn hi⟩, by simp, by simp, HBK.out, HWF.out, List.Perm.refl _, List.Pairwise.nil, rfl, ?_⟩, ?_, rfl⟩, ?_⟩, ?_⟩
  · have h := heap_new_at (w := w5.setCell ⟨w.heap.size, 2, none⟩ (.slice A' n c')) (o := .cells #[.slice A' n c', .bool els, .bool xl, .pointer (some ⟨W1.heap.size, 0, none⟩), .pointer (some ⟨e2.W.heap.size, 0, none⟩), .int .i64 0, .int .i64 0, .int .i64 0, .int .i64 0, .int .i64 0, .int .i64 0, .int .i64 0, .int .i64 0, .int .i64 0, .int .i64 0] 86) (g := w5.heap.size) (nblk _ _ _).symm
    have e : (boxL A' c' W1.heap.size e2.W.heap.size (newX rs els xl out inn)).toArray = #[.slice A' n c', .bool els, .bool xl, .pointer (some ⟨W1.heap.size, 0, none⟩), .pointer (some ⟨e2.W.heap.size, 0, none⟩), .int .i64 0, .int .i64 0, .int .i64 0, .int .i64 0, .int .i64 0, .int .i64 0, .int .i64 0, .int .i64 0, .int .i64 0, .int .i64 0] := by
      simp only [boxL, newX]; rw [HN.out]; rfl
    rw [e]
    exact h
  · have := hr6.turn (Turn.of (s := []) hb7) (fun k hk => by simp at hk)
    rcases this with h | ⟨g, cur, h1, h2, h3, h4⟩
    · exact .inl h
    · exact .inr ⟨g, cur, h1, h2, by omega, h4⟩
  · have := heap_lt hq5
    have := heap_lt hf5
    exact ⟨by omega, by omega, by omega⟩
  · unfold BndB newX; simp
  · intro k hk
    have := heap_lt hq5
    simp [footB, blkA] at hk
    omega
  · have h5 : Below w.heap.size w w5 := below_trans (below_trans HB1.out e4.below) HB5.out
    exact (h5.setCell (p := ⟨w.heap.size, 2, none⟩) (Nat.le_refl _) _).trans (hb7.mono (by rw [nblk]; exact h5.size))
set_option maxRecDepth 100000 in
set_option maxHeartbeats 4000000 in
theorem New_no (w : World) (out inn : Int) (n c : Nat) (A : Option Addr) (els xl : Bool) (rs : List Ru) (hr : RdRu w A rs) (hn : rs.length = n) (hc : n ≤ 9223372036854775807) (h : (out < 0 ∨ 64 < out) ∨ (inn < 0 ∨ 64 < inn) ∨ bankOk rs = false) :
    Calls Try.prog 10 #[confV out inn A n c els xl] w fun e w' => e = .returned (.tuple #[.pointer none, .int .i64 2]) ∧ Below w.heap.size w w' := by
  have HR := Lib.hid hr
  have HFC := Lib.hid (fun W hW => FCheck_any A n c els rs W hW hn hc)
  dsimp only [confV]
  by_cases ho : out < 0 ∨ 64 < out
  · have HO := Lib.hid ho
    clear hr hn h ho
    by_cases hi : inn < 0 ∨ 64 < inn
    · have HI := Lib.hid hi
      clear hi
      go_enter Try.func10, Try.ntmps10
      go_wp2_with fail
      refine calls_blk1 fun W1 q1 hb1 => ?_
      have c1 := cell_of_heap q1 1 (.int .i64 inn) rfl
      refine (qNew_no out W1 HO.out).mono ?_
      rintro e _ ⟨rfl, rfl⟩
      have HB1 := Lib.hid hb1
      clear q1 hb1
      go_wp2_with fail
      refine (fifoNew_no inn W1 HI.out).mono ?_
      rintro e _ ⟨rfl, rfl⟩
      go_wp2_with fail
      go_ret2
      exact ⟨rfl, HB1.out⟩
    · obtain ⟨k, rfl⟩ := Int.eq_ofNat_of_zero_le (show 0 ≤ inn by omega)
      have hk : k ≤ 64 := by omega
      clear hi
      go_enter Try.func10, Try.ntmps10
      go_wp2_with fail
      refine calls_blk1 fun W1 q1 hb1 => ?_
      have c1 := cell_of_heap q1 1 (.int .i64 k) rfl
      refine (qNew_no out W1 HO.out).mono ?_
      rintro e _ ⟨rfl, rfl⟩
      have HB1 := Lib.hid hb1
      clear q1 hb1
      go_wp2_with fail
      refine (fifoNew_any k W1 hk).mono ?_
      rintro e _ ⟨rfl, rfl⟩
      go_wp2_with fail
      go_ret2
      exact ⟨rfl, below_alloc HB1.out _⟩
  · obtain ⟨k, rfl⟩ := Int.eq_ofNat_of_zero_le (show 0 ≤ out by omega)
    have hk : k ≤ 64 := by omega
    by_cases hi : inn < 0 ∨ 64 < inn
    · have HI := Lib.hid hi
      clear hr hn h ho hi
      go_enter Try.func10, Try.ntmps10
      go_wp2_with fail
      refine calls_blk1 fun W1 q1 hb1 => ?_
      have c1 : ∀ o, (W1.alloc o).cell? ⟨w.heap.size, 1, none⟩ = some (.int .i64 inn) := fun o => Below.cell_of (below_alloc (Below.refl _ W1) o) (cell_of_heap q1 1 (.int .i64 inn) rfl)
      refine (qNew_any k W1 hk).mono ?_
      rintro e _ ⟨rfl, rfl⟩
      have HB1 := Lib.hid hb1
      clear q1 hb1
      go_wp2_with fail
      refine (fifoNew_no inn _ HI.out).mono ?_
      rintro e _ ⟨rfl, rfl⟩
      go_wp2_with fail
      go_ret2
      exact ⟨rfl, below_alloc HB1.out _⟩
    · have hb : bankOk rs = false := by
        rcases h with h | h | h
        · exact absurd h ho
        · exact absurd h hi
        · exact h
      obtain ⟨j, rfl⟩ := Int.eq_ofNat_of_zero_le (show 0 ≤ inn by omega)
      have hj : j ≤ 64 := by omega
      rw [hb] at HFC
      clear hr hn h ho hi hb
      go_enter Try.func10, Try.ntmps10
      go_wp2_with fail
      refine calls_blk1 fun W1 q1 hb1 => ?_
      have c1 : ∀ e : Ext W1, e.W.cell? ⟨w.heap.size, 1, none⟩ = some (.int .i64 j) := fun e => ext_cell (cell_of_heap q1 1 _ rfl) e
      have c2 : ∀ e : Ext W1, e.W.cell? ⟨w.heap.size, 2, none⟩ = some (.slice A n c) := fun e => ext_cell (cell_of_heap q1 2 _ rfl) e
      have c3 : ∀ e : Ext W1, e.W.cell? ⟨w.heap.size, 3, none⟩ = some (.bool els) := fun e => ext_cell (cell_of_heap q1 3 _ rfl) e
      have HB1 := Lib.hid hb1
      clear q1 hb1
      refine (qNew_any k W1 hk).mono ?_
      rintro e _ ⟨rfl, rfl⟩
      obtain ⟨e2, he2⟩ : ∃ e2 : Ext W1, e2.W = W1.alloc (.cells #[.int .i64 k, .int .i64 0, .slice none 0 0] 114) := ⟨⟨_, below_alloc (Below.refl _ _) _⟩, rfl⟩
      rw [← he2]
      clear he2
      go_wp2_with fail
      refine (fifoNew_any j e2.W hj).mono ?_
      rintro e _ ⟨rfl, rfl⟩
      obtain ⟨e3, he3⟩ : ∃ e3 : Ext W1, e3.W = e2.W.alloc (.cells (Try.zeroCells117.setIfInBounds 704 (.int .i64 j)) 117) := ⟨⟨_, below_trans e2.below (below_alloc (Below.refl _ _) _)⟩, rfl⟩
      rw [← he3]
      clear he3
      go_wp2_with fail
      refine (HFC.out e3.W ((HR.out.below HB1.out).below e3.below)).mono ?_
      rintro e w4 ⟨rfl, hb4⟩
      have HB4 := Lib.hid (below_trans HB1.out (below_trans e3.below hb4))
      clear hb4
      simp only [errV]
      go_wp2_with fail
      go_ret2
      exact ⟨rfl, HB4.out⟩
end Go.Proofs.Ytlmdkmflbhnlgaa
