/- Words, walks and plain facts that several laws need, part 7: each with its own head. No condition. -/
import Derived.Test.YtlmdkmflbhnlgaaGreatZScan6
import Derived.Laws.CopyOwn
import Derived.StillTailTactics
import Derived.Deep.DeepFit
import Derived.Maps.Own
import Derived.Maps.Views
-- Repeat: slices.Repeat of one byte, ten times. No condition.
namespace Go.Proofs.YtlmdkmflbhnlgaaGreat
open Go.RowKit
set_option maxRecDepth 100000 in
set_option maxHeartbeats 1000000 in
theorem mul64_lit (w : World) : Calls Tryz.prog 93 #[.int .u64 1, .int .u64 10] w fun e w' => e = .returned (.tuple #[.int .u64 0, .int .u64 10]) ∧ w = w' := by
  go_enter Tryz.func93, Tryz.ntmps93
  go_wp2
  go_ret2
  exact ⟨by kernel_rfl, rfl⟩
set_option maxHeartbeats 1000000 in
theorem mul_lit (w : World) : Calls Tryz.prog 70 #[.int .u64 1, .int .u64 10] w fun e w' => e = .returned (.tuple #[.int .u64 0, .int .u64 10]) ∧ w = w' := by
  have HM := Lib.hid mul64_lit
  go_enter Tryz.func70, Tryz.ntmps70
  go_wp2_with (go_at_call 93; refine (HM.out _).mono ?_; rintro e _ ⟨rfl, rfl⟩)
  go_ret2
  exact ⟨rfl, rfl⟩
def onesL (k n : Nat) : List Value := List.replicate k (.int .u8 1) ++ List.replicate (n - k) (.int .u8 0)
theorem onesL_length (k n : Nat) (h : k ≤ n) : (onesL k n).length = n := by simp [onesL]; omega
theorem onesL_splice (k m n : Nat) (h : k + m ≤ n) : splice (onesL k n) k (List.replicate m (.int .u8 1)) = onesL (k + m) n := by
  unfold splice onesL
  rw [List.take_left' (by simp), List.length_replicate, List.drop_append, List.drop_eq_nil_of_le (by simp), List.nil_append, List.length_replicate, List.drop_replicate, ← List.append_assoc, List.replicate_append_replicate]
  congr 2
  omega
set_option maxRecDepth 100000 in
set_option maxHeartbeats 2000000 in
theorem repeat_any (w : World) (h : Nat) (hh : w.heap[h]? = some (.cells #[.int .u8 1] 5)) :
    Calls Tryz.prog 44 #[.slice (some ⟨h, 0, none⟩) 1 1, .int .i64 10] w fun e w' => (∃ A c, e = .returned (.slice A 10 c) ∧ Row w' w.heap.size 5 A c (bys (List.replicate 10 1))) ∧ Below w.heap.size w w' := by
  obtain ⟨i0, hi, hz0, hz1, hz2⟩ := info_parts info_u8
  have hsz : (Tryz.prog.info? 5).map (·.size) = some 1 := by rw [hi]; simp [hz1]
  have HM := Lib.hid mul_lit
  have hone1 : ∀ v ∈ [Value.int .u8 1], v.oneCell' = true := by intro v hv; simp at hv; subst hv; rfl
  have HH := Lib.hid hh
  have hmk : ∀ W : World, Sem.run Tryz.prog (Instr.makeSlice 22 (.int .i64 10) (.int .i64 10)) W = .ok (.slice (some ⟨W.heap.size, 0, none⟩) 10 10) (W.alloc (.cells #[.int .u8 0, .int .u8 0, .int .u8 0, .int .u8 0, .int .u8 0, .int .u8 0, .int .u8 0, .int .u8 0, .int .u8 0, .int .u8 0] 5)) := fun _ => by kernel_rfl
  clear hh
  go_enter Tryz.func44, Tryz.ntmps44
  go_wp2_with (first
    | (go_at_call 70; refine (HM.out _).mono ?_; rintro e _ ⟨rfl, rfl⟩)
    | (with_reducible refine wpList_copy_splice rfl (.tmp 31) (.tmp 32) 22 22 rfl 5 Tryz.underlying22 hsz _ _ 10 10 1 1 rfl rfl w.heap.size 0 (List.replicate 10 (.int .u8 0)) 5 (heap_new_at rfl) [.int .u8 1] rfl (fun _ => ⟨rfl, _, rfl, World.news_of_block (heap_push HH.out)⟩) (by simp) hone1 w.heap.size w (below_alloc (Below.refl _ _) _) (Nat.le_refl _) ?_; intro w1 hs1 hb1))
  obtain ⟨g, hg⟩ : ∃ g, w.heap.size = g := ⟨_, rfl⟩
  have hs1' : Hid (w1.heap[g]? = some (.cells (onesL 1 10).toArray 5)) := by rw [← hg]; exact hs1
  have HB1 : Hid (Below g w w1) := by rw [← hg]; exact Lib.hid hb1
  have HG := Lib.hid hg
  rw [hg]
  clear hs1 hb1 hg hmk
  go_loopw [8] (fun v wr => ∃ k : Nat, 1 ≤ k ∧ k ≤ 10 ∧ v = .int .i64 k ∧ Hid (wr.heap[g]? = some (.cells (onesL k 10).toArray 5)) ∧ Hid (Below g w wr)) (fun v _ => 10 - (intOf v).toNat)
  case atStart => exact ⟨1, by omega, by omega, rfl, hs1', HB1⟩
  case round =>
    obtain ⟨k, hk1, hk2, rfl, HS, HB⟩ := hrel
    by_cases hlt : k < 10
    · obtain ⟨m, hm⟩ : ∃ m, Nat.min k (10 - k) = m := ⟨_, rfl⟩
      have hm1 : 1 ≤ m ∧ k + m ≤ 10 := by rw [← hm]; show 1 ≤ min k (10 - k) ∧ k + min k (10 - k) ≤ 10; omega
      have hi1 : (k : Int) ≤ 10 := by omega
      have hi0 : (0 : Int) ≤ k := by omega
      have HM1 := Lib.hid hm1
      have hsum : IntKind.i64.wrap ((k : Int) + (m : Int)) = (k : Int) + (m : Int) := IntWalk.i64_in _ (by omega)
      have hne10 : ¬ (10 : Nat) = k := by omega
      obtain ⟨d, hd⟩ : ∃ d, 10 - k = d := ⟨_, rfl⟩
      rw [hd] at hm
      obtain ⟨cs, hcs⟩ : ∃ cs, List.replicate m (Value.int .u8 1) = cs := ⟨_, rfl⟩
      obtain ⟨cur, hcur⟩ : ∃ cur, onesL k 10 = cur := ⟨_, rfl⟩
      have hcl : cs.length = m := by rw [← hcs]; simp
      have HC1 := Lib.hid (show cs.length = Nat.min k d by rw [hcl]; exact hm.symm)
      have hmk' : m ≤ k := by rw [← hm]; exact Nat.min_le_left _ _
      have HC2 := Lib.hid (show ∀ j v, cs[j]? = some v → wr.drew.cell? ((⟨g, 0, none⟩ : Addr).add j) = some v by
        intro j v hj
        have hjm : j < m := by have := (List.getElem?_eq_some_iff.1 hj).1; rw [hcl] at this; exact this
        refine World.news_of_block (w := wr.drew) HS.out j v ?_
        show (onesL k 10)[j]? = some v
        unfold onesL
        rw [List.getElem?_append_left (by simp; omega), ← hj, ← hcs]
        simp [hjm, show j < k by omega])
      have HC3 := Lib.hid (show k + cs.length ≤ cur.length by rw [hcl, ← hcur, onesL_length _ _ hk2]; exact hm1.2)
      have HC4 := Lib.hid (show ∀ v ∈ cs, v.oneCell' = true by intro v hv; rw [← hcs] at hv; rw [List.eq_of_mem_replicate hv]; rfl)
      have HS2 := Lib.hid (show wr.drew.heap[g]? = some (.cells cur.toArray 5) by rw [← hcur]; exact HS.out)
      have HSP := Lib.hid (show splice cur k cs = onesL (k + m) 10 by rw [← hcur, ← hcs]; exact onesL_splice k m 10 hm1.2)
      clear hcs hcur
      clear hm
      go_wp2_with fail
      go_region_law (first
        | (refine step_copy_splice rfl (.tmp 41) (.tmp 44) 22 22 rfl 5 Tryz.underlying22 hsz (some ⟨g, k, none⟩) (some ⟨g, 0, none⟩) d d k 10 (by kernel_rfl) (by kernel_rfl) g k cur 5 HS2.out cs HC1.out (fun _ => ⟨rfl, _, rfl, HC2.out⟩) HC3.out HC4.out g w HB.out.drew (Nat.le_refl _) ?_; intro w3 hs3 hb3))
      all_goals
        go_frame
        go_roundw
        case rel => ((repeat apply Exists.intro); exact ⟨⟨k + m, by omega, HM1.out.2, by go_num, by show _ = _; rw [← HSP.out]; exact hs3.out, hb3⟩, rfl⟩)
        case measure => simp [intOf]; have := HM1.out.1; omega
    · obtain rfl : k = 10 := by omega
      go_wp2_with fail
      go_ret
      have e : onesL 10 10 = bys (List.replicate 10 1) := rfl
      have hs := HS.out
      rw [e] at hs
      rw [HG.out]
      exact ⟨⟨_, _, rfl, ⟨by simp [bys_length], .inr ⟨g, 10, _, by rw [bys_length, List.length_replicate], Nat.le_refl _, hs, by simp [bys_length], by decide, by simp [bys_length], by simp [bys]⟩⟩⟩, HB.out⟩
end Go.Proofs.YtlmdkmflbhnlgaaGreat
-- Wire: classic.head: a Classic frame's bits up to the last one that arbitrates. No condition.
namespace Go.Proofs.YtlmdkmflbhnlgaaGreat
open Go.RowKit
theorem fieldsPut_row (w : World) (B b t : Nat) (A : Option Addr) (c : Nat) (n size : Int) (N S : Nat) (l : List Nat) (eN : n = (N : Int)) (eS : size = (S : Int)) (h : Pot w B b t A c l) (hn : N < 18446744073709551616) (hs : S ≤ 64) (hlt : N < 2 ^ S) (hl : l.length + S ≤ 1000000) :
    Calls Tryz.prog 67 #[.pointer (some ⟨b, 0, none⟩), .int .u64 n, .int .i64 size] w fun e w' => e = .returned (.tuple #[]) ∧ (∃ A' c', Pot w' B b t A' c' (l ++ bitsN N S)) ∧ Keep B b w w' := by
  subst eN eS
  exact fieldsPut_any w B b t A c N S l h hn hs hlt hl
set_option maxRecDepth 100000 in
set_option maxHeartbeats 2000000 in
theorem head_any (f : Fr) (A : Option Addr) (n c : Nat) (w : World) (h0 : 0 ≤ f.id) (h1 : f.id < limF f) :
    Calls Tryz.prog 43 #[frv f (.slice A n c)] w fun e w' => e = .returned (.pointer (some ⟨w.heap.size + 1, 0, none⟩)) ∧ (∃ A' c', Pot w' (w.heap.size + 1 + 1) (w.heap.size + 1) 78 A' c' (headL f)) ∧ Below w.heap.size w w' := by
  have hl : headL f = if f.ext then [0] ++ bitsN (f.id.toNat / 262144) 11 ++ [1, 1] ++ bitsN (f.id.toNat % 262144) 18 ++ [bitB f.rtr] ++ [0, 0] else [0] ++ bitsN f.id.toNat 11 ++ [bitB f.rtr] ++ [0, 0] := rfl
  unfold limF at h1
  generalize headL f = l at *
  obtain ⟨kind, id, ext, rtr, brs, esi, sec, sdt, vcid, af, data⟩ := f
  dsimp only [frv] at *
  obtain ⟨m, rfl⟩ := Int.eq_ofNat_of_zero_le h0
  rw [Int.toNat_natCast] at hl
  cases ext
  · simp only [Bool.false_eq_true, if_false] at h1 hl
    have HL := Lib.hid hl
    clear hl h0
    go_enter Tryz.func43, Tryz.ntmps43
    go_wp2_with fail
    refine calls_blk2 (fun W0 q1 q2 hb => ?_)
    have hp : Pot W0 (w.heap.size + 1 + 1) (w.heap.size + 1) 78 none 0 [] := ⟨q2, fun _ e => (by cases e), heap_lt q2, Row.nil _ _ _⟩
    have HB := Lib.hid hb
    have HP := Lib.hid hp
    obtain ⟨a0, a1, a2, a3, a4, a5, a6, a7, a8, a9, a10⟩ := cells11 q1
    have b1 := fun e : KE (w.heap.size + 1 + 1) (w.heap.size + 1) W0 => ke_cell a1 (by show w.heap.size < _; omega) (by show w.heap.size ≠ _; omega) e
    have b2 := fun e : KE (w.heap.size + 1 + 1) (w.heap.size + 1) W0 => ke_cell a2 (by show w.heap.size < _; omega) (by show w.heap.size ≠ _; omega) e
    have b3 := fun e : KE (w.heap.size + 1 + 1) (w.heap.size + 1) W0 => ke_cell a3 (by show w.heap.size < _; omega) (by show w.heap.size ≠ _; omega) e
    clear hb hp q1 q2 a0 a1 a2 a3 a4 a5 a6 a7 a8 a9 a10
    refine (kec_same (fieldsPut_row _ _ _ _ _ _ _ _ 0 1 _ rfl rfl HP.out (by omega) (by omega) (by omega) (by simp))).mono ?_
    rintro x _ ⟨e1, rfl, rfl, A1, c1, hp1⟩
    have HP1 := Lib.hid hp1
    clear hp1
    go_wp2_with fail
    refine (kec (fieldsPut_row _ _ _ _ _ _ _ _ m 11 _ ?c1 rfl HP1.out (by omega) (by omega) (by omega) (by simp [bitsN_length]))).mono ?_
    case c1 => first | rfl | omega
    rintro x _ ⟨e2, rfl, rfl, A2, c2, hp2⟩
    have HP2 := Lib.hid hp2
    clear hp2
    go_wp2_with fail
    refine (kec (fieldsFlag_any _ _ _ _ _ _ rtr _ HP2.out (by simp [bitsN_length]))).mono ?_
    rintro x _ ⟨e3, rfl, rfl, A3, c3, hp3⟩
    have HP3 := Lib.hid hp3
    clear hp3
    go_wp2_with fail
    refine (kec (fieldsPut_row _ _ _ _ _ _ _ _ 0 2 _ rfl rfl HP3.out (by omega) (by omega) (by omega) (by simp [bitsN_length]))).mono ?_
    rintro x _ ⟨e4, rfl, rfl, A4, c4, hp4⟩
    have HP4 := Lib.hid hp4
    clear hp4
    go_wp2_with fail
    go_ret
    refine ⟨rfl, ⟨A4, c4, ?_⟩, HB.out.trans (e4.keep.below (by omega) (by omega))⟩
    have h := HP4.out
    rw [HL.out]
    exact h
  · simp only [if_true] at h1 hl
    have h18 := and18 (m : Int) (by omega) h1
    have HL := Lib.hid hl
    clear hl h0
    go_enter Tryz.func43, Tryz.ntmps43
    go_wp2_with fail
    refine calls_blk2 (fun W0 q1 q2 hb => ?_)
    have hp : Pot W0 (w.heap.size + 1 + 1) (w.heap.size + 1) 78 none 0 [] := ⟨q2, fun _ e => (by cases e), heap_lt q2, Row.nil _ _ _⟩
    have HB := Lib.hid hb
    have HP := Lib.hid hp
    obtain ⟨a0, a1, a2, a3, a4, a5, a6, a7, a8, a9, a10⟩ := cells11 q1
    have b1 := fun e : KE (w.heap.size + 1 + 1) (w.heap.size + 1) W0 => ke_cell a1 (by show w.heap.size < _; omega) (by show w.heap.size ≠ _; omega) e
    have b2 := fun e : KE (w.heap.size + 1 + 1) (w.heap.size + 1) W0 => ke_cell a2 (by show w.heap.size < _; omega) (by show w.heap.size ≠ _; omega) e
    have b3 := fun e : KE (w.heap.size + 1 + 1) (w.heap.size + 1) W0 => ke_cell a3 (by show w.heap.size < _; omega) (by show w.heap.size ≠ _; omega) e
    clear hb hp q1 q2 a0 a1 a2 a3 a4 a5 a6 a7 a8 a9 a10
    refine (kec_same (fieldsPut_row _ _ _ _ _ _ _ _ 0 1 _ rfl rfl HP.out (by omega) (by omega) (by omega) (by simp))).mono ?_
    rintro x _ ⟨e1, rfl, rfl, A1, c1, hp1⟩
    have HP1 := Lib.hid hp1
    clear hp1
    go_wp2_with fail
    refine (kec (fieldsPut_row _ _ _ _ _ _ _ _ (m / 262144) 11 _ ?c1 rfl HP1.out (by omega) (by omega) (by omega) (by simp [bitsN_length]))).mono ?_
    case c1 => first | rfl | omega
    rintro x _ ⟨e2, rfl, rfl, A2, c2, hp2⟩
    have HP2 := Lib.hid hp2
    clear hp2
    go_wp2_with fail
    refine (kec (fieldsPut_row _ _ _ _ _ _ _ _ 3 2 _ rfl rfl HP2.out (by omega) (by omega) (by omega) (by simp [bitsN_length]))).mono ?_
    rintro x _ ⟨e5, rfl, rfl, A5, c5, hp5⟩
    have HP5 := Lib.hid hp5
    clear hp5
    go_wp2_with fail
    refine (kec (fieldsPut_row _ _ _ _ _ _ _ _ (m % 262144) 18 _ ?c2 rfl HP5.out (by omega) (by omega) (by omega) (by simp [bitsN_length]))).mono ?_
    case c2 => first | rfl | omega
    rintro x _ ⟨e6, rfl, rfl, A6, c6, hp6⟩
    have HP6 := Lib.hid hp6
    clear hp6
    go_wp2_with fail
    refine (kec (fieldsFlag_any _ _ _ _ _ _ rtr _ HP6.out (by simp [bitsN_length]))).mono ?_
    rintro x _ ⟨e3, rfl, rfl, A3, c3, hp3⟩
    have HP3 := Lib.hid hp3
    clear hp3
    go_wp2_with fail
    refine (kec (fieldsPut_row _ _ _ _ _ _ _ _ 0 2 _ rfl rfl HP3.out (by omega) (by omega) (by omega) (by simp [bitsN_length]))).mono ?_
    rintro x _ ⟨e4, rfl, rfl, A4, c4, hp4⟩
    have HP4 := Lib.hid hp4
    clear hp4
    go_wp2_with fail
    go_ret
    refine ⟨rfl, ⟨A4, c4, ?_⟩, HB.out.trans (e4.keep.below (by omega) (by omega))⟩
    have h := HP4.out
    rw [HL.out]
    exact h
theorem headL_length (f : Fr) : (headL f).length = if f.ext then 35 else 15 := by unfold headL; split <;> simp [bitsN_length]
theorem headL_bits (f : Fr) : ∀ x ∈ headL f, x ≤ 1 := by
  have hb : ∀ b : Bool, bitB b ≤ 1 := by intro b; cases b <;> decide
  have h0 : ∀ x ∈ [0], x ≤ 1 := by simp
  have h00 : ∀ x ∈ [0, 0], x ≤ 1 := by simp
  have h11 : ∀ x ∈ [1, 1], x ≤ 1 := by simp
  unfold headL
  split <;> intro x hx <;> simp only [List.mem_append, List.mem_singleton] at hx
  · rcases hx with ((((rfl | hx) | hx) | hx) | rfl) | hx
    · omega
    · exact bitsN_bit _ _ x hx
    · exact h11 x hx
    · exact bitsN_bit _ _ x hx
    · exact hb _
    · exact h00 x hx
  · rcases hx with ((rfl | hx) | rfl) | hx
    · omega
    · exact bitsN_bit _ _ x hx
    · exact hb _
    · exact h00 x hx
end Go.Proofs.YtlmdkmflbhnlgaaGreat
namespace Go.Proofs.YtlmdkmflbhnlgaaGreat
open Go.RowKit
/-- A Classic frame's bits ahead of its sum. -/
def coreC (f : Fr) : List Nat := headL f ++ bitsN f.data.length 4 ++ bytesN f.data
def bodyC (f : Fr) : List Nat := addN 15 17817 0 (coreC f)
theorem codeF_1 (n : Nat) : codeF 1 n = if n ≤ 8 then some (n : Int) else none := by
  by_cases h : n ≤ 8
  · simp [codeF, loOf, hiOf, h]; omega
  · simp [codeF, loOf, hiOf, h]; omega
theorem okF_len1 (f : Fr) (hk : f.kind = 1) (h : okF f = true) : f.data.length ≤ 8 := by
  unfold okF at h
  simp only [Bool.and_eq_true] at h
  have h1 := h.1.1.1
  rw [hk, codeF_1] at h1
  split at h1
  · assumption
  · cases h1
theorem okF_lim (f : Fr) (h : okF f = true) : f.id < limF f := by
  unfold okF at h
  simp only [Bool.and_eq_true, decide_eq_true_eq] at h
  exact h.1.1.2
theorem coreC_bits (f : Fr) : ∀ x ∈ coreC f, x ≤ 1 := by
  intro x hx
  simp only [coreC, List.mem_append] at hx
  rcases hx with (hx | hx) | hx
  · exact headL_bits f x hx
  · exact bitsN_bit _ _ x hx
  · exact bytesN_bits _ x hx
theorem coreC_length (f : Fr) : (coreC f).length = (if f.ext then 39 else 19) + 8 * f.data.length := by
  unfold coreC
  rw [List.length_append, List.length_append, headL_length, bitsN_length, bytesN_length]
  split <;> omega
theorem bodyC_length (f : Fr) : (bodyC f).length = (if f.ext then 54 else 34) + 8 * f.data.length := by
  unfold bodyC addN
  rw [List.length_append, coreC_length, bitsN_length]
  split <;> omega
set_option maxRecDepth 100000 in
set_option maxHeartbeats 2000000 in
theorem Body_no (f : Fr) (A : Option Addr) (c : Nat) (w : World) (hl : f.data.length ≤ 9223372036854775807) (hno : ¬ (f.kind = 1 ∧ okF f = true)) :
    Calls Tryz.prog 42 #[frv f (.slice A f.data.length c)] w fun e w' => e = .returned (.tuple #[.slice none 0 0, .int .i64 2]) ∧ Below w.heap.size w w' := by
  have HC := Lib.hid (fun W => Check_any f A c W hl)
  by_cases hk : f.kind = 1
  · have hok : okF f = false := by cases h : okF f with | false => rfl | true => exact absurd ⟨hk, h⟩ hno
    rw [hok] at HC
    have he : errV false = .int .i64 2 := rfl
    rw [he] at HC
    obtain ⟨kind, id, ext, rtr, brs, esi, sec, sdt, vcid, af, data⟩ := f
    dsimp only [frv] at *
    generalize data.length = n at *
    subst hk
    clear hno hok he
    go_enter Tryz.func42, Tryz.ntmps42
    go_wp2_with fail
    refine (HC.out _).mono ?_
    rintro e w1 ⟨rfl, hb⟩
    have HB := Lib.hid hb
    clear hb
    go_wp2_with fail
    go_ret2
    exact ⟨rfl, (below_alloc (Below.refl _ _) _).trans (HB.out.mono (by simp))⟩
  · obtain ⟨kind, id, ext, rtr, brs, esi, sec, sdt, vcid, af, data⟩ := f
    dsimp only [frv] at *
    generalize data.length = n at *
    have hkb : (kind != 1) = true := by rw [bne_iff_ne]; exact hk
    clear hno hk HC
    go_enter Tryz.func42, Tryz.ntmps42
    go_wp2_with fail
    go_ret2
    exact ⟨rfl, below_alloc (Below.refl _ _) _⟩
set_option maxRecDepth 100000 in
set_option maxHeartbeats 4000000 in
theorem Body_ok (f : Fr) (A : Option Addr) (c N : Nat) (w : World) (hk : f.kind = 1) (hok : okF f = true) (h0 : 0 ≤ f.id) (hr : Rd w A (bys f.data)) (hby : isBytes f.data) (hN : (bodyC f).length = N) :
    Calls Tryz.prog 42 #[frv f (.slice A f.data.length c)] w fun e w' => (∃ A' c', e = .returned (.tuple #[.slice A' N c', .int .i64 0]) ∧ Row w' w.heap.size 5 A' c' (bys (bodyC f))) ∧ Below w.heap.size w w' := by
  have hl8 := okF_len1 f hk hok
  have hC := fun W => Check_any f A c W (by omega)
  rw [hok] at hC
  have he : errV true = .int .i64 0 := rfl
  rw [he] at hC
  have hH := fun W => head_any f A f.data.length c W h0 (okF_lim f hok)
  have hcode := fun W => Code_any 1 (f.data.length : Int) W (by omega) (by omega)
  rw [codeF_1, if_pos hl8, codeV_some] at hcode
  have hcl := coreC_length f
  have hcb := coreC_bits f
  have hce : coreC f = headL f ++ bitsN f.data.length 4 ++ bytesN f.data := rfl
  have hbe : bodyC f = addN 15 17817 0 (coreC f) := rfl
  have hhl : (headL f).length ≤ 35 := by rw [headL_length]; split <;> omega
  have hclb : (coreC f).length ≤ 103 := by rw [hcl]; split <;> omega
  have hNc : (coreC f).length + 15 = N := by rw [← hN, hbe, addN, List.length_append, bitsN_length]
  obtain ⟨hL, hhL⟩ : ∃ hL, headL f = hL := ⟨_, rfl⟩
  obtain ⟨co, hco⟩ : ∃ co, coreC f = co := ⟨_, rfl⟩
  obtain ⟨bo, hbo⟩ : ∃ bo, bodyC f = bo := ⟨_, rfl⟩
  rw [hhL] at hhl hce hH
  rw [hco] at hcb hce hbe hNc hclb
  rw [hbo] at hbe ⊢
  obtain ⟨kind, id, ext, rtr, brs, esi, sec, sdt, vcid, af, data⟩ := f
  dsimp only [frv] at *
  obtain ⟨n, hn⟩ : ∃ n, data.length = n := ⟨_, rfl⟩
  rw [hn] at hC hH hcode hce hl8 ⊢
  subst hk
  have HC := Lib.hid hC
  have HH := Lib.hid hH
  have HCODE := Lib.hid hcode
  have HR := Lib.hid hr
  have HBY := Lib.hid hby
  have HN := Lib.hid hn
  have HCB := Lib.hid hcb
  have HCE := Lib.hid hce
  have HBE := Lib.hid hbe
  have HNC := Lib.hid hNc
  have HHL := Lib.hid hhl
  have HCLB := Lib.hid hclb
  clear hC hH hcode hr hby hn hcb hce hbe hNc hhl hclb hcl hco hbo hhL hN hok he h0
  go_enter Tryz.func42, Tryz.ntmps42
  go_wp2_with fail
  refine calls_blk1 (fun W0 q1 hb => ?_)
  have HB := Lib.hid hb
  have HQ := Lib.hid q1
  obtain ⟨a0, a1, a2, a3, a4, a5, a6, a7, a8, a9, a10⟩ := ext11 q1
  have hsz0 : w.heap.size < W0.heap.size := heap_lt q1
  clear hb q1
  refine (extc_same (HC.out _)).mono ?_
  rintro x _ ⟨e1, rfl, rfl⟩
  go_wp2_with fail
  refine (HH.out _).mono ?_
  rintro x w2 ⟨rfl, ⟨A2, c2, hp2⟩, hb2⟩
  have HP2 := Lib.hid hp2
  have HB2 := Lib.hid hb2
  have e2 : ∀ i v, e1.W.cell? ⟨w.heap.size, i, none⟩ = some v → w2.cell? ⟨w.heap.size, i, none⟩ = some v := fun i v h => Below.cell_of HB2.out h
  have b0 := e2 0 _ (a0 e1)
  have b10 := e2 10 _ (a10 e1)
  have hszw : W0.heap.size ≤ e1.W.heap.size := e1.below.size
  clear hp2 hb2 e2
  go_wp2_with fail
  refine (HCODE.out _).mono ?_
  rintro x w3 ⟨rfl, hb3⟩
  have HB3 := Lib.hid hb3
  have d10 := Below.cell_of HB3.out b10
  clear hb3
  go_wp2_with fail
  have hp3 := HP2.out.below HB3.out
  refine (fieldsPut_row w3 _ _ _ A2 c2 _ _ n 4 hL ?c1 rfl hp3 (by omega) (by omega) (by omega) (by have := HHL.out; omega)).mono ?_
  case c1 => first | rfl | omega
  rintro x w4 ⟨rfl, ⟨A4, c4, hp4⟩, hk4⟩
  have HP4 := Lib.hid hp4
  have HK4 := Lib.hid hk4
  have f10 : w4.cell? ⟨w.heap.size, 10, none⟩ = some (.slice A n c) := HK4.out.cell_of d10 (by show w.heap.size < _; omega) (by show w.heap.size ≠ _; omega)
  obtain ⟨q, hq⟩ : ∃ q, (hL ++ bitsN n 4).length = q := ⟨_, rfl⟩
  have f0 : w4.cell? ⟨e1.W.heap.size + 1, 0, none⟩ = some (.slice A4 q c4) := by rw [← hq]; exact HP4.out.cell
  have hbw4 : Below W0.heap.size W0 w4 := by
    have h1 := HK4.out.below (C := W0.heap.size) (by omega) (by omega)
    exact (below_trans (below_trans e1.below HB2.out) HB3.out).trans h1
  have hr4 : Rd w4 A (bys data) := (HR.out.below HB.out).below hbw4
  have HBW4 := Lib.hid hbw4
  have HR4 := Lib.hid hr4
  have HQL := Lib.hid hq
  have hcq : q + 8 * n + 15 = N := by
    have := HNC.out
    rw [HCE.out, List.length_append, bytesN_length, HN.out, HQL.out] at this
    exact this
  have hq100 : q + 8 * n ≤ 103 := by
    have := HCLB.out
    rw [HCE.out, List.length_append, bytesN_length, HN.out, HQL.out] at this
    exact this
  clear hp4 hk4 hp3 hbw4 hr4 hq a0 a1 a2 a3 a4 a5 a6 a7 a8 a9 a10 b0 b10 d10
  go_wp2_with fail
  obtain ⟨pf, hpf⟩ : ∃ pf, e1.W.heap.size + 1 = pf := ⟨_, rfl⟩
  rw [hpf] at f0
  rw [hpf]
  go_region_held3 (fun w' => w'.cell? ⟨pf, 0, none⟩ = some (.slice A4 q c4) ∧ w'.cell? ⟨w.heap.size, 10, none⟩ = some (.slice A n c))
    (first
      | go_keep
      | exact ⟨f0, f10⟩
      | (refine ⟨Below.cell_of hb7 (by assumption), Below.cell_of hb7 (by assumption)⟩)
      | (refine ⟨Below.cell_of hb6 (by assumption), Below.cell_of hb6 (by assumption)⟩)
      | (refine ⟨Below.cell_of hb5 (by assumption), Below.cell_of hb5 (by assumption)⟩)
      | (refine ⟨Below.cell_of hb5 ?_, Below.cell_of hb5 ?_⟩ <;> simp [*])
      | (refine ⟨Below.cell_of hb6 ?_, Below.cell_of hb6 ?_⟩ <;> simp [*])
      | (refine ⟨Below.cell_of hb7 ?_, Below.cell_of hb7 ?_⟩ <;> simp [*]))
    (first
      | (go_at_call 38; refine (Bytes_any _ A c n data HR4.out.drew HN.out (by omega) HBY.out).mono ?_; rintro x w5 ⟨⟨A5, c5, rfl, hrow5⟩, hb5⟩)
      | (go_at_call 55; refine (concat2 w5 A4 A5 c4 c5 q (8 * n) (q + 8 * n) (hL ++ bitsN n 4) (bytesN data) (HP4.out.drew.row.part.below hb5) hrow5.part HQL.out (by rw [bytesN_length, HN.out]) rfl (by omega)).mono ?_; rintro x w6 ⟨⟨A6, c6, rfl, hrow6⟩, hb6⟩; rw [← HCE.out] at hrow6)
      | (go_at_call 68; refine (Add_row of_1 (q + 8 * n) c6 N _ A6 co w6 hrow6 (by rw [HCE.out, List.length_append, bytesN_length, HN.out, HQL.out]) (by omega) HCB.out hcq).mono ?_; rintro x w7 ⟨⟨A7, c7, rfl, hrow7⟩, hb7⟩; rw [← HBE.out] at hrow7))
  all_goals
    go_wp2_with fail
    go_ret2
    have hbw : Below w.heap.size w w4 := below_trans HB.out HBW4.out
    have hb8 : Below w.heap.size w w7 := below_trans (below_alloc (below_trans hbw.drew hb5) _ |>.trans (hb6.mono (by have := (below_alloc (below_trans hbw.drew hb5) (.cells #[.slice A4 q c4, .slice A5 (8 * n) c5] 22)).size; exact this))) hb7
    exact ⟨⟨A7, c7, rfl, hrow7.mono (by have := (below_alloc (below_trans hbw.drew hb5) (.cells #[.slice A4 q c4, .slice A5 (8 * n) c5] 22)).size; have := hb6.size; omega)⟩, hb8⟩
end Go.Proofs.YtlmdkmflbhnlgaaGreat
namespace Go.Proofs.YtlmdkmflbhnlgaaGreat
open Go.RowKit
/-- A Classic frame on the wire. -/
def wireC (f : Fr) : List Nat := stuffN (bodyC f) ++ List.replicate 10 1
theorem coreC_bitsB (f : Fr) : ∀ x ∈ bodyC f, x ≤ 1 := by
  intro x hx
  simp only [bodyC, addN, List.mem_append] at hx
  rcases hx with hx | hx
  · exact coreC_bits f x hx
  · exact bitsN_bit _ _ x hx
set_option maxRecDepth 100000 in
set_option maxHeartbeats 2000000 in
theorem Wire_no (f : Fr) (A : Option Addr) (c : Nat) (w : World) (hl : f.data.length ≤ 9223372036854775807) (hno : ¬ (f.kind = 1 ∧ okF f = true)) :
    Calls Tryz.prog 21 #[frv f (.slice A f.data.length c)] w fun e w' => e = .returned (.tuple #[.agg #[.slice none 0 0, .int .i64 0, .int .i64 0], .int .i64 2]) ∧ Below w.heap.size w w' := by
  have HC := Lib.hid (fun W => Body_no f A c W hl hno)
  obtain ⟨kind, id, ext, rtr, brs, esi, sec, sdt, vcid, af, data⟩ := f
  dsimp only [frv] at *
  generalize data.length = n at *
  clear hno
  go_enter Tryz.func21, Tryz.ntmps21
  go_wp2_with fail
  refine calls_blk2 (fun W0 q1 q2 hb => ?_)
  have HB := Lib.hid hb
  have HQ2 := Lib.hid q2
  have hsz := heap_lt q2
  clear hb q1 q2
  refine (HC.out _).mono ?_
  rintro e w1 ⟨rfl, hb1⟩
  have hq := heap_below hb1 HQ2.out
  have c0 := cell_of_heap hq 0 _ rfl
  have c1 := cell_of_heap hq 1 _ rfl
  have c2 := cell_of_heap hq 2 _ rfl
  have z0 : w1.frozen? ⟨w.heap.size + 1, 0, none⟩ = false := by simp [World.frozen?, hq]
  have z1 : w1.frozen? ⟨w.heap.size + 1, 1, none⟩ = false := by simp [World.frozen?, hq]
  have z2 : w1.frozen? ⟨w.heap.size + 1, 2, none⟩ = false := by simp [World.frozen?, hq]
  have HB1 := Lib.hid hb1
  have HQ3 := Lib.hid hq
  clear hb1 hq
  go_wp2_with fail
  refine bodyPost_ret (v := .tuple #[.agg #[.slice none 0 0, .int .i64 0, .int .i64 0], .int .i64 2]) (by simp [results, Tryz.results21, go_sem, c0, c1, c2]) rfl ⟨rfl, ?_⟩
  have h := below_trans HB.out HB1.out
  exact ((h.setCell (p := ⟨w.heap.size + 1, 0, none⟩) (by show w.heap.size ≤ w.heap.size + 1; omega) _).setCell (p := ⟨w.heap.size + 1, 1, none⟩) (by show w.heap.size ≤ w.heap.size + 1; omega) _).setCell (p := ⟨w.heap.size + 1, 2, none⟩) (by show w.heap.size ≤ w.heap.size + 1; omega) _
set_option maxRecDepth 100000 in
set_option maxHeartbeats 4000000 in
theorem Wire_ok (f : Fr) (A : Option Addr) (c NR NH : Nat) (w : World) (hk : f.kind = 1) (hok : okF f = true) (h0 : 0 ≤ f.id) (hr : Rd w A (bys f.data)) (hby : isBytes f.data) (hNR : (stuffN (bodyC f)).length = NR) (hNH : (stuffN (headL f)).length = NH) :
    Calls Tryz.prog 21 #[frv f (.slice A f.data.length c)] w fun e w' => (∃ A' c', e = .returned (.tuple #[.agg #[.slice A' (NR + 10 : Nat) c', .int .i64 (NH : Nat), .int .i64 (NR + 1 : Nat)], .int .i64 0]) ∧ Row w' w.heap.size 5 A' c' (bys (wireC f))) ∧ Below w.heap.size w w' := by
  obtain ⟨i0, hi, hz0, hz1, hz2⟩ := info_parts info_u8
  have hl8 := okF_len1 f hk hok
  obtain ⟨NB, hNB⟩ : ∃ NB, (bodyC f).length = NB := ⟨_, rfl⟩
  have hNB2 : NB ≤ 118 := by rw [← hNB, bodyC_length]; split <;> omega
  have hNR2 : NR ≤ 150 := by have := stuffN_le (bodyC f); rw [hNR, hNB] at this; omega
  have hhl : (headL f).length ≤ 35 := by rw [headL_length]; split <;> omega
  have HBody := Lib.hid (fun W (hW : Rd W A (bys f.data)) => Body_ok f A c NB W hk hok h0 hW hby hNB)
  have HHead := Lib.hid (fun W => head_any f A f.data.length c W h0 (okF_lim f hok))
  have HbB := Lib.hid (coreC_bitsB f)
  have HhB := Lib.hid (headL_bits f)
  have HW : Hid (wireC f = stuffN (bodyC f) ++ List.replicate 10 1) := rfl
  obtain ⟨bo, hbo⟩ : ∃ bo, bodyC f = bo := ⟨_, rfl⟩
  obtain ⟨hL, hhL⟩ : ∃ hL, headL f = hL := ⟨_, rfl⟩
  obtain ⟨wi, hwi⟩ : ∃ wi, wireC f = wi := ⟨_, rfl⟩
  rw [hbo] at HBody HbB HW hNR hNB
  rw [hhL] at HHead HhB hNH hhl
  rw [hwi] at HW ⊢
  obtain ⟨hn0, hhn⟩ : ∃ hn0, hL.length = hn0 := ⟨_, rfl⟩
  rw [hhn] at hhl
  obtain ⟨kind, id, ext, rtr, brs, esi, sec, sdt, vcid, af, data⟩ := f
  dsimp only [frv] at *
  obtain ⟨n, hn⟩ : ∃ n, data.length = n := ⟨_, rfl⟩
  rw [hn] at HBody HHead ⊢
  have HNR := Lib.hid hNR
  have HNH := Lib.hid hNH
  have HNB := Lib.hid hNB
  have HHN := Lib.hid hhn
  have HR := Lib.hid hr
  clear hNR hNH hNB hhn hr hbo hhL hwi hn hok h0 hby hl8 hk
  go_enter Tryz.func21, Tryz.ntmps21
  go_wp2_with fail
  refine calls_blk2 (fun W0 q1 q2 hb => ?_)
  have HB := Lib.hid hb
  have HQ2 := Lib.hid q2
  have hsz := heap_lt q2
  obtain ⟨a0, a1, a2, a3, a4, a5, a6, a7, a8, a9, a10⟩ := ext11 q1
  clear hb q1 q2
  refine (extc_same (HBody.out _ (HR.out.below HB.out))).mono ?_
  rintro x _ ⟨e1, rfl, A1, c1, rfl, hrow1⟩
  have HROW1 := Lib.hid hrow1
  clear hrow1
  go_wp2_with fail
  refine (extc (StuffPut_any _ A1 c1 NB NR bo HROW1.out.rd HNB.out (by omega) HbB.out HNR.out)).mono ?_
  rintro x _ ⟨e2, rfl, A2, c2, rfl, hrow2⟩
  have HROW2 := Lib.hid (hrow2.mono (ext_ge e1))
  clear hrow2
  go_wp2_with fail
  refine (HHead.out _).mono ?_
  rintro x w3 ⟨rfl, ⟨A3, c3, hp3⟩, hb3⟩
  have f0 : w3.cell? ⟨e2.W.heap.size + 1, 0, none⟩ = some (.slice A3 hn0 c3) := by rw [← HHN.out]; exact hp3.cell
  have HP3 := Lib.hid hp3
  have HB3 := Lib.hid hb3
  have HROW23 := Lib.hid (HROW2.out.below hb3)
  have hbw3 : Below W0.heap.size W0 w3 := below_trans e2.below hb3
  have HBW3 := Lib.hid hbw3
  clear hp3 hb3 hbw3
  go_wp2_with fail
  refine (StuffPut_any _ A3 c3 hn0 NH hL HP3.out.rd HHN.out (by omega) HhB.out HNH.out).mono ?_
  rintro x w4 ⟨⟨A4, c4, rfl, hrow4⟩, hb4⟩
  have HROW24 := Lib.hid (HROW23.out.below hb4)
  have HB4 := Lib.hid hb4
  have hbw4 : Below W0.heap.size W0 w4 := below_trans HBW3.out hb4
  have HBW4 := Lib.hid hbw4
  clear hrow4 hb4 hbw4 f0
  go_wp2_with fail
  refine (repeat_any _ _ (heap_new_at rfl)).mono ?_
  rintro x w5 ⟨⟨A5, c5, rfl, hrow5⟩, hb5⟩
  have hbw5 : Below W0.heap.size W0 w5 := below_trans (below_alloc HBW4.out _) hb5
  have hq := heap_below hbw5 HQ2.out
  have HROW5 := Lib.hid hrow5
  have HROW25 := Lib.hid ((HROW24.out.alloc _).below hb5)
  have HBW5 := Lib.hid hbw5
  have HQ5 := Lib.hid hq
  have hs0 : w.heap.size + 1 < W0.heap.size := hsz
  clear hrow5 hb5 hbw5 hq a0 a1 a2 a3 a4 a5 a6 a7 a8 a9 a10
  go_wp2_with (at_builtin; refine wpList_appE (w0 := W0) HBW5.out rfl (.tmp 39) (.tmp 41) 22 rfl W0.heap.size 5 i0 _ 1 Tryz.underlying22 hi hz0 hz1 hz2 rfl A2 NR c2 (bys (stuffN bo)) rfl (by rw [bys_length]; exact HNR.out) HROW25.out A5 10 c5 (bys (List.replicate 10 1)) rfl rfl HROW5.out.rd (bys_one _) (fun _ e => HROW5.out.none_ e) (NR + 10) rfl (by unfold maxLen; omega) (by omega) (Nat.le_refl _) HBW5.out.size ?_; intro e6 A6 c6 HROW6; have r0 := ext_cell (cell_of_heap HQ2.out 0 _ rfl) e6; have r1 := ext_cell (cell_of_heap HQ2.out 1 _ rfl) e6; have r2 := ext_cell (cell_of_heap HQ2.out 2 _ rfl) e6; have z0 : e6.W.frozen? ⟨w.heap.size + 1, 0, none⟩ = false := (by simp [World.frozen?, ext_heap HQ2.out e6]); have z1 : e6.W.frozen? ⟨w.heap.size + 1, 1, none⟩ = false := (by simp [World.frozen?, ext_heap HQ2.out e6]); have z2 : e6.W.frozen? ⟨w.heap.size + 1, 2, none⟩ = false := (by simp [World.frozen?, ext_heap HQ2.out e6]))
  refine bodyPost_ret (v := .tuple #[.agg #[.slice A6 (NR + 10 : Nat) c6, .int .i64 (NH : Nat), .int .i64 (NR + 1 : Nat)], .int .i64 0]) (by simp [results, Tryz.results21, go_sem, r0, r1, r2]) rfl ⟨⟨A6, c6, rfl, ?_⟩, ?_⟩
  · have h6 := HROW6.out
    rw [← bys_append, ← HW.out] at h6
    have h7 : ∀ ad, A6 = some ad → ad.block ≠ w.heap.size + 1 := fun ad e => by have := h6.ge ad e; omega
    exact (((h6.setCell h7 0 _).setCell h7 1 _).setCell h7 2 _).mono (by omega)
  · have h := below_trans HB.out e6.below
    exact ((h.setCell (p := ⟨w.heap.size + 1, 0, none⟩) (by show w.heap.size ≤ w.heap.size + 1; omega) _).setCell (p := ⟨w.heap.size + 1, 1, none⟩) (by show w.heap.size ≤ w.heap.size + 1; omega) _).setCell (p := ⟨w.heap.size + 1, 2, none⟩) (by show w.heap.size ≤ w.heap.size + 1; omega) _
end Go.Proofs.YtlmdkmflbhnlgaaGreat
-- Pot2: append's law for a row behind a pointer, where the two slices are of two types. No condition.
namespace Go.Proofs.YtlmdkmflbhnlgaaGreat
open Go.RowKit
theorem append_types {P : Program} {t t2 ty e : TypeId} (ht : P.underlying t = some (.slice e)) (ht2 : P.underlying t2 = some (.slice e)) (args : Array Value) (w : World) :
    (Builtin.append_ #[t, t2] ty args).run P w = (Builtin.append_ #[t, t] ty args).run P w := by
  unfold Builtin.append_
  simp only [List.getElem?_toArray, List.getElem?_cons_zero, List.getElem?_cons_succ]
  cases h0 : args[0]? with
  | none => rfl
  | some s =>
    cases h1 : args[1]? with
    | none => rfl
    | some x =>
      simp only [Sem.run_bind, run_underlying ht, Result.andThen_ok]
      cases s <;> try rfl
      simp only [Sem.run_bind]
      cases hX : (sizeOf e).run P w with
      | halt y w1 => rfl
      | ok size w1 => simp only [Result.andThen_ok, run_underlying ht, run_underlying ht2]
theorem wp_types {P : Program} {t t2 e : TypeId} {o : Oper} {a : Act} {w : World} {K : Act → World → Prop} {Q : Exit → Act → World → Prop} (s x : Operand) (ht : P.underlying t = some (.slice e)) (ht2 : P.underlying t2 = some (.slice e))
    (ho : o.op = .call { callee := .builtin .append, args := #[s, x], argTypes := #[t, t2] })
    (h : Oper.wp P { o with op := .call { callee := .builtin .append, args := #[s, x], argTypes := #[t, t] } } a w K Q) : o.wp P a w K Q := by
  have he : (execOp a.eval o).run P w = (execOp a.eval { o with op := .call { callee := .builtin .append, args := #[s, x], argTypes := #[t, t] } }).run P w := by
    unfold execOp
    simp only [ho, resolve, invoke, builtin, Sem.run_bind, Sem.run_pure, Result.andThen_ok]
    rw [append_types ht ht2]
  unfold Oper.wp at h ⊢
  rw [he]
  exact h
theorem wpList_pot2 {P : Program} {W0 w : World} {B b t : Nat} {A : Option Addr} {c : Nat} {l : List Nat} (h : Pot w B b t A c l) (hW : Keep B b W0 w) {ops : Array Oper} {rest : List Oper} {o : Oper} {a : Act} {Q : Exit → Act → World → Prop} (hgd : o.guard = none) (s x : Operand) (ty ty2 : TypeId)
    (ho : o.op = .call { callee := .builtin .append, args := #[s, x], argTypes := #[ty, ty2] })
    (i : TypeInfo) (z : Value) (bytes : Nat) (ht : P.underlying ty = some (.slice 5)) (ht2 : P.underlying ty2 = some (.slice 5)) (hi : P.info? 5 = some i) (hz : i.zero = some z) (hsize : i.size = 1) (hby : i.bytes = bytes) (hzs : z.cells.size = 1)
    (n : Nat) (hn : l.length = n) (hs : a.eval s = .slice A n c)
    (A2 : Option Addr) (m d : Nat) (news : List Nat) (hx : a.eval x = .slice A2 m d) (hm : news.length = m) (hr : Rd w A2 (bys news)) (hd : news = [] → A2 = none → d = 0)
    (N : Nat) (hN : n + m = N) (h63 : N ≤ maxLen) (hbytes : N * bytes ≤ 140737488355328)
    (hk : ∀ w' A3 c3, Hid (Potd W0 w' B b t (.slice A n c) A3 c3 (l ++ news)) → w'.cell? ⟨b, 0, none⟩ = some (.slice A n c) → w'.frozen? ⟨b, 0, none⟩ = false → wpList P ops Q rest (a.put o.dst (.slice A3 N c3)) w') : wpList P ops Q (o :: rest) a w :=
  wpList_plain hgd fun _ hK => wp_types s x ht ht2 ho (wp_pot h hW s x ty rfl i z bytes ht hi hz hsize hby hzs n hn hs A2 m d news hx hm hr hd N hN h63 hbytes fun w' A3 c3 h2 h3 h4 => hK _ _ (hk w' A3 c3 h2 h3 h4))
end Go.Proofs.YtlmdkmflbhnlgaaGreat
-- FdFields: fd's fields: put, flag, and an FD frame's head. No condition.
namespace Go.Proofs.YtlmdkmflbhnlgaaGreat
open Go.RowKit Go.Maps
set_option maxRecDepth 100000 in
set_option maxHeartbeats 1000000 in
theorem fdPut_any (w : World) (B b t : Nat) (A : Option Addr) (c n size : Nat) (l : List Nat) (h : Pot w B b t A c l) (hn : n < 18446744073709551616) (hs : size ≤ 64) (hlt : n < 2 ^ size) (hl : l.length + size ≤ 1000000) :
    Calls Tryz.prog 36 #[.pointer (some ⟨b, 0, none⟩), .int .u64 n, .int .i64 size] w fun e w' => e = .returned (.tuple #[]) ∧ (∃ A' c', Pot w' B b t A' c' (l ++ bitsN n size)) ∧ Keep B b w w' := by
  obtain ⟨i0, hi, hz0, hz1, hz2⟩ := info_parts info_u8
  have HB := Lib.hid (bitsPut_any w n size hn hs hlt)
  have HP := Lib.hid h
  clear h hlt
  go_enter Tryz.func36, Tryz.ntmps36
  go_wp2_with fail
  refine HB.out.mono ?_
  rintro e w1 ⟨⟨A2, c2, rfl, hrow⟩, hb⟩
  have HQ := Lib.hid (HP.out.below hb)
  have HRow := Lib.hid hrow
  have HB1 := Lib.hid hb
  clear hrow hb
  obtain ⟨q, hq⟩ : ∃ q, l.length = q := ⟨_, rfl⟩
  have hq2 : q + size ≤ 1000000 := by omega
  have c0 : w1.cell? ⟨b, 0, none⟩ = some (.slice A q c) := by rw [← hq]; exact HQ.out.cell
  have z0 : w1.frozen? ⟨b, 0, none⟩ = false := HQ.out.frozen
  have sb : b < w1.heap.size := heap_lt HQ.out.box
  have HL := Lib.hid hq
  clear hq hl
  go_wp2_with (at_builtin; refine wpList_pot2 (W0 := w) HQ.out (.of HB1.out HP.out.size) rfl (.tmp 17) (.tmp 18) 66 22 rfl i0 _ 1 Tryz.underlying66 Tryz.underlying22 hi hz0 hz1 hz2 rfl q HL.out rfl A2 size c2 (bitsN n size) rfl (bitsN_length _ _) HRow.out.rd (fun _ e => HRow.out.none_ e) (q + size) rfl (by unfold maxLen; omega) (by omega) ?_; intro w3 A3 c3 HP3 c03 z03)
  go_end0
  obtain ⟨p1, p2⟩ := HP3.out.store (n := q + size) (by rw [List.length_append, HL.out, bitsN_length])
  exact ⟨rfl, ⟨_, _, p1⟩, p2⟩
theorem fdPut_row (w : World) (B b t : Nat) (A : Option Addr) (c : Nat) (n size : Int) (N S : Nat) (l : List Nat) (eN : n = (N : Int)) (eS : size = (S : Int)) (h : Pot w B b t A c l) (hn : N < 18446744073709551616) (hs : S ≤ 64) (hlt : N < 2 ^ S) (hl : l.length + S ≤ 1000000) :
    Calls Tryz.prog 36 #[.pointer (some ⟨b, 0, none⟩), .int .u64 n, .int .i64 size] w fun e w' => e = .returned (.tuple #[]) ∧ (∃ A' c', Pot w' B b t A' c' (l ++ bitsN N S)) ∧ Keep B b w w' := by
  subst eN eS
  exact fdPut_any w B b t A c N S l h hn hs hlt hl
theorem keyedB : Keyed Tryz.prog 4 := bool_keyed Tryz.underlying4
theorem zeroU64 (w : World) : (zeroValue 71).run Tryz.prog w = .ok (.int .u64 0) w := by kernel_rfl
/-- The map {true: 1}, laid by the call. -/
theorem wpList_insertF {w : World} {ops : Array Oper} {rest : List Oper} {o : Oper} {a : Act} {Q : Exit → Act → World → Prop} (hg : o.guard = none) (m x v : Operand) (hop : o.op = Op.insert 102 m x v)
    (hm : a.eval m = .map (some w.heap.size)) (hx : a.eval x = .bool true) (hv : a.eval v = .int .u64 1)
    (hK : ∀ w', (∀ b : Bool, (Instr.lookup 102 (.map (some w.heap.size)) (.bool b) false).run Tryz.prog w' = .ok (.int .u64 (bitB b)) w') → Hid (Below w.heap.size w w') → wpList Tryz.prog ops Q rest (a.put o.dst undef) w') : wpList Tryz.prog ops Q (o :: rest) a (w.alloc (.map #[] 0)) := by
  refine wpList_plain hg fun K' hK' => ?_
  have hw1 : (Lit.int .u64 1).wf = true := by decide
  obtain ⟨w', hrun, r1, r2⟩ := (World.ownsMap_made (H := Unit) w Tryz.prog 4 (plainElem Tryz.prog 71)).update keyedB Tryz.underlying102 (by decide) (keyOf_bool_mk Tryz.underlying4 true) (plainElem_int Tryz.underlying71 hw1)
  unfold Oper.wp
  simp [execOp, hop, hm, hx, hv, hrun, Result.andThen]
  refine hK' _ _ (hK w' (fun b => ?_) ?_)
  · obtain ⟨c, hc, hat, -⟩ := r1.lookup_int keyedB Tryz.underlying102 Tryz.underlying71 (zeroU64 w') (keyOf_bool_mk Tryz.underlying4 b)
    rw [hc]
    cases b
    · rw [atKey_put_other (by intro h; injection h with h; cases h)] at hat
      simp [DataW.atKey] at hat
      rw [← hat]; rfl
    · rw [atKey_put_same ⟨[], rfl⟩ (show WideAt.IsKeyLit (.bool true) from trivial)] at hat
      simp at hat
      rw [← hat]; rfl
  · exact (below_alloc (Below.refl w.heap.size w) (.map #[] 0)).grown r2 (by simp) (fun k hk => by injection hk with hk; omega)
set_option maxRecDepth 100000 in
set_option maxHeartbeats 1000000 in
theorem fdFlag_any (w : World) (B b t : Nat) (A : Option Addr) (c : Nat) (x : Bool) (l : List Nat) (h : Pot w B b t A c l) (hl : l.length + 1 ≤ 1000000) :
    Calls Tryz.prog 35 #[.pointer (some ⟨b, 0, none⟩), .bool x] w fun e w' => e = .returned (.tuple #[]) ∧ (∃ A' c', Pot w' B b t A' c' (l ++ bitsN (bitB x) 1)) ∧ Keep B b w w' := by
  have hb1 : bitB x < 2 := by cases x <;> decide
  have HP := Lib.hid (fun W (hW : Below w.heap.size w W) => fdPut_any W B b t A c (bitB x) 1 l (h.below hW) (by omega) (by omega) (by omega) hl)
  have HS := Lib.hid h.size
  have hmm := @run_makeMap Tryz.prog 102
  clear h hl
  go_enter Tryz.func35, Tryz.ntmps35
  go_wp2_with (refine wpList_insertF rfl (.tmp 5) _ _ rfl rfl rfl rfl ?_; intro w2 hlk HB2)
  refine (HP.out w2 HB2.out).mono ?_
  rintro e w3 ⟨rfl, h1, h2⟩
  have H1 := Lib.hid h1
  have H2 := Lib.hid h2
  clear h1 h2 hlk hmm
  go_wp2_with fail
  go_end0
  exact ⟨rfl, H1.out, (Keep.of HB2.out HS.out).trans H2.out⟩
/-- What arbitrates: a dominant bit, the identifier, 0010. -/
def headD (f : Fr) : List Nat := bitsN 0 1 ++ bitsN f.id.toNat 11 ++ bitsN 2 4
theorem headD_length (f : Fr) : (headD f).length = 16 := by simp [headD, bitsN_length]
set_option maxRecDepth 100000 in
set_option maxHeartbeats 2000000 in
theorem headD_any (f : Fr) (A : Option Addr) (n c : Nat) (w : World) (h0 : 0 ≤ f.id) (h1 : f.id < 2048) :
    Calls Tryz.prog 34 #[frv f (.slice A n c)] w fun e w' => (∃ A' c', e = .returned (.slice A' 16 c') ∧ Row w' w.heap.size 5 A' c' (bys (headD f))) ∧ Below w.heap.size w w' := by
  have hl : headD f = bitsN 0 1 ++ bitsN f.id.toNat 11 ++ bitsN 2 4 := rfl
  have hlen := headD_length f
  generalize headD f = l at *
  obtain ⟨kind, id, ext, rtr, brs, esi, sec, sdt, vcid, af, data⟩ := f
  dsimp only [frv] at *
  obtain ⟨m, rfl⟩ := Int.eq_ofNat_of_zero_le h0
  rw [Int.toNat_natCast] at hl
  have HL := Lib.hid hl
  have HLEN := Lib.hid hlen
  clear hl h0 hlen
  go_enter Tryz.func34, Tryz.ntmps34
  go_wp2_with fail
  refine calls_blk2 (fun W0 q1 q2 hb => ?_)
  have hp : Pot W0 (w.heap.size + 1 + 1) (w.heap.size + 1) 66 none 0 [] := ⟨q2, fun _ e => (by cases e), heap_lt q2, Row.nil _ _ _⟩
  have HB := Lib.hid hb
  have HP := Lib.hid hp
  obtain ⟨a0, a1, a2, a3, a4, a5, a6, a7, a8, a9, a10⟩ := cells11 q1
  have b1 := fun e : KE (w.heap.size + 1 + 1) (w.heap.size + 1) W0 => ke_cell a1 (by show w.heap.size < _; omega) (by show w.heap.size ≠ _; omega) e
  clear hb hp q1 q2 a0 a1 a2 a3 a4 a5 a6 a7 a8 a9 a10
  refine (kec_same (fdPut_row _ _ _ _ _ _ _ _ 0 1 _ rfl rfl HP.out (by omega) (by omega) (by omega) (by simp))).mono ?_
  rintro x _ ⟨e1, rfl, rfl, A1, c1, hp1⟩
  have HP1 := Lib.hid hp1
  clear hp1
  go_wp2_with fail
  refine (kec (fdPut_row _ _ _ _ _ _ _ _ m 11 _ ?c1 rfl HP1.out (by omega) (by omega) (by omega) (by simp [bitsN_length]))).mono ?_
  case c1 => first | rfl | omega
  rintro x _ ⟨e2, rfl, rfl, A2, c2, hp2⟩
  have HP2 := Lib.hid hp2
  clear hp2
  go_wp2_with fail
  refine (kec (fdPut_row _ _ _ _ _ _ _ _ 2 4 _ rfl rfl HP2.out (by omega) (by omega) (by omega) (by simp [bitsN_length]))).mono ?_
  rintro x _ ⟨e3, rfl, rfl, A3, c3, hp3⟩
  have hrow : Pot e3.W (w.heap.size + 1 + 1) (w.heap.size + 1) 66 A3 c3 l := by rw [HL.out]; exact hp3
  have d0 : e3.W.cell? ⟨w.heap.size + 1, 0, none⟩ = some (.slice A3 16 c3) := by rw [← HLEN.out]; exact hrow.cell
  have f0 : e3.W.frozen? ⟨w.heap.size + 1, 0, none⟩ = false := hrow.frozen
  have hsz : w.heap.size + 1 < e3.W.heap.size := heap_lt hrow.box
  have HP3 := Lib.hid hrow
  clear hp3 hrow
  go_wp2_with fail
  refine bodyPost_ret (v := .slice A3 16 c3) (by simp [results, Tryz.results34, go_sem, d0]) rfl ⟨⟨A3, c3, rfl, ?_⟩, ?_⟩
  · exact (HP3.out.row.setCell HP3.out.ne 0 _).mono (by omega)
  · exact (HB.out.trans (e3.keep.below (by omega) (by omega))).setCell (p := ⟨w.heap.size + 1, 0, none⟩) (by show w.heap.size ≤ w.heap.size + 1; omega) _
end Go.Proofs.YtlmdkmflbhnlgaaGreat
-- Tally: fixed.Tally: a number of stuff bits as four bits. No condition.
namespace Go.Proofs.YtlmdkmflbhnlgaaGreat
open Go.RowKit
def tallyV (n : Nat) : Nat := [0, 3, 6, 5, 12, 15, 10, 9].getD (n % 8) 0
def tallyN (n : Nat) : List Nat := bitsN (tallyV n) 4
theorem tallyN_length (n : Nat) : (tallyN n).length = 4 := bitsN_length _ _
theorem bitsPut_row (w : World) (n size : Int) (N S : Nat) (eN : n = (N : Int)) (eS : size = (S : Int)) (hn : N < 18446744073709551616) (hs : S ≤ 64) (hlt : N < 2 ^ S) :
    Calls Tryz.prog 63 #[.int .u64 n, .int .i64 size] w fun e w' => (∃ A' c', e = .returned (.tuple #[.slice A' S c', .int .i64 0]) ∧ Row w' w.heap.size 5 A' c' (bys (bitsN N S))) ∧ Below w.heap.size w w' := by
  subst eN eS
  exact bitsPut_any w N S hn hs hlt
set_option maxHeartbeats 2000000 in
theorem Tally_any (n : Nat) (w : World) (hn : n ≤ 1000000) :
    Calls Tryz.prog 78 #[.int .i64 n] w fun e w' => (∃ A' c', e = .returned (.tuple #[.slice A' 4 c', .int .i64 0]) ∧ Row w' w.heap.size 5 A' c' (bys (tallyN n))) ∧ Below w.heap.size w w' := by
  have h0 : ¬ (n : Int) < 0 := by omega
  have hm : n % 8 = 0 ∨ n % 8 = 1 ∨ n % 8 = 2 ∨ n % 8 = 3 ∨ n % 8 = 4 ∨ n % 8 = 5 ∨ n % 8 = 6 ∨ n % 8 = 7 := by omega
  have ht : tallyN n = bitsN ([0, 3, 6, 5, 12, 15, 10, 9].getD (n % 8) 0) 4 := rfl
  generalize tallyN n = tl at ht ⊢
  rcases hm with hm | hm | hm | hm | hm | hm | hm | hm
  all_goals
    rw [hm] at ht
    have HT := Lib.hid ht
    clear ht
  · have e1 : (n : Int) % 8 = 0 := by omega
    have e2 : (n : Int).tmod 8 = 0 := by rw [Int.tmod_eq_emod_of_nonneg (by omega)]; omega
    have ht2 : tl = bitsN 0 4 := HT.out
    clear hm HT
    go_enter Tryz.func78, Tryz.ntmps78
    go_wp2_with fail
    refine (bitsPut_row w _ 4 0 4 ?c1 rfl (by omega) (by omega) (by omega)).mono ?_
    case c1 => kernel_rfl
    rintro x w1 ⟨⟨A1, c1, rfl, hrow⟩, hb⟩
    have HROW := Lib.hid hrow
    have HB := Lib.hid hb
    clear hrow hb
    go_wp2_with fail
    go_ret2
    exact ⟨⟨A1, c1, rfl, by rw [ht2]; exact HROW.out⟩, HB.out⟩
  · have e1 : (n : Int) % 8 = 1 := by omega
    have e2 : (n : Int).tmod 8 = 1 := by rw [Int.tmod_eq_emod_of_nonneg (by omega)]; omega
    have ht2 : tl = bitsN 3 4 := HT.out
    clear hm HT
    go_enter Tryz.func78, Tryz.ntmps78
    go_wp2_with fail
    refine (bitsPut_row w _ 4 3 4 ?c1 rfl (by omega) (by omega) (by omega)).mono ?_
    case c1 => kernel_rfl
    rintro x w1 ⟨⟨A1, c1, rfl, hrow⟩, hb⟩
    have HROW := Lib.hid hrow
    have HB := Lib.hid hb
    clear hrow hb
    go_wp2_with fail
    go_ret2
    exact ⟨⟨A1, c1, rfl, by rw [ht2]; exact HROW.out⟩, HB.out⟩
  · have e1 : (n : Int) % 8 = 2 := by omega
    have e2 : (n : Int).tmod 8 = 2 := by rw [Int.tmod_eq_emod_of_nonneg (by omega)]; omega
    have ht2 : tl = bitsN 6 4 := HT.out
    clear hm HT
    go_enter Tryz.func78, Tryz.ntmps78
    go_wp2_with fail
    refine (bitsPut_row w _ 4 6 4 ?c1 rfl (by omega) (by omega) (by omega)).mono ?_
    case c1 => kernel_rfl
    rintro x w1 ⟨⟨A1, c1, rfl, hrow⟩, hb⟩
    have HROW := Lib.hid hrow
    have HB := Lib.hid hb
    clear hrow hb
    go_wp2_with fail
    go_ret2
    exact ⟨⟨A1, c1, rfl, by rw [ht2]; exact HROW.out⟩, HB.out⟩
  · have e1 : (n : Int) % 8 = 3 := by omega
    have e2 : (n : Int).tmod 8 = 3 := by rw [Int.tmod_eq_emod_of_nonneg (by omega)]; omega
    have ht2 : tl = bitsN 5 4 := HT.out
    clear hm HT
    go_enter Tryz.func78, Tryz.ntmps78
    go_wp2_with fail
    refine (bitsPut_row w _ 4 5 4 ?c1 rfl (by omega) (by omega) (by omega)).mono ?_
    case c1 => kernel_rfl
    rintro x w1 ⟨⟨A1, c1, rfl, hrow⟩, hb⟩
    have HROW := Lib.hid hrow
    have HB := Lib.hid hb
    clear hrow hb
    go_wp2_with fail
    go_ret2
    exact ⟨⟨A1, c1, rfl, by rw [ht2]; exact HROW.out⟩, HB.out⟩
  · have e1 : (n : Int) % 8 = 4 := by omega
    have e2 : (n : Int).tmod 8 = 4 := by rw [Int.tmod_eq_emod_of_nonneg (by omega)]; omega
    have ht2 : tl = bitsN 12 4 := HT.out
    clear hm HT
    go_enter Tryz.func78, Tryz.ntmps78
    go_wp2_with fail
    refine (bitsPut_row w _ 4 12 4 ?c1 rfl (by omega) (by omega) (by omega)).mono ?_
    case c1 => kernel_rfl
    rintro x w1 ⟨⟨A1, c1, rfl, hrow⟩, hb⟩
    have HROW := Lib.hid hrow
    have HB := Lib.hid hb
    clear hrow hb
    go_wp2_with fail
    go_ret2
    exact ⟨⟨A1, c1, rfl, by rw [ht2]; exact HROW.out⟩, HB.out⟩
  · have e1 : (n : Int) % 8 = 5 := by omega
    have e2 : (n : Int).tmod 8 = 5 := by rw [Int.tmod_eq_emod_of_nonneg (by omega)]; omega
    have ht2 : tl = bitsN 15 4 := HT.out
    clear hm HT
    go_enter Tryz.func78, Tryz.ntmps78
    go_wp2_with fail
    refine (bitsPut_row w _ 4 15 4 ?c1 rfl (by omega) (by omega) (by omega)).mono ?_
    case c1 => kernel_rfl
    rintro x w1 ⟨⟨A1, c1, rfl, hrow⟩, hb⟩
    have HROW := Lib.hid hrow
    have HB := Lib.hid hb
    clear hrow hb
    go_wp2_with fail
    go_ret2
    exact ⟨⟨A1, c1, rfl, by rw [ht2]; exact HROW.out⟩, HB.out⟩
  · have e1 : (n : Int) % 8 = 6 := by omega
    have e2 : (n : Int).tmod 8 = 6 := by rw [Int.tmod_eq_emod_of_nonneg (by omega)]; omega
    have ht2 : tl = bitsN 10 4 := HT.out
    clear hm HT
    go_enter Tryz.func78, Tryz.ntmps78
    go_wp2_with fail
    refine (bitsPut_row w _ 4 10 4 ?c1 rfl (by omega) (by omega) (by omega)).mono ?_
    case c1 => kernel_rfl
    rintro x w1 ⟨⟨A1, c1, rfl, hrow⟩, hb⟩
    have HROW := Lib.hid hrow
    have HB := Lib.hid hb
    clear hrow hb
    go_wp2_with fail
    go_ret2
    exact ⟨⟨A1, c1, rfl, by rw [ht2]; exact HROW.out⟩, HB.out⟩
  · have e1 : (n : Int) % 8 = 7 := by omega
    have e2 : (n : Int).tmod 8 = 7 := by rw [Int.tmod_eq_emod_of_nonneg (by omega)]; omega
    have ht2 : tl = bitsN 9 4 := HT.out
    clear hm HT
    go_enter Tryz.func78, Tryz.ntmps78
    go_wp2_with fail
    refine (bitsPut_row w _ 4 9 4 ?c1 rfl (by omega) (by omega) (by omega)).mono ?_
    case c1 => kernel_rfl
    rintro x w1 ⟨⟨A1, c1, rfl, hrow⟩, hb⟩
    have HROW := Lib.hid hrow
    have HB := Lib.hid hb
    clear hrow hb
    go_wp2_with fail
    go_ret2
    exact ⟨⟨A1, c1, rfl, by rw [ht2]; exact HROW.out⟩, HB.out⟩
end Go.Proofs.YtlmdkmflbhnlgaaGreat
-- PFirst: Where two rows of bits first differ; runs, bit by bit: plain laws of lists. No condition.
namespace Go.Proofs.YtlmdkmflbhnlgaaGreat
open Go.RowKit
theorem bitsN_mod (n k : Nat) : bitsN n k = bitsN (n % 2 ^ k) k := by
  have h : ∀ j, j ≤ k → bitsN n j = bitsN (n % 2 ^ k) j := by
    intro j
    induction j with
    | zero => intro _; rfl
    | succ j ih =>
      intro hj
      simp only [bitsN]
      rw [ih (by omega)]
      congr 1
      obtain ⟨m, rfl⟩ : ∃ m, k = j + (m + 1) := ⟨k - (j + 1), by omega⟩
      rw [Nat.pow_add, Nat.mod_mul_right_div_self, Nat.pow_succ, Nat.mul_comm (2 ^ m) 2, Nat.mod_mul_right_mod]
  exact h k (Nat.le_refl k)
/-- Where two numbers' bits first differ. -/
theorem bitsN_first (k : Nat) : ∀ n m : Nat, n < 2 ^ k → m < 2 ^ k → n ≠ m → ∃ p a b x y, bitsN n k = p ++ x :: a ∧ bitsN m k = p ++ y :: b ∧ x ≠ y ∧ (x = 0 ↔ n < m) ∧ x ≤ 1 ∧ y ≤ 1 := by
  induction k with
  | zero => intro n m hn hm hne; simp at hn hm; omega
  | succ k ih =>
    intro n m hn hm hne
    have hp : 0 < 2 ^ k := Nat.two_pow_pos _
    rw [Nat.pow_succ] at hn hm
    have hn1 : n / 2 ^ k < 2 := Nat.div_lt_of_lt_mul (by omega)
    have hm1 : m / 2 ^ k < 2 := Nat.div_lt_of_lt_mul (by omega)
    have en := Nat.div_add_mod n (2 ^ k)
    have em := Nat.div_add_mod m (2 ^ k)
    have rn := Nat.mod_lt n hp
    have rm := Nat.mod_lt m hp
    by_cases he : n / 2 ^ k = m / 2 ^ k
    · have hne2 : n % 2 ^ k ≠ m % 2 ^ k := by intro h; rw [he] at en; omega
      obtain ⟨p, a, b, x, y, h1, h2, h3, h4, h5, h6⟩ := ih (n % 2 ^ k) (m % 2 ^ k) rn rm hne2
      refine ⟨(n / 2 ^ k % 2) :: p, a, b, x, y, ?_, ?_, h3, ?_, h5, h6⟩
      · simp only [bitsN]; rw [bitsN_mod n k, h1]; rfl
      · simp only [bitsN]; rw [bitsN_mod m k, h2, he]; rfl
      · rw [h4]; rw [he] at en; omega
    · refine ⟨[], bitsN n k, bitsN m k, n / 2 ^ k % 2, m / 2 ^ k % 2, rfl, rfl, ?_, ?_, by omega, by omega⟩
      · rw [Nat.mod_eq_of_lt hn1, Nat.mod_eq_of_lt hm1]; exact he
      · rw [Nat.mod_eq_of_lt hn1]
        generalize n / 2 ^ k = u at *
        generalize m / 2 ^ k = v at *
        obtain rfl | rfl : u = 0 ∨ u = 1 := by omega
        · obtain rfl : v = 1 := by omega
          simp at en em
          constructor <;> intro <;> omega
        · obtain rfl : v = 0 := by omega
          simp at en em
          constructor <;> intro h <;> omega
theorem bitsN_inj (k n m : Nat) (hn : n < 2 ^ k) (hm : m < 2 ^ k) (h : bitsN n k = bitsN m k) : n = m := by
  refine Classical.byContradiction fun hne => ?_
  obtain ⟨p, a, b, x, y, h1, h2, h3, -⟩ := bitsN_first k n m hn hm hne
  rw [h1, h2] at h
  have := List.append_cancel_left h
  simp at this
  exact h3 this.1
/-- Two rows that differ first at one place, of which the first one has the dominant bit just if P. -/
def First (P : Prop) (l m : List Nat) : Prop := ∃ p a b x y, l = p ++ x :: a ∧ m = p ++ y :: b ∧ x ≠ y ∧ (x = 0 ↔ P) ∧ x ≤ 1 ∧ y ≤ 1
theorem First.behind {P : Prop} {l m : List Nat} (h : First P l m) (c d : List Nat) : First P (l ++ c) (m ++ d) := by
  obtain ⟨p, a, b, x, y, rfl, rfl, r⟩ := h
  exact ⟨p, a ++ c, b ++ d, x, y, by simp, by simp, r⟩
theorem First.ahead {P : Prop} {l m : List Nat} (h : First P l m) (c : List Nat) : First P (c ++ l) (c ++ m) := by
  obtain ⟨p, a, b, x, y, rfl, rfl, r⟩ := h
  exact ⟨c ++ p, a, b, x, y, by simp, by simp, r⟩
theorem First.stuffed {P : Prop} {l m : List Nat} (h : First P l m) : First P (stuffN l) (stuffN m) := by
  obtain ⟨p, a, b, x, y, rfl, rfl, r⟩ := h
  obtain ⟨q, a', b', h1, h2⟩ := stf_diff p a b x y 0 0
  exact ⟨q, a', b', x, y, h1, h2, r⟩
theorem First.iff {P Q : Prop} {l m : List Nat} (h : First P l m) (e : P ↔ Q) : First Q l m := by
  obtain ⟨p, a, b, x, y, h1, h2, h3, h4, h5, h6⟩ := h
  exact ⟨p, a, b, x, y, h1, h2, h3, h4.trans e, h5, h6⟩
/-- The place. -/
theorem First.at {P : Prop} {l m : List Nat} (h : First P l m) : ∃ j, j < l.length ∧ j < m.length ∧ (∀ i, i < j → l[i]? = m[i]?) ∧ ∃ x y, l[j]? = some x ∧ m[j]? = some y ∧ x ≠ y ∧ (x = 0 ↔ P) := by
  obtain ⟨p, a, b, x, y, rfl, rfl, h3, h4, -⟩ := h
  refine ⟨p.length, by simp, by simp, fun i hi => ?_, x, y, by simp, by simp, h3, h4⟩
  rw [List.getElem?_append_left hi, List.getElem?_append_left hi]
/-- Two rows that differ at a place within both. -/
def Diff (l m : List Nat) : Prop := ∃ p a b x y, l = p ++ x :: a ∧ m = p ++ y :: b ∧ x ≠ y
theorem First.diff {P : Prop} {l m : List Nat} (h : First P l m) : Diff l m := by
  obtain ⟨p, a, b, x, y, h1, h2, h3, -⟩ := h
  exact ⟨p, a, b, x, y, h1, h2, h3⟩
theorem Diff.behind {l m : List Nat} (h : Diff l m) (c d : List Nat) : Diff (l ++ c) (m ++ d) := by
  obtain ⟨p, a, b, x, y, rfl, rfl, r⟩ := h
  exact ⟨p, a ++ c, b ++ d, x, y, by simp, by simp, r⟩
theorem Diff.ahead {l m : List Nat} (h : Diff l m) (c : List Nat) : Diff (c ++ l) (c ++ m) := by
  obtain ⟨p, a, b, x, y, rfl, rfl, r⟩ := h
  exact ⟨c ++ p, a, b, x, y, by simp, by simp, r⟩
theorem Diff.stuffed {l m : List Nat} (h : Diff l m) : Diff (stuffN l) (stuffN m) := by
  obtain ⟨p, a, b, x, y, rfl, rfl, r⟩ := h
  obtain ⟨q, a', b', h1, h2⟩ := stf_diff p a b x y 0 0
  exact ⟨q, a', b', x, y, h1, h2, r⟩
theorem Diff.at {l m : List Nat} (h : Diff l m) : ∃ j x y : Nat, l[j]? = some x ∧ m[j]? = some y ∧ x ≠ y := by
  obtain ⟨p, a, b, x, y, rfl, rfl, h3⟩ := h
  exact ⟨p.length, x, y, by simp, by simp, h3⟩
theorem diff_of_at (j : Nat) : ∀ (l m : List Nat) (x y : Nat), l[j]? = some x → m[j]? = some y → x ≠ y → Diff l m := by
  induction j with
  | zero =>
    intro l m x y h1 h2 h3
    cases l with
    | nil => simp at h1
    | cons u l =>
      cases m with
      | nil => simp at h2
      | cons v m =>
        simp at h1 h2
        subst h1 h2
        exact ⟨[], l, m, u, v, rfl, rfl, h3⟩
  | succ j ih =>
    intro l m x y h1 h2 h3
    cases l with
    | nil => simp at h1
    | cons u l =>
      cases m with
      | nil => simp at h2
      | cons v m =>
        simp only [List.getElem?_cons_succ] at h1 h2
        by_cases e : u = v
        · subst e; exact (ih l m x y h1 h2 h3).ahead [u]
        · exact ⟨[], l, m, u, v, rfl, rfl, e⟩
theorem bytesN_diff : ∀ (l m : List Nat), l.length = m.length → (∀ x ∈ l, x < 256) → (∀ x ∈ m, x < 256) → l ≠ m → Diff (bytesN l) (bytesN m) := by
  intro l
  induction l with
  | nil => intro m h _ _ hne; cases m with
           | nil => exact absurd rfl hne
           | cons => simp at h
  | cons x l ih =>
    intro m h hl hm hne
    cases m with
    | nil => simp at h
    | cons y m =>
      have e1 : bytesN (x :: l) = bitsN x 8 ++ bytesN l := by simp [bytesN]
      have e2 : bytesN (y :: m) = bitsN y 8 ++ bytesN m := by simp [bytesN]
      rw [e1, e2]
      by_cases e : x = y
      · subst e
        exact (ih m (by simpa using h) (fun z hz => hl z (by simp [hz])) (fun z hz => hm z (by simp [hz])) (fun h => hne (by rw [h]))).ahead _
      · obtain ⟨p, a, b, u, v, h1, h2, h3, -⟩ := bitsN_first 8 x y (hl x (by simp)) (hm y (by simp)) e
        exact Diff.behind ⟨p, a, b, u, v, h1, h2, h3⟩ _ _
theorem bitB_inj {a b : Bool} (h : a ≠ b) : bitB a ≠ bitB b := by cases a <;> cases b <;> simp_all [bitB]
theorem runs_at (l : List Nat) (h : runsB 0 0 l = true) (k : Nat) (hk : k < l.length) : seeN (rawE 0 0 (l.take k)).1 (rawE 0 0 (l.take k)).2 l[k] ≤ 5 := by
  have e : l = l.take k ++ (l[k] :: l.drop (k + 1)) := by rw [← List.drop_eq_getElem_cons hk, List.take_append_drop]
  rw [e, runsB_append] at h
  simp only [Bool.and_eq_true, runsB, decide_eq_true_eq] at h
  exact h.2.1
theorem rawE_step (l : List Nat) (k : Nat) (hk : k < l.length) : rawE 0 0 (l.take (k + 1)) = (l[k], seeN (rawE 0 0 (l.take k)).1 (rawE 0 0 (l.take k)).2 l[k]) := by
  rw [List.take_succ_eq_append_getElem hk, rawE_append]
  rfl
theorem tails_raw (l : List Nat) : ∀ (last run : Nat) (out : List Nat), Tails last run out → Tails (rawE last run l).1 (rawE last run l).2 (out ++ l) := by
  induction l with
  | nil => intro last run out h; simpa [rawE] using h
  | cons x l ih =>
    intro last run out h
    have := ih x (seeN last run x) (out ++ [x]) (h.see x)
    simpa [rawE] using this
theorem rd_left {w : World} {A : Option Addr} {a b : List Nat} (h : Rd w A (bys (a ++ b))) : Rd w A (bys a) := by
  intro j u hj
  refine h j u ?_
  rw [bys_append, List.getElem?_append_left (List.getElem?_eq_some_iff.1 hj).1]
  exact hj
/-- Do two rows differ within their first k? -/
def diffB (l m : List Nat) (k : Nat) : Bool := (List.range k).any fun i => l[i]? != m[i]?
theorem diffB_succ (l m : List Nat) (k : Nat) : diffB l m (k + 1) = (diffB l m k || (l[k]? != m[k]?)) := by unfold diffB; rw [List.range_succ, List.any_append]; simp
theorem rawE_pos (l : List Nat) (k : Nat) (hk : k < l.length) (h0 : 0 < k) : (rawE 0 0 (l.take k)).1 = l[k - 1] ∧ 1 ≤ (rawE 0 0 (l.take k)).2 := by
  obtain ⟨j, rfl⟩ : ∃ j, k = j + 1 := ⟨k - 1, by omega⟩
  rw [rawE_step l j (by omega)]
  exact ⟨rfl, seeN_pos _ _ _⟩
/-- A frame with another identifier. -/
def withId (f : Fr) (id : Int) : Fr := { f with id := id }
end Go.Proofs.YtlmdkmflbhnlgaaGreat
-- PRuns: Runs of a raw row up to a bound; fixed stuffing's runs, and where two stuffed rows first differ: plain laws of lists. No condition.
namespace Go.Proofs.YtlmdkmflbhnlgaaGreat
open Go.RowKit
/-- No run is longer than M. -/
def runsM (M : Nat) : Nat → Nat → List Nat → Bool
  | _, _, [] => true
  | last, run, b :: l => decide (seeN last run b ≤ M) && runsM M b (seeN last run b) l
theorem runsM_append (M : Nat) (a b : List Nat) : ∀ last run, runsM M last run (a ++ b) = (runsM M last run a && runsM M (rawE last run a).1 (rawE last run a).2 b) := by
  induction a with
  | nil => intro last run; simp [runsM, rawE]
  | cons x a ih => intro last run; simp only [List.cons_append, runsM, rawE]; rw [ih, Bool.and_assoc]
theorem runsM_of (M : Nat) (h : 5 ≤ M) (l : List Nat) : ∀ last run, runsB last run l = true → runsM M last run l = true := by
  induction l with
  | nil => intro _ _ _; rfl
  | cons x l ih =>
    intro last run h1
    simp only [runsB, Bool.and_eq_true, decide_eq_true_eq] at h1
    simp only [runsM, Bool.and_eq_true, decide_eq_true_eq]
    exact ⟨by omega, ih _ _ h1.2⟩
theorem runsM_at (M : Nat) (l : List Nat) (h : runsM M 0 0 l = true) (k : Nat) (hk : k < l.length) : seeN (rawE 0 0 (l.take k)).1 (rawE 0 0 (l.take k)).2 l[k] ≤ M := by
  have e : l = l.take k ++ (l[k] :: l.drop (k + 1)) := by rw [← List.drop_eq_getElem_cons hk, List.take_append_drop]
  rw [e, runsM_append] at h
  simp only [Bool.and_eq_true, runsM, decide_eq_true_eq] at h
  exact h.2.1
/-- How many bits are left ahead of the next stuff bit, behind so many. -/
def leftE (every : Nat) : Nat → Nat → Nat
  | left, 0 => left
  | left, n + 1 => leftE every (if left = 0 then every - 1 else left - 1) n
/-- Fixed stuffing: a run has at most (every + 1) bits, less those that are left ahead of the next stuff bit. -/
theorem fix_runs (every : Nat) (he : 2 ≤ every) (l : List Nat) (h01 : ∀ x ∈ l, x ≤ 1) : ∀ last run left, last ≤ 1 → run + left ≤ every + 1 → left ≤ every →
    runsM (every + 1) last run (fixE every last left l) = true ∧ (rawE last run (fixE every last left l)).2 + leftE every left l.length ≤ every + 1 ∧ (rawE last run (fixE every last left l)).1 ≤ 1 := by
  induction l with
  | nil => intro last run left h1 h2 _; exact ⟨rfl, by simpa [fixE, rawE, leftE] using h2, by simpa [fixE, rawE] using h1⟩
  | cons x l ih =>
    intro last run left h1 h2 h3
    have hx := h01 x (by simp)
    have ih' := ih (fun z hz => h01 z (by simp [hz]))
    by_cases h0 : left = 0
    · subst h0
      have e : seeN last run (1 - last) = 1 := by unfold seeN; rw [if_neg (by omega)]
      have hs := seeN_le (1 - last) 1 x
      obtain ⟨i1, i2, i3⟩ := ih' x (seeN (1 - last) 1 x) (every - 1) hx (by omega) (by omega)
      rw [fixE, if_pos rfl]
      simp only [runsM, rawE, e, List.length_cons, leftE, if_true]
      refine ⟨?_, i2, i3⟩
      rw [i1]; simp; omega
    · have hs := seeN_le last run x
      obtain ⟨i1, i2, i3⟩ := ih' x (seeN last run x) (left - 1) hx (by omega) (by omega)
      rw [fixE, if_neg h0]
      simp only [runsM, rawE, List.length_cons, leftE, if_neg h0]
      refine ⟨?_, i2, i3⟩
      rw [i1]; simp; omega
theorem fixE_diff (every : Nat) (p a b : List Nat) (x y : Nat) : ∀ last left, ∃ q a' b', fixE every last left (p ++ x :: a) = q ++ x :: a' ∧ fixE every last left (p ++ y :: b) = q ++ y :: b' := by
  induction p with
  | nil =>
    intro last left
    simp only [List.nil_append, fixE]
    by_cases h0 : left = 0
    · rw [if_pos h0, if_pos h0]; exact ⟨[1 - last], _, _, rfl, rfl⟩
    · rw [if_neg h0, if_neg h0]; exact ⟨[], _, _, rfl, rfl⟩
  | cons z p ih =>
    intro last left
    simp only [List.cons_append, fixE]
    by_cases h0 : left = 0
    · obtain ⟨q, a', b', h1, h2⟩ := ih z (every - 1)
      rw [if_pos h0, if_pos h0, h1, h2]; exact ⟨(1 - last) :: z :: q, a', b', rfl, rfl⟩
    · obtain ⟨q, a', b', h1, h2⟩ := ih z (left - 1)
      rw [if_neg h0, if_neg h0, h1, h2]; exact ⟨z :: q, a', b', rfl, rfl⟩
theorem Diff.fixed {l m : List Nat} (h : Diff l m) (every : Nat) (ah : Bool) (prev : Nat) : Diff (fixN every ah prev l) (fixN every ah prev m) := by
  obtain ⟨p, a, b, x, y, rfl, rfl, h3⟩ := h
  obtain ⟨q, a', b', h1, h2⟩ := fixE_diff every p a b x y prev (if ah then 0 else every)
  exact ⟨q, a', b', x, y, h1, h2, h3⟩
theorem bitsN_diff (k n m : Nat) (hn : n < 2 ^ k) (hm : m < 2 ^ k) (h : n ≠ m) : Diff (bitsN n k) (bitsN m k) := by
  obtain ⟨p, a, b, x, y, h1, h2, h3, -⟩ := bitsN_first k n m hn hm h
  exact ⟨p, a, b, x, y, h1, h2, h3⟩
/-- How long the runs of a raw row get: at most M, and at most five among its first n bits. -/
def SeeOk (M n : Nat) (ra : List Nat) : Prop := ∀ k (hk : k < ra.length), seeN (rawE 0 0 (ra.take k)).1 (rawE 0 0 (ra.take k)).2 ra[k] ≤ M ∧ (k < n → seeN (rawE 0 0 (ra.take k)).1 (rawE 0 0 (ra.take k)).2 ra[k] ≤ 5)
/-- What a frame's numbers are. -/
structure FrN (f : Fr) : Prop where
  id0 : 0 ≤ f.id
  sdt : 0 ≤ f.sdt ∧ f.sdt < 256
  vcid : 0 ≤ f.vcid ∧ f.vcid < 256
  af : 0 ≤ f.af ∧ f.af < 4294967296
  data : isBytes f.data
theorem diff_apart {l m : List Nat} (h : Diff l m) : diffB l m (min l.length m.length) = true := by
  obtain ⟨j, x, y, h1, h2, h3⟩ := h.at
  have j1 := (List.getElem?_eq_some_iff.1 h1).1
  have j2 := (List.getElem?_eq_some_iff.1 h2).1
  unfold diffB
  exact List.any_eq_true.2 ⟨j, List.mem_range.2 (by omega), by rw [h1, h2]; simp [h3]⟩
theorem same_apart (l : List Nat) (k : Nat) : diffB l l k = false := by
  unfold diffB
  exact List.any_eq_false.2 (by simp)
end Go.Proofs.YtlmdkmflbhnlgaaGreat
-- POk: What it means that a frame may be: plain facts. No condition.
namespace Go.Proofs.YtlmdkmflbhnlgaaGreat
open Go.RowKit
theorem codeF_kind (k n : Int) (h : (codeF k n).isSome = true) : (k = 1 ∧ 0 ≤ n ∧ n ≤ 8) ∨ (k = 2 ∧ 0 ≤ n ∧ n ≤ 64) ∨ (k = 3 ∧ 1 ≤ n ∧ n ≤ 2048) := by
  unfold codeF loOf hiOf at h
  by_cases h2 : k = 2
  · right; left
    rw [if_pos h2] at h
    refine ⟨h2, ?_⟩
    by_cases hs : fdSizes[lb fdSizes n]? = some n
    · have hm : n ∈ fdSizes := List.mem_of_getElem? hs
      simp [fdSizes] at hm
      omega
    · simp [hs] at h
  · rw [if_neg h2] at h
    by_cases h1 : k = 1
    · left
      simp only [h1, if_true] at h
      by_cases hc : (0 : Int) ≤ n ∧ n ≤ 8
      · exact ⟨h1, hc⟩
      · simp [hc] at h
    · by_cases h3 : k = 3
      · right; right
        subst h3
        by_cases hc : (1 : Int) ≤ n ∧ n ≤ 2048
        · exact ⟨rfl, hc⟩
        · simp [hc] at h
      · simp [h1, h3] at h
        exfalso
        omega
/-- What a frame that may be is like. -/
structure OkF (f : Fr) : Prop where
  kind : f.kind = 1 ∨ f.kind = 2 ∨ f.kind = 3
  size : (codeF f.kind f.data.length).isSome = true
  id : f.id < if f.ext then 536870912 else 2048
  ext : f.kind ≠ 1 → f.ext = false
  rtr : f.kind ≠ 1 → f.rtr = false
  rtr0 : f.rtr = true → f.data = []
  brs : f.kind ≠ 2 → f.brs = false
  esi : f.kind ≠ 2 → f.esi = false
  sec : f.kind ≠ 3 → f.sec = false
  sdt : f.kind ≠ 3 → f.sdt = 0
  vcid : f.kind ≠ 3 → f.vcid = 0
  af : f.kind ≠ 3 → f.af = 0
theorem okF_iff (f : Fr) : okF f = true ↔ OkF f := by
  obtain ⟨kind, id, ext, rtr, brs, esi, sec, sdt, vcid, af, data⟩ := f
  unfold okF limF sameF bareF zeroF
  constructor
  · intro h
    simp at h
    obtain ⟨⟨⟨h1, h2⟩, h3⟩, h4⟩ := h
    have hk := codeF_kind _ _ h1
    obtain ⟨⟨a1, a2, a3, a4, a5⟩, a6, a7, a8⟩ := h4
    refine ⟨?_, h1, h2, ?_, ?_, ?_, ?_, ?_, ?_, ?_, ?_, ?_⟩ <;> dsimp only
    · omega
    all_goals (intro hh; simp_all)
  · rintro ⟨k1, k2, k3, k4, k5, k6, k7, k8, k9, k10, k11, k12⟩
    dsimp only at *
    simp
    refine ⟨⟨⟨k2, k3⟩, ?_⟩, ⟨?_, ?_, ?_, ?_, ?_⟩, ?_, ?_, ?_⟩
    · cases hr : rtr
      · exact .inl rfl
      · exact .inr (k6 hr)
    · by_cases hk : kind = 1
      · exact .inl hk
      · exact .inr (k4 hk)
    · by_cases hk : kind = 1
      · exact .inl hk
      · exact .inr (k5 hk)
    all_goals (by_cases hk2 : kind = 2 <;> by_cases hk3 : kind = 3 <;> simp_all)
end Go.Proofs.YtlmdkmflbhnlgaaGreat
-- PFd: An FD frame's bits, by definition. No condition.
namespace Go.Proofs.YtlmdkmflbhnlgaaGreat
open Go.RowKit
def codeD (f : Fr) : Nat := ((codeF f.kind f.data.length).getD 0).toNat
/-- Ahead of all stuffing. -/
def bodyD (f : Fr) : List Nat := headD f ++ bitsN (bitB f.brs) 1 ++ bitsN (bitB f.esi) 1 ++ bitsN (codeD f) 4 ++ bytesN f.data
theorem bodyD_length (f : Fr) : (bodyD f).length = 22 + 8 * f.data.length := by simp [bodyD, headD_length, bitsN_length, bytesN_length]; omega
theorem headD_bits (f : Fr) : ∀ x ∈ headD f, x ≤ 1 := by
  intro x hx
  unfold headD at hx
  simp only [List.mem_append] at hx
  rcases hx with (h | h) | h <;> exact bitsN_bit _ _ x h
theorem bodyD_bits (f : Fr) : ∀ x ∈ bodyD f, x ≤ 1 := by
  intro x hx
  unfold bodyD at hx
  simp only [List.mem_append] at hx
  rcases hx with (((h | h) | h) | h) | h
  · exact headD_bits f x h
  · exact bitsN_bit _ _ x h
  · exact bitsN_bit _ _ x h
  · exact bitsN_bit _ _ x h
  · exact bytesN_bits _ x h
/-- The sum of so many bytes. -/
def sizeS (n : Nat) : Nat := if 16 < n then 21 else 17
def polyS (n : Nat) : Nat := if 16 < n then 1058969 else 92251
def startS (n : Nat) : Nat := if 16 < n then 1048576 else 65536
def kindS (n : Nat) : Int := if 16 < n then 3 else 2
def lastN (l : List Nat) : Nat := (l[l.length - 1]?).getD 0
/-- Ahead of its stuffing: the tally, and the sum. -/
def sealD (raw : List Nat) (st n : Nat) : List Nat := tallyN st ++ bitsN (crcN (sizeS n) (polyS n) (startS n) (raw ++ tallyN st)) (sizeS n)
def closeD (raw : List Nat) (st n : Nat) : List Nat := fixN 4 true (lastN raw) (sealD raw st n)
def raw0D (f : Fr) : List Nat := stuffN (bodyD f)
def rawD (f : Fr) : List Nat := raw0D f ++ closeD (raw0D f) ((raw0D f).length - (bodyD f).length) f.data.length
def wireD (f : Fr) : List Nat := rawD f ++ List.replicate 10 1
theorem tallyN_bits (st : Nat) : ∀ x ∈ tallyN st, x ≤ 1 := fun x hx => bitsN_bit _ _ x hx
theorem sealD_length (raw : List Nat) (st n : Nat) : (sealD raw st n).length = 4 + sizeS n := by simp [sealD, tallyN_length, bitsN_length]
theorem sealD_bits (raw : List Nat) (st n : Nat) : ∀ x ∈ sealD raw st n, x ≤ 1 := by
  intro x hx
  unfold sealD at hx
  rcases List.mem_append.1 hx with h | h
  · exact tallyN_bits _ x h
  · exact bitsN_bit _ _ x h
theorem closeD_length (raw : List Nat) (st n : Nat) : (closeD raw st n).length = 4 + sizeS n + (3 + sizeS n) / 4 + 1 := by
  unfold closeD
  rw [fixN_length 4 true _ _ (by decide), sealD_length, if_neg (by omega)]
  simp
theorem lastN_le (l : List Nat) (h : ∀ x ∈ l, x ≤ 1) : lastN l ≤ 1 := by
  unfold lastN
  cases hx : l[l.length - 1]? with
  | none => simp
  | some x => exact h x (List.mem_of_getElem? hx)
theorem sizeS_or (n : Nat) : sizeS n = 17 ∨ sizeS n = 21 := by unfold sizeS; split <;> simp
theorem raw0D_len (f : Fr) : 22 + 8 * f.data.length ≤ (raw0D f).length ∧ (raw0D f).length ≤ 22 + 8 * f.data.length + (21 + 8 * f.data.length) / 4 := by
  have h1 := stuffN_len (bodyD f) (by intro e; have := bodyD_length f; rw [e] at this; simp at this; omega)
  have h2 := stuffN_ge (bodyD f)
  rw [bodyD_length] at h1 h2
  unfold raw0D
  omega
theorem rawD_len (f : Fr) : (rawD f).length = (raw0D f).length + (4 + sizeS f.data.length + (3 + sizeS f.data.length) / 4 + 1) := by unfold rawD; rw [List.length_append, closeD_length]
/-- What an FD frame that may be is like. -/
theorem okD (f : Fr) (hk : f.kind = 2) (h : okF f = true) : f.id < 2048 ∧ f.data.length ≤ 64 ∧ ∃ c : Nat, c < 16 ∧ codeF f.kind f.data.length = some (c : Int) ∧ fdSizes[c]? = some (f.data.length : Int) := by
  have ho := (okF_iff f).1 h
  have he := ho.ext (by rw [hk]; decide)
  have hid := ho.id
  rw [he] at hid
  have hs := ho.size
  have hk2 := codeF_kind _ _ hs
  rw [hk] at hs hk2 ⊢
  have e : codeF 2 (f.data.length : Int) = if fdSizes[lb fdSizes f.data.length]? = some (f.data.length : Int) then some (lb fdSizes f.data.length : Int) else none := by simp [codeF]
  rw [e] at hs ⊢
  by_cases hc : fdSizes[lb fdSizes f.data.length]? = some (f.data.length : Int)
  · rw [if_pos hc]
    refine ⟨by simpa using hid, by omega, lb fdSizes f.data.length, ?_, rfl, hc⟩
    have := (List.getElem?_eq_some_iff.1 hc).1
    exact this
  · rw [if_neg hc] at hs; cases hs
theorem okD_bare (f : Fr) (hk : f.kind = 2) (h : okF f = true) : f.ext = false ∧ f.rtr = false ∧ f.sec = false ∧ f.sdt = 0 ∧ f.vcid = 0 ∧ f.af = 0 := by
  have ho := (okF_iff f).1 h
  exact ⟨ho.ext (by rw [hk]; decide), ho.rtr (by rw [hk]; decide), ho.sec (by rw [hk]; decide), ho.sdt (by rw [hk]; decide), ho.vcid (by rw [hk]; decide), ho.af (by rw [hk]; decide)⟩
theorem headD_first (f g : Fr) (f0 : 0 ≤ f.id) (f1 : f.id < 2048) (g0 : 0 ≤ g.id) (g1 : g.id < 2048) (hne : f.id ≠ g.id) : First (f.id < g.id) (headD f) (headD g) := by
  obtain ⟨n, hn⟩ := Int.eq_ofNat_of_zero_le f0
  obtain ⟨m, hm⟩ := Int.eq_ofNat_of_zero_le g0
  unfold headD
  rw [hn, hm]
  simp only [Int.toNat_natCast]
  have h : First (n < m) (bitsN n 11) (bitsN m 11) := bitsN_first 11 n m (by omega) (by omega) (by omega)
  exact ((h.ahead (bitsN 0 1)).behind (bitsN 2 4) (bitsN 2 4)).iff (by omega)
theorem wireD_head (f : Fr) : ∃ l, wireD f = stuffN (headD f) ++ l := by
  have e : bodyD f = headD f ++ (bitsN (bitB f.brs) 1 ++ bitsN (bitB f.esi) 1 ++ bitsN (codeD f) 4 ++ bytesN f.data) := by unfold bodyD; simp only [List.append_assoc]
  refine ⟨stf (stE 0 0 (headD f)).1 (stE 0 0 (headD f)).2 (bitsN (bitB f.brs) 1 ++ bitsN (bitB f.esi) 1 ++ bitsN (codeD f) 4 ++ bytesN f.data) ++ closeD (raw0D f) ((raw0D f).length - (bodyD f).length) f.data.length ++ List.replicate 10 1, ?_⟩
  have e2 : raw0D f = stuffN (headD f) ++ stf (stE 0 0 (headD f)).1 (stE 0 0 (headD f)).2 (bitsN (bitB f.brs) 1 ++ bitsN (bitB f.esi) 1 ++ bitsN (codeD f) 4 ++ bytesN f.data) := by
    unfold raw0D
    rw [e]
    unfold stuffN
    rw [stf_append]
  unfold wireD rawD
  generalize closeD (raw0D f) ((raw0D f).length - (bodyD f).length) f.data.length = cl
  rw [e2]
  simp only [List.append_assoc]
theorem rawD_head (f : Fr) : (stuffN (headD f)).length + 6 ≤ (raw0D f).length := by
  have e : bodyD f = headD f ++ (bitsN (bitB f.brs) 1 ++ bitsN (bitB f.esi) 1 ++ bitsN (codeD f) 4 ++ bytesN f.data) := by unfold bodyD; simp only [List.append_assoc]
  unfold raw0D
  rw [e]
  unfold stuffN
  rw [stf_append, List.length_append]
  have := stf_ge (bitsN (bitB f.brs) 1 ++ bitsN (bitB f.esi) 1 ++ bitsN (codeD f) 4 ++ bytesN f.data) (stE 0 0 (headD f)).1 (stE 0 0 (headD f)).2
  simp only [List.length_append, bitsN_length] at this
  omega
theorem fd_bound (f : Fr) (hk : f.kind = 2) (hok : okF f = true) : (stuffN (headD f)).length + 19 ≤ (rawD f).length ∧ (rawD f).length ≤ 40000 ∧ 12 ≤ (stuffN (headD f)).length := by
  have h1 := rawD_head f
  have h2 := rawD_len f
  have h3 := raw0D_len f
  have h4 := sizeS_or f.data.length
  have h5 := (okD f hk hok).2.1
  have h6 := stuffN_ge (headD f)
  rw [headD_length] at h6
  omega
theorem raw0D_bits (f : Fr) : ∀ x ∈ raw0D f, x ≤ 1 := stuffN_bits _ (bodyD_bits f)
theorem rawD_bits (f : Fr) : ∀ x ∈ rawD f, x ≤ 1 := by
  intro x hx
  unfold rawD at hx
  rcases List.mem_append.1 hx with h | h
  · exact raw0D_bits f x h
  · unfold closeD fixN at h; exact fixE_bits 4 _ (sealD_bits _ _ _) _ _ x h
theorem rawD_zero (f : Fr) : ∃ l, rawD f = 0 :: l := by
  have e : ∃ l, bodyD f = 0 :: l := ⟨_, rfl⟩
  obtain ⟨l, hl⟩ := e
  have h : ∃ m, raw0D f = 0 :: m := by unfold raw0D; rw [hl]; exact ⟨_, rfl⟩
  obtain ⟨m, hm⟩ := h
  unfold rawD
  generalize closeD (raw0D f) ((raw0D f).length - (bodyD f).length) f.data.length = cl
  rw [hm]
  exact ⟨_, rfl⟩
theorem rawE_last (l : List Nat) : ∀ last run, l ≠ [] → (rawE last run l).1 = lastN l := by
  induction l with
  | nil => intro _ _ h; exact absurd rfl h
  | cons x l ih =>
    intro last run _
    by_cases hl : l = []
    · subst hl; rfl
    · simp only [rawE]
      rw [ih _ _ hl]
      unfold lastN
      have : 0 < l.length := List.length_pos_iff.2 hl
      rw [List.length_cons, show l.length + 1 - 1 = (l.length - 1) + 1 by omega, List.getElem?_cons_succ]
theorem rawD_runs (f : Fr) : runsM 5 0 0 (rawD f) = true ∧ (rawE 0 0 (rawD f)).2 ≤ 5 := by
  have hA := runsM_of 5 (by omega) _ 0 0 (stuffN_runs (bodyD f))
  have hA5 : (rawE 0 0 (stuffN (bodyD f))).2 ≤ 5 := by unfold stuffN; rw [rawE_stf _ 0 0 (by omega)]; exact stE_le _ 0 0 (by omega)
  have hne : stuffN (bodyD f) ≠ [] := by intro e; have := (raw0D_len f).1; unfold raw0D at this; rw [e] at this; simp at this
  have hl := rawE_last (stuffN (bodyD f)) 0 0 hne
  have hb := lastN_le _ (raw0D_bits f)
  obtain ⟨f1, f2, -⟩ := fix_runs 4 (by omega) (sealD (raw0D f) ((raw0D f).length - (bodyD f).length) f.data.length) (sealD_bits _ _ _) (lastN (raw0D f)) (rawE 0 0 (stuffN (bodyD f))).2 0 hb (by omega) (by omega)
  have hF : closeD (raw0D f) ((raw0D f).length - (bodyD f).length) f.data.length = fixE 4 (lastN (raw0D f)) 0 (sealD (raw0D f) ((raw0D f).length - (bodyD f).length) f.data.length) := rfl
  have e0 : raw0D f = stuffN (bodyD f) := rfl
  unfold rawD
  rw [hF, runsM_append, rawE_append]
  generalize sealD (raw0D f) ((raw0D f).length - (bodyD f).length) f.data.length = se at *
  rw [← e0] at hA hA5 hl f1 f2
  rw [hA, hl, f1]
  exact ⟨rfl, by omega⟩
theorem rawD_see (f : Fr) : SeeOk 5 (stuffN (headD f)).length (rawD f) := by
  intro k hk
  have h := runsM_at 5 _ (rawD_runs f).1 k hk
  exact ⟨h, fun _ => h⟩
theorem fdOrders_plain (f g : Fr) (hk : f.kind = 2) (hkg : g.kind = 2) (fo : okF f = true) (go : okF g = true) (f0 : 0 ≤ f.id) (g0 : 0 ≤ g.id) (hne : f.id ≠ g.id) :
    ∃ j, j < (stuffN (headD f)).length ∧ j < (stuffN (headD g)).length ∧ (∀ i, i < j → (wireD f)[i]? = (wireD g)[i]?) ∧ ∃ x y, (wireD f)[j]? = some x ∧ (wireD g)[j]? = some y ∧ x ≠ y ∧ (x = 0 ↔ f.id < g.id) := by
  have h := (headD_first f g f0 (okD f hk fo).1 g0 (okD g hkg go).1 hne).stuffed
  obtain ⟨j, h1, h2, h3, x, y, h4, h5, h6⟩ := h.at
  obtain ⟨l, el⟩ := wireD_head f
  obtain ⟨m, em⟩ := wireD_head g
  rw [el, em]
  refine ⟨j, h1, h2, fun i hi => ?_, x, y, ?_, ?_, h6⟩
  · rw [List.getElem?_append_left (by omega), List.getElem?_append_left (by omega)]; exact h3 i hi
  · rw [List.getElem?_append_left h1]; exact h4
  · rw [List.getElem?_append_left h2]; exact h5
theorem sameD (f g : Fr) (fk : f.kind = 2) (gk : g.kind = 2) (fo : okF f = true) (go : okF g = true) : sameF f g = decide (f.id = g.id ∧ f.brs = g.brs ∧ f.esi = g.esi ∧ f.data = g.data) := by
  obtain ⟨a1, a2, a3, a4, a5, a6⟩ := okD_bare f fk fo
  obtain ⟨b1, b2, b3, b4, b5, b6⟩ := okD_bare g gk go
  unfold sameF
  rw [fk, gk, a1, a2, a3, a4, a5, a6, b1, b2, b3, b4, b5, b6]
  rw [Bool.eq_iff_iff]
  simp only [decide_eq_true_eq]
  constructor
  · intro h; simp_all
  · intro h; simp_all
theorem codeD_lt (f : Fr) (hk : f.kind = 2) (hok : okF f = true) : codeD f < 16 ∧ fdSizes[codeD f]? = some (f.data.length : Int) := by
  obtain ⟨-, -, c, hc, h1, h2⟩ := okD f hk hok
  unfold codeD
  rw [h1]
  simpa using ⟨hc, h2⟩
theorem bodyD_diff (f g : Fr) (fk : f.kind = 2) (gk : g.kind = 2) (fo : okF f = true) (go : okF g = true) (fn : FrN f) (gn : FrN g) (h : ¬ (f.id = g.id ∧ f.brs = g.brs ∧ f.esi = g.esi ∧ f.data = g.data)) : Diff (bodyD f) (bodyD g) := by
  obtain ⟨fi, -⟩ := okD f fk fo
  obtain ⟨gi, -⟩ := okD g gk go
  obtain ⟨fc, fs⟩ := codeD_lt f fk fo
  obtain ⟨gc, gs⟩ := codeD_lt g gk go
  unfold bodyD
  by_cases hid : f.id = g.id
  · have hh : headD f = headD g := by unfold headD; rw [hid]
    rw [hh]
    by_cases hb : f.brs = g.brs
    · rw [hb]
      by_cases he : f.esi = g.esi
      · rw [he]
        by_cases hc : codeD f = codeD g
        · have hl : f.data.length = g.data.length := by rw [hc, gs] at fs; injection fs with fs; omega
          rw [hc]
          exact (bytesN_diff f.data g.data hl fn.data gn.data (fun hd => h ⟨hid, hb, he, hd⟩)).ahead _
        · exact Diff.behind (Diff.ahead (bitsN_diff 4 _ _ (by omega) (by omega) hc) _) _ _
      · exact Diff.behind (Diff.behind (Diff.ahead (bitsN_diff 1 _ _ (by cases f.esi <;> decide) (by cases g.esi <;> decide) (bitB_inj he)) _) _ _) _ _
    · exact Diff.behind (Diff.behind (Diff.behind (Diff.ahead (bitsN_diff 1 _ _ (by cases f.brs <;> decide) (by cases g.brs <;> decide) (bitB_inj hb)) _) _ _) _ _) _ _
  · exact (((((headD_first f g fn.id0 fi gn.id0 gi hid).diff).behind _ _).behind _ _).behind _ _).behind _ _
theorem wireD_same (f g : Fr) (fk : f.kind = 2) (gk : g.kind = 2) (h : f.id = g.id ∧ f.brs = g.brs ∧ f.esi = g.esi ∧ f.data = g.data) : wireD f = wireD g := by
  obtain ⟨h1, h2, h3, h4⟩ := h
  have hh : headD f = headD g := by unfold headD; rw [h1]
  have hc : codeD f = codeD g := by unfold codeD; rw [fk, gk, h4]
  have hb : bodyD f = bodyD g := by unfold bodyD; rw [hh, h2, h3, hc, h4]
  unfold wireD rawD raw0D
  rw [hb, h4]
theorem fdApart_plain (f g : Fr) (fk : f.kind = 2) (gk : g.kind = 2) (fo : okF f = true) (go : okF g = true) (fn : FrN f) (gn : FrN g) :
    diffB (wireD f) (wireD g) (min (wireD f).length (wireD g).length) = !sameF f g := by
  rw [sameD f g fk gk fo go]
  by_cases h : f.id = g.id ∧ f.brs = g.brs ∧ f.esi = g.esi ∧ f.data = g.data
  · rw [decide_eq_true h, wireD_same f g fk gk h, same_apart]; rfl
  · have hd : Diff (wireD f) (wireD g) := by
      unfold wireD rawD
      exact (((bodyD_diff f g fk gk fo go fn gn h).stuffed).behind _ _).behind _ _
    rw [decide_eq_false h, diff_apart hd]; rfl
end Go.Proofs.YtlmdkmflbhnlgaaGreat
-- XlHead: xl.head: an XL frame's bits up to the last one that arbitrates. No condition.
namespace Go.Proofs.YtlmdkmflbhnlgaaGreat
open Go.RowKit
set_option maxRecDepth 100000 in
set_option maxHeartbeats 1000000 in
theorem xlPut_any (w : World) (B b t : Nat) (A : Option Addr) (c n size : Nat) (l : List Nat) (h : Pot w B b t A c l) (hn : n < 18446744073709551616) (hs : size ≤ 64) (hlt : n < 2 ^ size) (hl : l.length + size ≤ 1000000) :
    Calls Tryz.prog 81 #[.pointer (some ⟨b, 0, none⟩), .int .u64 n, .int .i64 size] w fun e w' => e = .returned (.tuple #[]) ∧ (∃ A' c', Pot w' B b t A' c' (l ++ bitsN n size)) ∧ Keep B b w w' := by
  obtain ⟨i0, hi, hz0, hz1, hz2⟩ := info_parts info_u8
  have HB := Lib.hid (bitsPut_any w n size hn hs hlt)
  have HP := Lib.hid h
  clear h hlt
  go_enter Tryz.func81, Tryz.ntmps81
  go_wp2_with fail
  refine HB.out.mono ?_
  rintro e w1 ⟨⟨A2, c2, rfl, hrow⟩, hb⟩
  have HQ := Lib.hid (HP.out.below hb)
  have HRow := Lib.hid hrow
  have HB1 := Lib.hid hb
  clear hrow hb
  obtain ⟨q, hq⟩ : ∃ q, l.length = q := ⟨_, rfl⟩
  have hq2 : q + size ≤ 1000000 := by omega
  have c0 : w1.cell? ⟨b, 0, none⟩ = some (.slice A q c) := by rw [← hq]; exact HQ.out.cell
  have z0 : w1.frozen? ⟨b, 0, none⟩ = false := HQ.out.frozen
  have sb : b < w1.heap.size := heap_lt HQ.out.box
  have HL := Lib.hid hq
  clear hq hl
  go_wp2_with (at_builtin; refine wpList_pot (W0 := w) HQ.out (.of HB1.out HP.out.size) rfl (.tmp 18) (.tmp 19) 22 rfl i0 _ 1 Tryz.underlying22 hi hz0 hz1 hz2 rfl q HL.out rfl A2 size c2 (bitsN n size) rfl (bitsN_length _ _) HRow.out.rd (fun _ e => HRow.out.none_ e) (q + size) rfl (by unfold maxLen; omega) (by omega) ?_; intro w3 A3 c3 HP3 c03 z03)
  go_end0
  obtain ⟨p1, p2⟩ := HP3.out.store (n := q + size) (by rw [List.length_append, HL.out, bitsN_length])
  exact ⟨rfl, ⟨_, _, p1⟩, p2⟩
theorem xlPut_row (w : World) (B b t : Nat) (A : Option Addr) (c : Nat) (n size : Int) (N S : Nat) (l : List Nat) (eN : n = (N : Int)) (eS : size = (S : Int)) (h : Pot w B b t A c l) (hn : N < 18446744073709551616) (hs : S ≤ 64) (hlt : N < 2 ^ S) (hl : l.length + S ≤ 1000000) :
    Calls Tryz.prog 81 #[.pointer (some ⟨b, 0, none⟩), .int .u64 n, .int .i64 size] w fun e w' => e = .returned (.tuple #[]) ∧ (∃ A' c', Pot w' B b t A' c' (l ++ bitsN N S)) ∧ Keep B b w w' := by
  subst eN eS
  exact xlPut_any w B b t A c N S l h hn hs hlt hl
/-- What arbitrates: a dominant bit, the identifier, 00110. -/
def headX (f : Fr) : List Nat := bitsN 0 1 ++ bitsN f.id.toNat 11 ++ bitsN 6 5
theorem headX_length (f : Fr) : (headX f).length = 17 := by simp [headX, bitsN_length]
set_option maxRecDepth 100000 in
set_option maxHeartbeats 2000000 in
theorem headX_any (f : Fr) (A : Option Addr) (n c : Nat) (w : World) (h0 : 0 ≤ f.id) (h1 : f.id < 2048) :
    Calls Tryz.prog 58 #[frv f (.slice A n c)] w fun e w' => (∃ A' c', e = .returned (.slice A' 17 c') ∧ Row w' w.heap.size 5 A' c' (bys (headX f))) ∧ Below w.heap.size w w' := by
  have hl : headX f = bitsN 0 1 ++ bitsN f.id.toNat 11 ++ bitsN 6 5 := rfl
  have hlen := headX_length f
  generalize headX f = l at *
  obtain ⟨kind, id, ext, rtr, brs, esi, sec, sdt, vcid, af, data⟩ := f
  dsimp only [frv] at *
  obtain ⟨m, rfl⟩ := Int.eq_ofNat_of_zero_le h0
  rw [Int.toNat_natCast] at hl
  have HL := Lib.hid hl
  have HLEN := Lib.hid hlen
  clear hl h0 hlen
  go_enter Tryz.func58, Tryz.ntmps58
  go_wp2_with fail
  refine calls_blk2 (fun W0 q1 q2 hb => ?_)
  have hp : Pot W0 (w.heap.size + 1 + 1) (w.heap.size + 1) 125 none 0 [] := ⟨q2, fun _ e => (by cases e), heap_lt q2, Row.nil _ _ _⟩
  have HB := Lib.hid hb
  have HP := Lib.hid hp
  obtain ⟨a0, a1, a2, a3, a4, a5, a6, a7, a8, a9, a10⟩ := cells11 q1
  have b1 := fun e : KE (w.heap.size + 1 + 1) (w.heap.size + 1) W0 => ke_cell a1 (by show w.heap.size < _; omega) (by show w.heap.size ≠ _; omega) e
  clear hb hp q1 q2 a0 a1 a2 a3 a4 a5 a6 a7 a8 a9 a10
  refine (kec_same (xlPut_row _ _ _ _ _ _ _ _ 0 1 _ rfl rfl HP.out (by omega) (by omega) (by omega) (by simp))).mono ?_
  rintro x _ ⟨e1, rfl, rfl, A1, c1, hp1⟩
  have HP1 := Lib.hid hp1
  clear hp1
  go_wp2_with fail
  refine (kec (xlPut_row _ _ _ _ _ _ _ _ m 11 _ ?c1 rfl HP1.out (by omega) (by omega) (by omega) (by simp [bitsN_length]))).mono ?_
  case c1 => first | rfl | omega
  rintro x _ ⟨e2, rfl, rfl, A2, c2, hp2⟩
  have HP2 := Lib.hid hp2
  clear hp2
  go_wp2_with fail
  refine (kec (xlPut_row _ _ _ _ _ _ _ _ 6 5 _ rfl rfl HP2.out (by omega) (by omega) (by omega) (by simp [bitsN_length]))).mono ?_
  rintro x _ ⟨e3, rfl, rfl, A3, c3, hp3⟩
  have hrow : Pot e3.W (w.heap.size + 1 + 1) (w.heap.size + 1) 125 A3 c3 l := by rw [HL.out]; exact hp3
  have d0 : e3.W.cell? ⟨w.heap.size + 1, 0, none⟩ = some (.slice A3 17 c3) := by rw [← HLEN.out]; exact hrow.cell
  have HP3 := Lib.hid hrow
  clear hp3 hrow
  go_wp2_with fail
  go_ret
  exact ⟨⟨A3, c3, rfl, HP3.out.row.mono (by omega)⟩, HB.out.trans (e3.keep.below (by omega) (by omega))⟩
end Go.Proofs.YtlmdkmflbhnlgaaGreat
-- PXl: An XL frame's data part, by definition. No condition.
namespace Go.Proofs.YtlmdkmflbhnlgaaGreat
open Go.RowKit
def codeX (f : Fr) : Nat := ((codeF f.kind f.data.length).getD 0).toNat
/-- Ahead of the first sum: SDT, SEC, the code of the size, the tally of the head's stuff bits. -/
def part1X (f : Fr) : List Nat := bitsN f.sdt.toNat 8 ++ bitsN (bitB f.sec) 1 ++ bitsN (codeX f) 11 ++ tallyN ((stuffN (headX f)).length - 17)
def part2X (f : Fr) : List Nat := part1X f ++ bitsN (crcN 13 6631 1 (headX f ++ part1X f)) 13
def part3X (f : Fr) : List Nat := part2X f ++ bitsN f.vcid.toNat 8 ++ bitsN f.af.toNat 32 ++ bytesN f.data
def bodyX (f : Fr) : List Nat := part3X f ++ bitsN (crcN 32 4104977171 1 ([] ++ part3X f)) 32
theorem part1X_length (f : Fr) : (part1X f).length = 24 := by simp [part1X, bitsN_length, tallyN_length]
theorem part2X_length (f : Fr) : (part2X f).length = 37 := by simp [part2X, part1X_length, bitsN_length]
theorem part3X_length (f : Fr) : (part3X f).length = 77 + 8 * f.data.length := by simp [part3X, part2X_length, bitsN_length, bytesN_length]; omega
theorem bodyX_length (f : Fr) : (bodyX f).length = 109 + 8 * f.data.length := by simp [bodyX, part3X_length, bitsN_length]; omega
theorem headX_bits (f : Fr) : ∀ x ∈ headX f, x ≤ 1 := by
  intro x hx
  unfold headX at hx
  simp only [List.mem_append] at hx
  rcases hx with (h | h) | h <;> exact bitsN_bit _ _ x h
theorem part1X_bits (f : Fr) : ∀ x ∈ part1X f, x ≤ 1 := by
  intro x hx
  unfold part1X tallyN at hx
  simp only [List.mem_append] at hx
  rcases hx with ((h | h) | h) | h <;> exact bitsN_bit _ _ x h
theorem part2X_bits (f : Fr) : ∀ x ∈ part2X f, x ≤ 1 := by
  intro x hx
  unfold part2X at hx
  rcases List.mem_append.1 hx with h | h
  · exact part1X_bits f x h
  · exact bitsN_bit _ _ x h
theorem part3X_bits (f : Fr) : ∀ x ∈ part3X f, x ≤ 1 := by
  intro x hx
  unfold part3X at hx
  simp only [List.mem_append] at hx
  rcases hx with ((h | h) | h) | h
  · exact part2X_bits f x h
  · exact bitsN_bit _ _ x h
  · exact bitsN_bit _ _ x h
  · exact bytesN_bits _ x h
theorem bodyX_bits (f : Fr) : ∀ x ∈ bodyX f, x ≤ 1 := by
  intro x hx
  unfold bodyX at hx
  rcases List.mem_append.1 hx with h | h
  · exact part3X_bits f x h
  · exact bitsN_bit _ _ x h
end Go.Proofs.YtlmdkmflbhnlgaaGreat
