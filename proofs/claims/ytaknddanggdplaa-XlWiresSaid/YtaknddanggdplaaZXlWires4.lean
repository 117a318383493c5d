/- The law XlWires answers true at every input, and leaves its input as it was. No condition. (With all that it needs.) -/
import Derived.Test.YtaknddanggdplaaZXlWires3
-- Ref08: The document's answer for layer 8: an XL frame's head and data part. No condition.
namespace Go.Proofs.Ytaknddanggdplaa
open Go.RowKit
theorem ofR_4 : OfRK 4 13 6631 1 := by
  refine ⟨fun W => ?_, by decide, by decide, by decide, by decide⟩
  go_enter Try.func100, Try.ntmps100
  go_wp2
  go_ret3
  exact ⟨rfl, rfl⟩
theorem ofR_5 : OfRK 5 32 4104977171 1 := by
  refine ⟨fun W => ?_, by decide, by decide, by decide, by decide⟩
  go_enter Try.func100, Try.ntmps100
  go_wp2
  go_ret3
  exact ⟨rfl, rfl⟩
theorem xlStartR_any (w : World) : Calls Try.prog 49 #[] w fun e w' => (∃ A' c', e = .returned (.slice A' 4 c') ∧ Row w' w.heap.size 5 A' c' (bys [1, 0, 0, 1])) ∧ Below w.heap.size w w' := by
  have hr := lit_row (w := w) (l := [1, 0, 0, 1]) rfl (by decide)
  have HR := Lib.hid hr
  clear hr
  go_enter Try.func49, Try.ntmps49
  go_wp2
  go_ret
  exact ⟨⟨_, 4, rfl, HR.out⟩, below_alloc (Below.refl _ _) _⟩
theorem xlStopR_any (w : World) : Calls Try.prog 52 #[] w fun e w' => (∃ A' c', e = .returned (.slice A' 4 c') ∧ Row w' w.heap.size 5 A' c' (bys [0, 1, 1, 0])) ∧ Below w.heap.size w w' := by
  have hr := lit_row (w := w) (l := [0, 1, 1, 0]) rfl (by decide)
  have HR := Lib.hid hr
  clear hr
  go_enter Try.func52, Try.ntmps52
  go_wp2
  go_ret
  exact ⟨⟨_, 4, rfl, HR.out⟩, below_alloc (Below.refl _ _) _⟩
theorem xlWayR_any (w : World) : Calls Try.prog 51 #[] w fun e w' => e = .returned (wayV 8 false) ∧ Below w.heap.size w w' := by
  go_enter Try.func51, Try.ntmps51
  go_wp2
  exact bodyPost_ret (v := wayV 8 false) (by simp [results, Try.results51, go_sem]) rfl ⟨rfl, below_alloc (Below.refl _ _) _⟩
set_option maxRecDepth 100000 in
set_option maxHeartbeats 2000000 in
theorem HeadR8_any (f : Fr) (id : Int) (w : World) (hid : f.id = id) (h0 : 0 ≤ id) (h1 : id < 2048) :
    Calls Try.prog 48 #[.int .u32 id] w fun e w' => (∃ A' c', e = .returned (.slice A' 17 c') ∧ Row w' w.heap.size 5 A' c' (bys (headX f))) ∧ Below w.heap.size w w' := by
  obtain ⟨m, rfl⟩ := Int.eq_ofNat_of_zero_le h0
  have hl : headX f = [0] ++ bitsN m 11 ++ [0, 0, 1, 1, 0] := by unfold headX; rw [hid, Int.toNat_natCast]; rfl
  have HL := Lib.hid hl
  have hr0 := lit_row (w := w) (l := [0]) rfl (by decide)
  have HR0 := Lib.hid hr0
  clear hl hr0 hid h0
  go_enter Try.func48, Try.ntmps48
  go_wp2_with fail
  refine (extcB (e := ⟨_, below_alloc (Below.refl _ _) _⟩) (w0 := w) (BitsR_row _ 11 m 11 _ rfl rfl (by omega) (by omega) (by omega))).mono ?_
  rintro x _ ⟨e2, rfl, hb2, A2, c2, rfl, ho2⟩
  have HO2 := Lib.hid ho2
  have HR2 := Lib.hid (HR0.out.below hb2.out)
  clear ho2 hb2
  go_wp2_with (first
    | (at_builtin; refine wpList_appN (w0 := w) e2.below rfl (.tmp 4) (.tmp 7) rfl w.heap.size (some ⟨w.heap.size, 0, none⟩) 1 1 [0] rfl rfl HR2.out A2 11 c2 (bitsN m 11) rfl (bitsN_length _ _) HO2.out.part 12 rfl (by omega) (Nat.le_refl _) e2.below.size ?_; intro e3 A3 c3 HB3 HO3)
    | (at_builtin; refine wpList_appN (w0 := w) (below_alloc e3.below _) rfl (.tmp 9) (.tmp 10) rfl w.heap.size A3 12 c3 ([0] ++ bitsN m 11) rfl (by simp [bitsN_length]) (HO3.out.alloc _) (some ⟨e3.W.heap.size, 0, none⟩) 5 5 [0, 0, 1, 1, 0] rfl rfl (PartOk.lit (heap_new_at rfl) rfl) 17 rfl (by omega) (Nat.le_refl _) (below_alloc e3.below _).size ?_; intro e4 A4 c4 HB4 HO4))
  go_ret
  exact ⟨⟨A4, c4, rfl, by rw [HL.out]; exact HO4.out⟩, e4.below⟩
theorem XlBodyR_no (f : Fr) (A : Option Addr) (c : Nat) (w : World) (hno : ¬ (f.kind = 3 ∧ okF f = true)) :
    Calls Try.prog 24 #[frv f (.slice A f.data.length c)] w fun e w' => e = .returned (.tuple #[.slice none 0 0, .int .i64 2]) ∧ Below w.heap.size w w' := by
  have HC := Lib.hid (fun W => CheckR_any f A c W)
  by_cases hk : f.kind = 3
  · have hok : okF f = false := by cases h : okF f with | false => rfl | true => exact absurd ⟨hk, h⟩ hno
    rw [hok] at HC
    have he : errV false = .int .i64 2 := rfl
    rw [he] at HC
    obtain ⟨kind, id, ext, rtr, brs, esi, sec, sdt, vcid, af, data⟩ := f
    dsimp only [frv] at *
    generalize data.length = n at *
    subst hk
    clear hno hok he
    go_enter Try.func24, Try.ntmps24
    go_wp2_with fail
    refine (HC.out _).mono ?_
    rintro e w1 ⟨rfl, hb⟩
    have HB := Lib.hid hb
    clear hb
    go_wp2_with fail
    go_ret2
    exact ⟨rfl, (below_alloc (Below.refl _ _) _).trans (HB.out.mono (by simp))⟩
  · obtain ⟨kind, id, ext, rtr, brs, esi, sec, sdt, vcid, af, data⟩ := f
    dsimp only [frv] at *
    generalize data.length = n at *
    have hkb : (kind != 3) = true := by rw [bne_iff_ne]; exact hk
    clear hno hk HC
    go_enter Try.func24, Try.ntmps24
    go_wp2_with fail
    go_ret2
    exact ⟨rfl, below_alloc (Below.refl _ _) _⟩
end Go.Proofs.Ytaknddanggdplaa
-- Ref04b: The document's answer for layer 4: the tally, and how long stuffed bits get. No condition.
namespace Go.Proofs.Ytaknddanggdplaa
open Go.RowKit
theorem heap_alloc {w : World} {g : Nat} {o : Obj} (h : w.heap[g]? = some o) (o2 : Obj) : (w.alloc o2).heap[g]? = some o := heap_below (below_alloc (Below.refl _ w) o2) h
set_option maxRecDepth 100000 in
set_option maxHeartbeats 4000000 in
theorem TallyR_any (n : Nat) (w : World) (hn : n ≤ 1000000) :
    Calls Try.prog 60 #[.int .i64 n] w fun e w' => (∃ A' c', e = .returned (.tuple #[.slice A' 4 c', .int .i64 0]) ∧ PartOk w' (A', c', tallyN n)) ∧ Below w.heap.size w w' := by
  have h0 : ¬ (n : Int) < 0 := by omega
  have hm : n % 8 = 0 ∨ n % 8 = 1 ∨ n % 8 = 2 ∨ n % 8 = 3 ∨ n % 8 = 4 ∨ n % 8 = 5 ∨ n % 8 = 6 ∨ n % 8 = 7 := by omega
  have ht : tallyN n = bitsN ([0, 3, 6, 5, 12, 15, 10, 9].getD (n % 8) 0) 4 := rfl
  generalize tallyN n = tl at ht ⊢
  rcases hm with hm | hm | hm | hm | hm | hm | hm | hm
  all_goals
    rw [hm] at ht
    have HT := Lib.hid ht
    clear ht
  · have e1 : (n : Int) % 8 = 0 := by omega
    have e2 : (n : Int).tmod 8 = 0 := by rw [Int.tmod_eq_emod_of_nonneg (by omega)]; omega
    have ht2 : tl = [0, 0, 0, 0] := by rw [HT.out]; rfl
    have ix : ∀ W : World, (Instr.index 110 (.agg #[.slice (some ⟨w.heap.size, 0, none⟩) 4 4, .slice (some ⟨w.heap.size + 1, 0, none⟩) 4 4, .slice (some ⟨w.heap.size + 1 + 1, 0, none⟩) 4 4, .slice (some ⟨w.heap.size + 1 + 1 + 1, 0, none⟩) 4 4, .slice (some ⟨w.heap.size + 1 + 1 + 1 + 1, 0, none⟩) 4 4, .slice (some ⟨w.heap.size + 1 + 1 + 1 + 1 + 1, 0, none⟩) 4 4, .slice (some ⟨w.heap.size + 1 + 1 + 1 + 1 + 1 + 1, 0, none⟩) 4 4, .slice (some ⟨w.heap.size + 1 + 1 + 1 + 1 + 1 + 1 + 1, 0, none⟩) 4 4]) (.int .i64 0)).run Try.prog W = .ok (.slice (some ⟨w.heap.size, 0, none⟩) 4 4) W := fun _ => by kernel_rfl
    clear hm HT
    go_enter Try.func60, Try.ntmps60
    go_wp2_with fail
    go_ret2
    subst ht2
    exact ⟨⟨_, _, rfl, PartOk.lit (cs := #[.int .u8 0, .int .u8 0, .int .u8 0, .int .u8 0]) (t := 5) (heap_alloc (heap_alloc (heap_alloc (heap_alloc (heap_alloc (heap_alloc (heap_alloc (heap_new_at (by simp)) _) _) _) _) _) _) _) rfl⟩, below_alloc (below_alloc (below_alloc (below_alloc (below_alloc (below_alloc (below_alloc (below_alloc (Below.refl _ _) _) _) _) _) _) _) _) _⟩
  · have e1 : (n : Int) % 8 = 1 := by omega
    have e2 : (n : Int).tmod 8 = 1 := by rw [Int.tmod_eq_emod_of_nonneg (by omega)]; omega
    have ht2 : tl = [0, 0, 1, 1] := by rw [HT.out]; rfl
    have ix : ∀ W : World, (Instr.index 110 (.agg #[.slice (some ⟨w.heap.size, 0, none⟩) 4 4, .slice (some ⟨w.heap.size + 1, 0, none⟩) 4 4, .slice (some ⟨w.heap.size + 1 + 1, 0, none⟩) 4 4, .slice (some ⟨w.heap.size + 1 + 1 + 1, 0, none⟩) 4 4, .slice (some ⟨w.heap.size + 1 + 1 + 1 + 1, 0, none⟩) 4 4, .slice (some ⟨w.heap.size + 1 + 1 + 1 + 1 + 1, 0, none⟩) 4 4, .slice (some ⟨w.heap.size + 1 + 1 + 1 + 1 + 1 + 1, 0, none⟩) 4 4, .slice (some ⟨w.heap.size + 1 + 1 + 1 + 1 + 1 + 1 + 1, 0, none⟩) 4 4]) (.int .i64 1)).run Try.prog W = .ok (.slice (some ⟨w.heap.size + 1, 0, none⟩) 4 4) W := fun _ => by kernel_rfl
    clear hm HT
    go_enter Try.func60, Try.ntmps60
    go_wp2_with fail
    go_ret2
    subst ht2
    exact ⟨⟨_, _, rfl, PartOk.lit (cs := #[.int .u8 0, .int .u8 0, .int .u8 1, .int .u8 1]) (t := 5) (heap_alloc (heap_alloc (heap_alloc (heap_alloc (heap_alloc (heap_alloc (heap_new_at (by simp)) _) _) _) _) _) _) rfl⟩, below_alloc (below_alloc (below_alloc (below_alloc (below_alloc (below_alloc (below_alloc (below_alloc (Below.refl _ _) _) _) _) _) _) _) _) _⟩
  · have e1 : (n : Int) % 8 = 2 := by omega
    have e2 : (n : Int).tmod 8 = 2 := by rw [Int.tmod_eq_emod_of_nonneg (by omega)]; omega
    have ht2 : tl = [0, 1, 1, 0] := by rw [HT.out]; rfl
    have ix : ∀ W : World, (Instr.index 110 (.agg #[.slice (some ⟨w.heap.size, 0, none⟩) 4 4, .slice (some ⟨w.heap.size + 1, 0, none⟩) 4 4, .slice (some ⟨w.heap.size + 1 + 1, 0, none⟩) 4 4, .slice (some ⟨w.heap.size + 1 + 1 + 1, 0, none⟩) 4 4, .slice (some ⟨w.heap.size + 1 + 1 + 1 + 1, 0, none⟩) 4 4, .slice (some ⟨w.heap.size + 1 + 1 + 1 + 1 + 1, 0, none⟩) 4 4, .slice (some ⟨w.heap.size + 1 + 1 + 1 + 1 + 1 + 1, 0, none⟩) 4 4, .slice (some ⟨w.heap.size + 1 + 1 + 1 + 1 + 1 + 1 + 1, 0, none⟩) 4 4]) (.int .i64 2)).run Try.prog W = .ok (.slice (some ⟨w.heap.size + 1 + 1, 0, none⟩) 4 4) W := fun _ => by kernel_rfl
    clear hm HT
    go_enter Try.func60, Try.ntmps60
    go_wp2_with fail
    go_ret2
    subst ht2
    exact ⟨⟨_, _, rfl, PartOk.lit (cs := #[.int .u8 0, .int .u8 1, .int .u8 1, .int .u8 0]) (t := 5) (heap_alloc (heap_alloc (heap_alloc (heap_alloc (heap_alloc (heap_new_at (by simp)) _) _) _) _) _) rfl⟩, below_alloc (below_alloc (below_alloc (below_alloc (below_alloc (below_alloc (below_alloc (below_alloc (Below.refl _ _) _) _) _) _) _) _) _) _⟩
  · have e1 : (n : Int) % 8 = 3 := by omega
    have e2 : (n : Int).tmod 8 = 3 := by rw [Int.tmod_eq_emod_of_nonneg (by omega)]; omega
    have ht2 : tl = [0, 1, 0, 1] := by rw [HT.out]; rfl
    have ix : ∀ W : World, (Instr.index 110 (.agg #[.slice (some ⟨w.heap.size, 0, none⟩) 4 4, .slice (some ⟨w.heap.size + 1, 0, none⟩) 4 4, .slice (some ⟨w.heap.size + 1 + 1, 0, none⟩) 4 4, .slice (some ⟨w.heap.size + 1 + 1 + 1, 0, none⟩) 4 4, .slice (some ⟨w.heap.size + 1 + 1 + 1 + 1, 0, none⟩) 4 4, .slice (some ⟨w.heap.size + 1 + 1 + 1 + 1 + 1, 0, none⟩) 4 4, .slice (some ⟨w.heap.size + 1 + 1 + 1 + 1 + 1 + 1, 0, none⟩) 4 4, .slice (some ⟨w.heap.size + 1 + 1 + 1 + 1 + 1 + 1 + 1, 0, none⟩) 4 4]) (.int .i64 3)).run Try.prog W = .ok (.slice (some ⟨w.heap.size + 1 + 1 + 1, 0, none⟩) 4 4) W := fun _ => by kernel_rfl
    clear hm HT
    go_enter Try.func60, Try.ntmps60
    go_wp2_with fail
    go_ret2
    subst ht2
    exact ⟨⟨_, _, rfl, PartOk.lit (cs := #[.int .u8 0, .int .u8 1, .int .u8 0, .int .u8 1]) (t := 5) (heap_alloc (heap_alloc (heap_alloc (heap_alloc (heap_new_at (by simp)) _) _) _) _) rfl⟩, below_alloc (below_alloc (below_alloc (below_alloc (below_alloc (below_alloc (below_alloc (below_alloc (Below.refl _ _) _) _) _) _) _) _) _) _⟩
  · have e1 : (n : Int) % 8 = 4 := by omega
    have e2 : (n : Int).tmod 8 = 4 := by rw [Int.tmod_eq_emod_of_nonneg (by omega)]; omega
    have ht2 : tl = [1, 1, 0, 0] := by rw [HT.out]; rfl
    have ix : ∀ W : World, (Instr.index 110 (.agg #[.slice (some ⟨w.heap.size, 0, none⟩) 4 4, .slice (some ⟨w.heap.size + 1, 0, none⟩) 4 4, .slice (some ⟨w.heap.size + 1 + 1, 0, none⟩) 4 4, .slice (some ⟨w.heap.size + 1 + 1 + 1, 0, none⟩) 4 4, .slice (some ⟨w.heap.size + 1 + 1 + 1 + 1, 0, none⟩) 4 4, .slice (some ⟨w.heap.size + 1 + 1 + 1 + 1 + 1, 0, none⟩) 4 4, .slice (some ⟨w.heap.size + 1 + 1 + 1 + 1 + 1 + 1, 0, none⟩) 4 4, .slice (some ⟨w.heap.size + 1 + 1 + 1 + 1 + 1 + 1 + 1, 0, none⟩) 4 4]) (.int .i64 4)).run Try.prog W = .ok (.slice (some ⟨w.heap.size + 1 + 1 + 1 + 1, 0, none⟩) 4 4) W := fun _ => by kernel_rfl
    clear hm HT
    go_enter Try.func60, Try.ntmps60
    go_wp2_with fail
    go_ret2
    subst ht2
    exact ⟨⟨_, _, rfl, PartOk.lit (cs := #[.int .u8 1, .int .u8 1, .int .u8 0, .int .u8 0]) (t := 5) (heap_alloc (heap_alloc (heap_alloc (heap_new_at (by simp)) _) _) _) rfl⟩, below_alloc (below_alloc (below_alloc (below_alloc (below_alloc (below_alloc (below_alloc (below_alloc (Below.refl _ _) _) _) _) _) _) _) _) _⟩
  · have e1 : (n : Int) % 8 = 5 := by omega
    have e2 : (n : Int).tmod 8 = 5 := by rw [Int.tmod_eq_emod_of_nonneg (by omega)]; omega
    have ht2 : tl = [1, 1, 1, 1] := by rw [HT.out]; rfl
    have ix : ∀ W : World, (Instr.index 110 (.agg #[.slice (some ⟨w.heap.size, 0, none⟩) 4 4, .slice (some ⟨w.heap.size + 1, 0, none⟩) 4 4, .slice (some ⟨w.heap.size + 1 + 1, 0, none⟩) 4 4, .slice (some ⟨w.heap.size + 1 + 1 + 1, 0, none⟩) 4 4, .slice (some ⟨w.heap.size + 1 + 1 + 1 + 1, 0, none⟩) 4 4, .slice (some ⟨w.heap.size + 1 + 1 + 1 + 1 + 1, 0, none⟩) 4 4, .slice (some ⟨w.heap.size + 1 + 1 + 1 + 1 + 1 + 1, 0, none⟩) 4 4, .slice (some ⟨w.heap.size + 1 + 1 + 1 + 1 + 1 + 1 + 1, 0, none⟩) 4 4]) (.int .i64 5)).run Try.prog W = .ok (.slice (some ⟨w.heap.size + 1 + 1 + 1 + 1 + 1, 0, none⟩) 4 4) W := fun _ => by kernel_rfl
    clear hm HT
    go_enter Try.func60, Try.ntmps60
    go_wp2_with fail
    go_ret2
    subst ht2
    exact ⟨⟨_, _, rfl, PartOk.lit (cs := #[.int .u8 1, .int .u8 1, .int .u8 1, .int .u8 1]) (t := 5) (heap_alloc (heap_alloc (heap_new_at (by simp)) _) _) rfl⟩, below_alloc (below_alloc (below_alloc (below_alloc (below_alloc (below_alloc (below_alloc (below_alloc (Below.refl _ _) _) _) _) _) _) _) _) _⟩
  · have e1 : (n : Int) % 8 = 6 := by omega
    have e2 : (n : Int).tmod 8 = 6 := by rw [Int.tmod_eq_emod_of_nonneg (by omega)]; omega
    have ht2 : tl = [1, 0, 1, 0] := by rw [HT.out]; rfl
    have ix : ∀ W : World, (Instr.index 110 (.agg #[.slice (some ⟨w.heap.size, 0, none⟩) 4 4, .slice (some ⟨w.heap.size + 1, 0, none⟩) 4 4, .slice (some ⟨w.heap.size + 1 + 1, 0, none⟩) 4 4, .slice (some ⟨w.heap.size + 1 + 1 + 1, 0, none⟩) 4 4, .slice (some ⟨w.heap.size + 1 + 1 + 1 + 1, 0, none⟩) 4 4, .slice (some ⟨w.heap.size + 1 + 1 + 1 + 1 + 1, 0, none⟩) 4 4, .slice (some ⟨w.heap.size + 1 + 1 + 1 + 1 + 1 + 1, 0, none⟩) 4 4, .slice (some ⟨w.heap.size + 1 + 1 + 1 + 1 + 1 + 1 + 1, 0, none⟩) 4 4]) (.int .i64 6)).run Try.prog W = .ok (.slice (some ⟨w.heap.size + 1 + 1 + 1 + 1 + 1 + 1, 0, none⟩) 4 4) W := fun _ => by kernel_rfl
    clear hm HT
    go_enter Try.func60, Try.ntmps60
    go_wp2_with fail
    go_ret2
    subst ht2
    exact ⟨⟨_, _, rfl, PartOk.lit (cs := #[.int .u8 1, .int .u8 0, .int .u8 1, .int .u8 0]) (t := 5) (heap_alloc (heap_new_at (by simp)) _) rfl⟩, below_alloc (below_alloc (below_alloc (below_alloc (below_alloc (below_alloc (below_alloc (below_alloc (Below.refl _ _) _) _) _) _) _) _) _) _⟩
  · have e1 : (n : Int) % 8 = 7 := by omega
    have e2 : (n : Int).tmod 8 = 7 := by rw [Int.tmod_eq_emod_of_nonneg (by omega)]; omega
    have ht2 : tl = [1, 0, 0, 1] := by rw [HT.out]; rfl
    have ix : ∀ W : World, (Instr.index 110 (.agg #[.slice (some ⟨w.heap.size, 0, none⟩) 4 4, .slice (some ⟨w.heap.size + 1, 0, none⟩) 4 4, .slice (some ⟨w.heap.size + 1 + 1, 0, none⟩) 4 4, .slice (some ⟨w.heap.size + 1 + 1 + 1, 0, none⟩) 4 4, .slice (some ⟨w.heap.size + 1 + 1 + 1 + 1, 0, none⟩) 4 4, .slice (some ⟨w.heap.size + 1 + 1 + 1 + 1 + 1, 0, none⟩) 4 4, .slice (some ⟨w.heap.size + 1 + 1 + 1 + 1 + 1 + 1, 0, none⟩) 4 4, .slice (some ⟨w.heap.size + 1 + 1 + 1 + 1 + 1 + 1 + 1, 0, none⟩) 4 4]) (.int .i64 7)).run Try.prog W = .ok (.slice (some ⟨w.heap.size + 1 + 1 + 1 + 1 + 1 + 1 + 1, 0, none⟩) 4 4) W := fun _ => by kernel_rfl
    clear hm HT
    go_enter Try.func60, Try.ntmps60
    go_wp2_with fail
    go_ret2
    subst ht2
    exact ⟨⟨_, _, rfl, PartOk.lit (cs := #[.int .u8 1, .int .u8 0, .int .u8 0, .int .u8 1]) (t := 5) (heap_new_at (by simp)) rfl⟩, below_alloc (below_alloc (below_alloc (below_alloc (below_alloc (below_alloc (below_alloc (below_alloc (Below.refl _ _) _) _) _) _) _) _) _) _⟩
end Go.Proofs.Ytaknddanggdplaa
-- Ref08b: The document's answer for layer 8: an XL frame's data part. No condition.
namespace Go.Proofs.Ytaknddanggdplaa
open Go.RowKit
theorem rd_drop {w : World} {g : Nat} {l : List Nat} (k : Nat) (h : Rd w (some ⟨g, 0, none⟩) (bys l)) : Rd w (some ⟨g, k, none⟩) (bys (l.drop k)) := by
  intro j u hj
  refine ⟨_, rfl, ?_⟩
  have h1 : (bys l)[k + j]? = some u := by rw [← hj]; simp [bys, List.getElem?_drop]
  obtain ⟨ad, e, hc⟩ := h (k + j) u h1
  injection e with e
  subst e
  rw [← hc]
  unfold Addr.add
  by_cases h0 : j = 0 <;> by_cases h2 : k = 0 <;> simp [h0, h2]
theorem TallyR_row (x : Int) (n : Nat) (w : World) (ex : x = (n : Int)) (hn : n ≤ 1000000) :
    Calls Try.prog 60 #[.int .i64 x] w fun e w' => (∃ A' c', e = .returned (.tuple #[.slice A' 4 c', .int .i64 0]) ∧ PartOk w' (A', c', tallyN n)) ∧ Below w.heap.size w w' := by subst ex; exact TallyR_any n w hn
set_option maxRecDepth 100000 in
set_option maxHeartbeats 4000000 in
theorem XlBodyR_ok (f : Fr) (A : Option Addr) (c : Nat) (w : World) (hk : f.kind = 3) (hok : okF f = true) (h0 : 0 ≤ f.id) (hs : 0 ≤ f.sdt ∧ f.sdt < 256) (hv : 0 ≤ f.vcid ∧ f.vcid < 256) (ha : 0 ≤ f.af ∧ f.af < 4294967296) (hr : Rd w A (bys f.data)) (hby : isBytes f.data) :
    Calls Try.prog 24 #[frv f (.slice A f.data.length c)] w fun e w' => (∃ A' c', e = .returned (.tuple #[.slice A' (109 + 8 * f.data.length : Nat) c', .int .i64 0]) ∧ Row w' w.heap.size 5 A' c' (bys (bodyX f))) ∧ Below w.heap.size w w' := by
  obtain ⟨hid, hn1, hn2, hcode⟩ := okX f hk hok
  have HC := Lib.hid (fun W => CheckR_any f A c W)
  rw [hok] at HC
  have he : errV true = .int .i64 0 := rfl
  rw [he] at HC
  have HH := Lib.hid (fun W => HeadR8_any f f.id W rfl h0 hid)
  obtain ⟨NR, hNR⟩ : ∃ NR, (stuffN (headX f)).length = NR := ⟨_, rfl⟩
  have hNR2 : 17 ≤ NR ∧ NR ≤ 22 := by
    have a := stuffN_ge (headX f); have b := stuffN_le (headX f); rw [headX_length] at a b; omega
  have HST := Lib.hid (fun (W : World) (A2 : Option Addr) (c2 : Nat) (hW : Rd W A2 (bys (headX f))) => StuffedR_any W A2 c2 17 NR (headX f) hW (headX_length f) (by omega) (headX_bits f) hNR)
  have hp1 : part1X f = bitsN f.sdt.toNat 8 ++ [bitB f.sec] ++ bitsN (f.data.length - 1) 11 ++ tallyN (NR - 17) := by
    unfold part1X codeX; rw [hcode, hNR]
    have h1 : ((some ((f.data.length : Int) - 1)).getD 0).toNat = f.data.length - 1 := by simp
    have h2 : bitsN (bitB f.sec) 1 = [bitB f.sec] := by cases f.sec <;> rfl
    rw [h1, h2]
  have HP1 := Lib.hid hp1
  have HR := Lib.hid hr
  have HBY := Lib.hid hby
  obtain ⟨sdtN, hsdt⟩ := Int.eq_ofNat_of_zero_le hs.1
  obtain ⟨vcN, hvc⟩ := Int.eq_ofNat_of_zero_le hv.1
  obtain ⟨afN, haf⟩ := Int.eq_ofNat_of_zero_le ha.1
  have hs2 : sdtN < 256 := by omega
  have hv2 : vcN < 256 := by omega
  have ha2 : afN < 4294967296 := by omega
  have hb1 := part1X_bits f
  have hb3 := part3X_bits f
  have hbh := headX_bits f
  have hlh := headX_length f
  have hq1 := part1X_length f
  have hq2 := part2X_length f
  have hq3 := part3X_length f
  have hd2 : part2X f = part1X f ++ bitsN (crcN 13 6631 1 (headX f ++ part1X f)) 13 := rfl
  have hd3 : part3X f = part2X f ++ bitsN f.vcid.toNat 8 ++ bitsN f.af.toNat 32 ++ bytesN f.data := rfl
  have hd4 : bodyX f = addN 32 4104977171 1 (part3X f) := rfl
  obtain ⟨hX, hhX⟩ : ∃ hX, headX f = hX := ⟨_, rfl⟩
  obtain ⟨P1, hP1⟩ : ∃ P1, part1X f = P1 := ⟨_, rfl⟩
  obtain ⟨P2, hP2⟩ : ∃ P2, part2X f = P2 := ⟨_, rfl⟩
  obtain ⟨P3, hP3⟩ : ∃ P3, part3X f = P3 := ⟨_, rfl⟩
  obtain ⟨BX, hBX⟩ : ∃ BX, bodyX f = BX := ⟨_, rfl⟩
  rw [hP1] at HP1 hb1 hd2 hq1
  rw [hP2] at hd2 hd3 hq2
  rw [hP3] at hd3 hd4 hb3 hq3
  rw [hBX] at hd4 ⊢
  rw [hhX] at HH HST hbh hlh hd2
  have HBIT1 := Lib.hid hb1
  have HBIT3 := Lib.hid hb3
  have HBITH := Lib.hid hbh
  have HLH := Lib.hid hlh
  have HQ1 := Lib.hid hq1
  have HQ2 := Lib.hid hq2
  have HQ3' := Lib.hid hq3
  have HD2 := Lib.hid hd2
  have HD3 := Lib.hid hd3
  have HD4 := Lib.hid hd4
  clear hb1 hb3 hbh hlh hq1 hq2 hq3 hd2 hd3 hd4 hP1 hP2 hP3 hBX hhX
  obtain ⟨kind, id, ext, rtr, brs, esi, sec, sdt, vcid, af, data⟩ := f
  dsimp only [frv] at *
  subst hk hsdt hvc haf
  obtain ⟨n, hn⟩ : ∃ n, data.length = n := ⟨_, rfl⟩
  have HN := Lib.hid hn
  rw [hn] at HC HP1 ⊢
  rw [hn] at hn1 hn2
  simp only [Int.toNat_natCast] at HP1 HD3
  clear hr hby hs hv ha hok he h0 hid hNR hcode hp1 hn
  have hn1i : (1 : Int) ≤ (n : Int) := by omega
  go_enter Try.func24, Try.ntmps24
  go_wp2_with fail
  refine calls_blk1 (fun W0 q1 hb => ?_)
  have HB := Lib.hid hb
  obtain ⟨a0, a1, a2, a3, a4, a5, a6, a7, a8, a9, a10⟩ := ext11 q1
  have hsz := ext_lt q1
  clear hb q1
  refine (extc_same (HC.out _)).mono ?_
  rintro x _ ⟨e1, rfl, rfl⟩
  go_wp2_with fail
  refine (extcB (HH.out e1.W)).mono ?_
  rintro x _ ⟨e2, rfl, -, A2, c2, rfl, hrow2⟩
  have HROW2 := Lib.hid hrow2
  clear hrow2
  go_wp2_with fail
  refine (extcB (HST.out e2.W A2 c2 HROW2.out.rd)).mono ?_
  rintro x _ ⟨e3, rfl, HB3, A3, c3, rfl, -⟩
  have HROW23 := Lib.hid (HROW2.out.below HB3.out)
  go_wp2_with fail
  refine (TallyR_row _ (NR - 17) e3.W ?c1 (by omega)).mono ?_
  case c1 => omega
  rintro x W5 ⟨⟨A5, c5, rfl, hp5⟩, hb5⟩
  have hb05 : Below W0.heap.size W0 W5 := below_trans e3.below hb5
  replace a6 := liftE hb05 a6
  replace a7 := liftE hb05 a7
  replace a8 := liftE hb05 a8
  replace a9 := liftE hb05 a9
  replace a10 := liftE hb05 a10
  have hp2 := (HROW23.out.below hb5).part
  have HP2 := Lib.hid (fun e : Ext W5 => hp2.below e.below)
  have HP5 := Lib.hid (fun e : Ext W5 => hp5.below e.below)
  have HRD := Lib.hid (fun e : Ext W5 => ((HR.out.below HB.out).below hb05).ext e)
  have HB05 := Lib.hid (below_trans HB.out hb05)
  have hsw : w.heap.size ≤ W5.heap.size := HB05.out.size
  clear a0 a1 a2 a3 a4 a5 hsz HC HH HST hp2 hp5 hb5 hb05 HROW23
  go_wp2_with fail
  refine wp_region_mix (fun w' => ∃ e : Ext W5, w' = e.W) [(true, 0), (true, 1), (true, 2), (true, 4), (true, 5), (false, 3), (false, 6), (false, 7)] [8, 9] (by kernel_rfl) (by kernel_rfl) (by intro _ _ d _ _ h; cases d <;> exact h) ⟨⟨W5.drew, (Below.refl _ _).drew⟩, rfl⟩ ?_
  simp only [pickM, pickL, List.drop_succ_cons, List.drop_zero]
  repeat (refine mix_pure (by rfl) (by rfl) ?_; intro K hK; go_big_quiet_op; go_big_quiet_on)
  refine mix_eff (by rfl) ?_
  intro K hK
  go_simp
  refine (BitsR_row _ 8 sdtN 8 W5.drew ?c6 rfl (by decide) (by decide) (by omega)).mono ?_
  case c6 => first | rfl | omega
  rintro x w6 ⟨⟨A6, c6, rfl, hrow6⟩, hb6⟩
  have hb56 : Below W5.heap.size W5 w6 := below_trans (Below.refl _ _).drew hb6
  refine hK _ _ ⟨⟨w6, hb56⟩, rfl⟩ ?_
  clear hK K
  have HROW6 : Hid (Row w6 W5.heap.size 5 A6 c6 (bys (bitsN sdtN 8))) := hrow6
  have HB56 := Lib.hid hb56
  clear hrow6 hb6 hb56
  refine mix_eff (by rfl) ?_
  intro K hK
  go_simp
  refine (BitR_any sec _).mono ?_
  rintro x _ ⟨rfl, rfl⟩
  refine hK _ _ ⟨⟨w6, HB56.out⟩, rfl⟩ ?_
  clear hK K
  refine mix_eff (by rfl) ?_
  intro K hK
  go_simp
  refine hK _ _ ⟨⟨_, below_alloc HB56.out _⟩, rfl⟩ ?_
  clear hK K
  refine mix_nil ?_
  go_wp2_with (at_builtin; refine wpList_appN (w0 := W5) (below_alloc HB56.out _) rfl (.tmp 34) (.tmp 38) rfl W5.heap.size A6 8 c6 (bitsN sdtN 8) rfl (bitsN_length _ _) (HROW6.out.alloc _) (some ⟨w6.heap.size, 0, none⟩) 1 1 [bitB sec] rfl rfl (PartOk.lit (heap_new_at rfl) rfl) 9 rfl (by omega) (Nat.le_refl _) (below_alloc HB56.out _).size ?_; intro e7 A7 c7 HB7 HO7)
  refine (extcB (BitsR_row _ 11 (n - 1) 11 e7.W ?c8 rfl (by decide) (by decide) (by omega))).mono ?_
  case c8 => first | rfl | omega
  rintro x _ ⟨e8, rfl, HB8, A8, c8, rfl, hrow8⟩
  have HP8 := Lib.hid hrow8.part
  have HO78 := Lib.hid (HO7.out.below HB8.out)
  clear hrow8
  obtain ⟨t4, ht4⟩ : ∃ t4, tallyN (NR - 17) = t4 := ⟨_, rfl⟩
  have hl4 : t4.length = 4 := by rw [← ht4]; exact tallyN_length _
  rw [ht4] at HP5 HP1
  have HL4 := Lib.hid hl4
  clear hl4 ht4
  go_wp2_with (first
    | (at_builtin; refine wpList_appN (w0 := W5) e8.below rfl (.tmp 40) (.tmp 46) rfl W5.heap.size A7 9 c7 (bitsN sdtN 8 ++ [bitB sec]) rfl (by simp [bitsN_length]) HO78.out A8 11 c8 (bitsN (n - 1) 11) rfl (bitsN_length _ _) HP8.out 20 rfl (by omega) (Nat.le_refl _) e8.below.size ?_; intro e9 A9 c9 HB9 HO9)
    | (at_builtin; refine wpList_appN (w0 := W5) e9.below rfl (.tmp 48) (.tmp 49) rfl W5.heap.size A9 20 c9 (bitsN sdtN 8 ++ [bitB sec] ++ bitsN (n - 1) 11) rfl (by simp [bitsN_length]) HO9.out A5 4 c5 t4 rfl HL4.out (HP5.out e9) 24 rfl (by omega) (Nat.le_refl _) e9.below.size ?_; intro e10 A10 c10 HB10 HO10; rw [← HP1.out] at HO10)
    | (at_builtin; refine wpList_appN (w0 := W5) (below_alloc e10.below _) rfl (.tmp 52) (.tmp 53) rfl e10.W.heap.size (some ⟨e10.W.heap.size, 0, none⟩) 0 0 [] rfl rfl (Row.lit0 e10.W) A2 17 c2 hX rfl HLH.out (HP2.out ⟨_, below_alloc e10.below _⟩) 17 rfl (by omega) e10.below.size (by simp) ?_; intro e11 A11 c11 HB11 HO11)
    | (at_builtin; refine wpList_appN (w0 := W5) e11.below rfl (.tmp 54) (.tmp 55) rfl e10.W.heap.size A11 17 c11 hX rfl HLH.out HO11.out A10 24 c10 P1 rfl HQ1.out (HO10.out.below ((below_alloc (Below.refl _ _) _).trans HB11.out)).part 41 rfl (by omega) e10.below.size (Nat.le_trans (by simp) HB11.out.size) ?_; intro e12 A12 c12 HB12 HO12))
  refine (extcB (AddR_any ofR_4 41 c12 A12 (hX ++ P1) e12.W HO12.out.rd (by rw [List.length_append, HLH.out, HQ1.out]) (by decide) (fun e => HO12.out.none_ e) (fun x hx => by rcases List.mem_append.1 hx with h | h; exact HBITH.out x h; exact HBIT1.out x h))).mono ?_
  rintro x _ ⟨e13, rfl, HB13, A13, c13, rfl, hrow13⟩
  have h13 : addN 13 6631 1 (hX ++ P1) = hX ++ P2 := by rw [HD2.out]; show (hX ++ P1) ++ bitsN _ 13 = _; rw [List.append_assoc]
  rw [h13] at hrow13
  obtain ⟨g13, rfl, hg13, hc13, hcq⟩ := row_some (n := 54) hrow13 (by rw [List.length_append, HLH.out, HQ2.out]) (by decide)
  have hdr := rd_drop 17 hrow13.rd
  rw [List.drop_left' HLH.out] at hdr
  have z1 : (54 : Int) ≤ (c13 : Int) := by omega
  have z2 : ¬ c13 = 17 := by omega
  have z3 : (17 : Int) ≤ (c13 : Int) := by omega
  have HT := Lib.hid hdr
  clear hrow13 h13 hdr hcq hg13
  go_wp2_with (at_builtin; refine wpList_appN (w0 := W5) (below_alloc e13.below _) rfl (.tmp 60) (.tmp 64) rfl e13.W.heap.size (some ⟨e13.W.heap.size, 0, none⟩) 0 0 [] rfl rfl (Row.lit0 e13.W) (some ⟨g13, 17, none⟩) 37 _ P2 rfl HQ2.out ⟨HT.out.alloc _, fun _ h => (by cases h)⟩ 37 rfl (by omega) e13.below.size (by simp) ?_; intro e14 A14 c14 HB14 HO14)
  refine (extcB (BitsR_row _ 8 vcN 8 e14.W ?c15 rfl (by decide) (by decide) (by omega))).mono ?_
  case c15 => first | rfl | omega
  rintro x _ ⟨e15, rfl, HB15, A15, c15, rfl, hrow15⟩
  have HP15 := Lib.hid hrow15.part
  have HO145 : Hid (Row e15.W e13.W.heap.size 5 A14 c14 (bys P2)) := HO14.out.below HB15.out
  clear hrow15
  go_wp2_with (at_builtin; refine wpList_appN (w0 := W5) e15.below rfl (.tmp 66) (.tmp 70) rfl e13.W.heap.size A14 37 c14 P2 rfl HQ2.out HO145.out A15 8 c15 (bitsN vcN 8) rfl (bitsN_length _ _) HP15.out 45 rfl (by omega) e13.below.size (Nat.le_trans (Nat.le_trans (by simp) HB14.out.size) HB15.out.size) ?_; intro e16 A16 c16 HB16 HO16)
  refine (extcB (BitsR_row _ 32 afN 32 e16.W ?c17 rfl (by decide) (by decide) (by omega))).mono ?_
  case c17 => first | rfl | omega
  rintro x _ ⟨e17, rfl, HB17, A17, c17, rfl, hrow17⟩
  have HP17 := Lib.hid hrow17.part
  have HO167 : Hid (Row e17.W e13.W.heap.size 5 A16 c16 (bys (P2 ++ bitsN vcN 8))) := HO16.out.below HB17.out
  have hsz17 : e13.W.heap.size ≤ e17.W.heap.size := Nat.le_trans (Nat.le_trans (Nat.le_trans (Nat.le_trans (by simp) HB14.out.size) HB15.out.size) HB16.out.size) HB17.out.size
  clear hrow17
  go_wp2_with (at_builtin; refine wpList_appN (w0 := W5) e17.below rfl (.tmp 72) (.tmp 76) rfl e13.W.heap.size A16 45 c16 (P2 ++ bitsN vcN 8) rfl (by rw [List.length_append, HQ2.out, bitsN_length]) HO167.out A17 32 c17 (bitsN afN 32) rfl (bitsN_length _ _) HP17.out 77 rfl (by omega) e13.below.size hsz17 ?_; intro e18 A18 c18 HB18 HO18)
  refine (extcB (BytesR_any e18.W A c n data (HRD.out e18) HN.out (by omega) HBY.out)).mono ?_
  rintro x _ ⟨e19, rfl, HB19, A19, c19, rfl, hrow19⟩
  have HP19 := Lib.hid hrow19.part
  have HO189 : Hid (Row e19.W e13.W.heap.size 5 A18 c18 (bys (P2 ++ bitsN vcN 8 ++ bitsN afN 32))) := HO18.out.below HB19.out
  have hsz19 : e13.W.heap.size ≤ e19.W.heap.size := Nat.le_trans (Nat.le_trans hsz17 HB18.out.size) HB19.out.size
  clear hrow19
  go_wp2_with (at_builtin; refine wpList_appN (w0 := W5) e19.below rfl (.tmp 78) (.tmp 81) rfl e13.W.heap.size A18 77 c18 (P2 ++ bitsN vcN 8 ++ bitsN afN 32) rfl (by simp [bitsN_length, HQ2.out]) HO189.out A19 (8 * n) c19 (bytesN data) rfl (by rw [bytesN_length, HN.out]) HP19.out (77 + 8 * n) rfl (by omega) e13.below.size hsz19 ?_; intro e20 A20 c20 HB20 HO20; rw [← HD3.out] at HO20)
  refine (extcB (AddR_any ofR_5 (77 + 8 * n) c20 A20 P3 e20.W HO20.out.rd (by rw [HQ3'.out, HN.out]) (by omega) (fun e => HO20.out.none_ e) HBIT3.out)).mono ?_
  rintro x _ ⟨e21, rfl, HB21, A21, c21, rfl, hrow21⟩
  rw [← HD4.out] at hrow21
  have hge : w.heap.size ≤ e20.W.heap.size := Nat.le_trans hsw e20.below.size
  have hnn : 77 + 8 * n + 32 = 109 + 8 * n := by omega
  rw [hnn]
  have HROW21 := Lib.hid (hrow21.mono hge)
  clear hrow21
  go_wp2_with fail
  go_ret2
  exact ⟨⟨A21, c21, rfl, HROW21.out⟩, below_trans HB05.out e21.below⟩
end Go.Proofs.Ytaknddanggdplaa
-- RefTail: The document's answer for layer 6: what ends each frame. No condition.
namespace Go.Proofs.Ytaknddanggdplaa
open Go.RowKit
theorem TailR_any (w : World) : Calls Try.prog 53 #[] w fun e w' => (∃ A' c', e = .returned (.slice A' 10 c') ∧ Row w' w.heap.size 5 A' c' (bys (List.replicate 10 1))) ∧ Below w.heap.size w w' := by
  have hrow : Row (w.alloc (.cells #[.int .u8 1, .int .u8 1, .int .u8 1, .int .u8 1, .int .u8 1, .int .u8 1, .int .u8 1, .int .u8 1, .int .u8 1, .int .u8 1] 5)) w.heap.size 5 (some ⟨w.heap.size, 0, none⟩) 10 (bys (List.replicate 10 1)) :=
    Row.lit (cs := [.int .u8 1, .int .u8 1, .int .u8 1, .int .u8 1, .int .u8 1, .int .u8 1, .int .u8 1, .int .u8 1, .int .u8 1, .int .u8 1]) (Nat.le_refl _) (by unfold maxLen; simp)
  go_enter Try.func53, Try.ntmps53
  go_wp2
  go_ret
  exact ⟨⟨_, _, rfl, hrow⟩, below_alloc (Below.refl _ _) _⟩
end Go.Proofs.Ytaknddanggdplaa
-- Ref08c: The document's answer for layer 8: an XL frame on the wire. No condition.
namespace Go.Proofs.Ytaknddanggdplaa
open Go.RowKit
theorem XlWireR_no (f : Fr) (A : Option Addr) (c : Nat) (w : World) (hno : ¬ (f.kind = 3 ∧ okF f = true)) :
    Calls Try.prog 22 #[frv f (.slice A f.data.length c)] w fun e w' => e = .returned (.tuple #[.agg #[.slice none 0 0, .int .i64 0, .int .i64 0], .int .i64 2]) ∧ Below w.heap.size w w' := by
  have HC := Lib.hid (fun W => XlBodyR_no f A c W hno)
  obtain ⟨kind, id, ext, rtr, brs, esi, sec, sdt, vcid, af, data⟩ := f
  dsimp only [frv] at *
  generalize data.length = n at *
  clear hno
  go_enter Try.func22, Try.ntmps22
  go_wp2_with fail
  refine calls_blk2 (fun W0 q1 q2 hb => ?_)
  have HB := Lib.hid hb
  have HQ2 := Lib.hid q2
  have hsz := heap_lt q2
  clear hb q1 q2
  refine (HC.out _).mono ?_
  rintro e w1 ⟨rfl, hb1⟩
  have hq := heap_below hb1 HQ2.out
  have c0 := cell_of_heap hq 0 _ rfl
  have c1 := cell_of_heap hq 1 _ rfl
  have c2 := cell_of_heap hq 2 _ rfl
  have z0 : w1.frozen? ⟨w.heap.size + 1, 0, none⟩ = false := by simp [World.frozen?, hq]
  have z1 : w1.frozen? ⟨w.heap.size + 1, 1, none⟩ = false := by simp [World.frozen?, hq]
  have z2 : w1.frozen? ⟨w.heap.size + 1, 2, none⟩ = false := by simp [World.frozen?, hq]
  have HB1 := Lib.hid hb1
  have HQ3 := Lib.hid hq
  clear hb1 hq
  go_wp2_with fail
  refine bodyPost_ret (v := .tuple #[.agg #[.slice none 0 0, .int .i64 0, .int .i64 0], .int .i64 2]) (by simp [results, Try.results22, go_sem, c0, c1, c2]) rfl ⟨rfl, ?_⟩
  have h := below_trans HB.out HB1.out
  exact ((h.setCell (p := ⟨w.heap.size + 1, 0, none⟩) (by show w.heap.size ≤ w.heap.size + 1; omega) _).setCell (p := ⟨w.heap.size + 1, 1, none⟩) (by show w.heap.size ≤ w.heap.size + 1; omega) _).setCell (p := ⟨w.heap.size + 1, 2, none⟩) (by show w.heap.size ≤ w.heap.size + 1; omega) _
set_option maxRecDepth 100000 in
set_option maxHeartbeats 4000000 in
theorem XlWireR_ok (f : Fr) (A : Option Addr) (c NR NH : Nat) (w : World) (hk : f.kind = 3) (hok : okF f = true) (h0 : 0 ≤ f.id) (hs : 0 ≤ f.sdt ∧ f.sdt < 256) (hv : 0 ≤ f.vcid ∧ f.vcid < 256) (ha : 0 ≤ f.af ∧ f.af < 4294967296) (hr : Rd w A (bys f.data)) (hby : isBytes f.data) (hNR : (rawX f).length = NR) (hNH : (stuffN (headX f)).length = NH) :
    Calls Try.prog 22 #[frv f (.slice A f.data.length c)] w fun e w' => (∃ A' c', e = .returned (.tuple #[.agg #[.slice A' (NR + 10 : Nat) c', .int .i64 (NH : Nat), .int .i64 (NR + 1 : Nat)], .int .i64 0]) ∧ Row w' w.heap.size 5 A' c' (bys (wireX f))) ∧ Below w.heap.size w w' := by
  obtain ⟨hid, hn1, hn2, -⟩ := okX f hk hok
  have HBody := Lib.hid (fun W (hW : Rd W A (bys f.data)) => XlBodyR_ok f A c W hk hok h0 hs hv ha hW hby)
  have HHead := Lib.hid (fun W => HeadR8_any f f.id W rfl h0 hid)
  have hlB := bodyX_length f
  have HbB := Lib.hid (bodyX_bits f)
  have HhB := Lib.hid (headX_bits f)
  have HhL := Lib.hid (headX_length f)
  have hlF := fixN_length 8 false 1 (bodyX f) (by decide)
  obtain ⟨NF, hNF⟩ : ∃ NF, (fixN 8 false 1 (bodyX f)).length = NF := ⟨_, rfl⟩
  have hNF2 : NF ≤ 30000 := by
    rw [hNF, hlB] at hlF
    rw [hlF, if_neg (by omega)]
    simp
    omega
  have hNH2 : NH ≤ 40 := by have := stuffN_le (headX f); rw [headX_length, hNH] at this; omega
  have hNRE : NR = NH + 4 + NF + 4 := by rw [← hNR]; unfold rawX; simp only [List.length_append, hNH, hNF, List.length_cons, List.length_nil]
  have hwx : wireX f = stuffN (headX f) ++ [1, 0, 0, 1] ++ fixN 8 false 1 (bodyX f) ++ [0, 1, 1, 0] ++ List.replicate 10 1 := rfl
  have HWX := Lib.hid hwx
  have HNF := Lib.hid hNF
  have HNH := Lib.hid hNH
  obtain ⟨bo, hbo⟩ : ∃ bo, bodyX f = bo := ⟨_, rfl⟩
  obtain ⟨hX, hhX⟩ : ∃ hX, headX f = hX := ⟨_, rfl⟩
  obtain ⟨wi, hwi⟩ : ∃ wi, wireX f = wi := ⟨_, rfl⟩
  rw [hbo] at HBody HbB HWX HNF hlB
  rw [hhX] at HHead HhB HhL HNH HWX
  rw [hwi] at HWX ⊢
  have HLB := Lib.hid hlB
  have HNRE := Lib.hid hNRE
  have HR := Lib.hid hr
  clear hlB hlF hNF hNH hNR hwx hr hby hs hv ha hok h0 hid hbo hhX hwi hNRE
  obtain ⟨kind, id, ext, rtr, brs, esi, sec, sdt, vcid, af, data⟩ := f
  dsimp only [frv] at *
  subst hk
  generalize data.length = n at *
  go_enter Try.func22, Try.ntmps22
  go_wp2_with fail
  refine calls_blk2 (fun W0 q1 q2 hb => ?_)
  have HB := Lib.hid hb
  have HQ2 := Lib.hid q2
  have hsz := heap_lt q2
  obtain ⟨a0, a1, a2, a3, a4, a5, a6, a7, a8, a9, a10⟩ := ext11 q1
  clear hb q1 q2
  refine (extcB (e := ⟨W0, Below.refl _ _⟩) (HBody.out _ (HR.out.below HB.out))).mono ?_
  rintro x _ ⟨e1, rfl, -, A1, c1, rfl, hrow1⟩
  have HROW1 : Hid (Row e1.W W0.heap.size 5 A1 c1 (bys bo)) := hrow1
  clear hrow1 a0 a2 a3 a4 a5 a6 a7 a8 a9 a10
  go_wp2_with fail
  refine (extcB (HHead.out e1.W)).mono ?_
  rintro x _ ⟨e2, rfl, HB2, A2, c2, rfl, hrow2⟩
  have HROW2 := Lib.hid hrow2
  clear hrow2 a1
  go_wp2_with fail
  refine (extcB (StuffedR_any e2.W A2 c2 17 NH hX HROW2.out.rd HhL.out (by decide) HhB.out HNH.out)).mono ?_
  rintro x _ ⟨e3, rfl, HB3, A3, c3, rfl, hrow3⟩
  have HROW3 := Lib.hid hrow3
  have hp1 := (((HROW1.out.below HB2.out).below HB3.out).rd)
  have HP1 := Lib.hid hp1
  have hge3 : W0.heap.size ≤ e3.W.heap.size := e3.below.size
  clear hrow3 hp1
  obtain ⟨sX, hsX⟩ : ∃ sX, stuffN hX = sX := ⟨_, rfl⟩
  rw [hsX] at HROW3 HWX
  have hlS : sX.length = NH := by rw [← hsX]; exact HNH.out
  have HLS := Lib.hid hlS
  clear hsX hlS
  go_wp2_with (at_builtin; refine wpList_appN (w0 := W0) (below_alloc e3.below _) rfl (.tmp 21) (.tmp 22) rfl e3.W.heap.size (some ⟨e3.W.heap.size, 0, none⟩) 0 0 [] rfl rfl (Row.lit0 e3.W) A3 NH c3 sX rfl HLS.out (HROW3.out.alloc _).part NH (by omega) (by omega) hge3 (by simp) ?_; intro e4 A4 c4 HB4 HO4)
  have hb34 : Below e3.W.heap.size e3.W e4.W := (below_alloc (Below.refl _ _) _).trans HB4.out
  have HB34 := Lib.hid hb34
  have HO4' : Hid (Row e4.W e3.W.heap.size 5 A4 c4 (bys sX)) := HO4.out
  clear HB4 HO4 hb34
  refine (extcB (xlStartR_any e4.W)).mono ?_
  rintro x _ ⟨e5, rfl, HB5, A5, c5, rfl, hrow5⟩
  have HP5 := Lib.hid hrow5.part
  have HO45 := Lib.hid (HO4'.out.below HB5.out)
  have hs5 : e3.W.heap.size ≤ e5.W.heap.size := Nat.le_trans HB34.out.size HB5.out.size
  clear hrow5
  go_wp2_with (at_builtin; refine wpList_appN (w0 := W0) e5.below rfl (.tmp 23) (.tmp 24) rfl e3.W.heap.size A4 NH c4 sX rfl HLS.out HO45.out A5 4 c5 [1, 0, 0, 1] rfl rfl HP5.out (NH + 4) rfl (by omega) hge3 hs5 ?_; intro e6 A6 c6 HB6 HO6)
  refine (extcB (xlWayR_any e6.W)).mono ?_
  rintro x _ ⟨e7, rfl, HB7, rfl⟩
  have hb36 : Below e3.W.heap.size e3.W e7.W := ((HB34.out.trans (HB5.out.mono HB34.out.size)).trans HB6.out).trans (HB7.out.mono (Nat.le_trans hs5 HB6.out.size))
  have HB37 := Lib.hid hb36
  have HO67 := Lib.hid (HO6.out.below HB7.out)
  clear hb36
  go_wp2_with fail
  refine (extcB (RawR_any e7.W A1 1 8 c1 (109 + 8 * n) NF false bo (by decide) (by decide) (by decide) (HP1.out.below HB37.out) HLB.out (by omega) (by omega) HbB.out HNF.out (by omega))).mono ?_
  rintro x _ ⟨e8, rfl, HB8, g8, c8, rfl, hrd8⟩
  have HP8 : Hid (PartOk e8.W (some ⟨g8, 1, none⟩, c8, fixN 8 false 1 bo)) := ⟨hrd8, fun _ h => by cases h⟩
  have HO68 := Lib.hid (HO67.out.below HB8.out)
  have hs8 : e3.W.heap.size ≤ e8.W.heap.size := Nat.le_trans HB37.out.size HB8.out.size
  clear hrd8
  go_wp2_with (at_builtin; refine wpList_appN (w0 := W0) e8.below rfl (.tmp 26) (.tmp 29) rfl e3.W.heap.size A6 (NH + 4) c6 (sX ++ [1, 0, 0, 1]) rfl (by rw [List.length_append, HLS.out]; rfl) HO68.out (some ⟨g8, 1, none⟩) NF c8 (fixN 8 false 1 bo) rfl HNF.out HP8.out (NH + 4 + NF) rfl (by omega) hge3 hs8 ?_; intro e9 A9 c9 HB9 HO9)
  refine (extcB (xlStopR_any e9.W)).mono ?_
  rintro x _ ⟨e10, rfl, HB10, A10, c10, rfl, hrow10⟩
  have HP10 := Lib.hid hrow10.part
  have HO910 := Lib.hid (HO9.out.below HB10.out)
  have hs10 : e3.W.heap.size ≤ e10.W.heap.size := Nat.le_trans (Nat.le_trans hs8 HB9.out.size) HB10.out.size
  clear hrow10
  go_wp2_with (at_builtin; refine wpList_appN (w0 := W0) e10.below rfl (.tmp 31) (.tmp 32) rfl e3.W.heap.size A9 (NH + 4 + NF) c9 (sX ++ [1, 0, 0, 1] ++ fixN 8 false 1 bo) rfl (by rw [List.length_append, List.length_append, HLS.out, HNF.out]; rfl) HO910.out A10 4 c10 [0, 1, 1, 0] rfl rfl HP10.out (NH + 4 + NF + 4) rfl (by omega) hge3 hs10 ?_; intro e11 A11 c11 HB11 HO11)
  refine (extcB (TailR_any e11.W)).mono ?_
  rintro x _ ⟨e12, rfl, HB12, A12, c12, rfl, hrow12⟩
  have HP12 := Lib.hid hrow12.part
  have HO1112 := Lib.hid (HO11.out.below HB12.out)
  have hs12 : e3.W.heap.size ≤ e12.W.heap.size := Nat.le_trans (Nat.le_trans hs10 HB11.out.size) HB12.out.size
  clear hrow12
  have HREP : Hid ((List.replicate 10 1 : List Nat).length = 10) := by show _ = _; rfl
  have h11 : (sX ++ [1, 0, 0, 1] ++ fixN 8 false 1 bo ++ [0, 1, 1, 0]).length = NH + 4 + NF + 4 := by simp only [List.length_append, HLS.out, HNF.out, List.length_cons, List.length_nil]
  have H11 := Lib.hid h11
  have hn10 : NH + 4 + NF + 4 + 10 = NR + 10 := by rw [HNRE.out]
  have hn11 : NR + 10 ≤ 1000000 := by have := HNRE.out; omega
  clear h11
  have hs0 : w.heap.size + 1 < W0.heap.size := hsz
  have r0 : ∀ e : Ext W0, e.W.cell? ⟨w.heap.size + 1, 0, none⟩ = some (.slice none 0 0) := fun e => ext_cell (cell_of_heap HQ2.out 0 _ rfl) e
  have r1 : ∀ e : Ext W0, e.W.cell? ⟨w.heap.size + 1, 1, none⟩ = some (.int .i64 0) := fun e => ext_cell (cell_of_heap HQ2.out 1 _ rfl) e
  have r2 : ∀ e : Ext W0, e.W.cell? ⟨w.heap.size + 1, 2, none⟩ = some (.int .i64 0) := fun e => ext_cell (cell_of_heap HQ2.out 2 _ rfl) e
  have z0 : ∀ e : Ext W0, e.W.frozen? ⟨w.heap.size + 1, 0, none⟩ = false := fun e => by simp [World.frozen?, ext_heap HQ2.out e]
  have z1 : ∀ e : Ext W0, e.W.frozen? ⟨w.heap.size + 1, 1, none⟩ = false := fun e => by simp [World.frozen?, ext_heap HQ2.out e]
  have z2 : ∀ e : Ext W0, e.W.frozen? ⟨w.heap.size + 1, 2, none⟩ = false := fun e => by simp [World.frozen?, ext_heap HQ2.out e]
  have hNRb : NR ≤ 40000 := by have := HNRE.out; omega
  go_wp2_with (at_builtin; refine wpList_appN (w0 := W0) e12.below rfl (.tmp 34) (.tmp 35) rfl e3.W.heap.size A11 (NH + 4 + NF + 4) c11 (sX ++ [1, 0, 0, 1] ++ fixN 8 false 1 bo ++ [0, 1, 1, 0]) rfl H11.out HO1112.out A12 10 c12 (List.replicate 10 1) rfl HREP.out HP12.out (NR + 10) hn10 hn11 hge3 hs12 ?_; intro e13 A13 c13 HB13 HO13; rw [← HWX.out] at HO13)
  refine bodyPost_ret (v := .tuple #[.agg #[.slice A13 (NR + 10 : Nat) c13, .int .i64 (NH : Nat), .int .i64 (NR + 1 : Nat)], .int .i64 0]) (by simp [results, Try.results22, go_sem, r0, r1, r2] <;> omega) rfl ⟨⟨A13, c13, rfl, ?_⟩, ?_⟩
  · have h6 := HO13.out.mono hge3
    have h7 : ∀ ad, A13 = some ad → ad.block ≠ w.heap.size + 1 := fun ad e => by have := h6.ge ad e; omega
    exact (((h6.setCell h7 0 _).setCell h7 1 _).setCell h7 2 _).mono (by omega)
  · have h := below_trans HB.out e13.below
    exact ((h.setCell (p := ⟨w.heap.size + 1, 0, none⟩) (by show w.heap.size ≤ w.heap.size + 1; omega) _).setCell (p := ⟨w.heap.size + 1, 1, none⟩) (by show w.heap.size ≤ w.heap.size + 1; omega) _).setCell (p := ⟨w.heap.size + 1, 2, none⟩) (by show w.heap.size ≤ w.heap.size + 1; omega) _
end Go.Proofs.Ytaknddanggdplaa
-- Ref04c: The document's answer for layer 4: how long stuffed bits get. No condition.
namespace Go.Proofs.Ytaknddanggdplaa
open Go.RowKit
set_option maxHeartbeats 4000000 in
theorem RawSizeR_any (n ev : Nat) (ah : Bool) (w : World) (h1 : 1 ≤ ev) (h2 : ev ≤ 64) (hn : n ≤ 65536) (hn1 : 1 ≤ n) :
    Calls Try.prog 66 #[.int .i64 n, wayV ev ah] w fun e w' => e = .returned (.tuple #[.int .i64 (fsize n ev ah : Nat), .int .i64 0]) ∧ Below w.heap.size w w' := by
  have a0 : ¬ (n : Int) < 0 := by omega
  have a1 : ¬ (65536 : Int) < (n : Int) := by omega
  have a2 : ¬ (ev : Int) < 1 := by omega
  have a3 : ¬ (64 : Int) < (ev : Int) := by omega
  have a4 : (0 : Int) < (n : Int) := by omega
  have hev : ¬ (ev : Int) = 0 := by omega
  have hdz : Hid ((1 - 1) / ev = 0) := by show _ = _; simp
  obtain ⟨fs, hfs⟩ : ∃ fs, fsize n ev ah = fs := ⟨_, rfl⟩
  rw [hfs]
  unfold fsize at hfs
  rw [if_neg (by omega)] at hfs
  have HFS := Lib.hid hfs
  clear hfs
  go_enter Try.func66, Try.ntmps66
  go_wp2_with fail
  obtain ⟨W1, hW1⟩ : ∃ W1, w.alloc (.cells #[.int .i64 ev, .bool ah] 60) = W1 := ⟨_, rfl⟩
  have hq1 : W1.heap[w.heap.size]? = some (.cells #[.int .i64 ev, .bool ah] 60) := by rw [← hW1]; exact heap_new_at rfl
  have hb1 : Below w.heap.size w W1 := by rw [← hW1]; exact below_alloc (Below.refl _ _) _
  rw [hW1]
  have c0 : W1.cell? ⟨w.heap.size, 0, none⟩ = some (.int .i64 ev) := cell_of_heap hq1 0 _ rfl
  have c1 : W1.cell? ⟨w.heap.size, 1, none⟩ = some (.bool ah) := cell_of_heap hq1 1 _ rfl
  have HB1 := Lib.hid hb1
  clear hW1 hq1 hb1
  go_loopw [6, 7] (fun v iv wr => ∃ (i q : Nat), 1 ≤ i ∧ i ≤ n ∧ iv = .int .i64 i ∧ v = .int .i64 (n + q : Nat) ∧ Hid ((i - 1) / ev = q) ∧ q < i ∧ wr = W1) (fun _ iv _ => n - (intOf iv).toNat)
  case atStart => exact ⟨1, 0, by omega, by omega, rfl, by simp, hdz, by omega, rfl⟩
  case round =>
    obtain ⟨i, q, hi1, hi2, rfl, rfl, HQ, hq, rfl⟩ := hrel
    by_cases hin : i < n
    · have hd : i / ev = (i - 1) / ev + if ev ∣ i then 1 else 0 := by
        have := @Nat.succ_div (i - 1) ev
        rw [show i - 1 + 1 = i by omega] at this
        exact this
      have hmi : (i : Int) % (ev : Int) = ((i % ev : Nat) : Int) := by simp
      by_cases hm : i % ev = 0
      · have hd2 : i / ev = q + 1 := by rw [hd, HQ.out, if_pos (Nat.dvd_of_mod_eq_zero hm)]
        have hm1 : (i : Int) % (ev : Int) = 0 := by rw [hmi, hm]; rfl
        have hm2 : (i : Int).tmod (ev : Int) = 0 := by rw [Int.tmod_eq_emod_of_nonneg (by omega)]; exact hm1
        have HD := Lib.hid hd2
        clear hd hm hmi hd2
        go_wp2_with fail
        go_roundw
        case rel => exact ⟨i + 1, q + 1, by omega, by omega, by go_num, by go_num, HD.out, by omega, by trivial⟩
        case measure => simp [intOf]; omega
      · have hd2 : i / ev = q := by rw [hd, HQ.out, if_neg (fun h => hm (Nat.mod_eq_zero_of_dvd h))]; rfl
        have hm1 : ¬ (i : Int) % (ev : Int) = 0 := by rw [hmi]; omega
        have hm2 : ¬ (i : Int).tmod (ev : Int) = 0 := by rw [Int.tmod_eq_emod_of_nonneg (by omega)]; exact hm1
        have HD := Lib.hid hd2
        clear hd hm hmi hd2
        go_wp2_with fail
        go_roundw
        case rel => exact ⟨i + 1, q, by omega, by omega, by go_num, rfl, HD.out, by omega, by trivial⟩
        case measure => simp [intOf]; omega
    · obtain rfl : i = n := by omega
      have hf := HFS.out
      rw [HQ.out] at hf
      have HF := Lib.hid hf
      clear hf
      cases ah
      · go_wp2_with fail
        go_ret2
        exact ⟨ret_fst (by have := HF.out; simp at this; omega), HB1.out⟩
      · go_wp2_with fail
        go_ret2
        exact ⟨ret_fst (by have := HF.out; simp at this; omega), HB1.out⟩
end Go.Proofs.Ytaknddanggdplaa
-- CodeNo: frame.Code where a size has no code: any size, below nothing or above all. No condition.
namespace Go.Proofs.Ytaknddanggdplaa
open Go.RowKit
set_option maxHeartbeats 400000 in
theorem sizes_code_none (k n : Int) (w : World) (hno : ¬ (loOf k ≤ n ∧ n ≤ hiOf k)) :
    Calls Try.prog 94 #[.agg #[.slice none 0 0, .int .i64 (loOf k), .int .i64 (hiOf k)], .int .i64 n] w fun e w' => CodeB none e ∧ Below w.heap.size w w' := by
  have hl : 0 ≤ loOf k ∧ loOf k ≤ 1 := by unfold loOf; split <;> omega
  obtain ⟨hl0, hl1⟩ := hl
  generalize loOf k = lo at *
  generalize hiOf k = hi at *
  by_cases hc : lo ≤ n
  · have hd : ¬ n ≤ hi := fun h => hno ⟨hc, h⟩
    clear hno
    go_enter Try.func94, Try.ntmps94
    go_wp2
    go_quiet (fail)
    go_wp2
    go_ret2
    exact ⟨⟨_, _, rfl, .inr ⟨by simp [hd], rfl⟩⟩, below_drewN (below_alloc (Below.refl _ _) _) _⟩
  · have hc' : decide (lo ≤ n) = false := by simp [hc]
    clear hno
    go_enter Try.func94, Try.ntmps94
    go_wp2
    go_quiet (fail)
    go_wp2
    go_ret2
    exact ⟨⟨_, _, rfl, .inr ⟨by simp, rfl⟩⟩, below_drewN (below_alloc (Below.refl _ _) _) _⟩
set_option maxHeartbeats 400000 in
theorem Code_no (k n : Int) (w : World) (hno : codeF k n = none) :
    Calls Try.prog 54 #[.int .i64 k, .int .i64 n] w fun e w' => e = .returned (.tuple #[.int .i64 0, .int .i64 2]) ∧ Below w.heap.size w w' := by
  have ask : Calls Try.prog 93 #[.func (.func 94) #[] #[], .int .i64 k, .int .i64 n] w fun e w' => e = .returned (.tuple #[.int .i64 0, .int .i64 2]) ∧ Below w.heap.size w w' := by
    by_cases hk : k = 2
    · subst hk
      have HO := Lib.hid hno
      clear hno
      go_enter Try.func93, Try.ntmps93
      go_wp2_with fail
      refine (of_fd _).mono ?_
      rintro e w1 ⟨ad, rfl, hr, hb⟩
      have HB := Lib.hid hb
      have HR := Lib.hid hr
      clear hb hr
      go_wp2_with fail
      refine (sizes_code_fd ad n _ HR.out).mono ?_
      rintro e w2 ⟨⟨c, b, rfl, hcb⟩, hb2⟩
      rw [HO.out] at hcb
      have HB2 := Lib.hid hb2
      obtain rfl : b = false := by rcases hcb with ⟨_, h2⟩ | ⟨h1, _⟩; cases h2; exact h1
      clear hb2 hcb
      go_wp2
      go_ret2
      exact ⟨rfl, below_trans HB.out HB2.out⟩
    · have hn2 : ¬ (loOf k ≤ n ∧ n ≤ hiOf k) := fun h => by unfold codeF at hno; rw [if_neg hk, if_pos h] at hno; cases hno
      have HK := Lib.hid hk
      have HN := Lib.hid hn2
      clear hno hk hn2
      go_enter Try.func93, Try.ntmps93
      go_wp2_with fail
      refine (of_other k _ HK.out).mono ?_
      rintro e w1 ⟨rfl, hb⟩
      have HB := Lib.hid hb
      clear hb
      go_wp2_with fail
      refine (sizes_code_none k n _ HN.out).mono ?_
      rintro e w2 ⟨⟨c, b, rfl, hcb⟩, hb2⟩
      have HB2 := Lib.hid hb2
      obtain rfl : b = false := by rcases hcb with ⟨_, h2⟩ | ⟨h1, _⟩; cases h2; exact h1
      clear hb2 hcb
      go_wp2
      go_ret2
      exact ⟨rfl, below_trans HB.out HB2.out⟩
  have HA := Lib.hid ask
  clear ask hno
  go_enter Try.func54, Try.ntmps54
  go_wp2_with fail
  refine HA.out.mono ?_
  rintro e w1 ⟨rfl, hb⟩
  have HB := Lib.hid hb
  clear hb
  go_wp2
  go_ret2
  exact ⟨rfl, HB.out⟩
end Go.Proofs.Ytaknddanggdplaa
-- XlMost: xl.Most: how many bits an XL frame has at most. No condition.
namespace Go.Proofs.Ytaknddanggdplaa
open Go.RowKit
theorem XlBody_okN (f : Fr) (A : Option Addr) (c N : Nat) (w : World) (hk : f.kind = 3) (hok : okF f = true) (hf : FrN f) (hr : Rd w A (bys f.data)) (hN : (bodyX f).length = N) :
    Calls Try.prog 23 #[frv f (.slice A f.data.length c)] w fun e w' => (∃ A' c', e = .returned (.tuple #[.slice A' N c', .int .i64 0]) ∧ Row w' w.heap.size 5 A' c' (bys (bodyX f))) ∧ Below w.heap.size w w' := by
  have h := XlBody_ok f A c w hk hok hf.id0 hf.sdt hf.vcid hf.af hr hf.data
  rw [bodyX_length] at hN
  rw [hN] at h
  exact h
set_option maxHeartbeats 1000000 in
theorem XlMost_any (n : Nat) (w : World) (h1 : 1 ≤ n) (h2 : n ≤ 2048) :
    Calls Try.prog 25 #[.int .i64 n] w fun e w' => e = .returned (.tuple #[.int .i64 ((39 + fsize (109 + 8 * n) 8 false : Nat) : Int), .int .i64 0]) ∧ Below w.heap.size w w' := by
  have hc := fun W => Code_any 3 (n : Int) W (by omega) (by omega)
  have e : codeF 3 (n : Int) = some ((n : Int) - 1) := by
    unfold codeF
    rw [if_neg (by decide), if_pos (show loOf 3 ≤ (n : Int) ∧ (n : Int) ≤ hiOf 3 from ⟨by show (1 : Int) ≤ _; omega, by show _ ≤ (2048 : Int); omega⟩)]
    rfl
  rw [e] at hc
  have e2 : codeV (some ((n : Int) - 1)) = .tuple #[.int .i64 ((n : Int) - 1), .int .i64 0] := rfl
  rw [e2] at hc
  have HC := Lib.hid hc
  have hs := fun W => FSize_any (109 + 8 * n) 8 false W (by decide) (by decide) (by omega)
  have e3 : ((109 + 8 * n : Nat) : Int) = 109 + 8 * (n : Int) := by omega
  rw [e3] at hs
  have hfs : fsize (109 + 8 * n) 8 false ≤ 40000 := by unfold fsize; rw [if_neg (by omega)]; simp; omega
  have HS := Lib.hid hs
  obtain ⟨q, hq⟩ : ∃ q, fsize (109 + 8 * n) 8 false = q := ⟨_, rfl⟩
  rw [hq] at HS hfs ⊢
  clear hc hs e e2 e3 hq
  go_enter Try.func25, Try.ntmps25
  go_wp2_with fail
  refine (extc_same (HC.out _)).mono ?_
  rintro x _ ⟨e1, rfl, rfl⟩
  go_wp2_with fail
  refine (extc (xlWay_any _)).mono ?_
  rintro x _ ⟨e2, rfl, rfl⟩
  go_wp2_with fail
  refine (extc (HS.out _)).mono ?_
  rintro x _ ⟨e3, rfl, rfl⟩
  go_wp2_with fail
  go_ret2
  exact ⟨ret_fst (by omega), e3.below⟩
theorem xlMost_ok (f : Fr) (hk : f.kind = 3) (hok : okF f = true) : ∃ mo : Nat, (∀ w, Calls Try.prog 25 #[.int .i64 f.data.length] w fun e w' => e = .returned (.tuple #[.int .i64 mo, .int .i64 0]) ∧ Below w.heap.size w w') ∧ (rawX f).length + 10 ≤ mo ∧ (bodyX f).length < (rawX f).length + 10 := by
  obtain ⟨-, hn1, hn2, -⟩ := okX f hk hok
  refine ⟨_, fun w => XlMost_any f.data.length w hn1 hn2, ?_, ?_⟩
  · have h1 := rawX_len f
    have h2 := stuffX_le f
    have h3 : fsize (109 + 8 * f.data.length) 8 false = 109 + 8 * f.data.length + (108 + 8 * f.data.length) / 8 := by unfold fsize; rw [if_neg (by omega)]; simp
    omega
  · have h1 := rawX_len f
    rw [bodyX_length]
    omega
end Go.Proofs.Ytaknddanggdplaa
-- Ref08d: The document's answer for layer 8, and xl's: how many bits a frame of so many bytes has at most. No condition.
namespace Go.Proofs.Ytaknddanggdplaa
open Go.RowKit
theorem codeF_3 (n : Int) (h : n < 1 ∨ 2048 < n) : codeF 3 n = none := by
  unfold codeF
  have h1 : loOf 3 = 1 := rfl
  have h2 : hiOf 3 = 2048 := rfl
  rw [if_neg (by decide), if_neg (by rw [h1, h2]; omega)]
theorem XlMost_no (n : Int) (w : World) (h : n < 1 ∨ 2048 < n) : Calls Try.prog 25 #[.int .i64 n] w fun e w' => e = .returned (.tuple #[.int .i64 0, .int .i64 2]) ∧ Below w.heap.size w w' := by
  have HC := Lib.hid (fun W => Code_no 3 n W (codeF_3 n h))
  clear h
  go_enter Try.func25, Try.ntmps25
  go_wp2_with fail
  refine (extc_same (HC.out _)).mono ?_
  rintro x _ ⟨e1, rfl, rfl⟩
  go_wp2_with fail
  go_ret2
  exact ⟨rfl, e1.below⟩
theorem XlMostR_no (n : Int) (w : World) (h : n < 1 ∨ 2048 < n) : Calls Try.prog 26 #[.int .i64 n] w fun e w' => e = .returned (.tuple #[.int .i64 0, .int .i64 2]) ∧ Below w.heap.size w w' := by
  rcases h with h | h
  · go_enter Try.func26, Try.ntmps26
    go_wp2
    go_ret2
    exact ⟨rfl, Below.refl _ _⟩
  · have h0 : ¬ n < 1 := by omega
    go_enter Try.func26, Try.ntmps26
    go_wp2
    go_ret2
    exact ⟨rfl, Below.refl _ _⟩
theorem XlMostR_any (n : Nat) (w : World) (h1 : 1 ≤ n) (h2 : n ≤ 2048) :
    Calls Try.prog 26 #[.int .i64 n] w fun e w' => e = .returned (.tuple #[.int .i64 ((39 + fsize (109 + 8 * n) 8 false : Nat) : Int), .int .i64 0]) ∧ Below w.heap.size w w' := by
  have hs := fun W => RawSizeR_any (109 + 8 * n) 8 false W (by decide) (by decide) (by omega) (by omega)
  have e3 : ((109 + 8 * n : Nat) : Int) = 109 + 8 * (n : Int) := by omega
  rw [e3] at hs
  have hfs : fsize (109 + 8 * n) 8 false ≤ 40000 := by unfold fsize; rw [if_neg (by omega)]; simp; omega
  have HS := Lib.hid hs
  obtain ⟨q, hq⟩ : ∃ q, fsize (109 + 8 * n) 8 false = q := ⟨_, rfl⟩
  rw [hq] at HS hfs ⊢
  have i1 : ¬ (n : Int) < 1 := by omega
  have i2 : ¬ (2048 : Int) < (n : Int) := by omega
  clear hs e3 hq
  go_enter Try.func26, Try.ntmps26
  go_wp2_with fail
  refine (extc_same (xlWayR_any _)).mono ?_
  rintro x _ ⟨e2, rfl, rfl⟩
  go_wp2_with fail
  refine (extc (HS.out _)).mono ?_
  rintro x _ ⟨e3, rfl, rfl⟩
  go_wp2_with fail
  go_ret2
  exact ⟨ret_fst (by omega), e3.below⟩
end Go.Proofs.Ytaknddanggdplaa
-- XlBoth: XL: what the document and xl answer alike. No condition.
namespace Go.Proofs.Ytaknddanggdplaa
open Go.RowKit
theorem xlMost_both (size : Int) : ∃ m me, MostAns 25 size m me ∧ MostAns 26 size m me := by
  by_cases hs : size < 1 ∨ 2048 < size
  · exact ⟨0, 2, fun W => XlMost_no size W hs, fun W => XlMostR_no size W hs⟩
  · obtain ⟨k, rfl⟩ := Int.eq_ofNat_of_zero_le (by omega : 0 ≤ size)
    exact ⟨_, 0, fun W => XlMost_any k W (by omega) (by omega), fun W => XlMostR_any k W (by omega) (by omega)⟩
theorem XlBodyR_okN (f : Fr) (A : Option Addr) (c N : Nat) (w : World) (hk : f.kind = 3) (hok : okF f = true) (hf : FrN f) (hr : Rd w A (bys f.data)) (hN : (bodyX f).length = N) :
    Calls Try.prog 24 #[frv f (.slice A f.data.length c)] w fun e w' => (∃ A' c', e = .returned (.tuple #[.slice A' N c', .int .i64 0]) ∧ Row w' w.heap.size 5 A' c' (bys (bodyX f))) ∧ Below w.heap.size w w' := by
  have h := XlBodyR_ok f A c w hk hok hf.id0 hf.sdt hf.vcid hf.af hr hf.data
  rw [bodyX_length] at hN
  rw [hN] at h
  exact h
theorem XlWireR_okN (f : Fr) (A : Option Addr) (c NR NH : Nat) (w : World) (hk : f.kind = 3) (hok : okF f = true) (hf : FrN f) (hr : Rd w A (bys f.data)) (hNR : (rawX f).length = NR) (hNH : (stuffN (headX f)).length = NH) :
    Calls Try.prog 22 #[frv f (.slice A f.data.length c)] w fun e w' => (∃ A' c', e = .returned (.tuple #[.agg #[.slice A' (NR + 10 : Nat) c', .int .i64 (NH : Nat), .int .i64 (NR + 1 : Nat)], .int .i64 0]) ∧ Row w' w.heap.size 5 A' c' (bys (wireX f))) ∧ Below w.heap.size w w' :=
  XlWireR_ok f A c NR NH w hk hok hf.id0 hf.sdt hf.vcid hf.af hr hf.data hNR hNH
end Go.Proofs.Ytaknddanggdplaa
-- XlLawWires: What xl answers for a frame is what the document says: the law XlWires answers true. No condition.
namespace Go.Proofs.Ytaknddanggdplaa
open Go.RowKit
set_option maxRecDepth 100000 in
set_option maxHeartbeats 4000000 in
theorem xlWires_main (f : Fr) (size : Int) (A : Option Addr) (c nw nb : Nat) (lw lb : List Nat) (ih ia ew eb m me : Int) (w : World) (hd : f.data.length ≤ 5000) (hr : Rd w A (bys f.data)) (hw1 : lw.length = nw) (hb1 : lb.length = nb) (hw2 : nw ≤ 100000) (hb2 : nb ≤ 100000)
    (hW : WireAns 17 f A c nw lw ih ia ew) (hWR : WireAns 22 f A c nw lw ih ia ew) (hB : BodyAns 23 f A c nb lb eb) (hBR : BodyAns 24 f A c nb lb eb) (hM : MostAns 25 size m me) (hMR : MostAns 26 size m me) :
    Calls Try.prog 9 #[frv f (.slice A f.data.length c), .int .i64 size] w fun e w' => e = .returned (.bool true) ∧ Below w.heap.size w w' := by
  have HW := Lib.hid hW
  have HWR := Lib.hid hWR
  have HBo := Lib.hid hB
  have HBoR := Lib.hid hBR
  have HM := Lib.hid hM
  have HMR := Lib.hid hMR
  have HR := Lib.hid hr
  have HW1 := Lib.hid hw1
  have HB1 := Lib.hid hb1
  clear hW hWR hB hBR hM hMR hr hw1 hb1
  simp only [WireAns, BodyAns, MostAns] at *
  obtain ⟨kind, id, ext, rtr, brs, esi, sec, sdt, vcid, af, data⟩ := f
  dsimp only [frv] at *
  generalize data.length = n at *
  have hn5 : ¬ (5000 : Int) < (n : Int) := by omega
  go_enter Try.func9, Try.ntmps9
  go_wp2_with fail
  refine calls_blk1 (fun W0 q1 hb => ?_)
  have HB := Lib.hid hb
  obtain ⟨a0, a1, a2, a3, a4, a5, a6, a7, a8, a9, a10⟩ := ext11 q1
  have hsz := ext_lt q1
  clear hb q1
  refine (extc_same (alive08 _)).mono ?_
  rintro x _ ⟨e1, rfl, rfl⟩
  go_wp2_with fail
  have HRD := Lib.hid (fun e : Ext W0 => (HR.out.below HB.out).ext e)
  refine (extc (HW.out _ (HRD.out e1))).mono ?_
  rintro x _ ⟨e2, rfl, A2, c2, rfl, hr2⟩
  have HR2 := Lib.hid hr2
  clear hr2
  go_wp2_with fail
  obtain ⟨p, hp⟩ : ∃ p, e2.W.heap.size = p := ⟨_, rfl⟩
  rw [hp]
  refine calls_name (T := fun W1 => W1.heap[p]? = some (.cells #[.slice A2 nw c2, .int .i64 ih, .int .i64 ia] 29) ∧ Rd W1 A2 (bys lw) ∧ Below W0.heap.size W0 W1) ⟨heap_new_at hp.symm, HR2.out.alloc _, below_alloc e2.below _⟩ ?_
  rintro W1 ⟨q2, hr2, hb1⟩
  replace a0 := liftE hb1 a0
  replace a1 := liftE hb1 a1
  replace a2 := liftE hb1 a2
  replace a3 := liftE hb1 a3
  replace a4 := liftE hb1 a4
  replace a5 := liftE hb1 a5
  replace a6 := liftE hb1 a6
  replace a7 := liftE hb1 a7
  replace a8 := liftE hb1 a8
  replace a9 := liftE hb1 a9
  replace a10 := liftE hb1 a10
  have x0 := fun e : Ext W1 => cell_of_heap (heap_below e.below q2) 0 _ rfl
  have x1 : ∀ e : Ext W1, e.W.cell? ⟨p, 1, none⟩ = some (.int .i64 ih) := fun e => cell_of_heap (heap_below e.below q2) 1 _ rfl
  have x2 : ∀ e : Ext W1, e.W.cell? ⟨p, 2, none⟩ = some (.int .i64 ia) := fun e => cell_of_heap (heap_below e.below q2) 2 _ rfl
  have HB1' := Lib.hid hb1
  have HRD1 := Lib.hid (fun e : Ext W1 => ((HR.out.below HB.out).below hb1).ext e)
  have HR21 := Lib.hid hr2
  have hp1 := heap_lt q2
  have hsz1 : ∀ e : Ext W1, w.heap.size < e.W.heap.size := fun e => hsz ⟨e.W, below_trans hb1 e.below⟩
  clear HR2 hp q2 hr2 hb1 hsz
  refine (extc_same (HWR.out _ (HRD1.out ⟨W1, Below.refl _ _⟩))).mono ?_
  rintro x _ ⟨e3, rfl, A3, c3, rfl, hr3⟩
  have HR3 := Lib.hid hr3
  clear hr3
  go_wp2_with fail
  obtain ⟨p2, hp2⟩ : ∃ p2, e3.W.heap.size = p2 := ⟨_, rfl⟩
  have hpp : p < p2 := by rw [← hp2]; exact Nat.lt_of_lt_of_le hp1 e3.below.size
  rw [hp2]
  refine calls_name (T := fun W2 => W2.heap[p2]? = some (.cells #[.slice A3 nw c3, .int .i64 ih, .int .i64 ia] 29) ∧ Rd W2 A3 (bys lw) ∧ Below W1.heap.size W1 W2) ⟨heap_new_at hp2.symm, HR3.out.alloc _, below_alloc e3.below _⟩ ?_
  rintro W2 ⟨q3, hr3, hb2⟩
  replace a0 := liftE hb2 a0
  replace a1 := liftE hb2 a1
  replace a2 := liftE hb2 a2
  replace a3 := liftE hb2 a3
  replace a4 := liftE hb2 a4
  replace a5 := liftE hb2 a5
  replace a6 := liftE hb2 a6
  replace a7 := liftE hb2 a7
  replace a8 := liftE hb2 a8
  replace a9 := liftE hb2 a9
  replace a10 := liftE hb2 a10
  replace x0 := liftE hb2 x0
  replace x1 := liftE hb2 x1
  replace x2 := liftE hb2 x2
  have y0 := fun e : Ext W2 => cell_of_heap (heap_below e.below q3) 0 _ rfl
  have y1 : ∀ e : Ext W2, e.W.cell? ⟨p2, 1, none⟩ = some (.int .i64 ih) := fun e => cell_of_heap (heap_below e.below q3) 1 _ rfl
  have y2 : ∀ e : Ext W2, e.W.cell? ⟨p2, 2, none⟩ = some (.int .i64 ia) := fun e => cell_of_heap (heap_below e.below q3) 2 _ rfl
  have HB2 := Lib.hid hb2
  have HRD2 := Lib.hid (fun e : Ext W2 => (((HR.out.below HB.out).below HB1'.out).below hb2).ext e)
  have HR22 := Lib.hid (fun e : Ext W2 => (HR21.out.below hb2).ext e)
  have HR32 := Lib.hid (fun e : Ext W2 => hr3.ext e)
  clear HR3 hp2 q3 hr3 hb2 HR21 hp1
  refine (extc_same (HBo.out _ (HRD2.out ⟨W2, Below.refl _ _⟩))).mono ?_
  rintro x _ ⟨e4, rfl, A4, c4, rfl, hr4⟩
  have HR4 := Lib.hid hr4
  clear hr4
  go_wp2_with fail
  refine (extcB (HBoR.out _ (HRD2.out e4))).mono ?_
  rintro x _ ⟨e5, rfl, HB5, A5, c5, rfl, hr5⟩
  have HR45 := Lib.hid (HR4.out.below HB5.out)
  have HR5 := Lib.hid hr5
  clear hr5
  go_wp2_with fail
  refine (extcB (HM.out _)).mono ?_
  rintro x _ ⟨m1, rfl, HBM1, rfl⟩
  have HR46 := Lib.hid ((HR45.out.below HBM1.out))
  have HR56 := Lib.hid ((HR5.out.below HBM1.out))
  go_wp2_with fail
  refine (extcB (HMR.out _)).mono ?_
  rintro x _ ⟨m2, rfl, HBM2, rfl⟩
  have HR47 := Lib.hid ((HR46.out.below HBM2.out))
  have HR57 := Lib.hid ((HR56.out.below HBM2.out))
  go_wp2_with fail
  refine (extcB (SameR_refl m2.W A2 A3 c2 c3 nw lw (HR22.out m2) (HR32.out m2) HW1.out (by omega))).mono ?_
  rintro x _ ⟨e6, rfl, HB6, rfl⟩
  go_wp2_with fail
  refine (extc (SameR_refl e6.W A4 A5 c4 c5 nb lb (HR47.out.below HB6.out) (HR57.out.below HB6.out) HB1.out (by omega))).mono ?_
  rintro x _ ⟨e7, rfl, rfl⟩
  go_wp2_with fail
  go_ret
  exact ⟨by first | rfl | simp, below_trans HB.out (below_trans HB1'.out (below_trans HB2.out e7.below))⟩
set_option maxRecDepth 100000 in
theorem xlWires_big (f : Fr) (size : Int) (A : Option Addr) (c : Nat) (w : World) (hf : f.data.length ≤ 9223372036854775807) (hd : 5000 < f.data.length) :
    Calls Try.prog 9 #[frv f (.slice A f.data.length c), .int .i64 size] w fun e w' => e = .returned (.bool true) ∧ Below w.heap.size w w' := by
  obtain ⟨kind, id, ext, rtr, brs, esi, sec, sdt, vcid, af, data⟩ := f
  dsimp only [frv] at *
  generalize data.length = n at *
  have hn5 : (5000 : Int) < (n : Int) := by omega
  clear hd
  go_enter Try.func9, Try.ntmps9
  go_wp2_with fail
  refine calls_blk1 (fun W0 q1 hb => ?_)
  have HB := Lib.hid hb
  obtain ⟨a0, a1, a2, a3, a4, a5, a6, a7, a8, a9, a10⟩ := ext11 q1
  clear hb q1
  refine (extc_same (alive08 _)).mono ?_
  rintro x _ ⟨e1, rfl, rfl⟩
  go_wp2_with fail
  go_ret
  exact ⟨rfl, below_trans HB.out e1.below⟩
theorem xlWires_walk (f : Fr) (size : Int) (A : Option Addr) (c : Nat) (w : World) (hf : f.data.length ≤ 9223372036854775807) (hfn : FrN f) (hr : Rd w A (bys f.data)) :
    Calls Try.prog 9 #[frv f (.slice A f.data.length c), .int .i64 size] w fun e w' => e = .returned (.bool true) ∧ Below w.heap.size w w' := by
  by_cases hd : f.data.length ≤ 5000
  · obtain ⟨m, me, hm1, hm2⟩ := xlMost_both size
    by_cases hm : f.kind = 3 ∧ okF f = true
    · obtain ⟨hk, hok⟩ := hm
      obtain ⟨-, hNR2, -⟩ := xl_bound f hk hok
      obtain ⟨mo, -, -, hb⟩ := xlMost_ok f hk hok
      have hwl : (wireX f).length = (rawX f).length + 10 := by unfold wireX; rw [List.length_append]; simp
      refine xlWires_main f size A c _ _ (wireX f) (bodyX f) ((stuffN (headX f)).length : Nat) ((rawX f).length + 1 : Nat) 0 0 m me w hd hr hwl rfl (by omega) (by omega) (fun W hW => (XlWire_okN f A c _ _ W hk hok hfn hW rfl rfl).mono ?_) (fun W hW => (XlWireR_okN f A c _ _ W hk hok hfn hW rfl rfl).mono ?_)
        (fun W hW => (XlBody_okN f A c _ W hk hok hfn hW rfl).mono ?_) (fun W hW => (XlBodyR_okN f A c _ W hk hok hfn hW rfl).mono ?_) hm1 hm2
      all_goals
        rintro e w' ⟨⟨A', c', he, hrow⟩, hb⟩
        exact ⟨⟨A', c', he, hrow.rd⟩, hb⟩
    · refine xlWires_main f size A c 0 0 [] [] 0 0 2 2 m me w hd hr rfl rfl (by omega) (by omega) (fun W hW => (XlWire_no f A c W hf hm).mono ?_) (fun W hW => (XlWireR_no f A c W hm).mono ?_)
        (fun W hW => (XlBody_no f A c W hf hm).mono ?_) (fun W hW => (XlBodyR_no f A c W hm).mono ?_) hm1 hm2
      all_goals
        rintro e w' ⟨he, hb⟩
        exact ⟨⟨none, 0, he, Rd.nil _ _⟩, hb⟩
  · exact xlWires_big f size A c w hf (by omega)
end Go.Proofs.Ytaknddanggdplaa
-- RowXlWires: The law XlWires answers true at every input, and leaves its input as it was. No condition.
namespace Go.Proofs.Ytaknddanggdplaa
open Go.ChangeShapes Go.WideShapes Go.ChangeAt Go.RowKit
set_option maxRecDepth 100000 in
theorem xlWires_lifted (os : Os) (started : os.Started) (H : Type) (enc : TypeId × Value → H) :
    ReturnsInHanded {} Try.checked os 9 .any (Rows.xlWiresSpec.pre6 enc Try.prog Try.f9 Rows.xlWiresRow.domain false) (Rows.xlWiresSpec.post enc Try.prog Try.f9 false true false false) := by
  refine returnsInHanded_of_change (C := Try.checked) own started (by kernel_rfl) Try.func9
    (ChangeSpec.witness6 (enc := enc) (C := Try.checked) false ⟨#[], #[zeroV, .int .i64 0], []⟩ 8 (by kernel_rfl) (by kernel_rfl) (by kernel_rfl) (by kernel_rfl)) ?_
  intro W base args ds gs before hval0 hW hcnd _
  have hval : ∀ (j : Nat) t v, Try.f9.params[j]? = some t → args[j]? = some v → Value.okWide Try.prog W .any base t v := hval0
  have hW' := hW
  obtain ⟨p, q, hA0, hV, rfl, hfz, hnd⟩ := hW
  have hA : DataW.TrodAll enc Try.prog W 0 (fun _ => true) true Try.f9.params.toList args.toList ds p := hA0
  rw [Try.params9] at hA hval
  obtain ⟨v0, vs0, d0, ds0, p0, q0, hargs, rfl, rfl, h0, r0⟩ := trodAll_cons hA
  obtain ⟨v1, vs1, d1, ds1, p1, q1, rfl, rfl, rfl, h1, r1⟩ := trodAll_cons r0
  obtain ⟨rfl, rfl, rfl⟩ := trodAll_nil r1
  obtain rfl : args = #[v0, v1] := by cases args; simp_all
  obtain ⟨rfl, rfl⟩ := trodVars_none hV
  have k0 := h0
  have lt0 : ∀ x ∈ p0, x.block < W.heap.size := by obtain ⟨m, hm⟩ := k0; exact DataW.trod_lt m _ _ _ hm
  obtain ⟨f0, A0, c0, rfl, rd0, wf0, hc0⟩ := open_frame (hval 0 25 v0 rfl rfl) h0
  have k1 := h1
  have lt1 : ∀ x ∈ p1, x.block < W.heap.size := by obtain ⟨m, hm⟩ := k1; exact DataW.trod_lt m _ _ _ hm
  obtain ⟨n1, rfl, -, -, wn1⟩ := open_int Try.underlying3 (hval 1 3 v1 rfl rfl) h1
  clear hA0 hval0
  refine (xlWires_walk f0 n1 A0 c0 W wf0.len ⟨wf0.id0, ⟨wf0.sdt0, wf0.sdt1⟩, ⟨wf0.vcid0, wf0.vcid1⟩, ⟨wf0.af0, wf0.af1⟩, wf0.data⟩ rd0).mono fun e W' ⟨he, bel⟩ => ?_
  subst he
  exact ⟨_, rfl, _, _, _, [], _, [], hW', trodAll_mk1 (shut_bool Try.underlying4 _), (trodAll_cons_mk (Below.trod laidOut (by kernel_rfl) (of_decide_eq_true (by kernel_rfl)) k0 bel lt0) (trodAll_cons_mk (Below.trod laidOut (by kernel_rfl) (of_decide_eq_true (by kernel_rfl)) k1 bel lt1) trodAll_mk0)), rfl, bel.frame _, fun h => by cases h⟩
theorem xlWires_holds : Rows.XlWiresSaid :=
  OpenClaim.holds_of_wide 9 Try.f9 rfl rfl rfl rfl rfl rfl rfl ⟨rfl, rfl, rfl, rfl, rfl⟩ rfl rfl rfl rfl rfl (by kernel_rfl) Try.func9 (by kernel_rfl)
    (of_decide_eq_true (by kernel_rfl)) (by unfold Func.isWrapper; rw [if_neg (of_decide_eq_false (by kernel_rfl))]; exact ⟨rfl, rfl⟩)
    (fun os started H enc _ => xlWires_lifted os started H enc)
end Go.Proofs.Ytaknddanggdplaa
