/- fixed.Get: what a row with fixed stuffing tells. No condition. -/
import Derived.Test.YtlmdkmflbhnlgaaGreatFixed0
import Derived.Test.YtlmdkmflbhnlgaaGreatAppB
import Derived.Test.YtlmdkmflbhnlgaaGreatStuffPut
namespace Go.Proofs.YtlmdkmflbhnlgaaGreat
open Go.RowKit
theorem heap_belowG {B g : Nat} {w w' : World} {o : Obj} (h : Below B w w') (hg : g < B) (ho : w.heap[g]? = some o) : w'.heap[g]? = some o := (h.block g hg).trans ho
/-- What such a row tells: an error's number, and the bits. -/
def fgetE (ev : Nat) : Nat → Nat → Bool → List Nat → List Nat → Int × List Nat
  | _, _, due, out, [] => if due then (7, []) else (0, out)
  | last, left, _, out, b :: r => if left = 0 then (if 1 - last = b then fgetE ev (1 - last) ev true out r else (4, [])) else fgetE ev b (left - 1) false (out ++ [b]) r
def fgetN (ev : Nat) (ah : Bool) (prev : Nat) (l : List Nat) : Int × List Nat := fgetE ev prev (if ah then 0 else ev) false [] l
/-- What fixed.Get answers. -/
def FGetOf (w : World) (r : Int × List Nat) (e : Ending) (w' : World) : Prop :=
  ((r.1 = 0 ∧ ∃ A' c', e = .returned (.tuple #[.slice A' r.2.length c', .int .i64 0]) ∧ Row w' w.heap.size 5 A' c' (bys r.2)) ∨ (r.1 ≠ 0 ∧ e = .returned (.tuple #[.slice none 0 0, .int .i64 r.1]))) ∧ Below w.heap.size w w'
set_option maxRecDepth 100000 in
set_option maxHeartbeats 4000000 in
theorem FGet_any (w : World) (A : Option Addr) (prev ev c n : Nat) (ah : Bool) (l : List Nat) (h1 : 1 ≤ ev) (h2 : ev ≤ 64) (hp : prev ≤ 1) (hr : Rd w A (bys l)) (hn : l.length = n) (hn2 : n ≤ 65536) (h01 : ∀ x ∈ l, x ≤ 1) :
    Calls Tryz.prog 128 #[.int .u8 prev, .slice A n c, wayV ev ah] w (FGetOf w (fgetN ev ah prev l)) := by
  obtain ⟨i0, hi, hz0, hz1, hz2⟩ := info_parts info_u8
  have HC := Lib.hid (fun W (hW : Rd W A (bys l)) => fcheck_any prev ev n c ah A l W h1 h2 hp hW hn (by omega) h01)
  have HR := Lib.hid hr
  have HN := Lib.hid hn
  have H01 := Lib.hid h01
  obtain ⟨F, hF⟩ : ∃ F, fgetN ev ah prev l = F := ⟨_, rfl⟩
  rw [hF]
  have HF0 : Hid (fgetE ev prev (if ah then 0 else ev) false [] (l.drop 0) = F) := hF
  clear hr hn h01 hF
  go_enter Tryz.func128, Tryz.ntmps128
  go_wp2_with fail
  refine calls_name (T := fun W1 => W1.heap[w.heap.size]? = some (.cells #[.int .i64 ev, .bool ah] 99) ∧ Below w.heap.size w W1) ⟨heap_new_at rfl, below_alloc (Below.refl _ _) _⟩ ?_
  rintro W1 ⟨q1, hb1⟩
  have a0 := fun e : Ext W1 => ext_cell (cell_of_heap q1 0 _ rfl) e
  have a1 : ∀ e : Ext W1, e.W.cell? ⟨w.heap.size, 1, none⟩ = some (.bool ah) := fun e => ext_cell (cell_of_heap q1 1 _ rfl) e
  have hsz := ext_lt q1
  have HB1 := Lib.hid hb1
  clear q1 hb1
  refine (extc_same (HC.out _ (HR.out.below HB1.out))).mono ?_
  rintro x _ ⟨e2, rfl, rfl⟩
  go_wp2_with fail
  refine (begin_any ev prev ah e2.W).mono ?_
  rintro x W2 ⟨rfl, hline, hsz2, hb2⟩
  obtain ⟨g, hg⟩ : ∃ g, e2.W.heap.size + 1 = g := ⟨_, rfl⟩
  rw [hg] at hline hsz2
  rw [hg]
  have hwg : w.heap.size ≤ g := by have := hsz e2; omega
  have HL3 := Lib.hid hline
  have HB3 : Hid (Below w.heap.size w W2) := HB1.out.trans ((e2.below.mono (by exact HB1.out.size)).trans (hb2.mono (by have := hsz e2; omega)))
  clear hline hb2 a0 a1 hsz hg
  have hleft : (if ah then 0 else ev) ≤ ev := by split <;> omega
  go_wp2_with fail
  go_loopw [9, 10, 23] (fun v dv iv wr => ∃ (k last left q : Nat) (due : Bool) (A' : Option Addr) (c' : Nat) (out : List Nat), k ≤ n ∧ iv = .int .i64 k ∧ v = .slice A' q c' ∧ dv = .bool due ∧ Hid (out.length = q) ∧ left ≤ ev ∧ last ≤ 1 ∧ q ≤ k ∧ Hid (fgetE ev last left due out (l.drop k) = F) ∧ Hid (Row wr (g + 1) 5 A' c' (bys out)) ∧ Hid (wr.heap[g]? = some (lineC ev ah last left)) ∧ Hid (Below w.heap.size w wr)) (fun _ _ iv _ => n - (intOf iv).toNat)
  case atStart => exact ⟨0, prev, (if ah then 0 else ev), 0, false, none, 0, [], by omega, rfl, rfl, rfl, rfl, hleft, hp, by omega, HF0, Row.nil _ _ _, HL3, HB3⟩
  case round =>
    obtain ⟨k, last, left, q, due, A', c', out, hk, rfl, rfl, rfl, HQL, hlev, hl1, hqk, HM, HQ, HL, HW⟩ := hrel
    by_cases hkn : k < n
    · have hkl : k < l.length := by rw [HN.out]; exact hkn
      obtain ⟨ad, rfl, ca⟩ := (HR.out.below HW.out).at_ k hkl
      have hx := H01.out l[k] (List.getElem_mem hkl)
      have hd : l.drop k = l[k] :: l.drop (k + 1) := List.drop_eq_getElem_cons hkl
      obtain ⟨x, hxe⟩ : ∃ x, l[k] = x := ⟨_, rfl⟩
      rw [hxe] at ca hx hd
      have hm := HM.out
      rw [hd] at hm
      have hgw : g < wr.heap.size := heap_lt HL.out
      have hge : ∀ ad, A' = some ad → ad.block ≠ g := fun ad e => by have := HQ.out.ge ad e; omega
      have HDUE := Lib.hid (due_any g ev last left ah wr HL.out)
      clear hd hxe
      by_cases h0 : left = 0
      · subst h0
        rw [fgetE, if_pos rfl] at hm
        have HSTF := Lib.hid (lineStuff_any g ev last 0 ah wr HL.out hl1)
        obtain ⟨y, hy⟩ : ∃ y, 1 - last = y := ⟨_, rfl⟩
        rw [hy] at hm HSTF
        have hy1 : y ≤ 1 := by omega
        clear hy
        by_cases hyx : y = x
        · subst hyx
          rw [if_pos rfl] at hm
          have HST := Lib.hid hm
          clear hm
          go_wp2_with fail
          refine HDUE.out.mono ?_
          rintro e _ ⟨rfl, rfl⟩
          go_wp2_with fail
          refine HSTF.out.mono ?_
          rintro e w4 ⟨rfl, hl4, ht4⟩
          have HL4 := Lib.hid hl4
          have HQ4 := Lib.hid (HQ.out.touch ht4 hge)
          have HW4 := Lib.hid (HW.out.trans (ht4.below hwg hwg (by omega)))
          clear hl4 ht4
          go_wp2_with fail
          go_roundw
          case rel => exact ⟨k + 1, y, ev, q, true, A', c', out, by omega, by go_num, rfl, by first | rfl | simp, HQL, by omega, hy1, by omega, HST, HQ4, HL4, HW4⟩
          case measure => simp [intOf]; omega
        · rw [if_neg hyx] at hm
          have HST := Lib.hid hm
          clear hm
          go_wp2_with fail
          refine HDUE.out.mono ?_
          rintro e _ ⟨rfl, rfl⟩
          go_wp2_with fail
          refine HSTF.out.mono ?_
          rintro e w4 ⟨rfl, hl4, ht4⟩
          have HW4 := Lib.hid (HW.out.trans (ht4.below hwg hwg (by omega)))
          clear hl4 ht4
          go_wp2_with fail
          go_ret2
          rw [← HST.out]
          exact ⟨.inr ⟨by decide, rfl⟩, HW4.out⟩
      · rw [fgetE, if_neg h0] at hm
        have HST := Lib.hid hm
        have HSEE := Lib.hid (lineSee_any g ev last left x ah wr HL.out (by omega) (by omega))
        have hdue := HDUE.out
        rw [decide_eq_false h0] at hdue
        have HDU2 := Lib.hid hdue
        clear hdue hm
        go_wp2_with fail
        refine HDU2.out.mono ?_
        rintro e _ ⟨rfl, rfl⟩
        go_wp2_with fail
        refine HSEE.out.mono ?_
        rintro e w6 ⟨rfl, hl6, ht6⟩
        have HL6 := Lib.hid hl6
        have HQ6 := Lib.hid (HQ.out.touch ht6 hge)
        have HW6 := Lib.hid (HW.out.trans (ht6.below hwg hwg (by omega)))
        have hgw6 : g < w6.heap.size := heap_lt hl6
        clear hl6 ht6
        go_wp2_with (at_builtin; refine wpList_appB (W := _) rfl (.tmp 34) (.tmp 36) 22 rfl (g + 1) 5 i0 _ 1 Tryz.underlying22 hi hz0 hz1 hz2 rfl A' q c' (bys out) rfl (by rw [bys_length]; exact HQL.out) (HQ6.out.alloc _) _ 1 1 (bys [x]) rfl rfl (Rd.blk (heap_new_at rfl)) (bys_one _) (by intro h; cases h) (q + 1) (by omega) (by unfold maxLen; omega) (by omega) (by simp; omega) ?_; intro w7 A7 c7 HO7 HB7)
        go_roundw
        case rel =>
          have ho7 := HO7.out
          rw [← bys_append] at ho7
          refine ⟨k + 1, x, left - 1, q + 1, false, A7, c7, out ++ [x], by omega, by go_num, rfl, by first | rfl | simp, by show _ = _; rw [List.length_append, HQL.out]; rfl, by omega, hx, by omega, HST, ho7, heap_belowG HB7.out (by omega) (heap_push HL6.out), (below_alloc HW6.out _).trans (HB7.out.mono (by omega))⟩
        case measure => simp [intOf]; omega
    · obtain rfl : n = k := by omega
      have hm := HM.out
      rw [← HN.out, List.drop_length, fgetE] at hm
      cases due
      · simp only [Bool.false_eq_true, if_false] at hm
        have HST := Lib.hid hm
        clear hm
        go_wp2_with fail
        go_ret2
        rw [← HST.out]
        exact ⟨.inl ⟨rfl, A', c', by rw [HQL.out]; rfl, HQ.out.mono (by omega)⟩, HW.out⟩
      · simp only [if_true] at hm
        have HST := Lib.hid hm
        clear hm
        go_wp2_with fail
        go_ret2
        rw [← HST.out]
        exact ⟨.inr ⟨by decide, rfl⟩, HW.out⟩
end Go.Proofs.YtlmdkmflbhnlgaaGreat
