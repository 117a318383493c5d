/- container/heap's Push and Pop over the entries of layer 10. No condition. -/
import Derived.Test.YtbjeblffmgghgaaHeap3
namespace Go.Proofs.Ytbjeblffmgghgaa
open Go.RowKit
def HeapOf (w : World) (base b : Nat) (l : List En) : Prop := (∃ g cap, HeapS w base b g cap l) ∧ IsHeapTo l l.length
/-- What heap.Push leaves. -/
def PushedTo (w w' : World) (base b : Nat) (l : List En) (x : En) : Prop := ∃ l', HeapOf w' base b l' ∧ l'.Perm (l ++ [x]) ∧ Below base w w'
set_option maxRecDepth 100000 in
set_option maxHeartbeats 4000000 in
theorem HPush_any (w : World) (base b n : Nat) (l : List En) (x1 x2 : Int) (h : HeapOf w base b l) (hn : l.length = n) (hc : n < 1000) (hb : base ≤ w.heap.size) :
    Calls Try.prog 85 #[.iface 85 (.pointer (some ⟨b, 0, none⟩)), .iface 90 (.agg #[.int .u64 x1, .int .i64 x2])] w fun e w' => e = .returned (.tuple #[]) ∧ PushedTo w w' base b l (x1, x2) := by
  obtain ⟨⟨g, cap, hs⟩, hh⟩ := h
  have HP := Lib.hid (Push_any w base b g cap n l x1 x2 hs hn (by omega) hb)
  have HU := Lib.hid (up_start hh (x1, x2))
  have HB := Lib.hid hb
  have HN := Lib.hid hn
  have mP := meth_Push (some ⟨b, 0, none⟩)
  clear hs hh hn hb
  go_enter Try.func85, Try.ntmps85
  go_wp2_with fail
  refine HP.out.mono ?_
  rintro x w2 ⟨rfl, ⟨g2, cap2, h2⟩, hb2⟩
  have hl : (l ++ [(x1, x2)]).length = n + 1 := by rw [List.length_append, HN.out]; rfl
  have mL := meth_Len h2
  rw [hl] at mL
  have HL := Lib.hid (Len_any (some ⟨g2, 0, none⟩) (n + 1) cap2 w2)
  have HB2 := Lib.hid hb2
  have HX := Lib.hid (up_any w2 base b g2 cap2 n (l ++ [(x1, x2)]) h2 (by rw [hl]; omega) (by rw [hl]; omega) (by have := HU.out; rw [HN.out] at this; exact this) (Nat.le_trans HB.out hb2.size))
  clear h2 hb2 hl
  go_wp2_with fail
  refine HL.out.mono ?_
  rintro x _ ⟨rfl, rfl⟩
  go_wp2_with fail
  refine HX.out.mono ?_
  rintro x w3 ⟨rfl, ⟨l3, h3, p3, i3⟩, hb3⟩
  have HE : Hid (PushedTo w w3 base b l (x1, x2)) := ⟨l3, ⟨⟨_, _, h3⟩, i3⟩, p3, HB2.out.trans hb3⟩
  clear h3 p3 i3 hb3
  go_wp2_with fail
  go_end0
  exact ⟨rfl, HE.out⟩
/-- What heap.Pop answers and leaves. -/
def PoppedOf (e : Ending) (w w' : World) (base b g cap : Nat) (l : List En) : Prop :=
  ∃ l', e = .returned (.iface 90 (.agg #[.int .u64 (at_ l 0).1, .int .i64 (at_ l 0).2])) ∧ HeapS w' base b g cap l' ∧ IsHeapTo l' l'.length ∧ l.Perm (at_ l 0 :: l') ∧ (∀ y ∈ l', leE (at_ l 0) y) ∧ Touch b g w w'
set_option maxRecDepth 100000 in
set_option maxHeartbeats 4000000 in
theorem HPop_any (w : World) (base b g cap n : Nat) (l : List En) (hs : HeapS w base b g cap l) (hh : IsHeapTo l l.length) (hn : l.length = n + 1) (hc : n < 1000) :
    Calls Try.prog 54 #[.iface 85 (.pointer (some ⟨b, 0, none⟩))] w fun e w' => PoppedOf e w w' base b g cap l := by
  have mL := meth_Len hs
  have mS := meth_Swap hs
  rw [hn] at mL mS
  have HL := Lib.hid (Len_any (some ⟨g, 0, none⟩) (n + 1) cap w)
  have HS := Lib.hid (Swap_any w base b g cap l 0 n hs (by omega) (by omega))
  have HD := Lib.hid (down_start hh hn)
  have HH := Lib.hid hh
  have HN := Lib.hid hn
  rw [hn] at HS
  clear hs hh hn
  go_enter Try.func54, Try.ntmps54
  go_wp2_with fail
  refine HL.out.mono ?_
  rintro x _ ⟨rfl, rfl⟩
  go_wp2_with fail
  refine HS.out.mono ?_
  rintro x w2 ⟨rfl, h2, hb2⟩
  have HB2 := Lib.hid hb2
  have HX := Lib.hid (down_any w2 base b g cap 0 n (sw l 0 n) h2 (by rw [sw_length, HN.out]; omega) (by rw [sw_length, HN.out]; omega) HD.out (by omega))
  clear h2 hb2 mL mS
  go_wp2_with fail
  refine HX.out.mono ?_
  rintro x w3 ⟨⟨r, rfl⟩, l3, h3, p3, i3, k3, hb3⟩
  have hl3 : l3.length = n + 1 := by rw [p3.length_eq, sw_length, HN.out]
  have HP := Lib.hid (Pop_any w3 base b g cap n l3 h3 hl3 (by rw [hl3]; omega))
  obtain ⟨q1, q2, q3, q4⟩ := pop_plain HH.out HN.out p3 i3 (k3 n (Nat.le_refl n))
  rw [q2] at HP q1 q4
  have HQ1 := Lib.hid q1
  have HQ3 := Lib.hid q3
  have HQ4 := Lib.hid q4
  have HB3 := Lib.hid hb3
  have mP := meth_Pop (some ⟨b, 0, none⟩)
  clear h3 p3 i3 k3 hb3 q1 q2 q3 q4 hl3
  go_wp2_with fail
  refine HP.out.mono ?_
  rintro x w4 ⟨rfl, h4, hb4⟩
  have HE : Hid (PoppedOf (.returned (.iface 90 (.agg #[.int .u64 (at_ l 0).1, .int .i64 (at_ l 0).2]))) w w4 base b g cap l) := ⟨l3.take n, rfl, h4, HQ3.out, HQ1.out, HQ4.out, (HB2.out.trans HB3.out).trans hb4⟩
  clear h4 hb4
  go_wp2_with fail
  go_ret
  exact HE.out
end Go.Proofs.Ytbjeblffmgghgaa
