/- A frame's key, and which of two wins, by the document's answer: the same as the program's. No condition. -/
import Derived.Test.YtbjeblffmgghgaaRefKey3
namespace Go.Proofs.Ytbjeblffmgghgaa
open Go.RowKit
theorem keyL_bits (f : Fr) : ∀ x ∈ keyL f, x ≤ 1 := by
  have hb : ∀ b : Bool, bitB b ≤ 1 := by intro b; cases b <;> decide
  unfold keyL
  split
  · intro x hx
    simp only [List.mem_append, List.mem_cons, List.not_mem_nil, or_false] at hx
    rcases hx with ((hx | rfl | rfl) | hx) | rfl | rfl | rfl
    · exact bitsN_bit _ _ x hx
    · omega
    · omega
    · exact bitsN_bit _ _ x hx
    · exact hb _
    · omega
    · omega
  · intro x hx
    simp only [List.mem_append, List.mem_cons, List.not_mem_nil, or_false, List.mem_replicate] at hx
    rcases hx with (hx | rfl | rfl | rfl | rfl) | ⟨_, rfl⟩
    · exact bitsN_bit _ _ x hx
    · exact hb _
    · omega
    · exact hb _
    · exact hb _
    · omega
set_option maxRecDepth 100000 in
set_option maxHeartbeats 1000000 in
theorem KeyR_any (f : Fr) (A : Option Addr) (c : Nat) (w : World) (h0 : 0 ≤ f.id) :
    Calls Try.prog 17 #[frv f (.slice A f.data.length c)] w fun e w' => e = .returned (.tuple #[.int .u64 (if okF f then keyF f else 0), errV (okF f)]) ∧ Below w.heap.size w w' := by
  have hc := fun W => CheckR_any f A c W
  have hid : okF f = true → f.id < limF f := by
    unfold okF; intro h; simp at h; exact h.1.1.2
  cases hok : okF f with
  | false =>
    rw [hok] at hc
    clear hid hok
    obtain ⟨kind, id, ext, rtr, brs, esi, sec, sdt, vcid, af, data⟩ := f
    dsimp only [frv] at *
    generalize data.length = n at *
    have HC := Lib.hid hc
    clear hc
    go_enter Try.func17, Try.ntmps17
    go_wp2_with fail
    refine (HC.out _).mono ?_
    rintro e w1 ⟨rfl, hb⟩
    have HB := Lib.hid hb
    clear hb
    simp only [errV]
    go_wp2_with fail
    go_ret2
    exact ⟨rfl, below_trans (below_alloc (Below.refl _ _) _) HB.out⟩
  | true =>
    rw [hok] at hc
    have hlt := hid hok
    have hn := keyL_num f h0 hlt
    have hb := keyL_bits f
    unfold keyL at hn hb
    unfold limF at hlt
    simp only [if_true]
    obtain ⟨kind, id, ext, rtr, brs, esi, sec, sdt, vcid, af, data⟩ := f
    dsimp only [frv] at *
    generalize data.length = n at *
    cases ext
    · simp only [Bool.false_eq_true, if_false] at hn hb hlt
      exact KeyR_short kind id rtr brs esi sec sdt vcid af A n c w h0 hlt _ rfl _ hn hb (Lib.hid hc)
    · simp only [if_true] at hn hb hlt
      exact KeyR_ext kind id rtr brs esi sec sdt vcid af A n c w h0 hlt _ rfl _ hn hb (Lib.hid hc)
set_option maxHeartbeats 1000000 in
theorem CompareR_any (f g : Fr) (A B : Option Addr) (c d : Nat) (w : World) (h0 : 0 ≤ f.id) (h1 : 0 ≤ g.id) :
    Calls Try.prog 19 #[frv f (.slice A f.data.length c), frv g (.slice B g.data.length d)] w fun e w' => e = .returned (.tuple #[.int .i64 (if okF f && okF g then cmpF f g else 0), errV (okF f && okF g)]) ∧ Below w.heap.size w w' := by
  have hkf := fun W => KeyR_any f A c W h0
  have hkg := fun W => KeyR_any g B d W h1
  have hc : cmpF f g = if keyF f < keyF g then -1 else if keyF g < keyF f then 1 else 0 := rfl
  generalize cmpF f g = r at *
  generalize keyF f = kf at *
  generalize keyF g = kg at *
  generalize okF f = kof at *
  generalize okF g = kog at *
  obtain ⟨fk, fi, fe, fr, f4, f5, f6, f7, f8, f9, fd⟩ := f
  obtain ⟨gk, gi, ge, gr, g4, g5, g6, g7, g8, g9, gd⟩ := g
  dsimp only [frv] at *
  have HC := Lib.hid hc
  have HF := Lib.hid hkf
  have HG := Lib.hid hkg
  clear hc hkf hkg h0 h1
  cases kof <;> cases kog
  all_goals
    simp only [errV, Bool.false_eq_true, if_false, if_true, Bool.and_false, Bool.and_true] at HF HG ⊢
    go_enter Try.func19, Try.ntmps19
    go_wp2_with fail
    refine calls_blk2 (fun W0 q1 q2 hb => ?_)
    have HB := Lib.hid hb
    obtain ⟨a0, a1, a2, a3, a4, a5, a6, a7, a8, a9, a10⟩ := ext11 q1
    obtain ⟨b0, b1, b2, b3, b4, b5, b6, b7, b8, b9, b10⟩ := ext11 q2
    clear hb q1 q2
    refine (extc_same (HF.out _)).mono ?_
    rintro x _ ⟨e1, rfl, rfl⟩
    go_wp2_with fail
    refine (extc (HG.out _)).mono ?_
    rintro x _ ⟨e2, rfl, rfl⟩
    go_wp2_with fail
    all_goals
      go_ret2
      exact ⟨by first | rfl | exact ret_fst (by rw [HC.out]; (repeat (first | rw [if_pos (by omega)] | rw [if_neg (by omega)]))), ext_end HB.out⟩
end Go.Proofs.Ytbjeblffmgghgaa
