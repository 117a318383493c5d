/- Who wins the one way loses the other; of three it goes on; the same key is of the same kind and identifier: the law OrderTurns answers true. No condition. -/
import Derived.Test.YtbjeblffmgghgaaLaw10a
import Derived.Test.YtbjeblffmgghgaaPlain10
namespace Go.Proofs.Ytbjeblffmgghgaa
open Go.RowKit
theorem cmpI_neg (a b : Int) : cmpI a b = - cmpI b a := by unfold cmpI; (repeat' split) <;> omega
theorem cmpI_range (a b : Int) : -1 ≤ cmpI a b ∧ cmpI a b ≤ 1 := by unfold cmpI; (repeat' split) <;> omega
theorem cmpI_le (a b : Int) : cmpI a b ≤ 0 ↔ a ≤ b := by unfold cmpI; (repeat' split) <;> omega
theorem cmpI_zero (a b : Int) : cmpI a b = 0 ↔ a = b := by unfold cmpI; (repeat' split) <;> omega
theorem turns_plain (f g h : Fr) : cmpF f g ≤ 0 → cmpF g h ≤ 0 → cmpF f h ≤ 0 := by
  unfold cmpF
  rw [cmpI_le, cmpI_le, cmpI_le]
  omega
set_option maxRecDepth 100000 in
set_option maxHeartbeats 4000000 in
theorem turns_walk (f g h : Fr) (A B C : Option Addr) (c d e0 : Nat) (w : World) (hf : f.data.length ≤ 9223372036854775807) (hg : g.data.length ≤ 9223372036854775807) (hh : h.data.length ≤ 9223372036854775807)
    (h0 : 0 ≤ f.id) (h1 : 0 ≤ g.id) (h2 : 0 ≤ h.id) :
    Calls Try.prog 4 #[frv f (.slice A f.data.length c), frv g (.slice B g.data.length d), frv h (.slice C h.data.length e0)] w fun e w' => e = .returned (.bool true) ∧ Below w.heap.size w w' := by
  have HT := Lib.hid (turns_plain f g h)
  have HS := Lib.hid (fun hf hg hz => key_same f g ((okF_iff f).1 hf) ((okF_iff g).1 hg) h0 h1 ((cmpI_zero _ _).1 hz))
  have H1 := fun W => Compare_any f g A B c d W hf hg h0 h1
  have H2 := fun W => Compare_any g f B A d c W hg hf h1 h0
  have H3 := fun W => Compare_any g h B C d e0 W hg hh h1 h2
  have H4 := fun W => Compare_any f h A C c e0 W hf hh h0 h2
  have hneg : cmpF g f = - cmpF f g := cmpI_neg _ _
  have hr := cmpI_range (keyF f) (keyF g)
  change _ ≤ cmpF f g ∧ cmpF f g ≤ _ at hr
  obtain ⟨r1, r2⟩ := hr
  change Hid (cmpF f g ≤ 0 → cmpF g h ≤ 0 → cmpF f h ≤ 0) at HT
  change Hid (okF f = true → okF g = true → cmpF f g = 0 → _) at HS
  rw [hneg] at H2
  generalize cmpF f g = x at *
  generalize cmpF g h = y at *
  generalize cmpF f h = z at *
  generalize okF f = kf at *
  generalize okF g = kg at *
  generalize okF h = kh at *
  clear hf hg hh h0 h1 h2 hneg
  obtain ⟨fk, fi, fe, fr, f4, f5, f6, f7, f8, f9, fd⟩ := f
  obtain ⟨gk, gi, ge, gr, g4, g5, g6, g7, g8, g9, gd⟩ := g
  obtain ⟨hk, hi, he, hr, h4, h5, h6, h7, h8, h9, hd⟩ := h
  dsimp only [frv] at *
  have H1 := Lib.hid H1
  have H2 := Lib.hid H2
  have H3 := Lib.hid H3
  have H4 := Lib.hid H4
  rename_i H1' H2' H3' H4'
  clear H1' H2' H3' H4'
  cases kf <;> cases kg <;> cases kh
  all_goals
    simp only [errV, Bool.false_eq_true, if_false, if_true, Bool.and_false, Bool.and_true] at H1 H2 H3 H4
    go_enter Try.func4, Try.ntmps4
    go_wp2_with fail
    refine calls_blk3 (fun W0 q1 q2 q3 hb => ?_)
    have HB := Lib.hid hb
    obtain ⟨a0, a1, a2, a3, a4, a5, a6, a7, a8, a9, a10⟩ := ext11 q1
    obtain ⟨b0, b1, b2, b3, b4, b5, b6, b7, b8, b9, b10⟩ := ext11 q2
    obtain ⟨c0, c1, c2, c3, c4, c5, c6, c7, c8, c9, c10⟩ := ext11 q3
    clear hb q1 q2 q3
    refine (extc_same (alive10 _)).mono ?_
    rintro x _ ⟨e1, rfl, rfl⟩
    go_wp2_with fail
    refine (extc (H1.out _)).mono ?_
    rintro x _ ⟨e2, rfl, rfl⟩
    go_wp2_with fail
    refine (extc (H2.out _)).mono ?_
    rintro x _ ⟨e3, rfl, rfl⟩
    go_wp2_with fail
    refine (extc (H3.out _)).mono ?_
    rintro x _ ⟨e4, rfl, rfl⟩
    go_wp2_with fail
    refine (extc (H4.out _)).mono ?_
    rintro x _ ⟨e5, rfl, rfl⟩
    go_wp2_with fail
    all_goals
      go_ret
      first
        | exact ⟨rfl, ext_end HB.out⟩
        | (refine ⟨ret_bool ?_, ext_end HB.out⟩
           have hs := HS.out (by trivial) (by trivial)
           have ht := HT.out
           clear HS HT H1 H2 H3 H4
           first
             | (simp; first | omega | (apply ht <;> omega))
             | (exfalso
                have hs' := hs (by omega)
                clear ht hs
                simp_all))
end Go.Proofs.Ytbjeblffmgghgaa
