/- Any frame's key, and which of any two wins, are the document's: the law OrderKeys answers true. No condition. -/
import Derived.Test.YtbjeblffmgghgaaLaw10a
import Derived.Test.YtbjeblffmgghgaaRefKey4
namespace Go.Proofs.Ytbjeblffmgghgaa
open Go.RowKit
set_option maxRecDepth 100000 in
set_option maxHeartbeats 2000000 in
theorem keys_walk (f g : Fr) (A B : Option Addr) (c d : Nat) (w : World) (hf : f.data.length ≤ 9223372036854775807) (hg : g.data.length ≤ 9223372036854775807) (h0 : 0 ≤ f.id) (h1 : 0 ≤ g.id) :
    Calls Try.prog 3 #[frv f (.slice A f.data.length c), frv g (.slice B g.data.length d)] w fun e w' => e = .returned (.bool true) ∧ Below w.heap.size w w' := by
  have H1 := fun W => Key_any f A c W hf h0
  have H2 := fun W => KeyR_any f A c W h0
  have H3 := fun W => Compare_any f g A B c d W hf hg h0 h1
  have H4 := fun W => CompareR_any f g A B c d W h0 h1
  unfold errV at H1 H2 H3 H4
  generalize (if okF f = true then keyF f else 0) = kv at *
  generalize (if okF f = true then (0 : Int) else 2) = ev at *
  generalize (if (okF f && okF g) = true then cmpF f g else 0) = cv at *
  generalize (if (okF f && okF g) = true then (0 : Int) else 2) = ev2 at *
  clear h0 h1
  obtain ⟨fk, fi, fe, fr, f4, f5, f6, f7, f8, f9, fd⟩ := f
  obtain ⟨gk, gi, ge, gr, g4, g5, g6, g7, g8, g9, gd⟩ := g
  dsimp only [frv] at *
  generalize fd.length = n at *
  generalize gd.length = m at *
  have HH1 := Lib.hid H1
  have HH2 := Lib.hid H2
  have HH3 := Lib.hid H3
  have HH4 := Lib.hid H4
  clear H1 H2 H3 H4
  by_cases hn : n ≤ 3000 ∧ m ≤ 3000
  · obtain ⟨hn1, hn2⟩ := hn
    go_enter Try.func3, Try.ntmps3
    go_wp2_with fail
    refine calls_blk2 (fun W0 q1 q2 hb => ?_)
    have HB := Lib.hid hb
    obtain ⟨a0, a1, a2, a3, a4, a5, a6, a7, a8, a9, a10⟩ := ext11 q1
    obtain ⟨b0, b1, b2, b3, b4, b5, b6, b7, b8, b9, b10⟩ := ext11 q2
    clear hb q1 q2
    refine (extc_same (alive10 _)).mono ?_
    rintro x _ ⟨e1, rfl, rfl⟩
    go_wp2_with fail
    refine (extc (HH1.out _)).mono ?_
    rintro x _ ⟨e2, rfl, rfl⟩
    go_wp2_with fail
    refine (extc (HH2.out _)).mono ?_
    rintro x _ ⟨e3, rfl, rfl⟩
    go_wp2_with fail
    refine (extc (HH3.out _)).mono ?_
    rintro x _ ⟨e4, rfl, rfl⟩
    go_wp2_with fail
    refine (extc (HH4.out _)).mono ?_
    rintro x _ ⟨e5, rfl, rfl⟩
    go_wp2_with fail
    go_ret
    exact ⟨ret_bool (by simp), ext_end HB.out⟩
  · by_cases hn1 : n ≤ 3000
    · have hm : 3000 < m := by omega
      clear hn
      go_enter Try.func3, Try.ntmps3
      go_wp2_with fail
      refine calls_blk2 (fun W0 q1 q2 hb => ?_)
      have HB := Lib.hid hb
      obtain ⟨a0, a1, a2, a3, a4, a5, a6, a7, a8, a9, a10⟩ := ext11 q1
      obtain ⟨b0, b1, b2, b3, b4, b5, b6, b7, b8, b9, b10⟩ := ext11 q2
      clear hb q1 q2
      refine (extc_same (alive10 _)).mono ?_
      rintro x _ ⟨e1, rfl, rfl⟩
      go_wp2_with fail
      go_ret
      exact ⟨rfl, ext_end HB.out⟩
    · have hm : 3000 < n := by omega
      clear hn hn1
      go_enter Try.func3, Try.ntmps3
      go_wp2_with fail
      refine calls_blk2 (fun W0 q1 q2 hb => ?_)
      have HB := Lib.hid hb
      obtain ⟨a0, a1, a2, a3, a4, a5, a6, a7, a8, a9, a10⟩ := ext11 q1
      obtain ⟨b0, b1, b2, b3, b4, b5, b6, b7, b8, b9, b10⟩ := ext11 q2
      clear hb q1 q2
      refine (extc_same (alive10 _)).mono ?_
      rintro x _ ⟨e1, rfl, rfl⟩
      go_wp2_with fail
      go_ret
      exact ⟨rfl, ext_end HB.out⟩
end Go.Proofs.Ytbjeblffmgghgaa
