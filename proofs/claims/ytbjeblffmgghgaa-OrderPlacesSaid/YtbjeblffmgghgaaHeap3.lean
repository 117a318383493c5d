/- container/heap over the entries of layer 10. No condition. -/
import Derived.Test.YtbjeblffmgghgaaHeap2
import Derived.Handy
namespace Go.Proofs.Ytbjeblffmgghgaa
open Go.RowKit
theorem meth_Less {w : World} {base b g cap : Nat} {l : List En} (h : HeapS w base b g cap l) :
    Sem.run Try.prog (method 341 85 (.pointer (some ⟨b, 0, none⟩)) "Less") w = .ok (158, .slice (some ⟨g, 0, none⟩) l.length cap) w := by
  have e : Sem.run Try.prog (method 341 85 (.pointer (some ⟨b, 0, none⟩)) "Less") w = Sem.run Try.prog (do let v ← load ⟨b, 0, none⟩; pure (158, v)) w := by kernel_rfl
  have c0 : w.cell? ⟨b, 0, none⟩ = some (.slice (some ⟨g, 0, none⟩) l.length cap) := cell_of_heap h.box 0 _ rfl
  rw [e]
  simp [run_load, c0]
theorem meth_Swap {w : World} {base b g cap : Nat} {l : List En} (h : HeapS w base b g cap l) :
    Sem.run Try.prog (method 341 85 (.pointer (some ⟨b, 0, none⟩)) "Swap") w = .ok (161, .slice (some ⟨g, 0, none⟩) l.length cap) w := by
  have e : Sem.run Try.prog (method 341 85 (.pointer (some ⟨b, 0, none⟩)) "Swap") w = Sem.run Try.prog (do let v ← load ⟨b, 0, none⟩; pure (161, v)) w := by kernel_rfl
  have c0 : w.cell? ⟨b, 0, none⟩ = some (.slice (some ⟨g, 0, none⟩) l.length cap) := cell_of_heap h.box 0 _ rfl
  rw [e]
  simp [run_load, c0]
theorem meth_Len {w : World} {base b g cap : Nat} {l : List En} (h : HeapS w base b g cap l) :
    Sem.run Try.prog (method 341 85 (.pointer (some ⟨b, 0, none⟩)) "Len") w = .ok (53, .slice (some ⟨g, 0, none⟩) l.length cap) w := by
  have e : Sem.run Try.prog (method 341 85 (.pointer (some ⟨b, 0, none⟩)) "Len") w = Sem.run Try.prog (do let v ← load ⟨b, 0, none⟩; pure (53, v)) w := by kernel_rfl
  have c0 : w.cell? ⟨b, 0, none⟩ = some (.slice (some ⟨g, 0, none⟩) l.length cap) := cell_of_heap h.box 0 _ rfl
  rw [e]
  simp [run_load, c0]
theorem meth_Push (a : Option Addr) (w : World) : Sem.run Try.prog (method 341 85 (.pointer a) "Push") w = .ok (160, .pointer a) w := by kernel_rfl
theorem meth_Pop (a : Option Addr) (w : World) : Sem.run Try.prog (method 341 85 (.pointer a) "Pop") w = .ok (159, .pointer a) w := by kernel_rfl
set_option maxRecDepth 100000 in
set_option maxHeartbeats 4000000 in
theorem up_any (w : World) (base b g cap j : Nat) (l : List En) (h : HeapS w base b g cap l) (hj : j < l.length) (hc : l.length ≤ 1000) (hi : UpI l j) (hb : base ≤ w.heap.size) :
    Calls Try.prog 116 #[.iface 85 (.pointer (some ⟨b, 0, none⟩)), .int .i64 j] w fun e w' => e = .returned (.tuple #[]) ∧ (∃ l', HeapS w' base b g cap l' ∧ l'.Perm l ∧ IsHeapTo l' l'.length) ∧ Below base w w' := by
  have HH := Lib.hid h
  have HI := Lib.hid hi
  have HB := Lib.hid hb
  obtain ⟨n, hn⟩ : ∃ n, l.length = n := ⟨_, rfl⟩
  rw [hn] at hj hc
  have HN := Lib.hid hn
  clear h hi hb hn
  go_enter Try.func116, Try.ntmps116
  go_wp2_with fail
  go_loopw [1] (fun v wr => ∃ (k : Nat) (l' : List En), k < n ∧ v = .int .i64 k ∧ Hid (HeapS wr base b g cap l') ∧ Hid (l'.length = n) ∧ Hid (l'.Perm l) ∧ Hid (UpI l' k) ∧ Hid (Below base w wr)) (fun v _ => (intOf v).toNat)
  case atStart => exact ⟨j, l, hj, rfl, HH, HN, List.Perm.refl _, HI, Below.refl _ _⟩
  case round =>
    obtain ⟨k, l', hk, rfl, H1, H2, H3, H4, H5⟩ := hrel
    by_cases hk0 : k = 0
    · subst hk0
      have e0 : Int.tdiv (((0 : Nat) : Int) - 1) 2 = 0 := by decide
      go_wp2_with fail
      go_end0
      exact ⟨rfl, ⟨l', H1.out, H3.out, up_stop H4.out (Or.inl rfl)⟩, H5.out⟩
    · obtain ⟨i, hi⟩ : ∃ i, i = (k - 1) / 2 := ⟨_, rfl⟩
      have hik : i < k := by omega
      have hq : Int.tdiv ((k : Int) - 1) 2 = (i : Int) := by
        rw [Int.tdiv_eq_ediv_of_nonneg (by omega)]; omega
      have hne : ¬ (i : Int) = (k : Int) := by omega
      have mL := meth_Less H1.out
      rw [H2.out] at mL
      have HL := Lib.hid (Less_any wr base b g cap l' k i H1.out (by rw [H2.out]; exact hk) (by rw [H2.out]; omega))
      have HI := Lib.hid hi
      clear hi
      obtain ⟨t, ht⟩ : ∃ t, ltE (at_ l' k) (at_ l' i) = t := ⟨_, rfl⟩
      rw [ht, H2.out] at HL
      have HT := Lib.hid ht
      clear ht
      cases t
      · go_wp2_with fail
        refine HL.out.mono ?_
        rintro x w2 ⟨rfl, hb2⟩
        go_wp2_with fail
        go_end0
        exact ⟨rfl, ⟨l', H1.out.below hb2, H3.out, up_stop H4.out (Or.inr (by rw [← HI.out]; exact HT.out))⟩, below_then H5.out (Nat.le_trans HB.out H5.out.size) hb2⟩
      · go_wp2_with fail
        refine HL.out.mono ?_
        rintro x w2 ⟨rfl, hb2⟩
        have h2 := H1.out.below hb2
        have mS := meth_Swap h2
        rw [H2.out] at mS
        have HS := Lib.hid (Swap_any w2 base b g cap l' i k h2 (by rw [H2.out]; omega) (by rw [H2.out]; exact hk))
        rw [H2.out] at HS
        have HB2 := Lib.hid hb2
        clear h2 hb2
        go_wp2_with fail
        refine HS.out.mono ?_
        rintro x w3 ⟨rfl, h3, hb3⟩
        have HB3 : Hid (Below base w w3) := (below_then H5.out (Nat.le_trans HB.out H5.out.size) HB2.out).trans (hb3.below H1.out.lob H1.out.log (Nat.le_trans (Nat.le_trans HB.out H5.out.size) HB2.out.size))
        have H3' := Lib.hid h3
        clear h3 hb3
        go_wp2_with fail
        go_roundw
        case rel =>
          have hi := HI.out
          have hu : UpI (sw l' i k) i := by rw [hi]; exact up_step H4.out (by rw [H2.out]; exact hk) (by omega) (by rw [← hi]; exact HT.out)
          exact ⟨i, sw l' i k, by omega, rfl, H3', by show _ = _; rw [sw_length]; exact H2.out, (sw_perm (by rw [H2.out]; omega) (by rw [H2.out]; exact hk)).trans H3.out, hu, HB3⟩
        case measure => simp [intOf]; omega
theorem min_child {l : List En} {k j n : Nat} (hj : j = 2 * k + 1 ∨ j = 2 * k + 2) (h1 : j = 2 * k + 2 → leE (at_ l (2 * k + 2)) (at_ l (2 * k + 1))) (h2 : j = 2 * k + 1 → 2 * k + 2 < n → leE (at_ l (2 * k + 1)) (at_ l (2 * k + 2))) :
    ∀ c, 0 < c → c < n → (c - 1) / 2 = k → leE (at_ l j) (at_ l c) := by
  intro c c0 cn cp
  have hc : c = 2 * k + 1 ∨ c = 2 * k + 2 := by omega
  rcases hj with rfl | rfl <;> rcases hc with rfl | rfl
  · exact leE_refl _
  · exact h2 rfl cn
  · exact h1 rfl
  · exact leE_refl _
/-- What heap.down leaves. -/
def Downed (w w' : World) (base b g cap n : Nat) (l : List En) : Prop := ∃ l', HeapS w' base b g cap l' ∧ l'.Perm l ∧ IsHeapTo l' n ∧ (∀ k, n ≤ k → at_ l' k = at_ l k) ∧ Touch b g w w'
set_option maxRecDepth 100000 in
set_option maxHeartbeats 8000000 in
theorem down_any (w : World) (base b g cap i0 n : Nat) (l : List En) (h : HeapS w base b g cap l) (hn : n ≤ l.length) (hc : l.length ≤ 1000) (hi : DownI l i0 n) (hi0 : i0 ≤ 1000) :
    Calls Try.prog 86 #[.iface 85 (.pointer (some ⟨b, 0, none⟩)), .int .i64 i0, .int .i64 n] w fun e w' => (∃ r, e = .returned (.bool r)) ∧ Downed w w' base b g cap n l := by
  have HH := Lib.hid h
  have HI := Lib.hid hi
  obtain ⟨m, hm⟩ : ∃ m, l.length = m := ⟨_, rfl⟩
  rw [hm] at hn hc
  have HN := Lib.hid hm
  clear h hi hm
  go_enter Try.func86, Try.ntmps86
  go_wp2_with fail
  go_loopw [7] (fun v wr => ∃ (k : Nat) (l' : List En), k ≤ 1000 ∧ v = .int .i64 k ∧ Hid (HeapS wr base b g cap l') ∧ Hid (l'.length = m) ∧ Hid (l'.Perm l) ∧ Hid (DownI l' k n) ∧ Hid (∀ x, n ≤ x → at_ l' x = at_ l x) ∧ Hid (Touch b g w wr)) (fun v _ => 1000 - (intOf v).toNat)
  case atStart => exact ⟨i0, l, hi0, rfl, HH, HN, List.Perm.refl _, HI, fun _ _ => rfl, Touch.refl _ _ _⟩
  case round =>
    obtain ⟨k, l', hk, rfl, H1, H2, H3, H4, H5, H6⟩ := hrel
    by_cases c1 : 2 * k + 1 < n
    · have g1 : decide ((n : Int) ≤ 2 * (k : Int) + 1) = false := decide_eq_false (by omega)
      have hkn : k < n := by omega
      have mL := meth_Less H1.out
      rw [H2.out] at mL
      by_cases c2 : 2 * k + 2 < n
      · have g2 : (2 * (k : Int) + 1) + 1 < (n : Int) := by omega
        have HLa := Lib.hid (Less_any wr base b g cap l' (2 * k + 2) (2 * k + 1) H1.out (by rw [H2.out]; omega) (by rw [H2.out]; omega))
        obtain ⟨t1, ht1⟩ : ∃ t, ltE (at_ l' (2 * k + 2)) (at_ l' (2 * k + 1)) = t := ⟨_, rfl⟩
        rw [ht1, H2.out] at HLa
        have HT1 := Lib.hid ht1
        clear ht1
        go_wp2_with fail
        refine HLa.out.mono ?_
        rintro x w3 ⟨rfl, hb3⟩
        have H1b := Lib.hid (H1.out.below hb3)
        have HB3 : Hid (Touch b g w w3) := H6.out.trans (.of hb3)
        have mL3 := meth_Less H1b.out
        rw [H2.out] at mL3
        clear hb3 mL
        cases t1
        · have HLb := Lib.hid (Less_any w3 base b g cap l' (2 * k + 1) k H1b.out (by rw [H2.out]; omega) (by rw [H2.out]; omega))
          obtain ⟨t, ht⟩ : ∃ t, ltE (at_ l' (2 * k + 1)) (at_ l' k) = t := ⟨_, rfl⟩
          rw [ht, H2.out] at HLb
          have HT := Lib.hid ht
          clear ht
          have HM := Lib.hid (min_child (l := l') (k := k) (j := 2 * k + 1) (n := n) (Or.inl rfl) (fun e => absurd e (by omega)) (fun _ _ => leE_of_not HT1.out))
          cases t
          · go_wp2_with fail
            refine HLb.out.mono ?_
            rintro x w4 ⟨rfl, hb4⟩
            go_wp2_with fail
            go_ret
            exact ⟨⟨_, rfl⟩, l', (H1b.out).below hb4, H3.out, down_stop H4.out (fun c c0 cn cp => leE_trans (leE_of_not HT.out) (HM.out c c0 cn cp)), H5.out, HB3.out.trans (.of hb4)⟩
          · go_wp2_with fail
            refine HLb.out.mono ?_
            rintro x w4 ⟨rfl, hb4⟩
            have h4 := (H1b.out).below hb4
            have HB4 : Hid (Touch b g w w4) := HB3.out.trans (.of hb4)
            have mS := meth_Swap h4
            rw [H2.out] at mS
            have HS := Lib.hid (Swap_any w4 base b g cap l' k (2 * k + 1) h4 (by rw [H2.out]; omega) (by rw [H2.out]; omega))
            rw [H2.out] at HS
            clear h4 hb4
            go_wp2_with fail
            refine HS.out.mono ?_
            rintro x w5 ⟨rfl, h5, hb5⟩
            have HB5 : Hid (Touch b g w w5) := HB4.out.trans hb5
            have H1' := Lib.hid h5
            clear h5 hb5
            go_wp2_with fail
            go_roundw
            case rel =>
              have hu : DownI (sw l' k (2 * k + 1)) (2 * k + 1) n := down_step H4.out (by rw [H2.out]; omega) (by omega) (by omega) (by omega) HM.out HT.out
              refine ⟨2 * k + 1, sw l' k (2 * k + 1), by omega, by go_num, H1', ?_, (sw_perm (by rw [H2.out]; omega) (by rw [H2.out]; omega)).trans H3.out, hu, ?_, HB5⟩
              · show _ = _; rw [sw_length]; exact H2.out
              · intro x hx; rw [at_sw (by rw [H2.out]; omega) (by rw [H2.out]; omega), if_neg (by omega), if_neg (by omega)]; exact H5.out x hx
            case measure => simp [intOf]; omega
        · have HLb := Lib.hid (Less_any w3 base b g cap l' (2 * k + 2) k H1b.out (by rw [H2.out]; omega) (by rw [H2.out]; omega))
          obtain ⟨t, ht⟩ : ∃ t, ltE (at_ l' (2 * k + 2)) (at_ l' k) = t := ⟨_, rfl⟩
          rw [ht, H2.out] at HLb
          have HT := Lib.hid ht
          clear ht
          have HM := Lib.hid (min_child (l := l') (k := k) (j := 2 * k + 2) (n := n) (Or.inr rfl) (fun _ => leE_of_lt HT1.out) (fun e => absurd e (by omega)))
          cases t
          · go_wp2_with fail
            refine HLb.out.mono ?_
            rintro x w4 ⟨rfl, hb4⟩
            go_wp2_with fail
            go_ret
            exact ⟨⟨_, rfl⟩, l', (H1b.out).below hb4, H3.out, down_stop H4.out (fun c c0 cn cp => leE_trans (leE_of_not HT.out) (HM.out c c0 cn cp)), H5.out, HB3.out.trans (.of hb4)⟩
          · go_wp2_with fail
            refine HLb.out.mono ?_
            rintro x w4 ⟨rfl, hb4⟩
            have h4 := (H1b.out).below hb4
            have HB4 : Hid (Touch b g w w4) := HB3.out.trans (.of hb4)
            have mS := meth_Swap h4
            rw [H2.out] at mS
            have HS := Lib.hid (Swap_any w4 base b g cap l' k (2 * k + 2) h4 (by rw [H2.out]; omega) (by rw [H2.out]; omega))
            rw [H2.out] at HS
            clear h4 hb4
            go_wp2_with fail
            refine HS.out.mono ?_
            rintro x w5 ⟨rfl, h5, hb5⟩
            have HB5 : Hid (Touch b g w w5) := HB4.out.trans hb5
            have H1' := Lib.hid h5
            clear h5 hb5
            go_wp2_with fail
            go_roundw
            case rel =>
              have hu : DownI (sw l' k (2 * k + 2)) (2 * k + 2) n := down_step H4.out (by rw [H2.out]; omega) (by omega) (by omega) (by omega) HM.out HT.out
              refine ⟨2 * k + 2, sw l' k (2 * k + 2), by omega, by go_num, H1', ?_, (sw_perm (by rw [H2.out]; omega) (by rw [H2.out]; omega)).trans H3.out, hu, ?_, HB5⟩
              · show _ = _; rw [sw_length]; exact H2.out
              · intro x hx; rw [at_sw (by rw [H2.out]; omega) (by rw [H2.out]; omega), if_neg (by omega), if_neg (by omega)]; exact H5.out x hx
            case measure => simp [intOf]; omega
      · have g2 : decide ((2 * (k : Int) + 1) + 1 < (n : Int)) = false := decide_eq_false (by omega)
        have HLb := Lib.hid (Less_any wr base b g cap l' (2 * k + 1) k H1.out (by rw [H2.out]; omega) (by rw [H2.out]; omega))
        obtain ⟨t, ht⟩ : ∃ t, ltE (at_ l' (2 * k + 1)) (at_ l' k) = t := ⟨_, rfl⟩
        rw [ht, H2.out] at HLb
        have HT := Lib.hid ht
        clear ht
        have HM := Lib.hid (min_child (l := l') (k := k) (j := 2 * k + 1) (n := n) (Or.inl rfl) (fun e => absurd e (by omega)) (fun _ h => absurd h c2))
        cases t
        · go_wp2_with fail
          refine HLb.out.mono ?_
          rintro x w4 ⟨rfl, hb4⟩
          go_wp2_with fail
          go_ret
          exact ⟨⟨_, rfl⟩, l', (H1.out).below hb4, H3.out, down_stop H4.out (fun c c0 cn cp => leE_trans (leE_of_not HT.out) (HM.out c c0 cn cp)), H5.out, H6.out.trans (.of hb4)⟩
        · go_wp2_with fail
          refine HLb.out.mono ?_
          rintro x w4 ⟨rfl, hb4⟩
          have h4 := (H1.out).below hb4
          have HB4 : Hid (Touch b g w w4) := H6.out.trans (.of hb4)
          have mS := meth_Swap h4
          rw [H2.out] at mS
          have HS := Lib.hid (Swap_any w4 base b g cap l' k (2 * k + 1) h4 (by rw [H2.out]; omega) (by rw [H2.out]; omega))
          rw [H2.out] at HS
          clear h4 hb4
          go_wp2_with fail
          refine HS.out.mono ?_
          rintro x w5 ⟨rfl, h5, hb5⟩
          have HB5 : Hid (Touch b g w w5) := HB4.out.trans hb5
          have H1' := Lib.hid h5
          clear h5 hb5
          go_wp2_with fail
          go_roundw
          case rel =>
            have hu : DownI (sw l' k (2 * k + 1)) (2 * k + 1) n := down_step H4.out (by rw [H2.out]; omega) (by omega) (by omega) (by omega) HM.out HT.out
            refine ⟨2 * k + 1, sw l' k (2 * k + 1), by omega, by go_num, H1', ?_, (sw_perm (by rw [H2.out]; omega) (by rw [H2.out]; omega)).trans H3.out, hu, ?_, HB5⟩
            · show _ = _; rw [sw_length]; exact H2.out
            · intro x hx; rw [at_sw (by rw [H2.out]; omega) (by rw [H2.out]; omega), if_neg (by omega), if_neg (by omega)]; exact H5.out x hx
          case measure => simp [intOf]; omega
    · have g1 : (n : Int) ≤ 2 * (k : Int) + 1 := by omega
      go_wp2_with fail
      go_ret
      exact ⟨⟨_, rfl⟩, l', H1.out, H3.out, down_stop H4.out (fun c c0 cn cp => absurd cn (by omega)), H5.out, H6.out⟩
end Go.Proofs.Ytbjeblffmgghgaa
