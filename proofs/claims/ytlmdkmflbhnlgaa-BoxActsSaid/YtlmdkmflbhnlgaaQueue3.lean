/- container/heap over the entries of the queue. No condition. -/
import Derived.Test.YtlmdkmflbhnlgaaQueue2
namespace Go.Proofs.Ytlmdkmflbhnlgaa
open Go.RowKit
theorem methQ_Less {w : World} {base qb room last cap : Nat} {A : Option Addr} {l : List QN} (h : HeapQ w base qb room last A cap l) :
    Sem.run Try.prog (method 285 128 (.pointer (some ⟨qb, 2, none⟩)) "Less") w = .ok (112, .slice A l.length cap) w := by
  have e : Sem.run Try.prog (method 285 128 (.pointer (some ⟨qb, 2, none⟩)) "Less") w = Sem.run Try.prog (do let v ← load ⟨qb, 2, none⟩; pure (112, v)) w := by kernel_rfl
  have c0 : w.cell? ⟨qb, 2, none⟩ = some (.slice A l.length cap) := cell_of_heap h.box 2 _ rfl
  rw [e]
  simp [run_load, c0]
theorem methQ_Swap {w : World} {base qb room last cap : Nat} {A : Option Addr} {l : List QN} (h : HeapQ w base qb room last A cap l) :
    Sem.run Try.prog (method 285 128 (.pointer (some ⟨qb, 2, none⟩)) "Swap") w = .ok (113, .slice A l.length cap) w := by
  have e : Sem.run Try.prog (method 285 128 (.pointer (some ⟨qb, 2, none⟩)) "Swap") w = Sem.run Try.prog (do let v ← load ⟨qb, 2, none⟩; pure (113, v)) w := by kernel_rfl
  have c0 : w.cell? ⟨qb, 2, none⟩ = some (.slice A l.length cap) := cell_of_heap h.box 2 _ rfl
  rw [e]
  simp [run_load, c0]
theorem methQ_Len {w : World} {base qb room last cap : Nat} {A : Option Addr} {l : List QN} (h : HeapQ w base qb room last A cap l) :
    Sem.run Try.prog (method 285 128 (.pointer (some ⟨qb, 2, none⟩)) "Len") w = .ok (111, .slice A l.length cap) w := by
  have e : Sem.run Try.prog (method 285 128 (.pointer (some ⟨qb, 2, none⟩)) "Len") w = Sem.run Try.prog (do let v ← load ⟨qb, 2, none⟩; pure (111, v)) w := by kernel_rfl
  have c0 : w.cell? ⟨qb, 2, none⟩ = some (.slice A l.length cap) := cell_of_heap h.box 2 _ rfl
  rw [e]
  simp [run_load, c0]
theorem methQ_Push (a : Option Addr) (w : World) : Sem.run Try.prog (method 285 128 (.pointer a) "Push") w = .ok (120, .pointer a) w := by kernel_rfl
theorem methQ_Pop (a : Option Addr) (w : World) : Sem.run Try.prog (method 285 128 (.pointer a) "Pop") w = .ok (119, .pointer a) w := by kernel_rfl
/-- What heap.up leaves. -/
def Upped (w w' : World) (base qb room last : Nat) (A : Option Addr) (cap N : Nat) (l : List QN) : Prop := ∃ l', HeapQ w' base qb room last A cap l' ∧ l'.Perm l ∧ HeapTo kyQ l' N ∧ (∀ x, N ≤ x → ag l' x = ag l x) ∧ Turn (blkA A) w w'
set_option maxRecDepth 100000 in
set_option maxHeartbeats 4000000 in
theorem qUp_any (w : World) (base qb room last cap j N : Nat) (A : Option Addr) (l : List QN) (h : HeapQ w base qb room last A cap l) (hj : j < N) (hNl : N ≤ l.length) (hc : l.length ≤ 1000) (hi : UpG kyQ l j N) :
    Calls Try.prog 79 #[.iface 128 (.pointer (some ⟨qb, 2, none⟩)), .int .i64 j] w fun e w' => e = .returned (.tuple #[]) ∧ Upped w w' base qb room last A cap N l := by
  have HH := Lib.hid h
  have HI := Lib.hid hi
  obtain ⟨n, hn⟩ : ∃ n, l.length = n := ⟨_, rfl⟩
  rw [hn] at hNl hc
  have HN := Lib.hid hn
  clear h hi hn
  go_enter Try.func79, Try.ntmps79
  go_wp2_with fail
  go_loopw [1] (fun v wr => ∃ (k : Nat) (l' : List QN), k < N ∧ v = .int .i64 k ∧ Hid (HeapQ wr base qb room last A cap l') ∧ Hid (l'.length = n) ∧ Hid (l'.Perm l) ∧ Hid (UpG kyQ l' k N) ∧ Hid (∀ x, N ≤ x → ag l' x = ag l x) ∧ Hid (Turn (blkA A) w wr)) (fun v _ => (intOf v).toNat)
  case atStart => exact ⟨j, l, hj, rfl, HH, HN, List.Perm.refl _, HI, fun _ _ => rfl, Turn.refl _ _⟩
  case round =>
    obtain ⟨k, l', hk, rfl, H1, H2, H3, H4, H6, H5⟩ := hrel
    by_cases hk0 : k = 0
    · subst hk0
      have e0 : Int.tdiv (((0 : Nat) : Int) - 1) 2 = 0 := by decide
      go_wp2_with fail
      go_end0
      exact ⟨rfl, l', H1.out, H3.out, upg_stop H4.out (Or.inl rfl), H6.out, H5.out⟩
    · obtain ⟨i, hi⟩ : ∃ i, i = (k - 1) / 2 := ⟨_, rfl⟩
      have hik : i < k := by omega
      have hq : Int.tdiv ((k : Int) - 1) 2 = (i : Int) := by
        rw [Int.tdiv_eq_ediv_of_nonneg (by omega)]; omega
      have hne : ¬ (i : Int) = (k : Int) := by omega
      have mL := methQ_Less H1.out
      rw [H2.out] at mL
      have HL := Lib.hid (qLess_any wr base qb room last cap A l' k i H1.out (by rw [H2.out]; omega) (by rw [H2.out]; omega))
      have HI := Lib.hid hi
      clear hi
      obtain ⟨t, ht⟩ : ∃ t, ltE (kyQ (ag l' k)) (kyQ (ag l' i)) = t := ⟨_, rfl⟩
      rw [ht, H2.out] at HL
      have HT := Lib.hid ht
      clear ht
      cases t
      · go_wp2_with fail
        refine HL.out.mono ?_
        rintro x w2 ⟨rfl, hb2⟩
        go_wp2_with fail
        go_end0
        exact ⟨rfl, l', H1.out.below hb2, H3.out, upg_stop H4.out (Or.inr (by rw [← HI.out]; exact HT.out)), H6.out, H5.out.tr (.of hb2)⟩
      · go_wp2_with fail
        refine HL.out.mono ?_
        rintro x w2 ⟨rfl, hb2⟩
        have h2 := H1.out.below hb2
        have mS := methQ_Swap h2
        rw [H2.out] at mS
        have HS := Lib.hid (qSwap_any w2 base qb room last cap A l' i k h2 (by rw [H2.out]; omega) (by rw [H2.out]; omega))
        rw [H2.out] at HS
        have HB2 := Lib.hid hb2
        clear h2 hb2
        go_wp2_with fail
        refine HS.out.mono ?_
        rintro x w3 ⟨rfl, h3, hb3⟩
        have HB3 : Hid (Turn (blkA A) w w3) := (H5.out.tr (.of HB2.out)).tr hb3
        have H3' := Lib.hid h3
        clear h3 hb3
        go_wp2_with fail
        go_roundw
        case rel =>
          have hi := HI.out
          have hu : UpG kyQ (sg l' i k) i N := by rw [hi]; exact upg_step H4.out (by rw [H2.out]; omega) hk (by omega) (by rw [← hi]; exact HT.out)
          exact ⟨i, sg l' i k, by omega, rfl, H3', by show _ = _; rw [sg_length]; exact H2.out, (sg_perm (by rw [H2.out]; omega) (by rw [H2.out]; omega)).trans H3.out, hu, fun x hx => by rw [ag_sg (by rw [H2.out]; omega) (by rw [H2.out]; omega), if_neg (by omega), if_neg (by omega)]; exact H6.out x hx, HB3⟩
        case measure => simp [intOf]; omega
theorem minQ_child {l : List QN} {k j n : Nat} (hj : j = 2 * k + 1 ∨ j = 2 * k + 2) (h1 : j = 2 * k + 2 → leE (kyQ (ag l (2 * k + 2))) (kyQ (ag l (2 * k + 1)))) (h2 : j = 2 * k + 1 → 2 * k + 2 < n → leE (kyQ (ag l (2 * k + 1))) (kyQ (ag l (2 * k + 2)))) :
    ∀ c, 0 < c → c < n → (c - 1) / 2 = k → leE (kyQ (ag l j)) (kyQ (ag l c)) := by
  intro c c0 cn cp
  have hc : c = 2 * k + 1 ∨ c = 2 * k + 2 := by omega
  rcases hj with rfl | rfl <;> rcases hc with rfl | rfl
  · exact leE_refl _
  · exact h2 rfl cn
  · exact h1 rfl
  · exact leE_refl _
/-- What heap.down answers and leaves: if it has moved the entry all is in order. -/
def DownedQ (e : Ending) (w w' : World) (base qb room last : Nat) (A : Option Addr) (cap i0 n : Nat) (l : List QN) : Prop := ∃ mv l', e = .returned (.bool mv) ∧ HeapQ w' base qb room last A cap l' ∧ l'.Perm l ∧ ((mv = true → HeapTo kyQ l' n) ∧ (mv = false → UpG kyQ l' i0 n)) ∧ (∀ k, n ≤ k → ag l' k = ag l k) ∧ Turn (blkA A) w w'
theorem down_fin {l : List QN} {i0 i n : Nat} {b : Bool} (h : DownG kyQ l i0 i n) (h0 : i0 ≤ i) (hs : ∀ k, 0 < k → k < n → (k - 1) / 2 = i → leE (kyQ (ag l i)) (kyQ (ag l k))) (hb : b = true ↔ i0 < i) : (b = true → HeapTo kyQ l n) ∧ (b = false → UpG kyQ l i0 n) := by
  obtain ⟨a1, a2⟩ := downg_stop h hs
  refine ⟨fun e => a1 (by have := hb.1 e; omega), fun e => ?_⟩
  have hi : i = i0 := by
    rcases Nat.eq_or_lt_of_le h0 with h1 | h1
    · exact h1.symm
    · rw [hb.2 h1] at e; cases e
  have := a2 hi
  rwa [hi] at this
set_option maxRecDepth 100000 in
set_option maxHeartbeats 8000000 in
theorem qDown_any (w : World) (base qb room last cap i0 n : Nat) (A : Option Addr) (l : List QN) (h : HeapQ w base qb room last A cap l) (hn : n ≤ l.length) (hc : l.length ≤ 1000) (hi : DownG kyQ l i0 i0 n) (hi0 : i0 ≤ 1000) :
    Calls Try.prog 92 #[.iface 128 (.pointer (some ⟨qb, 2, none⟩)), .int .i64 i0, .int .i64 n] w fun e w' => DownedQ e w w' base qb room last A cap i0 n l := by
  have HH := Lib.hid h
  have HI := Lib.hid hi
  obtain ⟨m, hm⟩ : ∃ m, l.length = m := ⟨_, rfl⟩
  rw [hm] at hn hc
  have HN := Lib.hid hm
  clear h hi hm
  go_enter Try.func92, Try.ntmps92
  go_wp2_with fail
  go_loopw [7] (fun v wr => ∃ (k : Nat) (l' : List QN), (i0 ≤ k ∧ k ≤ 1000) ∧ v = .int .i64 k ∧ Hid (HeapQ wr base qb room last A cap l') ∧ Hid (l'.length = m) ∧ Hid (l'.Perm l) ∧ Hid (DownG kyQ l' i0 k n) ∧ Hid (∀ x, n ≤ x → ag l' x = ag l x) ∧ Hid (Turn (blkA A) w wr)) (fun v _ => 1000 - (intOf v).toNat)
  case atStart => exact ⟨i0, l, ⟨Nat.le_refl _, hi0⟩, rfl, HH, HN, List.Perm.refl _, HI, fun _ _ => rfl, Turn.refl _ _⟩
  case round =>
    obtain ⟨k, l', ⟨hik, hk⟩, rfl, H1, H2, H3, H4, H5, H6⟩ := hrel
    by_cases c1 : 2 * k + 1 < n
    · have g1 : decide ((n : Int) ≤ 2 * (k : Int) + 1) = false := decide_eq_false (by omega)
      have hkn : k < n := by omega
      have mL := methQ_Less H1.out
      rw [H2.out] at mL
      by_cases c2 : 2 * k + 2 < n
      · have g2 : (2 * (k : Int) + 1) + 1 < (n : Int) := by omega
        have HLa := Lib.hid (qLess_any wr base qb room last cap A l' (2 * k + 2) (2 * k + 1) H1.out (by rw [H2.out]; omega) (by rw [H2.out]; omega))
        obtain ⟨t1, ht1⟩ : ∃ t, ltE (kyQ (ag l' (2 * k + 2))) (kyQ (ag l' (2 * k + 1))) = t := ⟨_, rfl⟩
        rw [ht1, H2.out] at HLa
        have HT1 := Lib.hid ht1
        clear ht1
        go_wp2_with fail
        refine HLa.out.mono ?_
        rintro x w3 ⟨rfl, hb3⟩
        have H1b := Lib.hid (H1.out.below hb3)
        have HB3 : Hid (Turn (blkA A) w w3) := H6.out.tr (.of hb3)
        have mL3 := methQ_Less H1b.out
        rw [H2.out] at mL3
        clear hb3 mL
        cases t1
        · have HLb := Lib.hid (qLess_any w3 base qb room last cap A l' (2 * k + 1) k H1b.out (by rw [H2.out]; omega) (by rw [H2.out]; omega))
          obtain ⟨t, ht⟩ : ∃ t, ltE (kyQ (ag l' (2 * k + 1))) (kyQ (ag l' k)) = t := ⟨_, rfl⟩
          rw [ht, H2.out] at HLb
          have HT := Lib.hid ht
          clear ht
          have HM := Lib.hid (minQ_child (l := l') (k := k) (j := 2 * k + 1) (n := n) (Or.inl rfl) (fun e => absurd e (by omega)) (fun _ _ => leE_of_not HT1.out))
          cases t
          · go_wp2_with fail
            refine HLb.out.mono ?_
            rintro x w4 ⟨rfl, hb4⟩
            go_wp2_with fail
            go_ret
            exact ⟨_, l', rfl, (H1b.out).below hb4, H3.out, down_fin H4.out hik (fun c c0 cn cp => leE_trans (leE_of_not HT.out) (HM.out c c0 cn cp)) (by simp), H5.out, HB3.out.tr (.of hb4)⟩
          · go_wp2_with fail
            refine HLb.out.mono ?_
            rintro x w4 ⟨rfl, hb4⟩
            have h4 := (H1b.out).below hb4
            have HB4 : Hid (Turn (blkA A) w w4) := HB3.out.tr (.of hb4)
            have mS := methQ_Swap h4
            rw [H2.out] at mS
            have HS := Lib.hid (qSwap_any w4 base qb room last cap A l' k (2 * k + 1) h4 (by rw [H2.out]; omega) (by rw [H2.out]; omega))
            rw [H2.out] at HS
            clear h4 hb4
            go_wp2_with fail
            refine HS.out.mono ?_
            rintro x w5 ⟨rfl, h5, hb5⟩
            have HB5 : Hid (Turn (blkA A) w w5) := HB4.out.tr hb5
            have H1' := Lib.hid h5
            clear h5 hb5
            go_wp2_with fail
            go_roundw
            case rel =>
              have hu : DownG kyQ (sg l' k (2 * k + 1)) i0 (2 * k + 1) n := downg_step H4.out hik (by rw [H2.out]; omega) (by omega) (by omega) (by omega) HM.out HT.out
              refine ⟨2 * k + 1, sg l' k (2 * k + 1), by omega, by go_num, H1', ?_, (sg_perm (by rw [H2.out]; omega) (by rw [H2.out]; omega)).trans H3.out, hu, ?_, HB5⟩
              · show _ = _; rw [sg_length]; exact H2.out
              · intro x hx; rw [ag_sg (by rw [H2.out]; omega) (by rw [H2.out]; omega), if_neg (by omega), if_neg (by omega)]; exact H5.out x hx
            case measure => simp [intOf]; omega
        · have HLb := Lib.hid (qLess_any w3 base qb room last cap A l' (2 * k + 2) k H1b.out (by rw [H2.out]; omega) (by rw [H2.out]; omega))
          obtain ⟨t, ht⟩ : ∃ t, ltE (kyQ (ag l' (2 * k + 2))) (kyQ (ag l' k)) = t := ⟨_, rfl⟩
          rw [ht, H2.out] at HLb
          have HT := Lib.hid ht
          clear ht
          have HM := Lib.hid (minQ_child (l := l') (k := k) (j := 2 * k + 2) (n := n) (Or.inr rfl) (fun _ => leE_of_lt HT1.out) (fun e => absurd e (by omega)))
          cases t
          · go_wp2_with fail
            refine HLb.out.mono ?_
            rintro x w4 ⟨rfl, hb4⟩
            go_wp2_with fail
            go_ret
            exact ⟨_, l', rfl, (H1b.out).below hb4, H3.out, down_fin H4.out hik (fun c c0 cn cp => leE_trans (leE_of_not HT.out) (HM.out c c0 cn cp)) (by simp), H5.out, HB3.out.tr (.of hb4)⟩
          · go_wp2_with fail
            refine HLb.out.mono ?_
            rintro x w4 ⟨rfl, hb4⟩
            have h4 := (H1b.out).below hb4
            have HB4 : Hid (Turn (blkA A) w w4) := HB3.out.tr (.of hb4)
            have mS := methQ_Swap h4
            rw [H2.out] at mS
            have HS := Lib.hid (qSwap_any w4 base qb room last cap A l' k (2 * k + 2) h4 (by rw [H2.out]; omega) (by rw [H2.out]; omega))
            rw [H2.out] at HS
            clear h4 hb4
            go_wp2_with fail
            refine HS.out.mono ?_
            rintro x w5 ⟨rfl, h5, hb5⟩
            have HB5 : Hid (Turn (blkA A) w w5) := HB4.out.tr hb5
            have H1' := Lib.hid h5
            clear h5 hb5
            go_wp2_with fail
            go_roundw
            case rel =>
              have hu : DownG kyQ (sg l' k (2 * k + 2)) i0 (2 * k + 2) n := downg_step H4.out hik (by rw [H2.out]; omega) (by omega) (by omega) (by omega) HM.out HT.out
              refine ⟨2 * k + 2, sg l' k (2 * k + 2), by omega, by go_num, H1', ?_, (sg_perm (by rw [H2.out]; omega) (by rw [H2.out]; omega)).trans H3.out, hu, ?_, HB5⟩
              · show _ = _; rw [sg_length]; exact H2.out
              · intro x hx; rw [ag_sg (by rw [H2.out]; omega) (by rw [H2.out]; omega), if_neg (by omega), if_neg (by omega)]; exact H5.out x hx
            case measure => simp [intOf]; omega
      · have g2 : decide ((2 * (k : Int) + 1) + 1 < (n : Int)) = false := decide_eq_false (by omega)
        have HLb := Lib.hid (qLess_any wr base qb room last cap A l' (2 * k + 1) k H1.out (by rw [H2.out]; omega) (by rw [H2.out]; omega))
        obtain ⟨t, ht⟩ : ∃ t, ltE (kyQ (ag l' (2 * k + 1))) (kyQ (ag l' k)) = t := ⟨_, rfl⟩
        rw [ht, H2.out] at HLb
        have HT := Lib.hid ht
        clear ht
        have HM := Lib.hid (minQ_child (l := l') (k := k) (j := 2 * k + 1) (n := n) (Or.inl rfl) (fun e => absurd e (by omega)) (fun _ h => absurd h c2))
        cases t
        · go_wp2_with fail
          refine HLb.out.mono ?_
          rintro x w4 ⟨rfl, hb4⟩
          go_wp2_with fail
          go_ret
          exact ⟨_, l', rfl, (H1.out).below hb4, H3.out, down_fin H4.out hik (fun c c0 cn cp => leE_trans (leE_of_not HT.out) (HM.out c c0 cn cp)) (by simp), H5.out, H6.out.tr (.of hb4)⟩
        · go_wp2_with fail
          refine HLb.out.mono ?_
          rintro x w4 ⟨rfl, hb4⟩
          have h4 := (H1.out).below hb4
          have HB4 : Hid (Turn (blkA A) w w4) := H6.out.tr (.of hb4)
          have mS := methQ_Swap h4
          rw [H2.out] at mS
          have HS := Lib.hid (qSwap_any w4 base qb room last cap A l' k (2 * k + 1) h4 (by rw [H2.out]; omega) (by rw [H2.out]; omega))
          rw [H2.out] at HS
          clear h4 hb4
          go_wp2_with fail
          refine HS.out.mono ?_
          rintro x w5 ⟨rfl, h5, hb5⟩
          have HB5 : Hid (Turn (blkA A) w w5) := HB4.out.tr hb5
          have H1' := Lib.hid h5
          clear h5 hb5
          go_wp2_with fail
          go_roundw
          case rel =>
            have hu : DownG kyQ (sg l' k (2 * k + 1)) i0 (2 * k + 1) n := downg_step H4.out hik (by rw [H2.out]; omega) (by omega) (by omega) (by omega) HM.out HT.out
            refine ⟨2 * k + 1, sg l' k (2 * k + 1), by omega, by go_num, H1', ?_, (sg_perm (by rw [H2.out]; omega) (by rw [H2.out]; omega)).trans H3.out, hu, ?_, HB5⟩
            · show _ = _; rw [sg_length]; exact H2.out
            · intro x hx; rw [ag_sg (by rw [H2.out]; omega) (by rw [H2.out]; omega), if_neg (by omega), if_neg (by omega)]; exact H5.out x hx
          case measure => simp [intOf]; omega
    · have g1 : (n : Int) ≤ 2 * (k : Int) + 1 := by omega
      go_wp2_with fail
      go_ret
      exact ⟨_, l', rfl, H1.out, H3.out, down_fin H4.out hik (fun c c0 cn cp => absurd cn (by omega)) (by simp), H5.out, H6.out⟩
end Go.Proofs.Ytlmdkmflbhnlgaa
