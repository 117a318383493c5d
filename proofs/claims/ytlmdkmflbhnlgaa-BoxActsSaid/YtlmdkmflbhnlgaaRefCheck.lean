/- What the document's answer for layer 5 tells of sizes, codes, and which frames may be: the same as the program. No condition. -/
import Derived.Test.YtlmdkmflbhnlgaaPOk
namespace Go.Proofs.Ytlmdkmflbhnlgaa
open Go.RowKit

/-- The size that is told by a code, by definition. -/
def sizeR (k c : Int) : Option Int :=
  if k = 3 ∧ 0 ≤ c ∧ c < 2048 then some (c + 1)
  else if (k = 1 ∨ k = 2) ∧ 0 ≤ c ∧ c ≤ 8 then some c
  else if k = 2 ∧ 9 ≤ c ∧ c ≤ 15 then some (if c = 9 then 12 else if c = 10 then 16 else if c = 11 then 20 else if c = 12 then 24 else if c = 13 then 32 else if c = 14 then 48 else 64)
  else none
theorem sizeR_none {k c : Int} (h1 : ¬ (k = 3 ∧ 0 ≤ c ∧ c < 2048)) (h2 : ¬ ((k = 1 ∨ k = 2) ∧ 0 ≤ c ∧ c ≤ 8)) (h3 : ¬ (k = 2 ∧ 9 ≤ c ∧ c ≤ 15)) : sizeR k c = none := by
  unfold sizeR; rw [if_neg h1, if_neg h2, if_neg h3]
theorem sizeR_9 : sizeR 2 9 = some 12 := by decide
theorem sizeR_10 : sizeR 2 10 = some 16 := by decide
theorem sizeR_11 : sizeR 2 11 = some 20 := by decide
theorem sizeR_12 : sizeR 2 12 = some 24 := by decide
theorem sizeR_13 : sizeR 2 13 = some 32 := by decide
theorem sizeR_14 : sizeR 2 14 = some 48 := by decide
theorem sizeR_15 : sizeR 2 15 = some 64 := by decide
theorem sizeR_code {k c n : Int} (h : sizeR k c = some n) : codeF k n = some c ∧ 0 ≤ c ∧ c < 2048 := by
  unfold sizeR at h
  by_cases h1 : k = 3 ∧ 0 ≤ c ∧ c < 2048
  · rw [if_pos h1] at h
    obtain ⟨rfl, h2, h3⟩ := h1
    injection h with h
    subst h
    refine ⟨?_, h2, h3⟩
    unfold codeF loOf hiOf
    simp
    omega
  · rw [if_neg h1] at h
    by_cases h2 : (k = 1 ∨ k = 2) ∧ 0 ≤ c ∧ c ≤ 8
    · rw [if_pos h2] at h
      injection h with h
      subst h
      obtain ⟨h3, h4, h5⟩ := h2
      refine ⟨?_, h4, by omega⟩
      rcases h3 with rfl | rfl
      · unfold codeF loOf hiOf
        simp
        omega
      · have : c = 0 ∨ c = 1 ∨ c = 2 ∨ c = 3 ∨ c = 4 ∨ c = 5 ∨ c = 6 ∨ c = 7 ∨ c = 8 := by omega
        rcases this with rfl | rfl | rfl | rfl | rfl | rfl | rfl | rfl | rfl <;> decide
    · rw [if_neg h2] at h
      by_cases h3 : k = 2 ∧ 9 ≤ c ∧ c ≤ 15
      · rw [if_pos h3] at h
        injection h with h
        subst h
        obtain ⟨rfl, h4, h5⟩ := h3
        refine ⟨?_, by omega, by omega⟩
        have : c = 9 ∨ c = 10 ∨ c = 11 ∨ c = 12 ∨ c = 13 ∨ c = 14 ∨ c = 15 := by omega
        rcases this with rfl | rfl | rfl | rfl | rfl | rfl | rfl <;> decide
      · rw [if_neg h3] at h; cases h
theorem code_sizeR {k c n : Int} (h : codeF k n = some c) : sizeR k c = some n ∧ 0 ≤ c ∧ c < 2048 := by
  have hs := codeF_kind k n (by rw [h]; rfl)
  rcases hs with ⟨rfl, h0, h1⟩ | ⟨rfl, h0, h1⟩ | ⟨rfl, h0, h1⟩
  · unfold codeF loOf hiOf at h
    simp at h
    obtain ⟨⟨-, -⟩, rfl⟩ := h
    unfold sizeR
    simp
    omega
  · unfold codeF at h
    rw [if_pos rfl] at h
    by_cases hc : fdSizes[lb fdSizes n]? = some n
    · rw [if_pos hc] at h
      injection h with h
      have hl : lb fdSizes n < 16 := (List.getElem?_eq_some_iff.1 hc).1
      generalize lb fdSizes n = i at *
      subst h
      have : i = 0 ∨ i = 1 ∨ i = 2 ∨ i = 3 ∨ i = 4 ∨ i = 5 ∨ i = 6 ∨ i = 7 ∨ i = 8 ∨ i = 9 ∨ i = 10 ∨ i = 11 ∨ i = 12 ∨ i = 13 ∨ i = 14 ∨ i = 15 := by omega
      refine ⟨?_, by omega, by omega⟩
      rcases this with rfl | rfl | rfl | rfl | rfl | rfl | rfl | rfl | rfl | rfl | rfl | rfl | rfl | rfl | rfl | rfl <;> simp [fdSizes] at hc <;> subst hc <;> decide
    · rw [if_neg hc] at h; cases h
  · unfold codeF loOf hiOf at h
    simp at h
    obtain ⟨⟨-, -⟩, rfl⟩ := h
    unfold sizeR
    simp
    omega
set_option maxRecDepth 100000 in
set_option maxHeartbeats 400000 in
theorem SizeR_any (k c : Int) (w : World) (h0 : 0 ≤ c) (h1 : c < 2048) : Calls Try.prog 82 #[.int .i64 k, .int .i64 c] w fun e w' => e = .returned (codeV (sizeR k c)) ∧ w = w' := by
  by_cases k3 : k = 3
  · subst k3
    have hs : sizeR 3 c = some (c + 1) := by unfold sizeR; simp; omega
    rw [hs, codeV_some]
    clear hs
    go_enter Try.func82, Try.ntmps82
    go_wp2
    go_ret2
    exact ⟨rfl, rfl⟩
  · have b3 : (k == 3) = false := by simp [k3]
    by_cases k12 : (k = 1 ∨ k = 2) ∧ c ≤ 8
    · have hs : sizeR k c = some c := by unfold sizeR; rw [if_neg (by omega), if_pos (by omega)]
      rw [hs, codeV_some]
      obtain ⟨k12, hc⟩ := k12
      clear hs k3
      rcases k12 with rfl | rfl
      all_goals
        go_enter Try.func82, Try.ntmps82
        go_wp2
        go_ret2
        exact ⟨rfl, rfl⟩
    · by_cases k2 : k = 2 ∧ c ≤ 15
      · obtain ⟨rfl, hc⟩ := k2
        have : c = 9 ∨ c = 10 ∨ c = 11 ∨ c = 12 ∨ c = 13 ∨ c = 14 ∨ c = 15 := by omega
        clear k12 k3 b3 h0 h1 hc
        have ix0 : ∀ w, (Instr.index 161 (.agg #[.int .i64 12, .int .i64 16, .int .i64 20, .int .i64 24, .int .i64 32, .int .i64 48, .int .i64 64]) (.int .i64 0)).run Try.prog w = .ok (.int .i64 12) w := fun _ => by kernel_rfl
        have ix1 : ∀ w, (Instr.index 161 (.agg #[.int .i64 12, .int .i64 16, .int .i64 20, .int .i64 24, .int .i64 32, .int .i64 48, .int .i64 64]) (.int .i64 1)).run Try.prog w = .ok (.int .i64 16) w := fun _ => by kernel_rfl
        have ix2 : ∀ w, (Instr.index 161 (.agg #[.int .i64 12, .int .i64 16, .int .i64 20, .int .i64 24, .int .i64 32, .int .i64 48, .int .i64 64]) (.int .i64 2)).run Try.prog w = .ok (.int .i64 20) w := fun _ => by kernel_rfl
        have ix3 : ∀ w, (Instr.index 161 (.agg #[.int .i64 12, .int .i64 16, .int .i64 20, .int .i64 24, .int .i64 32, .int .i64 48, .int .i64 64]) (.int .i64 3)).run Try.prog w = .ok (.int .i64 24) w := fun _ => by kernel_rfl
        have ix4 : ∀ w, (Instr.index 161 (.agg #[.int .i64 12, .int .i64 16, .int .i64 20, .int .i64 24, .int .i64 32, .int .i64 48, .int .i64 64]) (.int .i64 4)).run Try.prog w = .ok (.int .i64 32) w := fun _ => by kernel_rfl
        have ix5 : ∀ w, (Instr.index 161 (.agg #[.int .i64 12, .int .i64 16, .int .i64 20, .int .i64 24, .int .i64 32, .int .i64 48, .int .i64 64]) (.int .i64 5)).run Try.prog w = .ok (.int .i64 48) w := fun _ => by kernel_rfl
        have ix6 : ∀ w, (Instr.index 161 (.agg #[.int .i64 12, .int .i64 16, .int .i64 20, .int .i64 24, .int .i64 32, .int .i64 48, .int .i64 64]) (.int .i64 6)).run Try.prog w = .ok (.int .i64 64) w := fun _ => by kernel_rfl
        rcases this with rfl | rfl | rfl | rfl | rfl | rfl | rfl
        all_goals
          first | rw [sizeR_9] | rw [sizeR_10] | rw [sizeR_11] | rw [sizeR_12] | rw [sizeR_13] | rw [sizeR_14] | rw [sizeR_15]
          rw [codeV_some]
          go_enter Try.func82, Try.ntmps82
          go_wp2
          go_ret2
          exact ⟨rfl, rfl⟩
      · rw [sizeR_none (by omega) (by omega) (by omega), codeV_none]
        by_cases k1 : k = 1
        · subst k1
          have hc : 8 < c := by omega
          clear k12 k2 k3
          go_enter Try.func82, Try.ntmps82
          go_wp2
          go_ret2
          exact ⟨rfl, rfl⟩
        · have b1 : (k == 1) = false := by simp [k1]
          by_cases kk : k = 2
          · subst kk
            have hc : 15 < c := by omega
            clear k12 k2 k3 k1
            go_enter Try.func82, Try.ntmps82
            go_wp2
            go_ret2
            exact ⟨rfl, rfl⟩
          · have b2 : (k == 2) = false := by simp [kk]
            clear k12 k2 k3 k1 kk
            go_enter Try.func82, Try.ntmps82
            go_wp2
            go_ret2
            exact ⟨rfl, rfl⟩
set_option maxRecDepth 100000 in
set_option maxHeartbeats 400000 in
theorem CodeR_any (k n : Int) (w : World) : Calls Try.prog 67 #[.int .i64 k, .int .i64 n] w fun e w' => e = .returned (codeV (codeF k n)) ∧ w = w' := by
  have hyes : ∀ c : Nat, sizeR k c = some n → codeF k n = some (c : Int) := fun c hc => (sizeR_code hc).1
  have hno : (∀ c : Nat, c < 2048 → sizeR k c ≠ some n) → codeF k n = none := by
    intro h
    cases hc : codeF k n with
    | none => rfl
    | some c =>
      obtain ⟨h1, h2, h3⟩ := code_sizeR hc
      obtain ⟨m, rfl⟩ := Int.eq_ofNat_of_zero_le h2
      exact absurd h1 (h m (by omega))
  generalize codeF k n = o at *
  have HY := Lib.hid hyes
  have HN := Lib.hid hno
  clear hyes hno
  go_enter Try.func67, Try.ntmps67
  go_wp2_with fail
  go_loop [6] (fun u => ∃ j : Nat, j ≤ 2048 ∧ Hid (∀ c : Nat, c < j → sizeR k c ≠ some n) ∧ u = .int .i64 j) (fun u => 2048 - (intOf u).toNat)
  case atStart => exact ⟨0, by omega, fun c hc => absurd hc (by omega), rfl⟩
  case round =>
    obtain ⟨j, hj, hprev, rfl⟩ := hrel
    by_cases hlt : j < 2048
    · cases hs : sizeR k j with
      | none =>
        have HS := Lib.hid hs
        clear hs
        go_wp2_with (go_at_call 82; refine (SizeR_any k j _ (by omega) (by omega)).mono ?_; rintro e w' ⟨rfl, rfl⟩; rw [HS.out]; simp only [codeV_none])
        go_round
        case rel =>
          refine ⟨j + 1, by omega, fun c hc => ?_, by go_num⟩
          by_cases e : c = j
          · subst e; rw [HS.out]; simp
          · exact hprev.out c (by omega)
        case measure => simp [intOf]; omega
      | some m =>
        by_cases hm : m = n
        · subst hm
          have HS := Lib.hid hs
          clear hs
          go_wp2_with (go_at_call 82; refine (SizeR_any k j _ (by omega) (by omega)).mono ?_; rintro e w' ⟨rfl, rfl⟩; rw [HS.out]; simp only [codeV_some])
          go_ret2
          exact ⟨by rw [HY.out j HS.out]; rfl, rfl⟩
        · have HS := Lib.hid hs
          have hb : (m == n) = false := by simp [hm]
          have HM := Lib.hid hm
          clear hs hm
          go_wp2_with (go_at_call 82; refine (SizeR_any k j _ (by omega) (by omega)).mono ?_; rintro e w' ⟨rfl, rfl⟩; rw [HS.out]; simp only [codeV_some])
          go_round
          case rel =>
            refine ⟨j + 1, by omega, fun c hc => ?_, by go_num⟩
            by_cases e : c = j
            · subst e; rw [HS.out]; intro e; injection e with e; exact HM.out e
            · exact hprev.out c (by omega)
          case measure => simp [intOf]; omega
    · have hj' : j = 2048 := by omega
      subst hj'
      go_wp2_with fail
      go_ret2
      exact ⟨by rw [HN.out hprev.out]; rfl, rfl⟩
end Go.Proofs.Ytlmdkmflbhnlgaa
namespace Go.Proofs.Ytlmdkmflbhnlgaa
open Go.RowKit

theorem okF_none (f : Fr) (h : codeF f.kind f.data.length = none) : okF f = false := by unfold okF; simp [h]
/-- One kind after the other: which frames may be. -/
theorem okF_1 (f : Fr) (hk : f.kind = 1) (h : (codeF f.kind f.data.length).isSome = true) :
    okF f = decide (f.id < (if f.ext then 536870912 else 2048) ∧ ¬ (f.rtr = true ∧ 0 < f.data.length) ∧ f.brs = false ∧ f.esi = false ∧ f.sec = false ∧ f.sdt = 0 ∧ f.vcid = 0 ∧ f.af = 0) := by
  rw [Bool.eq_iff_iff, okF_iff, decide_eq_true_eq]
  constructor
  · rintro ⟨k1, k2, k3, k4, k5, k6, k7, k8, k9, k10, k11, k12⟩
    refine ⟨k3, ?_, k7 (by omega), k8 (by omega), k9 (by omega), k10 (by omega), k11 (by omega), k12 (by omega)⟩
    rintro ⟨h1, h2⟩
    rw [k6 h1] at h2; simp at h2
  · rintro ⟨h1, h2, h3, h4, h5, h6, h7, h8⟩
    refine ⟨by omega, h, h1, by omega, by omega, ?_, fun _ => h3, fun _ => h4, fun _ => h5, fun _ => h6, fun _ => h7, fun _ => h8⟩
    intro hr
    by_cases hd : f.data = []
    · exact hd
    · exact absurd ⟨hr, List.length_pos_iff.2 hd⟩ h2
theorem okF_2 (f : Fr) (hk : f.kind = 2) (h : (codeF f.kind f.data.length).isSome = true) :
    okF f = decide (f.id < 2048 ∧ f.ext = false ∧ f.rtr = false ∧ f.sec = false ∧ f.sdt = 0 ∧ f.vcid = 0 ∧ f.af = 0) := by
  rw [Bool.eq_iff_iff, okF_iff, decide_eq_true_eq]
  constructor
  · rintro ⟨k1, k2, k3, k4, k5, k6, k7, k8, k9, k10, k11, k12⟩
    have he := k4 (by omega)
    rw [he] at k3
    exact ⟨by simpa using k3, he, k5 (by omega), k9 (by omega), k10 (by omega), k11 (by omega), k12 (by omega)⟩
  · rintro ⟨h1, h2, h3, h4, h5, h6, h7⟩
    exact ⟨by omega, h, by rw [h2]; simpa using h1, fun _ => h2, fun _ => h3, fun hr => (by rw [h3] at hr; cases hr), by omega, by omega, fun _ => h4, fun _ => h5, fun _ => h6, fun _ => h7⟩
theorem okF_3 (f : Fr) (hk : f.kind = 3) (h : (codeF f.kind f.data.length).isSome = true) :
    okF f = decide (f.id < 2048 ∧ f.ext = false ∧ f.rtr = false ∧ f.brs = false ∧ f.esi = false) := by
  rw [Bool.eq_iff_iff, okF_iff, decide_eq_true_eq]
  constructor
  · rintro ⟨k1, k2, k3, k4, k5, k6, k7, k8, k9, k10, k11, k12⟩
    have he := k4 (by omega)
    rw [he] at k3
    exact ⟨by simpa using k3, he, k5 (by omega), k7 (by omega), k8 (by omega)⟩
  · rintro ⟨h1, h2, h3, h4, h5⟩
    exact ⟨by omega, h, by rw [h2]; simpa using h1, fun _ => h2, fun _ => h3, fun hr => (by rw [h3] at hr; cases hr), fun _ => h4, fun _ => h5, by omega, by omega, by omega, by omega⟩
set_option maxRecDepth 100000 in
set_option maxHeartbeats 4000000 in
theorem CheckR_1 (f : Fr) (A : Option Addr) (c : Nat) (w : World) (hk : f.kind = 1) (co : Int) (hco : codeF f.kind f.data.length = some co) :
    Calls Try.prog 43 #[frv f (.slice A f.data.length c)] w fun e w' => e = .returned (errV (okF f)) ∧ Below w.heap.size w w' := by
  have hok := okF_1 f hk (by rw [hco]; rfl)
  have hc := fun W => CodeR_any f.kind f.data.length W
  rw [hco] at hc
  clear hco
  generalize okF f = ok at *
  obtain ⟨kind, id, ext, rtr, brs, esi, sec, sdt, vcid, af, data⟩ := f
  dsimp only [frv] at *
  subst hk
  generalize data.length = n at *
  have HOK := Lib.hid hok
  have HC := Lib.hid hc
  clear hok hc
  go_enter Try.func43, Try.ntmps43
  go_wp2_with (go_at_call 67; refine (HC.out _).mono ?_; rintro e w' ⟨rfl, rfl⟩; simp only [codeV_some])
  all_goals
    go_ret
    refine ⟨ret_int ?_, below_alloc (below_alloc (Below.refl _ _) _) _⟩
    rw [HOK.out]
    clear HOK HC
    first
      | (simp [*]; done)
      | (simp [*]; omega)
      | (simp_all; done)
      | (simp_all; omega)
set_option maxRecDepth 100000 in
set_option maxHeartbeats 4000000 in
theorem CheckR_2 (f : Fr) (A : Option Addr) (c : Nat) (w : World) (hk : f.kind = 2) (co : Int) (hco : codeF f.kind f.data.length = some co) :
    Calls Try.prog 43 #[frv f (.slice A f.data.length c)] w fun e w' => e = .returned (errV (okF f)) ∧ Below w.heap.size w w' := by
  have hok := okF_2 f hk (by rw [hco]; rfl)
  have hc := fun W => CodeR_any f.kind f.data.length W
  rw [hco] at hc
  clear hco
  generalize okF f = ok at *
  obtain ⟨kind, id, ext, rtr, brs, esi, sec, sdt, vcid, af, data⟩ := f
  dsimp only [frv] at *
  subst hk
  generalize data.length = n at *
  have HOK := Lib.hid hok
  have HC := Lib.hid hc
  clear hok hc
  go_enter Try.func43, Try.ntmps43
  go_wp2_with (go_at_call 67; refine (HC.out _).mono ?_; rintro e w' ⟨rfl, rfl⟩; simp only [codeV_some])
  all_goals
    go_ret
    refine ⟨ret_int ?_, below_alloc (below_alloc (Below.refl _ _) _) _⟩
    rw [HOK.out]
    clear HOK HC
    first
      | (simp [*]; done)
      | (simp [*]; omega)
      | (simp_all; done)
      | (simp_all; omega)
set_option maxRecDepth 100000 in
set_option maxHeartbeats 4000000 in
theorem CheckR_3 (f : Fr) (A : Option Addr) (c : Nat) (w : World) (hk : f.kind = 3) (co : Int) (hco : codeF f.kind f.data.length = some co) :
    Calls Try.prog 43 #[frv f (.slice A f.data.length c)] w fun e w' => e = .returned (errV (okF f)) ∧ Below w.heap.size w w' := by
  have hok := okF_3 f hk (by rw [hco]; rfl)
  have hc := fun W => CodeR_any f.kind f.data.length W
  rw [hco] at hc
  clear hco
  generalize okF f = ok at *
  obtain ⟨kind, id, ext, rtr, brs, esi, sec, sdt, vcid, af, data⟩ := f
  dsimp only [frv] at *
  subst hk
  generalize data.length = n at *
  have HOK := Lib.hid hok
  have HC := Lib.hid hc
  clear hok hc
  go_enter Try.func43, Try.ntmps43
  go_wp2_with (go_at_call 67; refine (HC.out _).mono ?_; rintro e w' ⟨rfl, rfl⟩; simp only [codeV_some])
  all_goals
    go_ret
    refine ⟨ret_int ?_, below_alloc (below_alloc (Below.refl _ _) _) _⟩
    rw [HOK.out]
    clear HOK HC
    first
      | (simp [*]; done)
      | (simp [*]; omega)
      | (simp_all; done)
      | (simp_all; omega)
set_option maxRecDepth 100000 in
set_option maxHeartbeats 1000000 in
theorem CheckR_any (f : Fr) (A : Option Addr) (c : Nat) (w : World) :
    Calls Try.prog 43 #[frv f (.slice A f.data.length c)] w fun e w' => e = .returned (errV (okF f)) ∧ Below w.heap.size w w' := by
  cases hco : codeF f.kind f.data.length with
  | none =>
    have hok := okF_none f hco
    have hc := fun W => CodeR_any f.kind f.data.length W
    rw [hco] at hc
    rw [hok]
    clear hco hok
    obtain ⟨kind, id, ext, rtr, brs, esi, sec, sdt, vcid, af, data⟩ := f
    dsimp only [frv] at *
    generalize data.length = n at *
    have HC := Lib.hid hc
    clear hc
    go_enter Try.func43, Try.ntmps43
    go_wp2_with (go_at_call 67; refine (HC.out _).mono ?_; rintro e w' ⟨rfl, rfl⟩; simp only [codeV_none])
    go_ret
    exact ⟨rfl, below_alloc (below_alloc (Below.refl _ _) _) _⟩
  | some co =>
    rcases codeF_kind _ _ (by rw [hco]; rfl) with ⟨hk, -⟩ | ⟨hk, -⟩ | ⟨hk, -⟩
    · exact CheckR_1 f A c w hk co hco
    · exact CheckR_2 f A c w hk co hco
    · exact CheckR_3 f A c w hk co hco
end Go.Proofs.Ytlmdkmflbhnlgaa
