/- What the functions of layer 5 (frame) answer: sizes, codes, and which frames may be. No condition. -/
import Derived.Test.YtlmdkmflbhnlgaaGreatProg
import Derived.Test.YtlmdkmflbhnlgaaGreatBase
namespace Go.Proofs.YtlmdkmflbhnlgaaGreat
open Go.RowKit

theorem isNaN_cmp (n : Int) (w : World) : Calls Tryz.prog 111 #[.int .i64 n] w fun e w' => e = .returned (.bool false) ∧ w = w' := by
  go_enter Tryz.func111, Tryz.ntmps111
  go_wp2
  go_ret
  exact ⟨by simp, rfl⟩
theorem isNaN_slices (n : Int) (w : World) : Calls Tryz.prog 100 #[.int .i64 n] w fun e w' => e = .returned (.bool false) ∧ w = w' := by
  go_enter Tryz.func100, Tryz.ntmps100
  go_wp2
  go_ret
  exact ⟨by simp, rfl⟩
theorem less_int (a b : Int) (w : World) : Calls Tryz.prog 99 #[.int .i64 a, .int .i64 b] w fun e w' => e = .returned (.bool (decide (a < b))) ∧ w = w' := by
  go_enter Tryz.func99, Tryz.ntmps99
  go_wp2_with (go_at_call 111; refine (isNaN_cmp _ _).mono ?_; rintro e w' ⟨rfl, rfl⟩)
  go_ret
  exact ⟨by simp, rfl⟩

/-- The first place of a rising list whose number isn't less. -/
def lb (l : List Int) (n : Int) : Nat := (l.takeWhile (· < n)).length
theorem lb_le (l : List Int) (n : Int) : lb l n ≤ l.length := by
  unfold lb; induction l with
  | nil => simp
  | cons x l ih => simp only [List.takeWhile_cons]; split <;> simp; omega
theorem lb_eq (l : List Int) (n : Int) (i : Nat) (hi : i ≤ l.length) (h1 : ∀ k (h : k < l.length), k < i → l[k] < n) (h2 : ∀ k (h : k < l.length), i ≤ k → n ≤ l[k]) : lb l n = i := by
  unfold lb
  induction l generalizing i with
  | nil => simp at hi; simp [hi]
  | cons x l ih =>
    cases i with
    | zero => have := h2 0 (by simp) (by omega); simp at this; simp [show ¬ x < n by omega]
    | succ i =>
      have := h1 0 (by simp) (by omega); simp at this
      simp [this]
      exact ih i (by simpa using hi) (fun k h hk => by have := h1 (k + 1) (by simpa using h) (by omega); simpa using this) (fun k h hk => by have := h2 (k + 1) (by simpa using h) (by omega); simpa using this)
set_option maxHeartbeats 400000 in
theorem bsearch_any (A : Option Addr) (c : Nat) (l : List Int) (n : Int) (w : World) (hr : Rd w A (ins l)) (hl : l.length ≤ 1000000) (hs : ∀ i k (hi : i < l.length) (hk : k < l.length), i ≤ k → l[i] ≤ l[k]) :
    Calls Tryz.prog 76 #[.slice A l.length c, .int .i64 n] w fun e w' => e = .returned (.tuple #[.int .i64 (lb l n : Int), .bool (decide (l[lb l n]? = some n))]) ∧ w = w' := by
  go_enter Tryz.func76, Tryz.ntmps76
  go_wp2_with fail
  go_loop [7, 8] (fun u v => ∃ i j : Nat, i ≤ j ∧ j ≤ l.length ∧ (∀ k (h : k < l.length), k < i → l[k] < n) ∧ (∀ k (h : k < l.length), j ≤ k → n ≤ l[k]) ∧ u = .int .i64 i ∧ v = .int .i64 j) (fun u v => ((intOf v) - (intOf u)).toNat)
  case atStart => exact ⟨0, l.length, by omega, by omega, by omega, by omega, rfl, rfl⟩
  case round =>
    obtain ⟨i, j, hij, hjl, h1, h2, rfl, rfl⟩ := hrel
    by_cases hlt : i < j
    · have hm : (i + j) / 2 < l.length := by omega
      obtain ⟨ad, rfl, hc⟩ := hr ((i + j) / 2) (.int .i64 l[(i + j) / 2]) (by simp [ins, hm])
      by_cases hx : l[(i + j) / 2] < n
      all_goals
        go_wp2_with (go_at_call 99; refine (less_int _ _ _).mono ?_; rintro e w' ⟨rfl, rfl⟩)
        go_round
        case measure => simp [intOf]; omega
      · refine ⟨(i + j) / 2 + 1, j, by omega, hjl, fun k h hk => ?_, h2, by go_num, rfl⟩
        have := hs k ((i + j) / 2) h hm (by omega)
        omega
      · refine ⟨i, (i + j) / 2, by omega, by omega, h1, fun k h hk => ?_, rfl, by go_num⟩
        have := hs ((i + j) / 2) k hm h hk
        omega
    · have hij' : j = i := by omega
      subst hij'
      have hlb := Lib.hid (lb_eq l n j hjl h1 h2)
      by_cases hin : j < l.length
      · obtain ⟨ad, rfl, hc⟩ := hr j (.int .i64 l[j]) (by simp [ins, hin])
        have hle := h2 j hin (Nat.le_refl _)
        by_cases hx : l[j] = n
        · have hb : (l[j] == n) = true := by simp [hx]
          clear hx
          go_wp2_with (go_at_call 100; refine (isNaN_slices _ _).mono ?_; rintro e w' ⟨rfl, rfl⟩)
          go_ret2
          exact ⟨by rw [hlb.out]; simp at hb; simp [hin, hb], rfl⟩
        · have hb : (l[j] == n) = false := by simp [hx]
          go_wp2_with (go_at_call 100; refine (isNaN_slices _ _).mono ?_; rintro e w' ⟨rfl, rfl⟩)
          go_ret2
          exact ⟨by rw [hlb.out]; simp [hin, hx], rfl⟩
      · go_wp2_with (go_at_call 100; refine (isNaN_slices _ _).mono ?_; rintro e w' ⟨rfl, rfl⟩)
        go_ret2
        exact ⟨by rw [hlb.out]; simp [hin], rfl⟩

/-! ### the sizes of a kind -/
def fdSizes : List Int := [0, 1, 2, 3, 4, 5, 6, 7, 8, 12, 16, 20, 24, 32, 48, 64]
theorem fdSizes_rise : ∀ i k (hi : i < fdSizes.length) (hk : k < fdSizes.length), i ≤ k → fdSizes[i] ≤ fdSizes[k] := by
  have h : ∀ k : Fin 16, ∀ i : Fin 16, i.val ≤ k.val → fdSizes[i.val]'i.isLt ≤ fdSizes[k.val]'k.isLt := by decide
  exact fun i k hi hk hik => h ⟨k, hk⟩ ⟨i, hi⟩ hik
/-- What kinds but FD have: the bounds of a row without gaps. -/
def loOf (k : Int) : Int := if k = 1 then 0 else 1
def hiOf (k : Int) : Int := if k = 1 then 8 else if k = 3 then 2048 else 0
set_option maxHeartbeats 400000 in
theorem of_other (k : Int) (w : World) (h : k ≠ 2) :
    Calls Tryz.prog 75 #[.int .i64 k] w fun e w' => e = .returned (.agg #[.slice none 0 0, .int .i64 (loOf k), .int .i64 (hiOf k)]) ∧ Below w.heap.size w w' := by
  have h2 : (k == 2) = false := by simp [h]
  by_cases h1 : k = 1
  · subst h1
    clear h h2
    go_enter Tryz.func75, Tryz.ntmps75
    go_wp2
    exact bodyPost_ret (v := .agg #[.slice none 0 0, .int .i64 0, .int .i64 8]) (by simp [results, Tryz.results75, go_sem]) rfl ⟨rfl, ((Below.refl _ _).alloc (Nat.le_refl _) _)⟩
  · by_cases h3 : k = 3
    · subst h3
      clear h h2 h1
      go_enter Tryz.func75, Tryz.ntmps75
      go_wp2
      exact bodyPost_ret (v := .agg #[.slice none 0 0, .int .i64 1, .int .i64 2048]) (by simp [results, Tryz.results75, go_sem]) rfl ⟨rfl, ((Below.refl _ _).alloc (Nat.le_refl _) _)⟩
    · have hl : loOf k = 1 := by simp [loOf, h1]
      have hh : hiOf k = 0 := by simp [hiOf, h1, h3]
      rw [hl, hh]
      have h1' : (k == 1) = false := by simp [h1]
      have h3' : (k == 3) = false := by simp [h3]
      clear h h1 h3 hl hh
      go_enter Tryz.func75, Tryz.ntmps75
      go_wp2
      exact bodyPost_ret (v := .agg #[.slice none 0 0, .int .i64 1, .int .i64 0]) (by simp [results, Tryz.results75, go_sem]) rfl ⟨rfl, ((Below.refl _ _).alloc (Nat.le_refl _) _)⟩
set_option maxHeartbeats 400000 in
theorem of_fd (w : World) :
    Calls Tryz.prog 75 #[.int .i64 2] w fun e w' => ∃ ad, e = .returned (.agg #[.slice (some ad) 16 16, .int .i64 0, .int .i64 0]) ∧ Rd w' (some ad) (ins fdSizes) ∧ Below w.heap.size w w' := by
  go_enter Tryz.func75, Tryz.ntmps75
  go_wp2
  refine bodyPost_ret (v := .agg #[.slice (some ⟨w.heap.size + 1, 0, none⟩) 16 16, .int .i64 0, .int .i64 0]) (by simp [results, Tryz.results75, go_sem]) rfl ⟨_, rfl, ?_, below_alloc ((Below.refl _ _).alloc (Nat.le_refl _) _) _⟩
  refine Rd.blk (cs := (ins fdSizes).toArray) (t := 3) (fr := (0, 0)) ?_
  exact heap_new_at (by simp)
end Go.Proofs.YtlmdkmflbhnlgaaGreat
namespace Go.Proofs.YtlmdkmflbhnlgaaGreat
open Go.RowKit


/-! ### codes -/
/-- A size's code; none: there is none. -/
def codeF (k n : Int) : Option Int :=
  if k = 2 then (if fdSizes[lb fdSizes n]? = some n then some (lb fdSizes n : Int) else none)
  else if loOf k ≤ n ∧ n ≤ hiOf k then some (n - loOf k) else none
/-- What a size's code is told as: the code, and the error. -/
def codeV (o : Option Int) : Value := .tuple #[.int .i64 (o.getD 0), .int .i64 (if o.isSome then 0 else 2)]

/-- What a size's code is told as, within layer 5: the code, and whether there is one. -/
def CodeB (o : Option Int) (e : Ending) : Prop := ∃ c b, e = .returned (.tuple #[.int .i64 c, .bool b]) ∧ ((b = true ∧ o = some c) ∨ (b = false ∧ o = none))
set_option maxHeartbeats 400000 in
theorem sizes_code_other (k n : Int) (w : World) (hk : k ≠ 2) (h0 : 0 ≤ n) (h1 : n ≤ 9223372036854775807) :
    Calls Tryz.prog 54 #[.agg #[.slice none 0 0, .int .i64 (loOf k), .int .i64 (hiOf k)], .int .i64 n] w fun e w' => CodeB (codeF k n) e ∧ Below w.heap.size w w' := by
  have hl : 0 ≤ loOf k ∧ loOf k ≤ 1 := by unfold loOf; split <;> omega
  obtain ⟨hl0, hl1⟩ := hl
  have hf : codeF k n = if loOf k ≤ n ∧ n ≤ hiOf k then some (n - loOf k) else none := by simp [codeF, hk]
  generalize codeF k n = o at *
  generalize loOf k = lo at *
  generalize hiOf k = hi at *
  have HF := Lib.hid hf
  clear hf hk
  by_cases hc : lo ≤ n
  · by_cases hd : n ≤ hi
    all_goals
      go_enter Tryz.func54, Tryz.ntmps54
      go_wp2
      go_quiet (fail)
      go_wp2
      go_ret2
      exact ⟨⟨_, _, rfl, by rw [HF.out]; simp [hc, hd]⟩, below_drewN (below_alloc (Below.refl _ _) _) _⟩
  · have hc' : decide (lo ≤ n) = false := by simp [hc]
    go_enter Tryz.func54, Tryz.ntmps54
    go_wp2
    go_quiet (fail)
    go_wp2
    go_ret2
    exact ⟨⟨_, _, rfl, by rw [HF.out]; simp; omega⟩, below_drewN (below_alloc (Below.refl _ _) _) _⟩
set_option maxHeartbeats 400000 in
theorem sizes_code_fd (ad : Addr) (n : Int) (w : World) (hr : Rd w (some ad) (ins fdSizes)) :
    Calls Tryz.prog 54 #[.agg #[.slice (some ad) 16 16, .int .i64 0, .int .i64 0], .int .i64 n] w fun e w' => CodeB (codeF 2 n) e ∧ Below w.heap.size w w' := by
  have hf : codeF 2 n = if fdSizes[lb fdSizes n]? = some n then some (lb fdSizes n : Int) else none := by simp [codeF]
  generalize codeF 2 n = o at *
  have HF := Lib.hid hf
  have HR := Lib.hid hr
  clear hf hr
  go_enter Tryz.func54, Tryz.ntmps54
  go_wp2_with fail
  refine (bsearch_any (some ad) 16 fdSizes n _ (HR.out.alloc _) (by decide) fdSizes_rise).mono ?_
  rintro e w' ⟨rfl, rfl⟩
  go_wp2
  go_ret2
  refine ⟨⟨_, _, rfl, ?_⟩, below_alloc (Below.refl _ _) _⟩
  rw [HF.out]
  by_cases h : fdSizes[lb fdSizes n]? = some n <;> simp [h]

theorem codeV_some (c : Int) : codeV (some c) = .tuple #[.int .i64 c, .int .i64 0] := rfl
theorem codeV_none : codeV none = .tuple #[.int .i64 0, .int .i64 2] := rfl
set_option maxHeartbeats 400000 in
theorem Code_any (k n : Int) (w : World) (h0 : 0 ≤ n) (h1 : n ≤ 9223372036854775807) :
    Calls Tryz.prog 29 #[.int .i64 k, .int .i64 n] w fun e w' => e = .returned (codeV (codeF k n)) ∧ Below w.heap.size w w' := by
  have ask : Calls Tryz.prog 53 #[.func (.func 54) #[] #[], .int .i64 k, .int .i64 n] w fun e w' => e = .returned (codeV (codeF k n)) ∧ Below w.heap.size w w' := by
    by_cases hk : k = 2
    · subst hk
      generalize ho : codeF 2 n = o
      have HO := Lib.hid ho
      clear ho
      go_enter Tryz.func53, Tryz.ntmps53
      go_wp2_with fail
      refine (of_fd _).mono ?_
      rintro e w1 ⟨ad, rfl, hr, hb⟩
      have HB := Lib.hid hb
      have HR := Lib.hid hr
      clear hb hr
      go_wp2_with fail
      refine (sizes_code_fd ad n _ HR.out).mono ?_
      rintro e w2 ⟨⟨c, b, rfl, hcb⟩, hb2⟩
      rw [HO.out] at hcb
      have HB2 := Lib.hid hb2
      have HCB := Lib.hid hcb
      clear hb2 hcb
      go_wp2
      all_goals
        go_ret2
        refine ⟨?_, below_trans HB.out HB2.out⟩
        rcases HCB.out with ⟨h1, h2⟩ | ⟨h1, h2⟩ <;> simp_all [codeV]
    · generalize ho : codeF k n = o
      have HO := Lib.hid ho
      have HK := Lib.hid hk
      clear ho hk
      go_enter Tryz.func53, Tryz.ntmps53
      go_wp2_with fail
      refine (of_other k _ HK.out).mono ?_
      rintro e w1 ⟨rfl, hb⟩
      have HB := Lib.hid hb
      clear hb
      go_wp2_with fail
      refine (sizes_code_other k n _ HK.out h0 h1).mono ?_
      rintro e w2 ⟨⟨c, b, rfl, hcb⟩, hb2⟩
      rw [HO.out] at hcb
      have HB2 := Lib.hid hb2
      have HCB := Lib.hid hcb
      clear hb2 hcb
      go_wp2
      all_goals
        go_ret2
        refine ⟨?_, below_trans HB.out HB2.out⟩
        rcases HCB.out with ⟨h1, h2⟩ | ⟨h1, h2⟩ <;> simp_all [codeV]
  have HA := Lib.hid ask
  clear ask
  generalize codeF k n = o at *
  go_enter Tryz.func29, Tryz.ntmps29
  go_wp2_with fail
  refine HA.out.mono ?_
  rintro e w1 ⟨rfl, hb⟩
  have HB := Lib.hid hb
  clear hb
  cases o <;> simp only [codeV_some, codeV_none]
  all_goals
    go_wp2
    go_ret2
    exact ⟨rfl, HB.out⟩
end Go.Proofs.YtlmdkmflbhnlgaaGreat
