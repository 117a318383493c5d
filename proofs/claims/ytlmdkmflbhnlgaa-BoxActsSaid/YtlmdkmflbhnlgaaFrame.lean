/- What the functions of layer 5 (frame) answer: sizes, codes, and which frames may be. No condition. -/
import Derived.Test.YtlmdkmflbhnlgaaProg
import Derived.Test.YtlmdkmflbhnlgaaFrame0
namespace Go.Proofs.Ytlmdkmflbhnlgaa
open Go.RowKit


/-! ### codes -/
/-- A size's code; none: there is none. -/
def codeF (k n : Int) : Option Int :=
  if k = 2 then (if fdSizes[lb fdSizes n]? = some n then some (lb fdSizes n : Int) else none)
  else if loOf k ≤ n ∧ n ≤ hiOf k then some (n - loOf k) else none
/-- What a size's code is told as: the code, and the error. -/
def codeV (o : Option Int) : Value := .tuple #[.int .i64 (o.getD 0), .int .i64 (if o.isSome then 0 else 2)]

/-- What a size's code is told as, within layer 5: the code, and whether there is one. -/
def CodeB (o : Option Int) (e : Ending) : Prop := ∃ c b, e = .returned (.tuple #[.int .i64 c, .bool b]) ∧ ((b = true ∧ o = some c) ∨ (b = false ∧ o = none))
set_option maxHeartbeats 400000 in
theorem sizes_code_other (k n : Int) (w : World) (hk : k ≠ 2) (h0 : 0 ≤ n) (h1 : n ≤ 9223372036854775807) :
    Calls Try.prog 66 #[.agg #[.slice none 0 0, .int .i64 (loOf k), .int .i64 (hiOf k)], .int .i64 n] w fun e w' => CodeB (codeF k n) e ∧ Below w.heap.size w w' := by
  have hl : 0 ≤ loOf k ∧ loOf k ≤ 1 := by unfold loOf; split <;> omega
  obtain ⟨hl0, hl1⟩ := hl
  have hf : codeF k n = if loOf k ≤ n ∧ n ≤ hiOf k then some (n - loOf k) else none := by simp [codeF, hk]
  generalize codeF k n = o at *
  generalize loOf k = lo at *
  generalize hiOf k = hi at *
  have HF := Lib.hid hf
  clear hf hk
  by_cases hc : lo ≤ n
  · by_cases hd : n ≤ hi
    all_goals
      go_enter Try.func66, Try.ntmps66
      go_wp2
      go_quiet (fail)
      go_wp2
      go_ret2
      exact ⟨⟨_, _, rfl, by rw [HF.out]; simp [hc, hd]⟩, below_drewN (below_alloc (Below.refl _ _) _) _⟩
  · have hc' : decide (lo ≤ n) = false := by simp [hc]
    go_enter Try.func66, Try.ntmps66
    go_wp2
    go_quiet (fail)
    go_wp2
    go_ret2
    exact ⟨⟨_, _, rfl, by rw [HF.out]; simp; omega⟩, below_drewN (below_alloc (Below.refl _ _) _) _⟩
set_option maxHeartbeats 400000 in
theorem sizes_code_fd (ad : Addr) (n : Int) (w : World) (hr : Rd w (some ad) (ins fdSizes)) :
    Calls Try.prog 66 #[.agg #[.slice (some ad) 16 16, .int .i64 0, .int .i64 0], .int .i64 n] w fun e w' => CodeB (codeF 2 n) e ∧ Below w.heap.size w w' := by
  have hf : codeF 2 n = if fdSizes[lb fdSizes n]? = some n then some (lb fdSizes n : Int) else none := by simp [codeF]
  generalize codeF 2 n = o at *
  have HF := Lib.hid hf
  have HR := Lib.hid hr
  clear hf hr
  go_enter Try.func66, Try.ntmps66
  go_wp2_with fail
  refine (bsearch_any (some ad) 16 fdSizes n _ (HR.out.alloc _) (by decide) fdSizes_rise).mono ?_
  rintro e w' ⟨rfl, rfl⟩
  go_wp2
  go_ret2
  refine ⟨⟨_, _, rfl, ?_⟩, below_alloc (Below.refl _ _) _⟩
  rw [HF.out]
  by_cases h : fdSizes[lb fdSizes n]? = some n <;> simp [h]

theorem codeV_some (c : Int) : codeV (some c) = .tuple #[.int .i64 c, .int .i64 0] := rfl
theorem codeV_none : codeV none = .tuple #[.int .i64 0, .int .i64 2] := rfl
set_option maxHeartbeats 400000 in
theorem Code_any (k n : Int) (w : World) (h0 : 0 ≤ n) (h1 : n ≤ 9223372036854775807) :
    Calls Try.prog 39 #[.int .i64 k, .int .i64 n] w fun e w' => e = .returned (codeV (codeF k n)) ∧ Below w.heap.size w w' := by
  have ask : Calls Try.prog 65 #[.func (.func 66) #[] #[], .int .i64 k, .int .i64 n] w fun e w' => e = .returned (codeV (codeF k n)) ∧ Below w.heap.size w w' := by
    by_cases hk : k = 2
    · subst hk
      generalize ho : codeF 2 n = o
      have HO := Lib.hid ho
      clear ho
      go_enter Try.func65, Try.ntmps65
      go_wp2_with fail
      refine (of_fd _).mono ?_
      rintro e w1 ⟨ad, rfl, hr, hb⟩
      have HB := Lib.hid hb
      have HR := Lib.hid hr
      clear hb hr
      go_wp2_with fail
      refine (sizes_code_fd ad n _ HR.out).mono ?_
      rintro e w2 ⟨⟨c, b, rfl, hcb⟩, hb2⟩
      rw [HO.out] at hcb
      have HB2 := Lib.hid hb2
      have HCB := Lib.hid hcb
      clear hb2 hcb
      go_wp2
      all_goals
        go_ret2
        refine ⟨?_, below_trans HB.out HB2.out⟩
        rcases HCB.out with ⟨h1, h2⟩ | ⟨h1, h2⟩ <;> simp_all [codeV]
    · generalize ho : codeF k n = o
      have HO := Lib.hid ho
      have HK := Lib.hid hk
      clear ho hk
      go_enter Try.func65, Try.ntmps65
      go_wp2_with fail
      refine (of_other k _ HK.out).mono ?_
      rintro e w1 ⟨rfl, hb⟩
      have HB := Lib.hid hb
      clear hb
      go_wp2_with fail
      refine (sizes_code_other k n _ HK.out h0 h1).mono ?_
      rintro e w2 ⟨⟨c, b, rfl, hcb⟩, hb2⟩
      rw [HO.out] at hcb
      have HB2 := Lib.hid hb2
      have HCB := Lib.hid hcb
      clear hb2 hcb
      go_wp2
      all_goals
        go_ret2
        refine ⟨?_, below_trans HB.out HB2.out⟩
        rcases HCB.out with ⟨h1, h2⟩ | ⟨h1, h2⟩ <;> simp_all [codeV]
  have HA := Lib.hid ask
  clear ask
  generalize codeF k n = o at *
  go_enter Try.func39, Try.ntmps39
  go_wp2_with fail
  refine HA.out.mono ?_
  rintro e w1 ⟨rfl, hb⟩
  have HB := Lib.hid hb
  clear hb
  cases o <;> simp only [codeV_some, codeV_none]
  all_goals
    go_wp2
    go_ret2
    exact ⟨rfl, HB.out⟩
end Go.Proofs.Ytlmdkmflbhnlgaa
