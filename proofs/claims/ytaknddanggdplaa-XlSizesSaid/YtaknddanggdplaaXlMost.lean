/- xl.Most: how many bits an XL frame has at most. No condition. -/
import Derived.Test.YtaknddanggdplaaPXlLaw
namespace Go.Proofs.Ytaknddanggdplaa
open Go.RowKit
theorem XlBody_okN (f : Fr) (A : Option Addr) (c N : Nat) (w : World) (hk : f.kind = 3) (hok : okF f = true) (hf : FrN f) (hr : Rd w A (bys f.data)) (hN : (bodyX f).length = N) :
    Calls Try.prog 23 #[frv f (.slice A f.data.length c)] w fun e w' => (∃ A' c', e = .returned (.tuple #[.slice A' N c', .int .i64 0]) ∧ Row w' w.heap.size 5 A' c' (bys (bodyX f))) ∧ Below w.heap.size w w' := by
  have h := XlBody_ok f A c w hk hok hf.id0 hf.sdt hf.vcid hf.af hr hf.data
  rw [bodyX_length] at hN
  rw [hN] at h
  exact h
set_option maxHeartbeats 1000000 in
theorem XlMost_any (n : Nat) (w : World) (h1 : 1 ≤ n) (h2 : n ≤ 2048) :
    Calls Try.prog 25 #[.int .i64 n] w fun e w' => e = .returned (.tuple #[.int .i64 ((39 + fsize (109 + 8 * n) 8 false : Nat) : Int), .int .i64 0]) ∧ Below w.heap.size w w' := by
  have hc := fun W => Code_any 3 (n : Int) W (by omega) (by omega)
  have e : codeF 3 (n : Int) = some ((n : Int) - 1) := by
    unfold codeF
    rw [if_neg (by decide), if_pos (show loOf 3 ≤ (n : Int) ∧ (n : Int) ≤ hiOf 3 from ⟨by show (1 : Int) ≤ _; omega, by show _ ≤ (2048 : Int); omega⟩)]
    rfl
  rw [e] at hc
  have e2 : codeV (some ((n : Int) - 1)) = .tuple #[.int .i64 ((n : Int) - 1), .int .i64 0] := rfl
  rw [e2] at hc
  have HC := Lib.hid hc
  have hs := fun W => FSize_any (109 + 8 * n) 8 false W (by decide) (by decide) (by omega)
  have e3 : ((109 + 8 * n : Nat) : Int) = 109 + 8 * (n : Int) := by omega
  rw [e3] at hs
  have hfs : fsize (109 + 8 * n) 8 false ≤ 40000 := by unfold fsize; rw [if_neg (by omega)]; simp; omega
  have HS := Lib.hid hs
  obtain ⟨q, hq⟩ : ∃ q, fsize (109 + 8 * n) 8 false = q := ⟨_, rfl⟩
  rw [hq] at HS hfs ⊢
  clear hc hs e e2 e3 hq
  go_enter Try.func25, Try.ntmps25
  go_wp2_with fail
  refine (extc_same (HC.out _)).mono ?_
  rintro x _ ⟨e1, rfl, rfl⟩
  go_wp2_with fail
  refine (extc (xlWay_any _)).mono ?_
  rintro x _ ⟨e2, rfl, rfl⟩
  go_wp2_with fail
  refine (extc (HS.out _)).mono ?_
  rintro x _ ⟨e3, rfl, rfl⟩
  go_wp2_with fail
  go_ret2
  exact ⟨ret_fst (by omega), e3.below⟩
theorem xlMost_ok (f : Fr) (hk : f.kind = 3) (hok : okF f = true) : ∃ mo : Nat, (∀ w, Calls Try.prog 25 #[.int .i64 f.data.length] w fun e w' => e = .returned (.tuple #[.int .i64 mo, .int .i64 0]) ∧ Below w.heap.size w w') ∧ (rawX f).length + 10 ≤ mo ∧ (bodyX f).length < (rawX f).length + 10 := by
  obtain ⟨-, hn1, hn2, -⟩ := okX f hk hok
  refine ⟨_, fun w => XlMost_any f.data.length w hn1 hn2, ?_, ?_⟩
  · have h1 := rawX_len f
    have h2 := stuffX_le f
    have h3 : fsize (109 + 8 * f.data.length) 8 false = 109 + 8 * f.data.length + (108 + 8 * f.data.length) / 8 := by unfold fsize; rw [if_neg (by omega)]; simp
    omega
  · have h1 := rawX_len f
    rw [bodyX_length]
    omega
end Go.Proofs.Ytaknddanggdplaa
