/- fd.Most: how many bits an FD frame has at most. No condition. -/
import Derived.Test.YtaknddanggdplaaFdWire
namespace Go.Proofs.Ytaknddanggdplaa
open Go.RowKit
theorem FdBody_okN (f : Fr) (A : Option Addr) (c N : Nat) (w : World) (hk : f.kind = 2) (hok : okF f = true) (hf : FrN f) (hr : Rd w A (bys f.data)) (hN : (bodyD f).length = N) :
    Calls Try.prog 29 #[frv f (.slice A f.data.length c)] w fun e w' => (∃ A' c', e = .returned (.tuple #[.slice A' N c', .int .i64 0]) ∧ Row w' w.heap.size 5 A' c' (bys (bodyD f))) ∧ Below w.heap.size w w' :=
  FdBody_ok f A c N w hk hok hf.id0 hr hf.data hN
/-- How many bits an FD frame of so many bytes has at most. -/
def mostD (n : Nat) : Nat := 22 + 8 * n + (21 + 8 * n) / 4 + fsize (4 + sizeS n) 4 true + 10
set_option maxHeartbeats 1000000 in
theorem FdMost_any (n : Nat) (co : Int) (w : World) (h2 : n ≤ 64) (hco : codeF 2 (n : Int) = some co) :
    Calls Try.prog 31 #[.int .i64 n] w fun e w' => e = .returned (.tuple #[.int .i64 (mostD n : Nat), .int .i64 0]) ∧ Below w.heap.size w w' := by
  have hc := fun W => Code_any 2 (n : Int) W (by omega) (by omega)
  rw [hco] at hc
  have e2 : codeV (some co) = .tuple #[.int .i64 co, .int .i64 0] := rfl
  rw [e2] at hc
  have HC := Lib.hid hc
  have hS := sizeS_or n
  have hs := fun W => FSize_any (4 + sizeS n) 4 true W (by decide) (by decide) (by omega)
  have e3 : ((4 + sizeS n : Nat) : Int) = 4 + (sizeS n : Int) := by omega
  rw [e3] at hs
  have HZ := Lib.hid (fun W => Size_any (of_S n) W)
  have HSUM := Lib.hid (fun W => fdSum_any n W (by omega))
  have hfs : fsize (4 + sizeS n) 4 true ≤ 1000 := by unfold fsize; rw [if_neg (by omega)]; simp; omega
  have HS := Lib.hid hs
  have hm : mostD n = 22 + 8 * n + (21 + 8 * n) / 4 + fsize (4 + sizeS n) 4 true + 10 := rfl
  obtain ⟨q, hq⟩ : ∃ q, fsize (4 + sizeS n) 4 true = q := ⟨_, rfl⟩
  rw [hq] at HS hfs hm
  obtain ⟨S, hSS⟩ : ∃ S, sizeS n = S := ⟨_, rfl⟩
  rw [hSS] at HS HZ hS
  obtain ⟨K, hK⟩ : ∃ K, kindS n = K := ⟨_, rfl⟩
  rw [hK] at HZ HSUM
  obtain ⟨d, hd⟩ : ∃ d, (21 + 8 * n) / 4 = d := ⟨_, rfl⟩
  have hd2 : d ≤ 200 := by omega
  have hdiv : (22 + 8 * (n : Int) - 1).tdiv 4 = (d : Int) := by rw [Int.tdiv_eq_ediv_of_nonneg (by omega)]; omega
  have hdiv2 : (22 + 8 * (n : Int) - 1) / 4 = (d : Int) := by omega
  rw [hd] at hm
  have HM := Lib.hid hm
  clear hc hs e2 e3 hq hco hSS hK hd hm
  go_enter Try.func31, Try.ntmps31
  go_wp2_with fail
  refine (extc_same (HC.out _)).mono ?_
  rintro x _ ⟨e1, rfl, rfl⟩
  go_wp2_with fail
  refine (HSUM.out _).mono ?_
  rintro x _ ⟨rfl, rfl⟩
  go_wp2_with fail
  refine (extc (HZ.out _)).mono ?_
  rintro x _ ⟨e2, rfl, rfl⟩
  go_wp2_with fail
  refine (extc (fdWay_any _)).mono ?_
  rintro x _ ⟨e3, rfl, rfl⟩
  go_wp2_with fail
  refine (extc (HS.out _)).mono ?_
  rintro x _ ⟨e4, rfl, rfl⟩
  go_wp2_with fail
  go_ret2
  exact ⟨ret_fst (by rw [HM.out]; omega), e4.below⟩
theorem fdMost_ok (f : Fr) (hk : f.kind = 2) (hok : okF f = true) : ∃ mo : Nat, (∀ w, Calls Try.prog 31 #[.int .i64 f.data.length] w fun e w' => e = .returned (.tuple #[.int .i64 mo, .int .i64 0]) ∧ Below w.heap.size w w') ∧ (rawD f).length + 10 ≤ mo ∧ (bodyD f).length < (rawD f).length + 10 := by
  obtain ⟨-, hn2, co, -, hcode, -⟩ := okD f hk hok
  rw [hk] at hcode
  refine ⟨_, fun w => FdMost_any f.data.length co w hn2 hcode, ?_, ?_⟩
  · have h1 := rawD_len f
    have h2 := raw0D_len f
    have h4 := sizeS_or f.data.length
    have h3 : fsize (4 + sizeS f.data.length) 4 true = 4 + sizeS f.data.length + (3 + sizeS f.data.length) / 4 + 1 := by unfold fsize; rw [if_neg (by omega)]; simp
    unfold mostD
    omega
  · have h1 := rawD_len f
    have h2 := raw0D_len f
    rw [bodyD_length]
    omega
end Go.Proofs.Ytaknddanggdplaa
