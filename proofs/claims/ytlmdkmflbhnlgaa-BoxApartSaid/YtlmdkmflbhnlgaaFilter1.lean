/- filter.Check: which banks may be. No condition. -/
import Derived.Test.YtlmdkmflbhnlgaaFilter0
import Derived.Test.YtlmdkmflbhnlgaaCheck2
namespace Go.Proofs.Ytlmdkmflbhnlgaa
open Go.RowKit
def ruL (r : Ru) : List Value := [.int .i64 r.kinds, .int .u32 r.id, .int .u32 r.idm, .int .u8 r.sdt, .int .u8 r.sdtm, .int .u8 r.vcid, .int .u8 r.vcidm, .int .u32 r.af, .int .u32 r.afm, .bool r.inn]
/-- A slice of rules that reads. -/
def RdRu (w : World) (A : Option Addr) (rs : List Ru) : Prop := ∀ j (h : j < rs.length), ∃ ad, A = some ad ∧ ∀ k u, (ruL rs[j])[k]? = some u → w.cell? ((ad.add (j * 10)).add k) = some u
theorem RdRu.at_ {w : World} {A : Option Addr} {rs : List Ru} (h : RdRu w A rs) (j : Nat) (hj : j < rs.length) (n : Nat) (hn : n = j * 10) : ∃ ad, A = some ad ∧
    w.cell? (ad.add n) = some (.int .i64 rs[j].kinds) ∧ w.cell? ⟨(ad.add n).block, (ad.add n).off + 1, none⟩ = some (.int .u32 rs[j].id) ∧ w.cell? ⟨(ad.add n).block, (ad.add n).off + 2, none⟩ = some (.int .u32 rs[j].idm) ∧ w.cell? ⟨(ad.add n).block, (ad.add n).off + 3, none⟩ = some (.int .u8 rs[j].sdt) ∧
    w.cell? ⟨(ad.add n).block, (ad.add n).off + 4, none⟩ = some (.int .u8 rs[j].sdtm) ∧ w.cell? ⟨(ad.add n).block, (ad.add n).off + 5, none⟩ = some (.int .u8 rs[j].vcid) ∧ w.cell? ⟨(ad.add n).block, (ad.add n).off + 6, none⟩ = some (.int .u8 rs[j].vcidm) ∧ w.cell? ⟨(ad.add n).block, (ad.add n).off + 7, none⟩ = some (.int .u32 rs[j].af) ∧
    w.cell? ⟨(ad.add n).block, (ad.add n).off + 8, none⟩ = some (.int .u32 rs[j].afm) ∧ w.cell? ⟨(ad.add n).block, (ad.add n).off + 9, none⟩ = some (.bool rs[j].inn) := by
  subst hn
  obtain ⟨ad, e, hc⟩ := h j hj
  have h0 := hc 0 _ rfl
  have e0 : (ad.add (j * 10)).add 0 = ad.add (j * 10) := by simp [Addr.add]
  rw [e0] at h0
  exact ⟨ad, e, h0, hc 1 _ rfl, hc 2 _ rfl, hc 3 _ rfl, hc 4 _ rfl, hc 5 _ rfl, hc 6 _ rfl, hc 7 _ rfl, hc 8 _ rfl, hc 9 _ rfl⟩
theorem RdRu.below {w w' : World} {A : Option Addr} {rs : List Ru} (h : RdRu w A rs) (hb : Below w.heap.size w w') : RdRu w' A rs := fun j hj =>
  let ⟨ad, e, hc⟩ := h j hj
  ⟨ad, e, fun k u hk => Below.cell_of hb (hc k u hk)⟩
theorem badRule_any (r : Ru) (w : World) : Calls Try.prog 57 #[ruV r] w fun e w' => e = .returned (.bool (!mayR r)) ∧ Below w.heap.size w w' := by
  have HM := Lib.hid (rmay_any r)
  obtain ⟨v, hv⟩ : ∃ v, mayR r = v := ⟨_, rfl⟩
  rw [hv] at HM ⊢
  clear hv
  go_enter Try.func57, Try.ntmps57
  go_wp2_with fail
  refine (HM.out _).mono ?_
  rintro e w1 ⟨rfl, hb⟩
  have HB := Lib.hid hb
  clear hb
  go_wp2_with fail
  go_ret
  exact ⟨rfl, below_trans (below_alloc (Below.refl _ _) _) HB.out⟩
/-- Where the first rule stands that may not be. -/
def BadAt (rs : List Ru) (e : Ending) (w w' : World) : Prop := (∃ k : Int, e = .returned (.int .i64 k) ∧ (k < 0 ↔ ∀ r ∈ rs, mayR r = true)) ∧ Below w.heap.size w w'
set_option maxRecDepth 100000 in
set_option maxHeartbeats 1000000 in
theorem indexBad_any (A : Option Addr) (n c : Nat) (rs : List Ru) (w : World) (hr : RdRu w A rs) (hn : rs.length = n) (hc : n ≤ 100000000) :
    Calls Try.prog 76 #[.slice A n c, .func (.func 57) #[] #[]] w (BadAt rs · w ·) := by
  have HR := Lib.hid hr
  have HN := Lib.hid hn
  clear hr hn
  go_enter Try.func76, Try.ntmps76
  go_wp2_with fail
  go_loopw [8] (fun iv wr => ∃ k : Nat, k ≤ n ∧ Hid (∀ j (h : j < rs.length), j < k → mayR rs[j] = true) ∧ iv = .int .i64 k ∧ Hid (Below w.heap.size w wr)) (fun iv _ => n - (intOf iv).toNat)
  case atStart => exact ⟨0, by omega, fun j _ h => absurd h (by omega), rfl, Below.refl _ _⟩
  case round =>
    obtain ⟨k, hk, HK, rfl, HB⟩ := hrel
    by_cases hkn : k < n
    · have hkl : k < rs.length := by rw [HN.out]; exact hkn
      obtain ⟨ad, rfl, a0, a1, a2, a3, a4, a5, a6, a7, a8, a9⟩ := (HR.out.below HB.out).at_ k hkl (k * 10) rfl
      have hmem : rs[k] ∈ rs := List.getElem_mem hkl
      obtain ⟨x, hx⟩ : ∃ x, rs[k] = x := ⟨_, rfl⟩
      rw [hx] at a0 a1 a2 a3 a4 a5 a6 a7 a8 a9 hmem
      have HX := Lib.hid hx
      have HM := Lib.hid hmem
      have HC := Lib.hid (badRule_any x)
      obtain ⟨v, hv⟩ : ∃ v, mayR x = v := ⟨_, rfl⟩
      rw [hv] at HC
      have HV := Lib.hid hv
      clear hx hmem hv
      obtain ⟨x0, x1, x2, x3, x4, x5, x6, x7, x8, x9⟩ := x
      dsimp only [ruV] at *
      cases v
      · go_wp2_with fail
        refine (HC.out _).mono ?_
        rintro e w1 ⟨rfl, hb⟩
        have HB1 := Lib.hid (below_trans HB.out hb)
        clear hb
        go_wp2_with fail
        go_ret
        exact ⟨⟨_, rfl, by constructor <;> intro h; omega; have := h _ HM.out; rw [HV.out] at this; cases this⟩, HB1.out⟩
      · go_wp2_with fail
        refine (HC.out _).mono ?_
        rintro e w1 ⟨rfl, hb⟩
        have HB1 := Lib.hid (below_trans HB.out hb)
        clear hb
        go_wp2_with fail
        go_roundw
        case rel =>
          refine ⟨k + 1, by omega, fun j h hj => ?_, by go_num, HB1⟩
          by_cases hjk : j = k
          · subst hjk; rw [HX.out]; exact HV.out
          · exact HK.out j h (by omega)
        case measure => simp [intOf]; omega
    · obtain rfl : k = n := by omega
      go_wp2_with fail
      go_ret
      refine ⟨⟨_, rfl, by
        constructor
        · intro _ x hx
          obtain ⟨j, hj, rfl⟩ := List.getElem_of_mem hx
          exact HK.out j hj (by rw [← HN.out]; exact hj)
        · intro _; omega⟩, HB.out⟩
set_option maxHeartbeats 1000000 in
theorem containsBad_any (A : Option Addr) (n c : Nat) (rs : List Ru) (w : World) (hr : RdRu w A rs) (hn : rs.length = n) (hc : n ≤ 100000000) :
    Calls Try.prog 59 #[.slice A n c, .func (.func 57) #[] #[]] w fun e w' => e = .returned (.bool (!rs.all mayR)) ∧ Below w.heap.size w w' := by
  have HI := Lib.hid (indexBad_any A n c rs w hr hn hc)
  clear hr hn
  go_enter Try.func59, Try.ntmps59
  go_wp2_with fail
  refine HI.out.mono ?_
  rintro e w1 ⟨⟨k, rfl, hk⟩, hb⟩
  have HK := Lib.hid hk
  have HB := Lib.hid hb
  clear hk hb
  go_wp2_with fail
  go_ret
  refine ⟨ret_bool ?_, HB.out⟩
  have hk := HK.out
  have e1 : rs.all mayR = decide (k < 0) := by
    rw [Bool.eq_iff_iff, List.all_eq_true, decide_eq_true_eq]; exact hk.symm
  rw [e1]
  by_cases h : k < 0
  · simp [h]
  · simp [h]; omega
/-- May a bank be? -/
def bankOk (rs : List Ru) : Bool := decide (rs.length ≤ 32) && rs.all mayR
set_option maxRecDepth 100000 in
set_option maxHeartbeats 1000000 in
theorem FCheck_any (A : Option Addr) (n c : Nat) (els : Bool) (rs : List Ru) (w : World) (hr : RdRu w A rs) (hn : rs.length = n) (hc : n ≤ 9223372036854775807) :
    Calls Try.prog 31 #[.agg #[.slice A n c, .bool els]] w fun e w' => e = .returned (errV (bankOk rs)) ∧ Below w.heap.size w w' := by
  by_cases hl : n ≤ 32
  · have HI := Lib.hid (fun W hW => containsBad_any A n c rs W hW hn (by omega))
    have HR := Lib.hid hr
    obtain ⟨r, hR⟩ : ∃ r, (rs.all mayR) = r := ⟨_, rfl⟩
    rw [hR] at HI
    have hv : bankOk rs = r := by unfold bankOk; rw [hn, hR, decide_eq_true hl]; simp
    rw [hv]
    clear hr hv hR hn
    have hg : decide ((32 : Int) < (n : Int)) = false := decide_eq_false (by omega)
    cases r <;>
    · go_enter Try.func31, Try.ntmps31
      go_wp2_with fail
      refine (HI.out _ (HR.out.below (below_alloc (Below.refl _ _) _))).mono ?_
      rintro e w1 ⟨rfl, hb⟩
      have HB := Lib.hid hb
      clear hb
      go_wp2_with fail
      go_ret
      exact ⟨rfl, below_trans (below_alloc (Below.refl _ _) _) HB.out⟩
  · have hv : bankOk rs = false := by unfold bankOk; rw [hn, decide_eq_false hl]; rfl
    rw [hv]
    clear hr hv
    have hg : (32 : Int) < (n : Int) := by omega
    go_enter Try.func31, Try.ntmps31
    go_wp2_with fail
    go_ret
    exact ⟨rfl, below_alloc (Below.refl _ _) _⟩
end Go.Proofs.Ytlmdkmflbhnlgaa
