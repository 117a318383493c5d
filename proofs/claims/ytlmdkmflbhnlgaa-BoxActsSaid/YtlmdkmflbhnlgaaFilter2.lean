/- filter.Rule: which rules may be, and of which frames they are. No condition. -/
import Derived.Test.YtlmdkmflbhnlgaaTurn
import Derived.Test.YtlmdkmflbhnlgaaSame
import Derived.Test.YtlmdkmflbhnlgaaCheck2
import Derived.Test.YtlmdkmflbhnlgaaPOk
namespace Go.Proofs.Ytlmdkmflbhnlgaa
open Go.RowKit
/-- A rule. -/
structure Ru where
  kinds : Int
  id : Int
  idm : Int
  sdt : Int
  sdtm : Int
  vcid : Int
  vcidm : Int
  af : Int
  afm : Int
  inn : Bool
abbrev ruV (r : Ru) : Value := .agg #[.int .i64 r.kinds, .int .u32 r.id, .int .u32 r.idm, .int .u8 r.sdt, .int .u8 r.sdtm, .int .u8 r.vcid, .int .u8 r.vcidm, .int .u32 r.af, .int .u32 r.afm, .bool r.inn]
def mayR (r : Ru) : Bool := decide (1 ≤ r.kinds ∧ r.kinds ≤ 7)
set_option maxHeartbeats 400000 in
theorem rmay_any (r : Ru) (w : World) : Calls Try.prog 58 #[ruV r] w fun e w' => e = .returned (.bool (mayR r)) ∧ Below w.heap.size w w' := by
  obtain ⟨v, hv⟩ : ∃ v, mayR r = v := ⟨_, rfl⟩
  have hv2 := hv
  unfold mayR at hv2
  rw [hv]
  have HV := Lib.hid hv2
  clear hv hv2
  go_enter Try.func58, Try.ntmps58
  go_wp2
  all_goals
    go_ret
    refine ⟨ret_bool ?_, below_alloc (Below.refl _ _) _⟩
    rw [← HV.out]
    simp
    omega
/-- Do two agree under a mask? -/
def maskE (a b m : Int) : Bool := decide (a.toNat &&& m.toNat = b.toNat &&& m.toNat)
def hasR (r : Ru) (k : Int) : Bool := decide (r.kinds / 2 ^ (k - 1).toNat % 2 = 1)
/-- Is a rule of a frame (that may be)? -/
def ofR (r : Ru) (f : Fr) : Bool := hasR r f.kind && (maskE f.id r.id r.idm && maskE f.af r.af r.afm && maskE f.sdt r.sdt r.sdtm && maskE f.vcid r.vcid r.vcidm)
structure RuWf (r : Ru) : Prop where
  id0 : 0 ≤ r.id
  id1 : r.id < 4294967296
  idm0 : 0 ≤ r.idm
  idm1 : r.idm < 4294967296
  sdt0 : 0 ≤ r.sdt
  sdt1 : r.sdt < 256
  sdtm0 : 0 ≤ r.sdtm
  sdtm1 : r.sdtm < 256
  vcid0 : 0 ≤ r.vcid
  vcid1 : r.vcid < 256
  vcidm0 : 0 ≤ r.vcidm
  vcidm1 : r.vcidm < 256
  af0 : 0 ≤ r.af
  af1 : r.af < 4294967296
  afm0 : 0 ≤ r.afm
  afm1 : r.afm < 4294967296
theorem mask_nat (a b m : Nat) : ((a ^^^ b) &&& m = 0) ↔ a &&& m = b &&& m := by
  rw [Nat.and_xor_distrib_right]
  constructor
  · intro h
    have : (a &&& m) ^^^ (b &&& m) ^^^ (b &&& m) = 0 ^^^ (b &&& m) := by rw [h]
    simpa [Nat.xor_assoc] using this
  · intro h; rw [h]; simp
theorem xor_nat (k : IntKind) (j : Nat) (hj : j ≤ k.bits) (hk : ∀ n : Int, 0 ≤ n → n < 2 ^ j → k.wrap n = n) (a b : Nat) (ha : a < 2 ^ j) (hb : b < 2 ^ j) : bits .xor k a b = ((a ^^^ b : Nat) : Int) := by
  have hp : 2 ^ j ≤ 2 ^ k.bits := Nat.pow_le_pow_right (by decide) hj
  have ha' : a % 2 ^ k.bits = a := Nat.mod_eq_of_lt (Nat.lt_of_lt_of_le ha hp)
  have hb' : b % 2 ^ k.bits = b := Nat.mod_eq_of_lt (Nat.lt_of_lt_of_le hb hp)
  have cast : ∀ n : Nat, n < 2 ^ j → ((n : Nat) : Int) < 2 ^ j := fun n h => by exact_mod_cast h
  simp only [bits, BitVec.ofInt_natCast, BitVec.toNat_xor, BitVec.toNat_ofNat, ha', hb']
  exact hk _ (Int.natCast_nonneg _) (cast _ (Nat.xor_lt_two_pow ha hb))
theorem wr32 (n : Int) (h0 : 0 ≤ n) (h1 : n < 2 ^ 32) : IntKind.u32.wrap n = n := by
  have h1 : n < 4294967296 := h1
  simp [IntKind.wrap, IntKind.bits, IntKind.signed]
  omega
theorem u32_nat (a b : Nat) (ha : a < 4294967296) (hb : b < 4294967296) : bits .and .u32 (a : Int) (b : Int) = ((a &&& b : Nat) : Int) ∧ bits .or .u32 (a : Int) (b : Int) = ((a ||| b : Nat) : Int) ∧ bits .xor .u32 (a : Int) (b : Int) = ((a ^^^ b : Nat) : Int) :=
  ⟨(bits_nat .u32 32 (by decide) wr32 a b (by simpa using ha) (by simpa using hb)).1, (bits_nat .u32 32 (by decide) wr32 a b (by simpa using ha) (by simpa using hb)).2, xor_nat .u32 32 (by decide) wr32 a b (by simpa using ha) (by simpa using hb)⟩
theorem u8_nat (a b : Nat) (ha : a < 256) (hb : b < 256) : bits .and .u8 (a : Int) (b : Int) = ((a &&& b : Nat) : Int) ∧ bits .or .u8 (a : Int) (b : Int) = ((a ||| b : Nat) : Int) ∧ bits .xor .u8 (a : Int) (b : Int) = ((a ^^^ b : Nat) : Int) :=
  ⟨(bits_nat .u8 8 (by decide) wraps_u8 a b (by simpa using ha) (by simpa using hb)).1, (bits_nat .u8 8 (by decide) wraps_u8 a b (by simpa using ha) (by simpa using hb)).2, xor_nat .u8 8 (by decide) wraps_u8 a b (by simpa using ha) (by simpa using hb)⟩
theorem kinds_bit (x : Int) (h0 : 0 ≤ x) (h1 : x ≤ 7) : bits .and .i64 x 1 = x % 2 := by
  have h : ∀ k : Fin 8, bits .and .i64 (k.val : Int) 1 = (k.val : Int) % 2 := by decide +kernel
  obtain ⟨n, rfl⟩ := Int.eq_ofNat_of_zero_le h0
  exact h ⟨n, by omega⟩
theorem turned_iff (a b m c d n e g o h i q : Int) (a0 : 0 ≤ a) (a1 : a < 4294967296) (b0 : 0 ≤ b) (b1 : b < 4294967296) (m0 : 0 ≤ m) (m1 : m < 4294967296) (c0 : 0 ≤ c) (c1 : c < 4294967296) (d0 : 0 ≤ d) (d1 : d < 4294967296) (n0 : 0 ≤ n) (n1 : n < 4294967296)
    (e0 : 0 ≤ e) (e1 : e < 256) (g0 : 0 ≤ g) (g1 : g < 256) (o0 : 0 ≤ o) (o1 : o < 256) (h0 : 0 ≤ h) (h1 : h < 256) (i0 : 0 ≤ i) (i1 : i < 256) (q0 : 0 ≤ q) (q1 : q < 256) :
    (bits .or .u32 (bits .or .u32 (bits .or .u32 (bits .and .u32 (bits .xor .u32 a b) m) (bits .and .u32 (bits .xor .u32 c d) n)) (bits .and .u8 (bits .xor .u8 e g) o % 4294967296)) (bits .and .u8 (bits .xor .u8 h i) q % 4294967296) = 0) ↔
      (maskE a b m && maskE c d n && maskE e g o && maskE h i q) = true := by
  obtain ⟨a, rfl⟩ := Int.eq_ofNat_of_zero_le a0
  obtain ⟨b, rfl⟩ := Int.eq_ofNat_of_zero_le b0
  obtain ⟨m, rfl⟩ := Int.eq_ofNat_of_zero_le m0
  obtain ⟨c, rfl⟩ := Int.eq_ofNat_of_zero_le c0
  obtain ⟨d, rfl⟩ := Int.eq_ofNat_of_zero_le d0
  obtain ⟨n, rfl⟩ := Int.eq_ofNat_of_zero_le n0
  obtain ⟨e, rfl⟩ := Int.eq_ofNat_of_zero_le e0
  obtain ⟨g, rfl⟩ := Int.eq_ofNat_of_zero_le g0
  obtain ⟨o, rfl⟩ := Int.eq_ofNat_of_zero_le o0
  obtain ⟨h, rfl⟩ := Int.eq_ofNat_of_zero_le h0
  obtain ⟨i, rfl⟩ := Int.eq_ofNat_of_zero_le i0
  obtain ⟨q, rfl⟩ := Int.eq_ofNat_of_zero_le q0
  have lt32 : ∀ x y : Nat, x < 4294967296 → y < 4294967296 → (x ^^^ y) < 4294967296 ∧ (x ||| y) < 4294967296 ∧ (x &&& y) < 4294967296 := fun x y hx hy =>
    ⟨by have := Nat.xor_lt_two_pow (n := 32) hx hy; exact this, by have := Nat.or_lt_two_pow (n := 32) hx hy; exact this, Nat.lt_of_le_of_lt Nat.and_le_left hx⟩
  have lt8 : ∀ x y : Nat, x < 256 → y < 256 → (x ^^^ y) < 256 ∧ (x &&& y) < 256 := fun x y hx hy =>
    ⟨by have := Nat.xor_lt_two_pow (n := 8) hx hy; exact this, Nat.lt_of_le_of_lt Nat.and_le_left hx⟩
  have A1 := (u32_nat a b (by omega) (by omega)).2.2
  have A2 := (u32_nat (a ^^^ b) m (lt32 a b (by omega) (by omega)).1 (by omega)).1
  have C1 := (u32_nat c d (by omega) (by omega)).2.2
  have C2 := (u32_nat (c ^^^ d) n (lt32 c d (by omega) (by omega)).1 (by omega)).1
  have E1 := (u8_nat e g (by omega) (by omega)).2.2
  have E2 := (u8_nat (e ^^^ g) o (lt8 e g (by omega) (by omega)).1 (by omega)).1
  have H1 := (u8_nat h i (by omega) (by omega)).2.2
  have H2 := (u8_nat (h ^^^ i) q (lt8 h i (by omega) (by omega)).1 (by omega)).1
  have la := (lt32 (a ^^^ b) m (lt32 a b (by omega) (by omega)).1 (by omega)).2.2
  have lc := (lt32 (c ^^^ d) n (lt32 c d (by omega) (by omega)).1 (by omega)).2.2
  have le := (lt8 (e ^^^ g) o (lt8 e g (by omega) (by omega)).1 (by omega)).2
  have lh := (lt8 (h ^^^ i) q (lt8 h i (by omega) (by omega)).1 (by omega)).2
  rw [A1, A2, C1, C2, E1, E2, H1, H2]
  have he : (((e ^^^ g) &&& o : Nat) : Int) % 4294967296 = (((e ^^^ g) &&& o : Nat) : Int) := Int.emod_eq_of_lt (by omega) (by omega)
  have hh : (((h ^^^ i) &&& q : Nat) : Int) % 4294967296 = (((h ^^^ i) &&& q : Nat) : Int) := Int.emod_eq_of_lt (by omega) (by omega)
  rw [he, hh, (u32_nat _ _ la lc).2.1, (u32_nat _ _ (lt32 _ _ la lc).2.1 (by omega)).2.1, (u32_nat _ _ (lt32 _ _ (lt32 _ _ la lc).2.1 (by omega)).2.1 (by omega)).2.1]
  unfold maskE
  simp only [Bool.and_eq_true, decide_eq_true_eq, Int.toNat_natCast]
  rw [← mask_nat a b m, ← mask_nat c d n, ← mask_nat e g o, ← mask_nat h i q]
  constructor
  · intro hz
    have hz : ((a ^^^ b) &&& m ||| (c ^^^ d) &&& n ||| (e ^^^ g) &&& o ||| (h ^^^ i) &&& q) = 0 := by exact_mod_cast hz
    simpa [Nat.or_eq_zero_iff] using hz
  · rintro ⟨⟨⟨x, y⟩, z⟩, u⟩
    rw [x, y, z, u]; rfl
set_option maxRecDepth 100000 in
set_option maxHeartbeats 1000000 in
theorem of_any (r : Ru) (f : Fr) (s : Value) (w : World) (hr : mayR r = true) (hk : f.kind = 1 ∨ f.kind = 2 ∨ f.kind = 3) (hw : RuWf r) (f0 : 0 ≤ f.id) (f1 : f.id < 4294967296) (f2 : 0 ≤ f.af) (f3 : f.af < 4294967296) (f4 : 0 ≤ f.sdt) (f5 : f.sdt < 256) (f6 : 0 ≤ f.vcid) (f7 : f.vcid < 256) :
    Calls Try.prog 62 #[ruV r, frv f s] w fun e w' => e = .returned (.bool (ofR r f)) ∧ Below w.heap.size w w' := by
  have HT := Lib.hid (turned_iff f.id r.id r.idm f.af r.af r.afm f.sdt r.sdt r.sdtm f.vcid r.vcid r.vcidm f0 f1 hw.id0 hw.id1 hw.idm0 hw.idm1 f2 f3 hw.af0 hw.af1 hw.afm0 hw.afm1 f4 f5 hw.sdt0 hw.sdt1 hw.sdtm0 hw.sdtm1 f6 f7 hw.vcid0 hw.vcid1 hw.vcidm0 hw.vcidm1)
  simp only [mayR, decide_eq_true_eq] at hr
  obtain ⟨v, hv⟩ : ∃ v, ofR r f = v := ⟨_, rfl⟩
  have hv2 := hv
  unfold ofR hasR at hv2
  rw [hv]
  have HV := Lib.hid hv2
  obtain ⟨fk, fi, fe, fr, fb, fs, fc, fd, fv, fa, l⟩ := f
  obtain ⟨k0, k1⟩ := hr
  dsimp only [frv] at *
  clear hv hv2 hw f0 f1 f2 f3 f4 f5 f6 f7
  rcases hk with rfl | rfl | rfl
  all_goals
    go_enter Try.func62, Try.ntmps62
    go_wp2
  all_goals
    rename_i hb
    rw [kinds_bit _ (by omega) (by omega)] at hb
    go_ret
    refine ⟨ret_bool ?_, below_alloc (below_alloc (Below.refl _ _) _) _⟩
    rw [← HV.out]
    have ht := HT.out
    have e2 : ∀ x y : Bool, (x = true ↔ y = true) → x = y := by decide
    have e3 : ∀ (T : Int) (y : Bool), (T = 0 ↔ y = true) → (T == 0) = y := fun T y h => e2 _ _ (by rw [beq_iff_eq]; exact h)
    have ht2 := e3 _ _ ht
    simp [hb]
    try exact ht2
end Go.Proofs.Ytlmdkmflbhnlgaa
namespace Go.Proofs.Ytlmdkmflbhnlgaa
open Go.RowKit
def ruL (r : Ru) : List Value := [.int .i64 r.kinds, .int .u32 r.id, .int .u32 r.idm, .int .u8 r.sdt, .int .u8 r.sdtm, .int .u8 r.vcid, .int .u8 r.vcidm, .int .u32 r.af, .int .u32 r.afm, .bool r.inn]
/-- A slice of rules that reads. -/
def RdRu (w : World) (A : Option Addr) (rs : List Ru) : Prop := ∀ j (h : j < rs.length), ∃ ad, A = some ad ∧ ∀ k u, (ruL rs[j])[k]? = some u → w.cell? ((ad.add (j * 10)).add k) = some u
theorem RdRu.at_ {w : World} {A : Option Addr} {rs : List Ru} (h : RdRu w A rs) (j : Nat) (hj : j < rs.length) (n : Nat) (hn : n = j * 10) : ∃ ad, A = some ad ∧
    w.cell? (ad.add n) = some (.int .i64 rs[j].kinds) ∧ w.cell? ⟨(ad.add n).block, (ad.add n).off + 1, none⟩ = some (.int .u32 rs[j].id) ∧ w.cell? ⟨(ad.add n).block, (ad.add n).off + 2, none⟩ = some (.int .u32 rs[j].idm) ∧ w.cell? ⟨(ad.add n).block, (ad.add n).off + 3, none⟩ = some (.int .u8 rs[j].sdt) ∧
    w.cell? ⟨(ad.add n).block, (ad.add n).off + 4, none⟩ = some (.int .u8 rs[j].sdtm) ∧ w.cell? ⟨(ad.add n).block, (ad.add n).off + 5, none⟩ = some (.int .u8 rs[j].vcid) ∧ w.cell? ⟨(ad.add n).block, (ad.add n).off + 6, none⟩ = some (.int .u8 rs[j].vcidm) ∧ w.cell? ⟨(ad.add n).block, (ad.add n).off + 7, none⟩ = some (.int .u32 rs[j].af) ∧
    w.cell? ⟨(ad.add n).block, (ad.add n).off + 8, none⟩ = some (.int .u32 rs[j].afm) ∧ w.cell? ⟨(ad.add n).block, (ad.add n).off + 9, none⟩ = some (.bool rs[j].inn) := by
  subst hn
  obtain ⟨ad, e, hc⟩ := h j hj
  have h0 := hc 0 _ rfl
  have e0 : (ad.add (j * 10)).add 0 = ad.add (j * 10) := by simp [Addr.add]
  rw [e0] at h0
  exact ⟨ad, e, h0, hc 1 _ rfl, hc 2 _ rfl, hc 3 _ rfl, hc 4 _ rfl, hc 5 _ rfl, hc 6 _ rfl, hc 7 _ rfl, hc 8 _ rfl, hc 9 _ rfl⟩
theorem RdRu.below {w w' : World} {A : Option Addr} {rs : List Ru} (h : RdRu w A rs) (hb : Below w.heap.size w w') : RdRu w' A rs := fun j hj =>
  let ⟨ad, e, hc⟩ := h j hj
  ⟨ad, e, fun k u hk => Below.cell_of hb (hc k u hk)⟩
theorem badRule_any (r : Ru) (w : World) : Calls Try.prog 57 #[ruV r] w fun e w' => e = .returned (.bool (!mayR r)) ∧ Below w.heap.size w w' := by
  have HM := Lib.hid (rmay_any r)
  obtain ⟨v, hv⟩ : ∃ v, mayR r = v := ⟨_, rfl⟩
  rw [hv] at HM ⊢
  clear hv
  go_enter Try.func57, Try.ntmps57
  go_wp2_with fail
  refine (HM.out _).mono ?_
  rintro e w1 ⟨rfl, hb⟩
  have HB := Lib.hid hb
  clear hb
  go_wp2_with fail
  go_ret
  exact ⟨rfl, below_trans (below_alloc (Below.refl _ _) _) HB.out⟩
/-- Where the first rule stands that may not be. -/
def BadAt (rs : List Ru) (e : Ending) (w w' : World) : Prop := (∃ k : Int, e = .returned (.int .i64 k) ∧ (k < 0 ↔ ∀ r ∈ rs, mayR r = true)) ∧ Below w.heap.size w w'
set_option maxRecDepth 100000 in
set_option maxHeartbeats 1000000 in
theorem indexBad_any (A : Option Addr) (n c : Nat) (rs : List Ru) (w : World) (hr : RdRu w A rs) (hn : rs.length = n) (hc : n ≤ 100000000) :
    Calls Try.prog 76 #[.slice A n c, .func (.func 57) #[] #[]] w (BadAt rs · w ·) := by
  have HR := Lib.hid hr
  have HN := Lib.hid hn
  clear hr hn
  go_enter Try.func76, Try.ntmps76
  go_wp2_with fail
  go_loopw [8] (fun iv wr => ∃ k : Nat, k ≤ n ∧ Hid (∀ j (h : j < rs.length), j < k → mayR rs[j] = true) ∧ iv = .int .i64 k ∧ Hid (Below w.heap.size w wr)) (fun iv _ => n - (intOf iv).toNat)
  case atStart => exact ⟨0, by omega, fun j _ h => absurd h (by omega), rfl, Below.refl _ _⟩
  case round =>
    obtain ⟨k, hk, HK, rfl, HB⟩ := hrel
    by_cases hkn : k < n
    · have hkl : k < rs.length := by rw [HN.out]; exact hkn
      obtain ⟨ad, rfl, a0, a1, a2, a3, a4, a5, a6, a7, a8, a9⟩ := (HR.out.below HB.out).at_ k hkl (k * 10) rfl
      have hmem : rs[k] ∈ rs := List.getElem_mem hkl
      obtain ⟨x, hx⟩ : ∃ x, rs[k] = x := ⟨_, rfl⟩
      rw [hx] at a0 a1 a2 a3 a4 a5 a6 a7 a8 a9 hmem
      have HX := Lib.hid hx
      have HM := Lib.hid hmem
      have HC := Lib.hid (badRule_any x)
      obtain ⟨v, hv⟩ : ∃ v, mayR x = v := ⟨_, rfl⟩
      rw [hv] at HC
      have HV := Lib.hid hv
      clear hx hmem hv
      obtain ⟨x0, x1, x2, x3, x4, x5, x6, x7, x8, x9⟩ := x
      dsimp only [ruV] at *
      cases v
      · go_wp2_with fail
        refine (HC.out _).mono ?_
        rintro e w1 ⟨rfl, hb⟩
        have HB1 := Lib.hid (below_trans HB.out hb)
        clear hb
        go_wp2_with fail
        go_ret
        exact ⟨⟨_, rfl, by constructor <;> intro h; omega; have := h _ HM.out; rw [HV.out] at this; cases this⟩, HB1.out⟩
      · go_wp2_with fail
        refine (HC.out _).mono ?_
        rintro e w1 ⟨rfl, hb⟩
        have HB1 := Lib.hid (below_trans HB.out hb)
        clear hb
        go_wp2_with fail
        go_roundw
        case rel =>
          refine ⟨k + 1, by omega, fun j h hj => ?_, by go_num, HB1⟩
          by_cases hjk : j = k
          · subst hjk; rw [HX.out]; exact HV.out
          · exact HK.out j h (by omega)
        case measure => simp [intOf]; omega
    · obtain rfl : k = n := by omega
      go_wp2_with fail
      go_ret
      refine ⟨⟨_, rfl, by
        constructor
        · intro _ x hx
          obtain ⟨j, hj, rfl⟩ := List.getElem_of_mem hx
          exact HK.out j hj (by rw [← HN.out]; exact hj)
        · intro _; omega⟩, HB.out⟩
set_option maxHeartbeats 1000000 in
theorem containsBad_any (A : Option Addr) (n c : Nat) (rs : List Ru) (w : World) (hr : RdRu w A rs) (hn : rs.length = n) (hc : n ≤ 100000000) :
    Calls Try.prog 59 #[.slice A n c, .func (.func 57) #[] #[]] w fun e w' => e = .returned (.bool (!rs.all mayR)) ∧ Below w.heap.size w w' := by
  have HI := Lib.hid (indexBad_any A n c rs w hr hn hc)
  clear hr hn
  go_enter Try.func59, Try.ntmps59
  go_wp2_with fail
  refine HI.out.mono ?_
  rintro e w1 ⟨⟨k, rfl, hk⟩, hb⟩
  have HK := Lib.hid hk
  have HB := Lib.hid hb
  clear hk hb
  go_wp2_with fail
  go_ret
  refine ⟨ret_bool ?_, HB.out⟩
  have hk := HK.out
  have e1 : rs.all mayR = decide (k < 0) := by
    rw [Bool.eq_iff_iff, List.all_eq_true, decide_eq_true_eq]; exact hk.symm
  rw [e1]
  by_cases h : k < 0
  · simp [h]
  · simp [h]; omega
/-- May a bank be? -/
def bankOk (rs : List Ru) : Bool := decide (rs.length ≤ 32) && rs.all mayR
set_option maxRecDepth 100000 in
set_option maxHeartbeats 1000000 in
theorem FCheck_any (A : Option Addr) (n c : Nat) (els : Bool) (rs : List Ru) (w : World) (hr : RdRu w A rs) (hn : rs.length = n) (hc : n ≤ 9223372036854775807) :
    Calls Try.prog 31 #[.agg #[.slice A n c, .bool els]] w fun e w' => e = .returned (errV (bankOk rs)) ∧ Below w.heap.size w w' := by
  by_cases hl : n ≤ 32
  · have HI := Lib.hid (fun W hW => containsBad_any A n c rs W hW hn (by omega))
    have HR := Lib.hid hr
    obtain ⟨r, hR⟩ : ∃ r, (rs.all mayR) = r := ⟨_, rfl⟩
    rw [hR] at HI
    have hv : bankOk rs = r := by unfold bankOk; rw [hn, hR, decide_eq_true hl]; simp
    rw [hv]
    clear hr hv hR hn
    have hg : decide ((32 : Int) < (n : Int)) = false := decide_eq_false (by omega)
    cases r <;>
    · go_enter Try.func31, Try.ntmps31
      go_wp2_with fail
      refine (HI.out _ (HR.out.below (below_alloc (Below.refl _ _) _))).mono ?_
      rintro e w1 ⟨rfl, hb⟩
      have HB := Lib.hid hb
      clear hb
      go_wp2_with fail
      go_ret
      exact ⟨rfl, below_trans (below_alloc (Below.refl _ _) _) HB.out⟩
  · have hv : bankOk rs = false := by unfold bankOk; rw [hn, decide_eq_false hl]; rfl
    rw [hv]
    clear hr hv
    have hg : (32 : Int) < (n : Int) := by omega
    go_enter Try.func31, Try.ntmps31
    go_wp2_with fail
    go_ret
    exact ⟨rfl, below_alloc (Below.refl _ _) _⟩
end Go.Proofs.Ytlmdkmflbhnlgaa
namespace Go.Proofs.Ytlmdkmflbhnlgaa
open Go.RowKit
/-- What the walks ask of a frame's numbers. -/
structure FrIn (f : Fr) : Prop where
  id0 : 0 ≤ f.id
  id1 : f.id < 4294967296
  sdt0 : 0 ≤ f.sdt
  sdt1 : f.sdt < 256
  vcid0 : 0 ≤ f.vcid
  vcid1 : f.vcid < 256
  af0 : 0 ≤ f.af
  af1 : f.af < 4294967296
  data : isBytes f.data
  len : f.data.length ≤ 9223372036854775807
/-- The first rule that is of a frame. -/
def firstR_ (rs : List Ru) (f : Fr) : Option Ru := rs.find? fun r => ofR r f
theorem find_none_of {rs : List Ru} {f : Fr} (h : ∀ j (h : j < rs.length), ofR rs[j] f = false) : firstR_ rs f = none := by
  unfold firstR_
  rw [List.find?_eq_none]
  intro x hx
  obtain ⟨j, hj, rfl⟩ := List.getElem_of_mem hx
  rw [h j hj]; simp
theorem find_some_of {rs : List Ru} {f : Fr} {k : Nat} (hk : k < rs.length) (h : ∀ j (h : j < rs.length), j < k → ofR rs[j] f = false) (ho : ofR rs[k] f = true) : firstR_ rs f = some rs[k] := by
  obtain ⟨y, hy⟩ : ∃ y, rs[k] = y := ⟨_, rfl⟩
  rw [hy] at ho ⊢
  unfold firstR_
  have e : rs = rs.take k ++ y :: rs.drop (k + 1) := by rw [← hy, ← List.drop_eq_getElem_cons hk, List.take_append_drop]
  rw [e, List.find?_append]
  have h0 : (rs.take k).find? (fun r => ofR r f) = none := by
    rw [List.find?_eq_none]
    intro x hx
    obtain ⟨j, hj, rfl⟩ := List.getElem_of_mem hx
    simp only [List.length_take] at hj
    rw [List.getElem_take, h j (by omega) (by omega)]; simp
  rw [h0]
  simp [ho]
/-- What filter.Find answers. -/
def FoundOf (rs : List Ru) (f : Fr) (e : Ending) (w w' : World) : Prop :=
  ((bankOk rs && okF f) = false ∧ e = .returned (.tuple #[.int .i64 0, .int .i64 2]) ∨
    (bankOk rs && okF f) = true ∧ ((firstR_ rs f = none ∧ e = .returned (.tuple #[.int .i64 0, .int .i64 9])) ∨ ∃ (k : Nat) (h : k < rs.length), firstR_ rs f = some rs[k] ∧ e = .returned (.tuple #[.int .i64 k, .int .i64 0]))) ∧ Below w.heap.size w w'
set_option maxRecDepth 100000 in
set_option maxHeartbeats 4000000 in
theorem Find_any (A B : Option Addr) (n c d m : Nat) (els : Bool) (rs : List Ru) (f : Fr) (w : World) (hr : RdRu w A rs) (hn : rs.length = n) (hc : n ≤ 9223372036854775807) (hw : ∀ r ∈ rs, RuWf r) (hf : FrIn f) (hm : f.data.length = m) :
    Calls Try.prog 34 #[.agg #[.slice A n c, .bool els], frv f (.slice B m d)] w (FoundOf rs f · w ·) := by
  have HB := Lib.hid (fun W hW => FCheck_any A n c els rs W hW hn hc)
  have HF := Lib.hid (fun W => Check_any f B d W hf.len)
  have HR := Lib.hid hr
  have HN := Lib.hid hn
  have HW := Lib.hid hw
  have HO := Lib.hid hf
  obtain ⟨p, hp⟩ : ∃ p, bankOk rs = p := ⟨_, rfl⟩
  obtain ⟨q, hq⟩ : ∃ q, okF f = q := ⟨_, rfl⟩
  rw [hp] at HB
  rw [hq, hm] at HF
  have HP := Lib.hid hp
  have HQ := Lib.hid hq
  have HL := Lib.hid (fun (h : okF f = true) => ((okF_iff f).1 h).kind)
  obtain ⟨fk, fi, fe, fr, fb, fs, fc, fd, fv, fa, l⟩ := f
  dsimp only [frv] at *
  clear hr hn hw hf hp hq hm
  cases p
  · go_enter Try.func34, Try.ntmps34
    go_wp2_with fail
    refine calls_blk2 fun W1 q1 q2 hb1 => ?_
    have g1 := HR.out.below hb1
    refine (HB.out _ g1).mono ?_
    rintro e w1 ⟨rfl, hb⟩
    have HB1 := Lib.hid (below_trans hb1 hb)
    clear hb hb1 q1 q2 g1
    simp only [errV]
    go_wp2_with fail
    go_ret2
    exact ⟨.inl ⟨by rw [HP.out]; rfl, rfl⟩, HB1.out⟩
  cases q
  · go_enter Try.func34, Try.ntmps34
    go_wp2_with fail
    refine calls_blk2 fun W1 q1 q2 hb1 => ?_
    refine (HB.out _ (HR.out.below hb1)).mono ?_
    rintro e w1 ⟨rfl, hb⟩
    obtain ⟨a0, a1, a2, a3, a4, a5, a6, a7, a8, a9, a10⟩ := cells11 (heap_below hb q2)
    have HB1 := Lib.hid (below_trans hb1 hb)
    clear hb hb1 q1 q2
    simp only [errV]
    go_wp2_with fail
    refine (HF.out _).mono ?_
    rintro e w2 ⟨rfl, hb⟩
    have HB2 := Lib.hid (below_trans HB1.out hb)
    clear hb
    simp only [errV]
    go_wp2_with fail
    go_ret2
    exact ⟨.inl ⟨by rw [HP.out, HQ.out]; rfl, rfl⟩, HB2.out⟩
  · have hk := HL.out HQ.out
    have HOF := fun r hr1 hr2 s W => of_any r ⟨fk, fi, fe, fr, fb, fs, fc, fd, fv, fa, l⟩ s W hr1 hk hr2 HO.out.id0 HO.out.id1 HO.out.af0 HO.out.af1 HO.out.sdt0 HO.out.sdt1 HO.out.vcid0 HO.out.vcid1
    have HALL : Hid (∀ r ∈ rs, mayR r = true) := by
      have := HP.out
      unfold bankOk at this
      simp only [Bool.and_eq_true, List.all_eq_true] at this
      exact this.2
    have HOK := Lib.hid HOF
    dsimp only [frv] at *
    have hn32 : n ≤ 32 := by
      have := HP.out
      unfold bankOk at this
      rw [HN.out] at this
      simp only [Bool.and_eq_true, decide_eq_true_eq] at this
      exact this.1
    clear hk HOF
    go_enter Try.func34, Try.ntmps34
    go_wp2_with fail
    refine calls_blk2 fun W1 q1 q2 hb1 => ?_
    refine (HB.out _ (HR.out.below hb1)).mono ?_
    rintro e w1 ⟨rfl, hb⟩
    obtain ⟨a0, a1, a2, a3, a4, a5, a6, a7, a8, a9, a10⟩ := cells11 (heap_below hb q2)
    have K1 := Lib.hid (heap_below hb q1)
    have K2 := Lib.hid (heap_below hb q2)
    have HB1 := Lib.hid (below_trans hb1 hb)
    clear hb hb1 q1 q2
    simp only [errV]
    go_wp2_with fail
    refine (HF.out _).mono ?_
    rintro e w2 ⟨rfl, hb⟩
    have HB2 := Lib.hid (below_trans HB1.out hb)
    have c1 := cell_of_heap (heap_below hb K1.out) 0 _ rfl
    have K3 := Lib.hid (heap_below hb K2.out)
    clear hb a0 a1 a2 a3 a4 a5 a6 a7 a8 a9 a10
    simp only [errV]
    go_wp2_with fail
    clear c1
    go_loopw [20] (fun iv wr => ∃ k : Nat, k ≤ n ∧ Hid (∀ j (h : j < rs.length), j < k → ofR rs[j] ⟨fk, fi, fe, fr, fb, fs, fc, fd, fv, fa, l⟩ = false) ∧ iv = .int .i64 k ∧ Hid (Below w2.heap.size w2 wr)) (fun iv _ => n - (intOf iv).toNat)
    case atStart => exact ⟨0, by omega, fun j _ h => absurd h (by omega), rfl, Below.refl _ _⟩
    case round =>
      obtain ⟨k, hk, HK, rfl, HBR⟩ := hrel
      by_cases hkn : k < n
      · have hkl : k < rs.length := by rw [HN.out]; exact hkn
        obtain ⟨ad, rfl, a0, a1, a2, a3, a4, a5, a6, a7, a8, a9⟩ := ((HR.out.below HB2.out).below HBR.out).at_ k hkl (k * 10) rfl
        have hmem : rs[k] ∈ rs := List.getElem_mem hkl
        have HFS := Lib.hid (find_some_of hkl HK.out)
        obtain ⟨x, hx⟩ : ∃ x, rs[k] = x := ⟨_, rfl⟩
        rw [hx] at a0 a1 a2 a3 a4 a5 a6 a7 a8 a9 hmem HFS
        have HX := Lib.hid hx
        have HC := Lib.hid (HOK.out x (HALL.out x hmem) (HW.out x hmem) (.slice B m d))
        obtain ⟨v, hv⟩ : ∃ v, ofR x ⟨fk, fi, fe, fr, fb, fs, fc, fd, fv, fa, l⟩ = v := ⟨_, rfl⟩
        rw [hv] at HC HFS
        have HV := Lib.hid hv
        clear hx hmem hv
        obtain ⟨x0, x1, x2, x3, x4, x5, x6, x7, x8, x9⟩ := x
        dsimp only [ruV] at *
        have b0 : ∀ o, (wr.alloc o).heap[w.heap.size + 1]? = _ := fun o => heap_push (heap_below HBR.out K3.out)
        have bb := fun o => cells11 (b0 o)
        have b1 := fun o => (bb o).1
        have b2 := fun o => (bb o).2.1
        have b3 := fun o => (bb o).2.2.1
        have b4 := fun o => (bb o).2.2.2.1
        have b5 := fun o => (bb o).2.2.2.2.1
        have b6 := fun o => (bb o).2.2.2.2.2.1
        have b7 := fun o => (bb o).2.2.2.2.2.2.1
        have b8 := fun o => (bb o).2.2.2.2.2.2.2.1
        have b9 := fun o => (bb o).2.2.2.2.2.2.2.2.1
        have b10 := fun o => (bb o).2.2.2.2.2.2.2.2.2.1
        have b11 := fun o => (bb o).2.2.2.2.2.2.2.2.2.2
        clear bb b0
        cases v
        · go_wp2_with fail
          refine (HC.out _).mono ?_
          rintro e w3 ⟨rfl, hb⟩
          have HB3 := Lib.hid (below_trans HBR.out (below_trans (below_alloc (Below.refl _ _) _) hb))
          clear hb
          go_wp2_with fail
          go_roundw
          case rel =>
            refine ⟨k + 1, by omega, fun j h hj => ?_, by go_num, HB3⟩
            by_cases hjk : j = k
            · subst hjk; rw [HX.out]; exact HV.out
            · exact HK.out j h (by omega)
          case measure => simp [intOf]; omega
        · go_wp2_with fail
          refine (HC.out _).mono ?_
          rintro e w3 ⟨rfl, hb⟩
          have HB3 := Lib.hid (below_trans HB2.out (below_trans HBR.out (below_trans (below_alloc (Below.refl _ _) _) hb)))
          clear hb
          go_wp2_with fail
          go_ret2
          exact ⟨.inr ⟨by rw [HP.out, HQ.out]; rfl, .inr ⟨k, hkl, by rw [HX.out]; exact HFS.out trivial, rfl⟩⟩, HB3.out⟩
      · obtain rfl : k = n := by omega
        go_wp2_with fail
        go_ret2
        exact ⟨.inr ⟨by rw [HP.out, HQ.out]; rfl, .inl ⟨find_none_of fun j h => HK.out j h (by rw [← HN.out]; exact h), rfl⟩⟩, below_trans HB2.out HBR.out⟩
/-- Does a frame come in? -/
def inR (rs : List Ru) (els : Bool) (f : Fr) : Bool := match firstR_ rs f with | some r => r.inn | none => els
set_option maxRecDepth 100000 in
set_option maxHeartbeats 4000000 in
theorem In_any (A B : Option Addr) (n c d m : Nat) (els : Bool) (rs : List Ru) (f : Fr) (w : World) (hr : RdRu w A rs) (hn : rs.length = n) (hc : n ≤ 9223372036854775807) (hw : ∀ r ∈ rs, RuWf r) (hf : FrIn f) (hm : f.data.length = m) :
    Calls Try.prog 13 #[.agg #[.slice A n c, .bool els], frv f (.slice B m d)] w fun e w' => e = .returned (.tuple #[.bool (bankOk rs && okF f && inR rs els f), errV (bankOk rs && okF f)]) ∧ Below w.heap.size w w' := by
  have HX := Lib.hid (fun W hW => Find_any A B n c d m els rs f W hW hn hc hw hf hm)
  have HR := Lib.hid hr
  have HN := Lib.hid hn
  obtain ⟨v, hv⟩ : ∃ v, (bankOk rs && okF f) = v := ⟨_, rfl⟩
  obtain ⟨i, hi⟩ : ∃ i, inR rs els f = i := ⟨_, rfl⟩
  rw [hv, hi]
  have HV := Lib.hid hv
  have HII := Lib.hid hi
  have HL : Hid (∀ j (h : j < rs.length), firstR_ rs f = some rs[j] → rs[j].inn = i) := fun j h e => by
    rw [← hi]; unfold inR; rw [e]
  have HL2 : Hid (firstR_ rs f = none → els = i) := fun e => by rw [← hi]; unfold inR; rw [e]
  unfold FoundOf at HX
  rw [hv] at HX
  obtain ⟨fk, fi, fe, fr, fb, fs, fc, fd, fv, fa, l⟩ := f
  dsimp only [frv] at *
  clear hr hn hw hf hm hv hi
  go_enter Try.func13, Try.ntmps13
  go_wp2_with fail
  refine calls_blk2 fun W1 q1 q2 hb1 => ?_
  refine (HX.out _ (HR.out.below hb1)).mono ?_
  rintro e w1 ⟨he, hb⟩
  have HB1 := Lib.hid (below_trans hb1 hb)
  have c0 := cell_of_heap (heap_below hb q1) 0 _ rfl
  have c1 : w1.cell? ⟨w.heap.size, 1, none⟩ = some (.bool els) := cell_of_heap (heap_below hb q1) 1 _ rfl
  clear hb hb1 q1 q2
  rcases he with ⟨e1, rfl⟩ | ⟨e1, ⟨e2, rfl⟩ | ⟨k, hk, e2, rfl⟩⟩
  · subst e1
    clear c0 c1
    go_wp2_with fail
    go_ret2
    exact ⟨rfl, HB1.out⟩
  · subst e1
    have E := Lib.hid (HL2.out e2)
    clear e2
    go_wp2_with fail
    go_ret2
    exact ⟨by rw [E.out]; rfl, HB1.out⟩
  · subst e1
    have E := Lib.hid (HL.out k hk e2)
    obtain ⟨ad, hA, a0, a1, a2, a3, a4, a5, a6, a7, a8, a9⟩ := (HR.out.below HB1.out).at_ k hk (k * 10) rfl
    subst hA
    have hkn : k < n := by rw [← HN.out]; exact hk
    obtain ⟨x, hx⟩ : ∃ x, rs[k].inn = x := ⟨_, rfl⟩
    rw [hx] at a9 E
    have hE := E.out
    subst hE
    clear e2 a0 a1 a2 a3 a4 a5 a6 a7 a8 hx hk
    go_wp2_with fail
    go_ret2
    exact ⟨rfl, HB1.out⟩
end Go.Proofs.Ytlmdkmflbhnlgaa
