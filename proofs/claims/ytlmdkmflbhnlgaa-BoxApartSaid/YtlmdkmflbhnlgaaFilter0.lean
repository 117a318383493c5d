/- filter.Rule: which rules may be, and of which frames they are. No condition. -/
import Derived.Test.YtlmdkmflbhnlgaaTurn
import Derived.Test.YtlmdkmflbhnlgaaSame
namespace Go.Proofs.Ytlmdkmflbhnlgaa
open Go.RowKit
/-- A rule. -/
structure Ru where
  kinds : Int
  id : Int
  idm : Int
  sdt : Int
  sdtm : Int
  vcid : Int
  vcidm : Int
  af : Int
  afm : Int
  inn : Bool
abbrev ruV (r : Ru) : Value := .agg #[.int .i64 r.kinds, .int .u32 r.id, .int .u32 r.idm, .int .u8 r.sdt, .int .u8 r.sdtm, .int .u8 r.vcid, .int .u8 r.vcidm, .int .u32 r.af, .int .u32 r.afm, .bool r.inn]
def mayR (r : Ru) : Bool := decide (1 ≤ r.kinds ∧ r.kinds ≤ 7)
set_option maxHeartbeats 400000 in
theorem rmay_any (r : Ru) (w : World) : Calls Try.prog 58 #[ruV r] w fun e w' => e = .returned (.bool (mayR r)) ∧ Below w.heap.size w w' := by
  obtain ⟨v, hv⟩ : ∃ v, mayR r = v := ⟨_, rfl⟩
  have hv2 := hv
  unfold mayR at hv2
  rw [hv]
  have HV := Lib.hid hv2
  clear hv hv2
  go_enter Try.func58, Try.ntmps58
  go_wp2
  all_goals
    go_ret
    refine ⟨ret_bool ?_, below_alloc (Below.refl _ _) _⟩
    rw [← HV.out]
    simp
    omega
/-- Do two agree under a mask? -/
def maskE (a b m : Int) : Bool := decide (a.toNat &&& m.toNat = b.toNat &&& m.toNat)
def hasR (r : Ru) (k : Int) : Bool := decide (r.kinds / 2 ^ (k - 1).toNat % 2 = 1)
/-- Is a rule of a frame (that may be)? -/
def ofR (r : Ru) (f : Fr) : Bool := hasR r f.kind && (maskE f.id r.id r.idm && maskE f.af r.af r.afm && maskE f.sdt r.sdt r.sdtm && maskE f.vcid r.vcid r.vcidm)
structure RuWf (r : Ru) : Prop where
  id0 : 0 ≤ r.id
  id1 : r.id < 4294967296
  idm0 : 0 ≤ r.idm
  idm1 : r.idm < 4294967296
  sdt0 : 0 ≤ r.sdt
  sdt1 : r.sdt < 256
  sdtm0 : 0 ≤ r.sdtm
  sdtm1 : r.sdtm < 256
  vcid0 : 0 ≤ r.vcid
  vcid1 : r.vcid < 256
  vcidm0 : 0 ≤ r.vcidm
  vcidm1 : r.vcidm < 256
  af0 : 0 ≤ r.af
  af1 : r.af < 4294967296
  afm0 : 0 ≤ r.afm
  afm1 : r.afm < 4294967296
theorem mask_nat (a b m : Nat) : ((a ^^^ b) &&& m = 0) ↔ a &&& m = b &&& m := by
  rw [Nat.and_xor_distrib_right]
  constructor
  · intro h
    have : (a &&& m) ^^^ (b &&& m) ^^^ (b &&& m) = 0 ^^^ (b &&& m) := by rw [h]
    simpa [Nat.xor_assoc] using this
  · intro h; rw [h]; simp
theorem xor_nat (k : IntKind) (j : Nat) (hj : j ≤ k.bits) (hk : ∀ n : Int, 0 ≤ n → n < 2 ^ j → k.wrap n = n) (a b : Nat) (ha : a < 2 ^ j) (hb : b < 2 ^ j) : bits .xor k a b = ((a ^^^ b : Nat) : Int) := by
  have hp : 2 ^ j ≤ 2 ^ k.bits := Nat.pow_le_pow_right (by decide) hj
  have ha' : a % 2 ^ k.bits = a := Nat.mod_eq_of_lt (Nat.lt_of_lt_of_le ha hp)
  have hb' : b % 2 ^ k.bits = b := Nat.mod_eq_of_lt (Nat.lt_of_lt_of_le hb hp)
  have cast : ∀ n : Nat, n < 2 ^ j → ((n : Nat) : Int) < 2 ^ j := fun n h => by exact_mod_cast h
  simp only [bits, BitVec.ofInt_natCast, BitVec.toNat_xor, BitVec.toNat_ofNat, ha', hb']
  exact hk _ (Int.natCast_nonneg _) (cast _ (Nat.xor_lt_two_pow ha hb))
theorem wr32 (n : Int) (h0 : 0 ≤ n) (h1 : n < 2 ^ 32) : IntKind.u32.wrap n = n := by
  have h1 : n < 4294967296 := h1
  simp [IntKind.wrap, IntKind.bits, IntKind.signed]
  omega
theorem u32_nat (a b : Nat) (ha : a < 4294967296) (hb : b < 4294967296) : bits .and .u32 (a : Int) (b : Int) = ((a &&& b : Nat) : Int) ∧ bits .or .u32 (a : Int) (b : Int) = ((a ||| b : Nat) : Int) ∧ bits .xor .u32 (a : Int) (b : Int) = ((a ^^^ b : Nat) : Int) :=
  ⟨(bits_nat .u32 32 (by decide) wr32 a b (by simpa using ha) (by simpa using hb)).1, (bits_nat .u32 32 (by decide) wr32 a b (by simpa using ha) (by simpa using hb)).2, xor_nat .u32 32 (by decide) wr32 a b (by simpa using ha) (by simpa using hb)⟩
theorem u8_nat (a b : Nat) (ha : a < 256) (hb : b < 256) : bits .and .u8 (a : Int) (b : Int) = ((a &&& b : Nat) : Int) ∧ bits .or .u8 (a : Int) (b : Int) = ((a ||| b : Nat) : Int) ∧ bits .xor .u8 (a : Int) (b : Int) = ((a ^^^ b : Nat) : Int) :=
  ⟨(bits_nat .u8 8 (by decide) wraps_u8 a b (by simpa using ha) (by simpa using hb)).1, (bits_nat .u8 8 (by decide) wraps_u8 a b (by simpa using ha) (by simpa using hb)).2, xor_nat .u8 8 (by decide) wraps_u8 a b (by simpa using ha) (by simpa using hb)⟩
theorem kinds_bit (x : Int) (h0 : 0 ≤ x) (h1 : x ≤ 7) : bits .and .i64 x 1 = x % 2 := by
  have h : ∀ k : Fin 8, bits .and .i64 (k.val : Int) 1 = (k.val : Int) % 2 := by decide +kernel
  obtain ⟨n, rfl⟩ := Int.eq_ofNat_of_zero_le h0
  exact h ⟨n, by omega⟩
theorem turned_iff (a b m c d n e g o h i q : Int) (a0 : 0 ≤ a) (a1 : a < 4294967296) (b0 : 0 ≤ b) (b1 : b < 4294967296) (m0 : 0 ≤ m) (m1 : m < 4294967296) (c0 : 0 ≤ c) (c1 : c < 4294967296) (d0 : 0 ≤ d) (d1 : d < 4294967296) (n0 : 0 ≤ n) (n1 : n < 4294967296)
    (e0 : 0 ≤ e) (e1 : e < 256) (g0 : 0 ≤ g) (g1 : g < 256) (o0 : 0 ≤ o) (o1 : o < 256) (h0 : 0 ≤ h) (h1 : h < 256) (i0 : 0 ≤ i) (i1 : i < 256) (q0 : 0 ≤ q) (q1 : q < 256) :
    (bits .or .u32 (bits .or .u32 (bits .or .u32 (bits .and .u32 (bits .xor .u32 a b) m) (bits .and .u32 (bits .xor .u32 c d) n)) (bits .and .u8 (bits .xor .u8 e g) o % 4294967296)) (bits .and .u8 (bits .xor .u8 h i) q % 4294967296) = 0) ↔
      (maskE a b m && maskE c d n && maskE e g o && maskE h i q) = true := by
  obtain ⟨a, rfl⟩ := Int.eq_ofNat_of_zero_le a0
  obtain ⟨b, rfl⟩ := Int.eq_ofNat_of_zero_le b0
  obtain ⟨m, rfl⟩ := Int.eq_ofNat_of_zero_le m0
  obtain ⟨c, rfl⟩ := Int.eq_ofNat_of_zero_le c0
  obtain ⟨d, rfl⟩ := Int.eq_ofNat_of_zero_le d0
  obtain ⟨n, rfl⟩ := Int.eq_ofNat_of_zero_le n0
  obtain ⟨e, rfl⟩ := Int.eq_ofNat_of_zero_le e0
  obtain ⟨g, rfl⟩ := Int.eq_ofNat_of_zero_le g0
  obtain ⟨o, rfl⟩ := Int.eq_ofNat_of_zero_le o0
  obtain ⟨h, rfl⟩ := Int.eq_ofNat_of_zero_le h0
  obtain ⟨i, rfl⟩ := Int.eq_ofNat_of_zero_le i0
  obtain ⟨q, rfl⟩ := Int.eq_ofNat_of_zero_le q0
  have lt32 : ∀ x y : Nat, x < 4294967296 → y < 4294967296 → (x ^^^ y) < 4294967296 ∧ (x ||| y) < 4294967296 ∧ (x &&& y) < 4294967296 := fun x y hx hy =>
    ⟨by have := Nat.xor_lt_two_pow (n := 32) hx hy; exact this, by have := Nat.or_lt_two_pow (n := 32) hx hy; exact this, Nat.lt_of_le_of_lt Nat.and_le_left hx⟩
  have lt8 : ∀ x y : Nat, x < 256 → y < 256 → (x ^^^ y) < 256 ∧ (x &&& y) < 256 := fun x y hx hy =>
    ⟨by have := Nat.xor_lt_two_pow (n := 8) hx hy; exact this, Nat.lt_of_le_of_lt Nat.and_le_left hx⟩
  have A1 := (u32_nat a b (by omega) (by omega)).2.2
  have A2 := (u32_nat (a ^^^ b) m (lt32 a b (by omega) (by omega)).1 (by omega)).1
  have C1 := (u32_nat c d (by omega) (by omega)).2.2
  have C2 := (u32_nat (c ^^^ d) n (lt32 c d (by omega) (by omega)).1 (by omega)).1
  have E1 := (u8_nat e g (by omega) (by omega)).2.2
  have E2 := (u8_nat (e ^^^ g) o (lt8 e g (by omega) (by omega)).1 (by omega)).1
  have H1 := (u8_nat h i (by omega) (by omega)).2.2
  have H2 := (u8_nat (h ^^^ i) q (lt8 h i (by omega) (by omega)).1 (by omega)).1
  have la := (lt32 (a ^^^ b) m (lt32 a b (by omega) (by omega)).1 (by omega)).2.2
  have lc := (lt32 (c ^^^ d) n (lt32 c d (by omega) (by omega)).1 (by omega)).2.2
  have le := (lt8 (e ^^^ g) o (lt8 e g (by omega) (by omega)).1 (by omega)).2
  have lh := (lt8 (h ^^^ i) q (lt8 h i (by omega) (by omega)).1 (by omega)).2
  rw [A1, A2, C1, C2, E1, E2, H1, H2]
  have he : (((e ^^^ g) &&& o : Nat) : Int) % 4294967296 = (((e ^^^ g) &&& o : Nat) : Int) := Int.emod_eq_of_lt (by omega) (by omega)
  have hh : (((h ^^^ i) &&& q : Nat) : Int) % 4294967296 = (((h ^^^ i) &&& q : Nat) : Int) := Int.emod_eq_of_lt (by omega) (by omega)
  rw [he, hh, (u32_nat _ _ la lc).2.1, (u32_nat _ _ (lt32 _ _ la lc).2.1 (by omega)).2.1, (u32_nat _ _ (lt32 _ _ (lt32 _ _ la lc).2.1 (by omega)).2.1 (by omega)).2.1]
  unfold maskE
  simp only [Bool.and_eq_true, decide_eq_true_eq, Int.toNat_natCast]
  rw [← mask_nat a b m, ← mask_nat c d n, ← mask_nat e g o, ← mask_nat h i q]
  constructor
  · intro hz
    have hz : ((a ^^^ b) &&& m ||| (c ^^^ d) &&& n ||| (e ^^^ g) &&& o ||| (h ^^^ i) &&& q) = 0 := by exact_mod_cast hz
    simpa [Nat.or_eq_zero_iff] using hz
  · rintro ⟨⟨⟨x, y⟩, z⟩, u⟩
    rw [x, y, z, u]; rfl
set_option maxRecDepth 100000 in
set_option maxHeartbeats 1000000 in
theorem of_any (r : Ru) (f : Fr) (s : Value) (w : World) (hr : mayR r = true) (hk : f.kind = 1 ∨ f.kind = 2 ∨ f.kind = 3) (hw : RuWf r) (f0 : 0 ≤ f.id) (f1 : f.id < 4294967296) (f2 : 0 ≤ f.af) (f3 : f.af < 4294967296) (f4 : 0 ≤ f.sdt) (f5 : f.sdt < 256) (f6 : 0 ≤ f.vcid) (f7 : f.vcid < 256) :
    Calls Try.prog 62 #[ruV r, frv f s] w fun e w' => e = .returned (.bool (ofR r f)) ∧ Below w.heap.size w w' := by
  have HT := Lib.hid (turned_iff f.id r.id r.idm f.af r.af r.afm f.sdt r.sdt r.sdtm f.vcid r.vcid r.vcidm f0 f1 hw.id0 hw.id1 hw.idm0 hw.idm1 f2 f3 hw.af0 hw.af1 hw.afm0 hw.afm1 f4 f5 hw.sdt0 hw.sdt1 hw.sdtm0 hw.sdtm1 f6 f7 hw.vcid0 hw.vcid1 hw.vcidm0 hw.vcidm1)
  simp only [mayR, decide_eq_true_eq] at hr
  obtain ⟨v, hv⟩ : ∃ v, ofR r f = v := ⟨_, rfl⟩
  have hv2 := hv
  unfold ofR hasR at hv2
  rw [hv]
  have HV := Lib.hid hv2
  obtain ⟨fk, fi, fe, fr, fb, fs, fc, fd, fv, fa, l⟩ := f
  obtain ⟨k0, k1⟩ := hr
  dsimp only [frv] at *
  clear hv hv2 hw f0 f1 f2 f3 f4 f5 f6 f7
  rcases hk with rfl | rfl | rfl
  all_goals
    go_enter Try.func62, Try.ntmps62
    go_wp2
  all_goals
    rename_i hb
    rw [kinds_bit _ (by omega) (by omega)] at hb
    go_ret
    refine ⟨ret_bool ?_, below_alloc (below_alloc (Below.refl _ _) _) _⟩
    rw [← HV.out]
    have ht := HT.out
    have e2 : ∀ x y : Bool, (x = true ↔ y = true) → x = y := by decide
    have e3 : ∀ (T : Int) (y : Bool), (T = 0 ↔ y = true) → (T == 0) = y := fun T y h => e2 _ _ (by rw [beq_iff_eq]; exact h)
    have ht2 := e3 _ _ ht
    simp [hb]
    try exact ht2
end Go.Proofs.Ytlmdkmflbhnlgaa
