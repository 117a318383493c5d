/- A frame's key by the document's answer: the same as the program's. No condition. -/
import Derived.Test.YtlmdkmflbhnlgaaRefCheck
import Derived.Test.YtlmdkmflbhnlgaaPlain10
import Derived.Test.YtlmdkmflbhnlgaaBits
import Derived.Test.YtlmdkmflbhnlgaaNumR
import Derived.Deep.RegionHeld3
namespace Go.Proofs.Ytlmdkmflbhnlgaa
open Go.RowKit

theorem numN_append (a b : List Nat) : numN (a ++ b) = numN a * 2 ^ b.length + numN b := by
  induction b generalizing a with
  | nil => simp [numN]
  | cons x b ih =>
    rw [show a ++ x :: b = (a ++ [x]) ++ b from by simp, ih (a ++ [x]), show x :: b = [x] ++ b from rfl, ih [x], numN_snoc]
    simp only [List.length_append, List.length_singleton]
    have : numN [x] = x := by simp [numN]
    rw [this, Nat.pow_add, Nat.pow_one, Nat.add_mul, Nat.mul_assoc]
    omega
theorem numN_bits (n k : Nat) : numN (bitsN n k) = n % 2 ^ k := by
  induction k with
  | zero => simp [bitsN, numN, Nat.mod_one]
  | succ k ih =>
    rw [bitsN, show (n / 2 ^ k % 2) :: bitsN n k = [n / 2 ^ k % 2] ++ bitsN n k from rfl, numN_append, ih, bitsN_length]
    have : numN [n / 2 ^ k % 2] = n / 2 ^ k % 2 := by simp [numN]
    rw [this, Nat.pow_succ, Nat.mod_mul]
    rw [Nat.mul_comm, Nat.add_comm]
/-- The bits of a key. -/
def keyL (f : Fr) : List Nat :=
  if f.ext then bitsN (f.id.toNat / 262144) 11 ++ [1, 1] ++ bitsN (f.id.toNat % 262144) 18 ++ [bitB f.rtr, 0, 0]
  else bitsN f.id.toNat 11 ++ [bitB f.rtr, 0, bitB (f.kind != 1), bitB (f.kind == 3)] ++ List.replicate 19 0
theorem keyL_num (f : Fr) (h0 : 0 ≤ f.id) (h1 : f.id < limF f) : ((numN (keyL f) : Nat) : Int) = keyF f := by
  unfold keyL keyF limF at *
  cases hx : f.ext
  · simp only [hx, Bool.false_eq_true, if_false] at *
    rw [numN_append, numN_append, numN_bits]
    have e1 : numN (List.replicate 19 0) = 0 := by decide
    have e2 : numN [bitB f.rtr, 0, bitB (f.kind != 1), bitB (f.kind == 3)] = bitB f.rtr * 8 + bitB (f.kind != 1) * 2 + bitB (f.kind == 3) := by simp [numN]; omega
    rw [e1, e2, List.length_replicate]
    have hb1 : (bitB f.rtr : Int) * 4194304 = if f.rtr then 4194304 else 0 := by cases f.rtr <;> rfl
    have hb2 : (bitB (f.kind != 1) : Int) * 1048576 = if f.kind = 1 then 0 else 1048576 := by by_cases h : f.kind = 1 <;> simp [h, bitB]
    have hb3 : (bitB (f.kind == 3) : Int) * 524288 = if f.kind = 3 then 524288 else 0 := by by_cases h : f.kind = 3 <;> simp [h, bitB]
    rw [← hb1, ← hb2, ← hb3]
    simp only [List.length_cons, List.length_nil]
    omega
  · simp only [hx, if_true] at *
    rw [numN_append, numN_append, numN_append, numN_bits, numN_bits]
    have e1 : numN [1, 1] = 3 := by decide
    have e2 : numN [bitB f.rtr, 0, 0] = bitB f.rtr * 4 := by simp [numN]; omega
    rw [e1, e2, bitsN_length]
    have hb1 : (bitB f.rtr : Int) * 4 = if f.rtr then 4 else 0 := by cases f.rtr <;> rfl
    rw [← hb1]
    simp only [List.length_cons, List.length_nil]
    omega
end Go.Proofs.Ytlmdkmflbhnlgaa
namespace Go.Proofs.Ytlmdkmflbhnlgaa
open Go.RowKit
set_option maxRecDepth 100000 in
set_option maxHeartbeats 2000000 in
theorem KeyR_ext (kind id : Int) (rtr brs esi sec : Bool) (sdt vcid af : Int) (A : Option Addr) (n c : Nat) (w : World) (h0 : 0 ≤ id) (h1 : id < 536870912) (l : List Nat)
    (hl : l = bitsN (id.toNat / 262144) 11 ++ [1, 1] ++ bitsN (id.toNat % 262144) 18 ++ [bitB rtr, 0, 0]) (k : Int) (hk : ((numN l : Nat) : Int) = k) (h01 : ∀ x ∈ l, x ≤ 1)
    (HC : Hid (∀ W : World, Calls Try.prog 43 #[.agg #[.int .i64 kind, .int .u32 id, .bool true, .bool rtr, .bool brs, .bool esi, .bool sec, .int .u8 sdt, .int .u8 vcid, .int .u32 af, .slice A n c]] W fun e w' => e = .returned (.int .i64 0) ∧ Below W.heap.size W w')) :
    Calls Try.prog 68 #[.agg #[.int .i64 kind, .int .u32 id, .bool true, .bool rtr, .bool brs, .bool esi, .bool sec, .int .u8 sdt, .int .u8 vcid, .int .u32 af, .slice A n c]] w
      fun e w' => e = .returned (.tuple #[.int .u64 k, .int .i64 0]) ∧ Below w.heap.size w w' := by
  obtain ⟨i0, hi, hz0, hz1, hz2⟩ := info_parts info_u8
  have HL := Lib.hid hl
  have HK := Lib.hid hk
  have H01 := Lib.hid h01
  clear hl hk h01
  obtain ⟨m, rfl⟩ := Int.eq_ofNat_of_zero_le h0
  rw [Int.toNat_natCast] at HL
  go_enter Try.func68, Try.ntmps68
  go_wp2_with fail
  refine calls_blk1 (fun W0 q1 hb => ?_)
  have HB := Lib.hid hb
  have hsz := ext_lt q1
  obtain ⟨a0, a1, a2, a3, a4, a5, a6, a7, a8, a9, a10⟩ := ext11 q1
  clear hb q1
  refine (extc_same (HC.out _)).mono ?_
  rintro x _ ⟨e1, rfl, rfl⟩
  go_wp2_with fail
  refine (extc (BitsR_row _ 11 (m / 262144) 11 _ (by omega) rfl (by omega) (by omega) (by omega))).mono ?_
  rintro x _ ⟨e2, rfl, A2, c2, rfl, ho2⟩
  have HO2 := Lib.hid (ho2.mono (ext_ge e1))
  clear ho2
  go_wp2_with (at_builtin; refine wpList_appE (e2.below_alloc _) rfl (.tmp 14) (.tmp 15) 40 rfl W0.heap.size 5 i0 _ 1 Try.underlying40 hi hz0 hz1 hz2 rfl A2 11 c2 (bys (bitsN (m / 262144) 11)) rfl rfl (HO2.out.alloc _) _ 2 2 (bys [1, 1]) rfl rfl (Rd.blk (heap_new_at rfl)) (bys_one _) (by intro h; cases h) 13 rfl (by decide) (by decide) (Nat.le_refl _) (by have := ext_ge e2; simp; omega) ?_; intro e3 A3 c3 HO3)
  refine (extcB (BitsR_row _ 18 (m % 262144) 18 _ (by omega) rfl (by omega) (by omega) (by omega))).mono ?_
  rintro x _ ⟨e4, rfl, hb4, A4, c4, rfl, ho4⟩
  have HO4 := Lib.hid (ho4.mono (ext_ge e3))
  have HO34 := Lib.hid (HO3.out.below hb4.out)
  clear ho4 hb4 HO3
  go_wp2_with (at_builtin; refine wpList_appE e4.below rfl (.tmp 17) (.tmp 22) 40 rfl W0.heap.size 5 i0 _ 1 Try.underlying40 hi hz0 hz1 hz2 rfl A3 13 c3 (bys (bitsN (m / 262144) 11) ++ bys [1, 1]) rfl rfl HO34.out A4 18 c4 (bys (bitsN (m % 262144) 18)) rfl rfl HO4.out.rd (bys_one _) (by intro h; cases h) 31 rfl (by decide) (by decide) (Nat.le_refl _) (ext_ge e4) ?_; intro e5 A5 c5 HO5)
  refine (BitR_any _ _).mono ?_
  rintro x _ ⟨rfl, rfl⟩
  go_wp2_with (at_builtin; refine wpList_appE (e5.below_alloc _) rfl (.tmp 24) (.tmp 28) 40 rfl W0.heap.size 5 i0 _ 1 Try.underlying40 hi hz0 hz1 hz2 rfl A5 31 c5 (bys (bitsN (m / 262144) 11) ++ bys [1, 1] ++ bys (bitsN (m % 262144) 18)) rfl rfl (HO5.out.alloc _) _ 3 3 (bys [bitB rtr, 0, 0]) rfl rfl (Rd.blk (heap_new_at rfl)) (bys_one _) (by intro h; cases h) 34 rfl (by decide) (by decide) (Nat.le_refl _) (by have := ext_ge e5; simp; omega) ?_; intro e6 A6 c6 HO6)
  have hr := HO6.out.rd
  rw [← bys_append, ← bys_append, ← bys_append, ← HL.out] at hr
  have hlen : l.length = 34 := by rw [HL.out]; rfl
  have HLEN := Lib.hid hlen
  have HR := Lib.hid hr
  clear hr hlen HO6 HO5 HO4 HO34 HO2
  have hn := NumR_any A6 c6 l e6.W HR.out (by rw [HLEN.out]; decide) H01.out
  rw [HLEN.out] at hn
  refine hn.mono ?_
  rintro x _ ⟨rfl, rfl⟩
  go_wp2_with fail
  go_ret2
  exact ⟨ret_fst HK.out, ext_end HB.out⟩
end Go.Proofs.Ytlmdkmflbhnlgaa
namespace Go.Proofs.Ytlmdkmflbhnlgaa
open Go.RowKit
set_option maxRecDepth 100000 in
set_option maxHeartbeats 4000000 in
theorem KeyR_short (kind id : Int) (rtr brs esi sec : Bool) (sdt vcid af : Int) (A : Option Addr) (n c : Nat) (w : World) (h0 : 0 ≤ id) (h1 : id < 2048) (l : List Nat)
    (hl : l = bitsN id.toNat 11 ++ [bitB rtr, 0, bitB (kind != 1), bitB (kind == 3)] ++ List.replicate 19 0) (k : Int) (hk : ((numN l : Nat) : Int) = k) (h01 : ∀ x ∈ l, x ≤ 1)
    (HC : Hid (∀ W : World, Calls Try.prog 43 #[.agg #[.int .i64 kind, .int .u32 id, .bool false, .bool rtr, .bool brs, .bool esi, .bool sec, .int .u8 sdt, .int .u8 vcid, .int .u32 af, .slice A n c]] W fun e w' => e = .returned (.int .i64 0) ∧ Below W.heap.size W w')) :
    Calls Try.prog 68 #[.agg #[.int .i64 kind, .int .u32 id, .bool false, .bool rtr, .bool brs, .bool esi, .bool sec, .int .u8 sdt, .int .u8 vcid, .int .u32 af, .slice A n c]] w
      fun e w' => e = .returned (.tuple #[.int .u64 k, .int .i64 0]) ∧ Below w.heap.size w w' := by
  obtain ⟨i0, hi, hz0, hz1, hz2⟩ := info_parts info_u8
  have HL := Lib.hid hl
  have HK := Lib.hid hk
  have H01 := Lib.hid h01
  clear hl hk h01
  obtain ⟨m, rfl⟩ := Int.eq_ofNat_of_zero_le h0
  rw [Int.toNat_natCast] at HL
  go_enter Try.func68, Try.ntmps68
  go_wp2_with fail
  refine calls_blk1 (fun W0 q1 hb => ?_)
  have HB := Lib.hid hb
  have hsz := ext_lt q1
  obtain ⟨a0, a1, a2, a3, a4, a5, a6, a7, a8, a9, a10⟩ := ext11 q1
  clear hb q1
  refine (extc_same (HC.out _)).mono ?_
  rintro x _ ⟨e1, rfl, rfl⟩
  go_wp2_with fail
  have hw : IntKind.u64.wrap (m : Int) = (m : Int) := IntWalk.u64_in _ ⟨by omega, by omega⟩
  go_region_held3 (fun w' => w'.cell? ⟨w.heap.size, 0, none⟩ = some (.int .i64 kind) ∧ w'.cell? ⟨w.heap.size, 1, none⟩ = some (.int .u32 (m : Int)) ∧ w'.cell? ⟨w.heap.size, 3, none⟩ = some (.bool rtr))
    (first
      | go_keep
      | exact ⟨a0 _, a1 _, a3 _⟩
      | (refine ⟨Below.cell_of hb2 (by assumption), Below.cell_of hb2 (by assumption), Below.cell_of hb2 (by assumption)⟩)
      | (refine ⟨Below.cell_of hb2 ?_, Below.cell_of hb2 ?_, Below.cell_of hb2 ?_⟩ <;> simp [*]))
    (first
      | (go_at_call 84; refine (BitR_any _ _).mono ?_; rintro x _ ⟨rfl, rfl⟩)
      | (go_at_call 83; refine (BitsR_row _ 11 m 11 _ rfl rfl (by omega) (by omega) (by omega)).mono ?_; rintro x w2 ⟨⟨A2, c2, rfl, ho2⟩, hb2⟩; have hbW : Below W0.heap.size W0 w2 := below_trans e1.below.drew hb2)
      | (refine step_appE (w0 := W0) ?c1 rfl (.tmp 33) (.tmp 45) 40 rfl W0.heap.size 5 i0 _ 1 Try.underlying40 hi hz0 hz1 hz2 rfl A2 11 c2 (bys (bitsN m 11)) rfl rfl (Row.alloc (ho2.mono (ext_ge e1)) _) _ 4 4 (bys [bitB rtr, 0, bitB (kind != 1), bitB (kind == 3)]) rfl rfl (Rd.blk (heap_new_at rfl)) (bys_one _) (by intro h; cases h) 15 rfl (by decide) (by decide) (Nat.le_refl _) ?c2 ?_; (case c1 => exact below_alloc hbW _); (case c2 => have := hbW.size; simp; omega); intro e3 A3 c3 HO3))
  have hrow : Hid (Row e3.W W0.heap.size 5 A3 c3 (bys ((bitsN m 11 ++ [bitB rtr, 0, bitB (kind != 1), bitB (kind == 3)]) ++ List.replicate 0 0))) := by
    show Row _ _ _ _ _ _
    have := HO3.out
    rw [← bys_append] at this
    simpa using this
  clear HO3 ho2 hb2 hbW hw
  obtain ⟨L, hL⟩ : ∃ L, L = bitsN m 11 ++ [bitB rtr, 0, bitB (kind != 1), bitB (kind == 3)] := ⟨_, rfl⟩
  rw [← hL] at hrow HL
  have hLl : L.length = 15 := by rw [hL]; simp [bitsN_length]
  have HLL := Lib.hid hLl
  clear hL hLl
  go_wp2_with fail
  go_loopw [4] (fun v wr => ∃ (j N : Nat) (e : Ext W0) (A : Option Addr) (c : Nat), j ≤ 19 ∧ Hid (N = 15 + j) ∧ N ≤ 34 ∧ v = .slice A N c ∧ wr = e.W ∧ Hid (Row e.W W0.heap.size 5 A c (bys (L ++ List.replicate j 0)))) (fun v _ => 34 - lenV v)
  case atStart => exact ⟨0, 15, e3, A3, c3, by omega, rfl, by omega, rfl, rfl, hrow⟩
  case round =>
    obtain ⟨j, N, e, A4, c4, hj, hN, hN2, rfl, rfl, HR⟩ := hrel
    by_cases hlt : N < 34
    · have hj2 : j < 19 := by have := hN.out; omega
      go_wp2_with (at_builtin; refine wpList_appE (e.below_alloc _) rfl (.tmp 50) (.tmp 51) 40 rfl W0.heap.size 5 i0 _ 1 Try.underlying40 hi hz0 hz1 hz2 rfl A4 N c4 (bys (L ++ List.replicate j 0)) rfl (by rw [bys_length, List.length_append, HLL.out, List.length_replicate, hN.out]) (HR.out.alloc _) _ 1 1 (bys [0]) rfl rfl (Rd.blk (heap_new_at rfl)) (bys_one _) (by intro h; cases h) (N + 1) rfl (by unfold maxLen; omega) (by omega) (Nat.le_refl _) (by have := ext_ge e; simp; omega) ?_; intro e4 A5 c5 HO5)
      go_roundw
      case rel =>
        refine ⟨j + 1, N + 1, e4, A5, c5, by omega, ?_, by omega, rfl, rfl, ?_⟩
        · show N + 1 = 15 + (j + 1); have := hN.out; omega
        · show Row _ _ _ _ _ _
          have := HO5.out
          rw [← bys_append] at this
          rw [List.replicate_succ', ← List.append_assoc]
          exact this
      case measure => simp [lenV]; omega
    · have hN3 : N = 34 := by omega
      have hj3 : j = 19 := by have := hN.out; omega
      subst hN3 hj3
      have hr := HR.out.rd
      rw [← HL.out] at hr
      have hlen : l.length = 34 := by rw [HL.out, List.length_append, HLL.out, List.length_replicate]
      have HLEN := Lib.hid hlen
      have HRD := Lib.hid hr
      clear hr hlen HR hN
      go_wp2_with fail
      have hn := NumR_any A4 c4 l e.W HRD.out (by rw [HLEN.out]; decide) H01.out
      rw [HLEN.out] at hn
      refine hn.mono ?_
      rintro x _ ⟨rfl, rfl⟩
      go_wp2_with fail
      go_ret2
      exact ⟨ret_fst HK.out, ext_end HB.out⟩
end Go.Proofs.Ytlmdkmflbhnlgaa
namespace Go.Proofs.Ytlmdkmflbhnlgaa
open Go.RowKit
theorem keyL_bits (f : Fr) : ∀ x ∈ keyL f, x ≤ 1 := by
  have hb : ∀ b : Bool, bitB b ≤ 1 := by intro b; cases b <;> decide
  unfold keyL
  split
  · intro x hx
    simp only [List.mem_append, List.mem_cons, List.not_mem_nil, or_false] at hx
    rcases hx with ((hx | rfl | rfl) | hx) | rfl | rfl | rfl
    · exact bitsN_bit _ _ x hx
    · omega
    · omega
    · exact bitsN_bit _ _ x hx
    · exact hb _
    · omega
    · omega
  · intro x hx
    simp only [List.mem_append, List.mem_cons, List.not_mem_nil, or_false, List.mem_replicate] at hx
    rcases hx with (hx | rfl | rfl | rfl | rfl) | ⟨_, rfl⟩
    · exact bitsN_bit _ _ x hx
    · exact hb _
    · omega
    · exact hb _
    · exact hb _
    · omega
set_option maxRecDepth 100000 in
set_option maxHeartbeats 1000000 in
theorem KeyR_any (f : Fr) (A : Option Addr) (c : Nat) (w : World) (h0 : 0 ≤ f.id) :
    Calls Try.prog 68 #[frv f (.slice A f.data.length c)] w fun e w' => e = .returned (.tuple #[.int .u64 (if okF f then keyF f else 0), errV (okF f)]) ∧ Below w.heap.size w w' := by
  have hc := fun W => CheckR_any f A c W
  have hid : okF f = true → f.id < limF f := by
    unfold okF; intro h; simp at h; exact h.1.1.2
  cases hok : okF f with
  | false =>
    rw [hok] at hc
    clear hid hok
    obtain ⟨kind, id, ext, rtr, brs, esi, sec, sdt, vcid, af, data⟩ := f
    dsimp only [frv] at *
    generalize data.length = n at *
    have HC := Lib.hid hc
    clear hc
    go_enter Try.func68, Try.ntmps68
    go_wp2_with fail
    refine (HC.out _).mono ?_
    rintro e w1 ⟨rfl, hb⟩
    have HB := Lib.hid hb
    clear hb
    simp only [errV]
    go_wp2_with fail
    go_ret2
    exact ⟨rfl, below_trans (below_alloc (Below.refl _ _) _) HB.out⟩
  | true =>
    rw [hok] at hc
    have hlt := hid hok
    have hn := keyL_num f h0 hlt
    have hb := keyL_bits f
    unfold keyL at hn hb
    unfold limF at hlt
    simp only [if_true]
    obtain ⟨kind, id, ext, rtr, brs, esi, sec, sdt, vcid, af, data⟩ := f
    dsimp only [frv] at *
    generalize data.length = n at *
    cases ext
    · simp only [Bool.false_eq_true, if_false] at hn hb hlt
      exact KeyR_short kind id rtr brs esi sec sdt vcid af A n c w h0 hlt _ rfl _ hn hb (Lib.hid hc)
    · simp only [if_true] at hn hb hlt
      exact KeyR_ext kind id rtr brs esi sec sdt vcid af A n c w h0 hlt _ rfl _ hn hb (Lib.hid hc)
set_option maxHeartbeats 1000000 in
theorem CompareR_any (f g : Fr) (A B : Option Addr) (c d : Nat) (w : World) (h0 : 0 ≤ f.id) (h1 : 0 ≤ g.id) :
    Calls Try.prog 44 #[frv f (.slice A f.data.length c), frv g (.slice B g.data.length d)] w fun e w' => e = .returned (.tuple #[.int .i64 (if okF f && okF g then cmpF f g else 0), errV (okF f && okF g)]) ∧ Below w.heap.size w w' := by
  have hkf := fun W => KeyR_any f A c W h0
  have hkg := fun W => KeyR_any g B d W h1
  have hc : cmpF f g = if keyF f < keyF g then -1 else if keyF g < keyF f then 1 else 0 := rfl
  generalize cmpF f g = r at *
  generalize keyF f = kf at *
  generalize keyF g = kg at *
  generalize okF f = kof at *
  generalize okF g = kog at *
  obtain ⟨fk, fi, fe, fr, f4, f5, f6, f7, f8, f9, fd⟩ := f
  obtain ⟨gk, gi, ge, gr, g4, g5, g6, g7, g8, g9, gd⟩ := g
  dsimp only [frv] at *
  have HC := Lib.hid hc
  have HF := Lib.hid hkf
  have HG := Lib.hid hkg
  clear hc hkf hkg h0 h1
  cases kof <;> cases kog
  all_goals
    simp only [errV, Bool.false_eq_true, if_false, if_true, Bool.and_false, Bool.and_true] at HF HG ⊢
    go_enter Try.func44, Try.ntmps44
    go_wp2_with fail
    refine calls_blk2 (fun W0 q1 q2 hb => ?_)
    have HB := Lib.hid hb
    obtain ⟨a0, a1, a2, a3, a4, a5, a6, a7, a8, a9, a10⟩ := ext11 q1
    obtain ⟨b0, b1, b2, b3, b4, b5, b6, b7, b8, b9, b10⟩ := ext11 q2
    clear hb q1 q2
    refine (extc_same (HF.out _)).mono ?_
    rintro x _ ⟨e1, rfl, rfl⟩
    go_wp2_with fail
    refine (extc (HG.out _)).mono ?_
    rintro x _ ⟨e2, rfl, rfl⟩
    go_wp2_with fail
    all_goals
      go_ret2
      exact ⟨by first | rfl | exact ret_fst (by rw [HC.out]; (repeat (first | rw [if_pos (by omega)] | rw [if_neg (by omega)]))), ext_end HB.out⟩
end Go.Proofs.Ytlmdkmflbhnlgaa
