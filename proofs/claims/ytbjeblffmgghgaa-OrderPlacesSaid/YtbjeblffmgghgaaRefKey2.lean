/- A frame's key by the document's answer: the walk. No condition. -/
import Derived.Test.YtbjeblffmgghgaaRefKey
namespace Go.Proofs.Ytbjeblffmgghgaa
open Go.RowKit
set_option maxRecDepth 100000 in
set_option maxHeartbeats 2000000 in
theorem KeyR_ext (kind id : Int) (rtr brs esi sec : Bool) (sdt vcid af : Int) (A : Option Addr) (n c : Nat) (w : World) (h0 : 0 ≤ id) (h1 : id < 536870912) (l : List Nat)
    (hl : l = bitsN (id.toNat / 262144) 11 ++ [1, 1] ++ bitsN (id.toNat % 262144) 18 ++ [bitB rtr, 0, 0]) (k : Int) (hk : ((numN l : Nat) : Int) = k) (h01 : ∀ x ∈ l, x ≤ 1)
    (HC : Hid (∀ W : World, Calls Try.prog 45 #[.agg #[.int .i64 kind, .int .u32 id, .bool true, .bool rtr, .bool brs, .bool esi, .bool sec, .int .u8 sdt, .int .u8 vcid, .int .u32 af, .slice A n c]] W fun e w' => e = .returned (.int .i64 0) ∧ Below W.heap.size W w')) :
    Calls Try.prog 17 #[.agg #[.int .i64 kind, .int .u32 id, .bool true, .bool rtr, .bool brs, .bool esi, .bool sec, .int .u8 sdt, .int .u8 vcid, .int .u32 af, .slice A n c]] w
      fun e w' => e = .returned (.tuple #[.int .u64 k, .int .i64 0]) ∧ Below w.heap.size w w' := by
  obtain ⟨i0, hi, hz0, hz1, hz2⟩ := info_parts info_u8
  have HL := Lib.hid hl
  have HK := Lib.hid hk
  have H01 := Lib.hid h01
  clear hl hk h01
  obtain ⟨m, rfl⟩ := Int.eq_ofNat_of_zero_le h0
  rw [Int.toNat_natCast] at HL
  go_enter Try.func17, Try.ntmps17
  go_wp2_with fail
  refine calls_blk1 (fun W0 q1 hb => ?_)
  have HB := Lib.hid hb
  have hsz := ext_lt q1
  obtain ⟨a0, a1, a2, a3, a4, a5, a6, a7, a8, a9, a10⟩ := ext11 q1
  clear hb q1
  refine (extc_same (HC.out _)).mono ?_
  rintro x _ ⟨e1, rfl, rfl⟩
  go_wp2_with fail
  refine (extc (BitsR_row _ 11 (m / 262144) 11 _ (by omega) rfl (by omega) (by omega) (by omega))).mono ?_
  rintro x _ ⟨e2, rfl, A2, c2, rfl, ho2⟩
  have HO2 := Lib.hid (ho2.mono (ext_ge e1))
  clear ho2
  go_wp2_with (at_builtin; refine wpList_appE (e2.below_alloc _) rfl (.tmp 14) (.tmp 15) 23 rfl W0.heap.size 5 i0 _ 1 Try.underlying23 hi hz0 hz1 hz2 rfl A2 11 c2 (bys (bitsN (m / 262144) 11)) rfl rfl (HO2.out.alloc _) _ 2 2 (bys [1, 1]) rfl rfl (Rd.blk (heap_new_at rfl)) (bys_one _) (by intro h; cases h) 13 rfl (by decide) (by decide) (Nat.le_refl _) (by have := ext_ge e2; simp; omega) ?_; intro e3 A3 c3 HO3)
  refine (extcB (BitsR_row _ 18 (m % 262144) 18 _ (by omega) rfl (by omega) (by omega) (by omega))).mono ?_
  rintro x _ ⟨e4, rfl, hb4, A4, c4, rfl, ho4⟩
  have HO4 := Lib.hid (ho4.mono (ext_ge e3))
  have HO34 := Lib.hid (HO3.out.below hb4.out)
  clear ho4 hb4 HO3
  go_wp2_with (at_builtin; refine wpList_appE e4.below rfl (.tmp 17) (.tmp 22) 23 rfl W0.heap.size 5 i0 _ 1 Try.underlying23 hi hz0 hz1 hz2 rfl A3 13 c3 (bys (bitsN (m / 262144) 11) ++ bys [1, 1]) rfl rfl HO34.out A4 18 c4 (bys (bitsN (m % 262144) 18)) rfl rfl HO4.out.rd (bys_one _) (by intro h; cases h) 31 rfl (by decide) (by decide) (Nat.le_refl _) (ext_ge e4) ?_; intro e5 A5 c5 HO5)
  refine (BitR_any _ _).mono ?_
  rintro x _ ⟨rfl, rfl⟩
  go_wp2_with (at_builtin; refine wpList_appE (e5.below_alloc _) rfl (.tmp 24) (.tmp 28) 23 rfl W0.heap.size 5 i0 _ 1 Try.underlying23 hi hz0 hz1 hz2 rfl A5 31 c5 (bys (bitsN (m / 262144) 11) ++ bys [1, 1] ++ bys (bitsN (m % 262144) 18)) rfl rfl (HO5.out.alloc _) _ 3 3 (bys [bitB rtr, 0, 0]) rfl rfl (Rd.blk (heap_new_at rfl)) (bys_one _) (by intro h; cases h) 34 rfl (by decide) (by decide) (Nat.le_refl _) (by have := ext_ge e5; simp; omega) ?_; intro e6 A6 c6 HO6)
  have hr := HO6.out.rd
  rw [← bys_append, ← bys_append, ← bys_append, ← HL.out] at hr
  have hlen : l.length = 34 := by rw [HL.out]; rfl
  have HLEN := Lib.hid hlen
  have HR := Lib.hid hr
  clear hr hlen HO6 HO5 HO4 HO34 HO2
  have hn := NumR_any A6 c6 l e6.W HR.out (by rw [HLEN.out]; decide) H01.out
  rw [HLEN.out] at hn
  refine hn.mono ?_
  rintro x _ ⟨rfl, rfl⟩
  go_wp2_with fail
  go_ret2
  exact ⟨ret_fst HK.out, ext_end HB.out⟩
end Go.Proofs.Ytbjeblffmgghgaa
