/- A frame's key by the document's answer: the walk. No condition. -/
import Derived.Test.YtbjeblffmgghgaaRefKey2
import Derived.Deep.RegionHeld3
namespace Go.Proofs.Ytbjeblffmgghgaa
open Go.RowKit
set_option maxRecDepth 100000 in
set_option maxHeartbeats 4000000 in
theorem KeyR_short (kind id : Int) (rtr brs esi sec : Bool) (sdt vcid af : Int) (A : Option Addr) (n c : Nat) (w : World) (h0 : 0 ≤ id) (h1 : id < 2048) (l : List Nat)
    (hl : l = bitsN id.toNat 11 ++ [bitB rtr, 0, bitB (kind != 1), bitB (kind == 3)] ++ List.replicate 19 0) (k : Int) (hk : ((numN l : Nat) : Int) = k) (h01 : ∀ x ∈ l, x ≤ 1)
    (HC : Hid (∀ W : World, Calls Try.prog 45 #[.agg #[.int .i64 kind, .int .u32 id, .bool false, .bool rtr, .bool brs, .bool esi, .bool sec, .int .u8 sdt, .int .u8 vcid, .int .u32 af, .slice A n c]] W fun e w' => e = .returned (.int .i64 0) ∧ Below W.heap.size W w')) :
    Calls Try.prog 17 #[.agg #[.int .i64 kind, .int .u32 id, .bool false, .bool rtr, .bool brs, .bool esi, .bool sec, .int .u8 sdt, .int .u8 vcid, .int .u32 af, .slice A n c]] w
      fun e w' => e = .returned (.tuple #[.int .u64 k, .int .i64 0]) ∧ Below w.heap.size w w' := by
  obtain ⟨i0, hi, hz0, hz1, hz2⟩ := info_parts info_u8
  have HL := Lib.hid hl
  have HK := Lib.hid hk
  have H01 := Lib.hid h01
  clear hl hk h01
  obtain ⟨m, rfl⟩ := Int.eq_ofNat_of_zero_le h0
  rw [Int.toNat_natCast] at HL
  go_enter Try.func17, Try.ntmps17
  go_wp2_with fail
  refine calls_blk1 (fun W0 q1 hb => ?_)
  have HB := Lib.hid hb
  have hsz := ext_lt q1
  obtain ⟨a0, a1, a2, a3, a4, a5, a6, a7, a8, a9, a10⟩ := ext11 q1
  clear hb q1
  refine (extc_same (HC.out _)).mono ?_
  rintro x _ ⟨e1, rfl, rfl⟩
  go_wp2_with fail
  have hw : IntKind.u64.wrap (m : Int) = (m : Int) := IntWalk.u64_in _ ⟨by omega, by omega⟩
  go_region_held3 (fun w' => w'.cell? ⟨w.heap.size, 0, none⟩ = some (.int .i64 kind) ∧ w'.cell? ⟨w.heap.size, 1, none⟩ = some (.int .u32 (m : Int)) ∧ w'.cell? ⟨w.heap.size, 3, none⟩ = some (.bool rtr))
    (first
      | go_keep
      | exact ⟨a0 _, a1 _, a3 _⟩
      | (refine ⟨Below.cell_of hb2 (by assumption), Below.cell_of hb2 (by assumption), Below.cell_of hb2 (by assumption)⟩)
      | (refine ⟨Below.cell_of hb2 ?_, Below.cell_of hb2 ?_, Below.cell_of hb2 ?_⟩ <;> simp [*]))
    (first
      | (go_at_call 47; refine (BitR_any _ _).mono ?_; rintro x _ ⟨rfl, rfl⟩)
      | (go_at_call 46; refine (BitsR_row _ 11 m 11 _ rfl rfl (by omega) (by omega) (by omega)).mono ?_; rintro x w2 ⟨⟨A2, c2, rfl, ho2⟩, hb2⟩; have hbW : Below W0.heap.size W0 w2 := below_trans e1.below.drew hb2)
      | (refine step_appE (w0 := W0) ?c1 rfl (.tmp 33) (.tmp 45) 23 rfl W0.heap.size 5 i0 _ 1 Try.underlying23 hi hz0 hz1 hz2 rfl A2 11 c2 (bys (bitsN m 11)) rfl rfl (Row.alloc (ho2.mono (ext_ge e1)) _) _ 4 4 (bys [bitB rtr, 0, bitB (kind != 1), bitB (kind == 3)]) rfl rfl (Rd.blk (heap_new_at rfl)) (bys_one _) (by intro h; cases h) 15 rfl (by decide) (by decide) (Nat.le_refl _) ?c2 ?_; (case c1 => exact below_alloc hbW _); (case c2 => have := hbW.size; simp; omega); intro e3 A3 c3 HO3))
  have hrow : Hid (Row e3.W W0.heap.size 5 A3 c3 (bys ((bitsN m 11 ++ [bitB rtr, 0, bitB (kind != 1), bitB (kind == 3)]) ++ List.replicate 0 0))) := by
    show Row _ _ _ _ _ _
    have := HO3.out
    rw [← bys_append] at this
    simpa using this
  clear HO3 ho2 hb2 hbW hw
  obtain ⟨L, hL⟩ : ∃ L, L = bitsN m 11 ++ [bitB rtr, 0, bitB (kind != 1), bitB (kind == 3)] := ⟨_, rfl⟩
  rw [← hL] at hrow HL
  have hLl : L.length = 15 := by rw [hL]; simp [bitsN_length]
  have HLL := Lib.hid hLl
  clear hL hLl
  go_wp2_with fail
  go_loopw [4] (fun v wr => ∃ (j N : Nat) (e : Ext W0) (A : Option Addr) (c : Nat), j ≤ 19 ∧ Hid (N = 15 + j) ∧ N ≤ 34 ∧ v = .slice A N c ∧ wr = e.W ∧ Hid (Row e.W W0.heap.size 5 A c (bys (L ++ List.replicate j 0)))) (fun v _ => 34 - lenV v)
  case atStart => exact ⟨0, 15, e3, A3, c3, by omega, rfl, by omega, rfl, rfl, hrow⟩
  case round =>
    obtain ⟨j, N, e, A4, c4, hj, hN, hN2, rfl, rfl, HR⟩ := hrel
    by_cases hlt : N < 34
    · have hj2 : j < 19 := by have := hN.out; omega
      go_wp2_with (at_builtin; refine wpList_appE (e.below_alloc _) rfl (.tmp 50) (.tmp 51) 23 rfl W0.heap.size 5 i0 _ 1 Try.underlying23 hi hz0 hz1 hz2 rfl A4 N c4 (bys (L ++ List.replicate j 0)) rfl (by rw [bys_length, List.length_append, HLL.out, List.length_replicate, hN.out]) (HR.out.alloc _) _ 1 1 (bys [0]) rfl rfl (Rd.blk (heap_new_at rfl)) (bys_one _) (by intro h; cases h) (N + 1) rfl (by unfold maxLen; omega) (by omega) (Nat.le_refl _) (by have := ext_ge e; simp; omega) ?_; intro e4 A5 c5 HO5)
      go_roundw
      case rel =>
        refine ⟨j + 1, N + 1, e4, A5, c5, by omega, ?_, by omega, rfl, rfl, ?_⟩
        · show N + 1 = 15 + (j + 1); have := hN.out; omega
        · show Row _ _ _ _ _ _
          have := HO5.out
          rw [← bys_append] at this
          rw [List.replicate_succ', ← List.append_assoc]
          exact this
      case measure => simp [lenV]; omega
    · have hN3 : N = 34 := by omega
      have hj3 : j = 19 := by have := hN.out; omega
      subst hN3 hj3
      have hr := HR.out.rd
      rw [← HL.out] at hr
      have hlen : l.length = 34 := by rw [HL.out, List.length_append, HLL.out, List.length_replicate]
      have HLEN := Lib.hid hlen
      have HRD := Lib.hid hr
      clear hr hlen HR hN
      go_wp2_with fail
      have hn := NumR_any A4 c4 l e.W HRD.out (by rw [HLEN.out]; decide) H01.out
      rw [HLEN.out] at hn
      refine hn.mono ?_
      rintro x _ ⟨rfl, rfl⟩
      go_wp2_with fail
      go_ret2
      exact ⟨ret_fst HK.out, ext_end HB.out⟩
end Go.Proofs.Ytbjeblffmgghgaa
