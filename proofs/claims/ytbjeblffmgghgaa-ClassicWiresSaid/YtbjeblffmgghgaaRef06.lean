/- The document's answer for layer 6: a Classic frame's bits, ahead of all stuffing and on the wire. No condition. -/
import Derived.Test.YtbjeblffmgghgaaRef02
import Derived.Test.YtbjeblffmgghgaaRef03
import Derived.Test.YtbjeblffmgghgaaRefCheck
import Derived.Test.YtbjeblffmgghgaaLawClassicSizes
namespace Go.Proofs.Ytbjeblffmgghgaa
open Go.RowKit
set_option maxRecDepth 100000 in
set_option maxHeartbeats 4000000 in
theorem headR_any (f : Fr) (A : Option Addr) (n c N : Nat) (w : World) (h0 : 0 ≤ f.id) (h1 : f.id < limF f) (hN : (headL f).length = N) :
    Calls Try.prog 71 #[frv f (.slice A n c)] w fun e w' => (∃ A' c', e = .returned (.slice A' N c') ∧ Row w' w.heap.size 5 A' c' (bys (headL f))) ∧ Below w.heap.size w w' := by
  obtain ⟨i0, hi, hz0, hz1, hz2⟩ := info_parts info_u8
  have hl : headL f = if f.ext then [0] ++ bitsN (f.id.toNat / 262144) 11 ++ [1, 1] ++ bitsN (f.id.toNat % 262144) 18 ++ [bitB f.rtr] ++ [0, 0] else [0] ++ bitsN f.id.toNat 11 ++ [bitB f.rtr] ++ [0, 0] := rfl
  rw [headL_length] at hN
  unfold limF at h1
  generalize headL f = l at *
  obtain ⟨kind, id, ext, rtr, brs, esi, sec, sdt, vcid, af, data⟩ := f
  dsimp only [frv] at *
  obtain ⟨m, rfl⟩ := Int.eq_ofNat_of_zero_le h0
  rw [Int.toNat_natCast] at hl
  cases ext
  · simp only [Bool.false_eq_true, if_false] at h1 hl hN
    subst hN
    have hl2 : l = [0] ++ bitsN m 11 ++ [bitB rtr, 0, 0] := by rw [hl]; simp
    have HL := Lib.hid hl2
    clear hl hl2 h0
    go_enter Try.func71, Try.ntmps71
    go_wp2_with fail
    have q1 : (w.alloc (.cells #[.int .i64 kind, .int .u32 (m : Int), .bool false, .bool rtr, .bool brs, .bool esi, .bool sec, .int .u8 sdt, .int .u8 vcid, .int .u32 af, .slice A n c] 25)).heap[w.heap.size]? = some (.cells #[.int .i64 kind, .int .u32 (m : Int), .bool false, .bool rtr, .bool brs, .bool esi, .bool sec, .int .u8 sdt, .int .u8 vcid, .int .u32 af, .slice A n c] 25) := heap_new_at rfl
    have hb1 : Below w.heap.size w (w.alloc (.cells #[.int .i64 kind, .int .u32 (m : Int), .bool false, .bool rtr, .bool brs, .bool esi, .bool sec, .int .u8 sdt, .int .u8 vcid, .int .u32 af, .slice A n c] 25)) := below_alloc (Below.refl _ _) _
    have hs1 : (w.alloc (.cells #[.int .i64 kind, .int .u32 (m : Int), .bool false, .bool rtr, .bool brs, .bool esi, .bool sec, .int .u8 sdt, .int .u8 vcid, .int .u32 af, .slice A n c] 25)).heap.size = w.heap.size + 1 := by simp
    generalize w.alloc (.cells #[.int .i64 kind, .int .u32 (m : Int), .bool false, .bool rtr, .bool brs, .bool esi, .bool sec, .int .u8 sdt, .int .u8 vcid, .int .u32 af, .slice A n c] 25) = W0 at *
    have hr1 : Row (W0.alloc (.cells #[.int .u8 0] 5)) W0.heap.size 5 (some ⟨w.heap.size + 1, 0, none⟩) 1 (bys [0]) := by
      rw [← hs1]
      exact Row.lit (cs := [.int .u8 0]) (Nat.le_refl _) (by unfold maxLen; simp)
    obtain ⟨a0, a1, a2, a3, a4, a5, a6, a7, a8, a9, a10⟩ := ext11 q1
    have HB1 := Lib.hid hb1
    have HR1 := Lib.hid hr1
    clear q1 hr1 hb1 a0 a2 a4 a5 a6 a7 a8 a9 a10
    refine (extcB (e := ⟨_, below_alloc (Below.refl _ _) _⟩) (w0 := W0) (BitsR_row _ 11 m 11 _ ?c1 rfl (by omega) (by omega) (by omega))).mono ?_
    case c1 => first | rfl | omega
    rintro x _ ⟨e2, rfl, hb2, A2, c2, rfl, ho2⟩
    have HO2 := Lib.hid ho2
    have HR2 := Lib.hid (HR1.out.below hb2.out)
    clear ho2 hb2
    go_wp2_with (first
      | (at_builtin; refine wpList_appE (w0 := W0) (e2.below) rfl (.tmp 8) (.tmp 12) 23 rfl W0.heap.size 5 i0 _ 1 Try.underlying23 hi hz0 hz1 hz2 rfl (some ⟨w.heap.size + 1, 0, none⟩) 1 1 (bys [0]) rfl (rfl) (HR2.out) A2 11 c2 (bys (bitsN m 11)) rfl (by rw [bys_length, bitsN_length]) (HO2.out.rd) (bys_one _) (fun _ e => HO2.out.none_ e) 12 (by omega) (by unfold maxLen; omega) (by omega) (Nat.le_refl _) (e2.below.size) ?_; intro e3 A3 c3 HO3)
      | (go_at_call 47; refine (BitR_any rtr e3.W).mono ?_; rintro x _ ⟨rfl, rfl⟩)
      | (at_builtin; refine wpList_appE (w0 := W0) (below_alloc e3.below _) rfl (.tmp 14) (.tmp 18) 23 rfl W0.heap.size 5 i0 _ 1 Try.underlying23 hi hz0 hz1 hz2 rfl A3 12 c3 (bys [0] ++ bys (bitsN m 11)) rfl (by rw [← bys_append, bys_length, List.length_append, bitsN_length]; rfl) (HO3.out.alloc _) (some ⟨e3.W.heap.size, 0, none⟩) 3 3 (bys [bitB rtr, 0, 0]) rfl (rfl) (Rd.blk (cs := #[.int .u8 (bitB rtr : Nat), .int .u8 0, .int .u8 0]) (heap_new_at rfl)) (bys_one _) (by intro h; cases h) 15 (by omega) (by unfold maxLen; omega) (by omega) (Nat.le_refl _) ((below_alloc e3.below _).size) ?_; intro e4 A4 c4 HO4))
    go_ret
    have h4 := HO4.out
    rw [← bys_append, ← bys_append, ← HL.out] at h4
    exact ⟨⟨A4, c4, rfl, h4.mono HB1.out.size⟩, below_trans HB1.out e4.below⟩
  · simp only [if_true] at h1 hl hN
    subst hN
    obtain ⟨mh, hmh⟩ : ∃ mh, m / 262144 = mh := ⟨_, rfl⟩
    obtain ⟨ml, hml⟩ : ∃ ml, m % 262144 = ml := ⟨_, rfl⟩
    rw [hmh, hml] at hl
    have hl2 : l = [0] ++ bitsN mh 11 ++ [1, 1] ++ bitsN ml 18 ++ [bitB rtr, 0, 0] := by rw [hl]; simp
    have HL := Lib.hid hl2
    clear hl hl2 h0
    go_enter Try.func71, Try.ntmps71
    go_wp2_with fail
    have q1 : (w.alloc (.cells #[.int .i64 kind, .int .u32 (m : Int), .bool true, .bool rtr, .bool brs, .bool esi, .bool sec, .int .u8 sdt, .int .u8 vcid, .int .u32 af, .slice A n c] 25)).heap[w.heap.size]? = some (.cells #[.int .i64 kind, .int .u32 (m : Int), .bool true, .bool rtr, .bool brs, .bool esi, .bool sec, .int .u8 sdt, .int .u8 vcid, .int .u32 af, .slice A n c] 25) := heap_new_at rfl
    have hb1 : Below w.heap.size w (w.alloc (.cells #[.int .i64 kind, .int .u32 (m : Int), .bool true, .bool rtr, .bool brs, .bool esi, .bool sec, .int .u8 sdt, .int .u8 vcid, .int .u32 af, .slice A n c] 25)) := below_alloc (Below.refl _ _) _
    have hs1 : (w.alloc (.cells #[.int .i64 kind, .int .u32 (m : Int), .bool true, .bool rtr, .bool brs, .bool esi, .bool sec, .int .u8 sdt, .int .u8 vcid, .int .u32 af, .slice A n c] 25)).heap.size = w.heap.size + 1 := by simp
    generalize w.alloc (.cells #[.int .i64 kind, .int .u32 (m : Int), .bool true, .bool rtr, .bool brs, .bool esi, .bool sec, .int .u8 sdt, .int .u8 vcid, .int .u32 af, .slice A n c] 25) = W0 at *
    have hr1 : Row (W0.alloc (.cells #[.int .u8 0] 5)) W0.heap.size 5 (some ⟨w.heap.size + 1, 0, none⟩) 1 (bys [0]) := by
      rw [← hs1]
      exact Row.lit (cs := [.int .u8 0]) (Nat.le_refl _) (by unfold maxLen; simp)
    obtain ⟨a0, a1, a2, a3, a4, a5, a6, a7, a8, a9, a10⟩ := ext11 q1
    have HB1 := Lib.hid hb1
    have HR1 := Lib.hid hr1
    clear q1 hr1 hb1 a0 a2 a4 a5 a6 a7 a8 a9 a10
    refine (extcB (e := ⟨_, below_alloc (Below.refl _ _) _⟩) (w0 := W0) (BitsR_row _ 11 mh 11 _ ?c1 rfl (by omega) (by omega) (by omega))).mono ?_
    case c1 => omega
    rintro x _ ⟨e2, rfl, hb2, A2, c2, rfl, ho2⟩
    have HO2 := Lib.hid ho2
    have HR2 := Lib.hid (HR1.out.below hb2.out)
    clear ho2 hb2
    go_wp2_with (first
      | (at_builtin; refine wpList_appE (w0 := W0) (e2.below) rfl (.tmp 20) (.tmp 25) 23 rfl W0.heap.size 5 i0 _ 1 Try.underlying23 hi hz0 hz1 hz2 rfl (some ⟨w.heap.size + 1, 0, none⟩) 1 1 (bys [0]) rfl (rfl) (HR2.out) A2 11 c2 (bys (bitsN mh 11)) rfl (by rw [bys_length, bitsN_length]) (HO2.out.rd) (bys_one _) (fun _ e => HO2.out.none_ e) 12 (by omega) (by unfold maxLen; omega) (by omega) (Nat.le_refl _) (e2.below.size) ?_; intro e3 A3 c3 HO3)
      | (at_builtin; refine wpList_appE (w0 := W0) (below_alloc e3.below _) rfl (.tmp 27) (.tmp 28) 23 rfl W0.heap.size 5 i0 _ 1 Try.underlying23 hi hz0 hz1 hz2 rfl A3 12 c3 (bys [0] ++ bys (bitsN mh 11)) rfl (by rw [← bys_append, bys_length, List.length_append, bitsN_length]; rfl) (HO3.out.alloc _) (some ⟨e3.W.heap.size, 0, none⟩) 2 2 (bys [1, 1]) rfl (rfl) (Rd.blk (cs := #[.int .u8 1, .int .u8 1]) (heap_new_at rfl)) (bys_one _) (by intro h; cases h) 14 (by omega) (by unfold maxLen; omega) (by omega) (Nat.le_refl _) ((below_alloc e3.below _).size) ?_; intro e4 A4 c4 HO4))
    refine (extcB (BitsR_row _ 18 ml 18 e4.W ?c2 rfl (by omega) (by omega) (by omega))).mono ?_
    case c2 => omega
    rintro x _ ⟨e5, rfl, hb5, A5, c5, rfl, ho5⟩
    have HO5 := Lib.hid ho5
    have HR5 := Lib.hid (HO4.out.below hb5.out)
    clear ho5 hb5
    go_wp2_with (first
      | (at_builtin; refine wpList_appE (w0 := W0) (e5.below) rfl (.tmp 30) (.tmp 35) 23 rfl W0.heap.size 5 i0 _ 1 Try.underlying23 hi hz0 hz1 hz2 rfl A4 14 c4 (bys [0] ++ bys (bitsN mh 11) ++ bys [1, 1]) rfl (by rw [← bys_append, ← bys_append, bys_length, List.length_append, List.length_append, bitsN_length]; rfl) (HR5.out) A5 18 c5 (bys (bitsN ml 18)) rfl (by rw [bys_length, bitsN_length]) (HO5.out.rd) (bys_one _) (fun _ e => HO5.out.none_ e) 32 (by omega) (by unfold maxLen; omega) (by omega) (Nat.le_refl _) (e5.below.size) ?_; intro e6 A6 c6 HO6)
      | (go_at_call 47; refine (BitR_any rtr e6.W).mono ?_; rintro x _ ⟨rfl, rfl⟩)
      | (at_builtin; refine wpList_appE (w0 := W0) (below_alloc e6.below _) rfl (.tmp 37) (.tmp 41) 23 rfl W0.heap.size 5 i0 _ 1 Try.underlying23 hi hz0 hz1 hz2 rfl A6 32 c6 (bys [0] ++ bys (bitsN mh 11) ++ bys [1, 1] ++ bys (bitsN ml 18)) rfl (by rw [← bys_append, ← bys_append, ← bys_append, bys_length, List.length_append, List.length_append, List.length_append, bitsN_length, bitsN_length]; rfl) (HO6.out.alloc _) (some ⟨e6.W.heap.size, 0, none⟩) 3 3 (bys [bitB rtr, 0, 0]) rfl (rfl) (Rd.blk (cs := #[.int .u8 (bitB rtr : Nat), .int .u8 0, .int .u8 0]) (heap_new_at rfl)) (bys_one _) (by intro h; cases h) 35 (by omega) (by unfold maxLen; omega) (by omega) (Nat.le_refl _) ((below_alloc e6.below _).size) ?_; intro e7 A7 c7 HO7))
    go_ret
    have h7 := HO7.out
    rw [← bys_append, ← bys_append, ← bys_append, ← bys_append, ← HL.out] at h7
    exact ⟨⟨A7, c7, rfl, h7.mono HB1.out.size⟩, below_trans HB1.out e7.below⟩
theorem BodyR_no (f : Fr) (A : Option Addr) (c : Nat) (w : World) (hno : ¬ (f.kind = 1 ∧ okF f = true)) :
    Calls Try.prog 38 #[frv f (.slice A f.data.length c)] w fun e w' => e = .returned (.tuple #[.slice none 0 0, .int .i64 2]) ∧ Below w.heap.size w w' := by
  have HC := Lib.hid (fun W => CheckR_any f A c W)
  by_cases hk : f.kind = 1
  · have hok : okF f = false := by cases h : okF f with | false => rfl | true => exact absurd ⟨hk, h⟩ hno
    rw [hok] at HC
    have he : errV false = .int .i64 2 := rfl
    rw [he] at HC
    obtain ⟨kind, id, ext, rtr, brs, esi, sec, sdt, vcid, af, data⟩ := f
    dsimp only [frv] at *
    generalize data.length = n at *
    subst hk
    clear hno hok he
    go_enter Try.func38, Try.ntmps38
    go_wp2_with fail
    refine (HC.out _).mono ?_
    rintro e w1 ⟨rfl, hb⟩
    have HB := Lib.hid hb
    clear hb
    go_wp2_with fail
    go_ret2
    exact ⟨rfl, (below_alloc (Below.refl _ _) _).trans (HB.out.mono (by simp))⟩
  · obtain ⟨kind, id, ext, rtr, brs, esi, sec, sdt, vcid, af, data⟩ := f
    dsimp only [frv] at *
    generalize data.length = n at *
    have hkb : (kind != 1) = true := by rw [bne_iff_ne]; exact hk
    clear hno hk HC
    go_enter Try.func38, Try.ntmps38
    go_wp2_with fail
    go_ret2
    exact ⟨rfl, below_alloc (Below.refl _ _) _⟩
set_option maxRecDepth 100000 in
set_option maxHeartbeats 4000000 in
theorem BodyR_ok (f : Fr) (A : Option Addr) (c NB : Nat) (w : World) (hk : f.kind = 1) (hok : okF f = true) (h0 : 0 ≤ f.id) (hr : Rd w A (bys f.data)) (hby : isBytes f.data) (hNB : (bodyC f).length = NB) :
    Calls Try.prog 38 #[frv f (.slice A f.data.length c)] w fun e w' => (∃ A' c', e = .returned (.tuple #[.slice A' NB c', .int .i64 0]) ∧ Row w' w.heap.size 5 A' c' (bys (bodyC f))) ∧ Below w.heap.size w w' := by
  obtain ⟨i0, hi, hz0, hz1, hz2⟩ := info_parts info_u8
  have hl8 := okF_len1 f hk hok
  obtain ⟨NH, hNH⟩ : ∃ NH, (headL f).length = NH := ⟨_, rfl⟩
  have hNH2 : NH ≤ 35 := by rw [← hNH, headL_length]; split <;> omega
  have HH := Lib.hid (fun W => headR_any f A f.data.length c NH W h0 (okF_lim f hok) hNH)
  have HC := Lib.hid (fun W => CheckR_any f A c W)
  rw [hok] at HC
  have he : errV true = .int .i64 0 := rfl
  rw [he] at HC
  have HBY := Lib.hid (fun W (hW : Rd W A (bys f.data)) => BytesR_any W A c f.data.length f.data hW rfl (by omega) hby)
  have hbl : (bytesN f.data).length = 8 * f.data.length := bytesN_length _
  have hbe : bodyC f = addN 15 17817 0 (headL f ++ bitsN f.data.length 4 ++ bytesN f.data) := rfl
  have hcb : ∀ x ∈ headL f ++ bitsN f.data.length 4 ++ bytesN f.data, x ≤ 1 := coreC_bits f
  have hNB2 : NH + 4 + 8 * f.data.length + 15 = NB := by
    rw [← hNB, bodyC_length, ← hNH, headL_length]; split <;> omega
  have HR := Lib.hid hr
  have HBE := Lib.hid hbe
  have HCB := Lib.hid hcb
  have HBL := Lib.hid hbl
  have HNH := Lib.hid hNH
  obtain ⟨hl, hle⟩ : ∃ hl, headL f = hl := ⟨_, rfl⟩
  obtain ⟨dl, hdl⟩ : ∃ dl, bytesN f.data = dl := ⟨_, rfl⟩
  obtain ⟨bl, hbl2⟩ : ∃ bl, bodyC f = bl := ⟨_, rfl⟩
  rw [hle] at HH HBE HCB HNH
  rw [hdl] at HBE HCB HBL HBY
  rw [hbl2] at HBE ⊢
  obtain ⟨kind, id, ext, rtr, brs, esi, sec, sdt, vcid, af, data⟩ := f
  dsimp only [frv] at *
  generalize data.length = n at *
  subst hk
  clear hr hok he h0 hby hNB hbe hcb hbl hNH hle hdl hbl2
  go_enter Try.func38, Try.ntmps38
  go_wp2_with fail
  refine calls_blk1 (fun W0 q1 hb => ?_)
  have HB := Lib.hid hb
  obtain ⟨a0, a1, a2, a3, a4, a5, a6, a7, a8, a9, a10⟩ := ext11 q1
  have hsz := ext_lt q1
  clear hb q1
  refine (extc_same (HC.out _)).mono ?_
  rintro x _ ⟨e1, rfl, rfl⟩
  go_wp2_with fail
  have hwn : IntKind.u64.wrap (n : Int) = (n : Int) := IntWalk.u64_in _ ⟨by omega, by omega⟩
  go_region_held3 (fun w' => w'.cell? ⟨w.heap.size, 0, none⟩ = some (.int .i64 1) ∧ w'.cell? ⟨w.heap.size, 1, none⟩ = some (.int .u32 id) ∧ w'.cell? ⟨w.heap.size, 2, none⟩ = some (.bool ext) ∧ w'.cell? ⟨w.heap.size, 3, none⟩ = some (.bool rtr) ∧ w'.cell? ⟨w.heap.size, 4, none⟩ = some (.bool brs) ∧ w'.cell? ⟨w.heap.size, 5, none⟩ = some (.bool esi) ∧ w'.cell? ⟨w.heap.size, 6, none⟩ = some (.bool sec) ∧ w'.cell? ⟨w.heap.size, 7, none⟩ = some (.int .u8 sdt) ∧ w'.cell? ⟨w.heap.size, 8, none⟩ = some (.int .u8 vcid) ∧ w'.cell? ⟨w.heap.size, 9, none⟩ = some (.int .u32 af) ∧ w'.cell? ⟨w.heap.size, 10, none⟩ = some (.slice A n c))
    (first
      | go_keep
      | exact ⟨a0 _, a1 _, a2 _, a3 _, a4 _, a5 _, a6 _, a7 _, a8 _, a9 _, a10 _⟩
      | exact ⟨Below.cell_of hb3 (by assumption), Below.cell_of hb3 (by assumption), Below.cell_of hb3 (by assumption), Below.cell_of hb3 (by assumption), Below.cell_of hb3 (by assumption), Below.cell_of hb3 (by assumption), Below.cell_of hb3 (by assumption), Below.cell_of hb3 (by assumption), Below.cell_of hb3 (by assumption), Below.cell_of hb3 (by assumption), Below.cell_of hb3 (by assumption)⟩
      | exact ⟨Below.cell_of hb2 (by assumption), Below.cell_of hb2 (by assumption), Below.cell_of hb2 (by assumption), Below.cell_of hb2 (by assumption), Below.cell_of hb2 (by assumption), Below.cell_of hb2 (by assumption), Below.cell_of hb2 (by assumption), Below.cell_of hb2 (by assumption), Below.cell_of hb2 (by assumption), Below.cell_of hb2 (by assumption), Below.cell_of hb2 (by assumption)⟩
      | (refine ⟨Below.cell_of hb2 ?_, Below.cell_of hb2 ?_, Below.cell_of hb2 ?_, Below.cell_of hb2 ?_, Below.cell_of hb2 ?_, Below.cell_of hb2 ?_, Below.cell_of hb2 ?_, Below.cell_of hb2 ?_, Below.cell_of hb2 ?_, Below.cell_of hb2 ?_, Below.cell_of hb2 ?_⟩ <;> simp [*])
      | (refine ⟨Below.cell_of hb3 ?_, Below.cell_of hb3 ?_, Below.cell_of hb3 ?_, Below.cell_of hb3 ?_, Below.cell_of hb3 ?_, Below.cell_of hb3 ?_, Below.cell_of hb3 ?_, Below.cell_of hb3 ?_, Below.cell_of hb3 ?_, Below.cell_of hb3 ?_, Below.cell_of hb3 ?_⟩ <;> simp [*]))
    (first
      | (go_at_call 71; refine (HH.out _).mono ?_; rintro x w2 ⟨⟨A2, c2, rfl, ho2⟩, hb2⟩)
      | (go_at_call 46; refine (BitsR_row _ 4 n 4 _ (by first | rfl | exact hwn | omega) rfl (by omega) (by omega) (by omega)).mono ?_; rintro x w3 ⟨⟨A3, c3, rfl, ho3⟩, hb3⟩; have hbW : Below W0.heap.size W0 w3 := below_trans (below_trans e1.below.drew hb2) hb3)
      | (refine step_appE (w0 := W0) ?c1 rfl (.tmp 14) (.tmp 19) 23 rfl W0.heap.size 5 i0 _ 1 Try.underlying23 hi hz0 hz1 hz2 rfl A2 NH c2 (bys hl) rfl (by rw [bys_length]; exact HNH.out) ((ho2.mono (ext_ge e1)).below hb3) A3 4 c3 (bys (bitsN n 4)) rfl (by rw [bys_length, bitsN_length]) ho3.rd (bys_one _) (fun _ e => ho3.none_ e) (NH + 4) rfl (by unfold maxLen; omega) (by omega) (Nat.le_refl _) ?c2 ?_; (case c1 => exact hbW); (case c2 => exact hbW.size); intro e4 A4 c4 HO4))
  go_wp2_with fail
  refine (extcB (HBY.out e4.W ((HR.out.below HB.out).ext e4))).mono ?_
  rintro x _ ⟨e5, rfl, HB5, A5, c5, rfl, ho5⟩
  have HO5 := Lib.hid ho5
  have HR5 := Lib.hid (HO4.out.below HB5.out)
  clear ho5 ho2 ho3 hbW hb2 hb3
  go_wp2_with (at_builtin; refine wpList_appE (w0 := W0) (e5.below) rfl (.tmp 21) (.tmp 24) 23 rfl W0.heap.size 5 i0 _ 1 Try.underlying23 hi hz0 hz1 hz2 rfl A4 (NH + 4) c4 (bys hl ++ bys (bitsN n 4)) rfl (by rw [← bys_append, bys_length, List.length_append, bitsN_length, HNH.out]) (HR5.out) A5 (8 * n) c5 (bys dl) rfl (by rw [bys_length]; exact HBL.out) (HO5.out.rd) (bys_one _) (fun _ e => HO5.out.none_ e) (NH + 4 + 8 * n) (by omega) (by unfold maxLen; omega) (by omega) (Nat.le_refl _) (e5.below.size) ?_; intro e6 A6 c6 HO6)
  have h6 := HO6.out
  rw [← bys_append, ← bys_append] at h6
  have hlen6 : (hl ++ bitsN n 4 ++ dl).length = NH + 4 + 8 * n := by rw [List.length_append, List.length_append, bitsN_length, HNH.out, HBL.out]
  refine (extc (AddR_any ofR_1 (NH + 4 + 8 * n) c6 A6 _ e6.W h6.rd hlen6 (by omega) (fun e => h6.none_ e) HCB.out)).mono ?_
  rintro x _ ⟨e7, rfl, A7, c7, rfl, ho7⟩
  rw [← HBE.out] at ho7
  rw [hNB2]
  go_wp2_with fail
  go_ret2
  exact ⟨⟨A7, c7, rfl, ho7.mono (Nat.le_trans HB.out.size e6.below.size)⟩, below_trans HB.out e7.below⟩
theorem MostR_ok (n : Nat) (w : World) (hn : n ≤ 8) : Calls Try.prog 40 #[.int .i64 n] w fun e w' => e = .returned (.tuple #[.int .i64 ((54 + 8 * n + (54 + 8 * n - 1) / 4 + 10 : Nat) : Int), .int .i64 0]) ∧ w = w' := by
  have h8 : ¬ (8 : Int) < (n : Int) := by omega
  have h0 : ¬ (n : Int) < 0 := by omega
  go_enter Try.func40, Try.ntmps40
  go_wp2
  go_ret2
  exact ⟨ret_fst (by omega), rfl⟩
theorem MostR_no (n : Int) (w : World) (hn : n < 0 ∨ 8 < n) : Calls Try.prog 40 #[.int .i64 n] w fun e w' => e = .returned (.tuple #[.int .i64 0, .int .i64 2]) ∧ w = w' := by
  rcases hn with h | h
  · go_enter Try.func40, Try.ntmps40
    go_wp2
    go_ret2
    exact ⟨rfl, rfl⟩
  · have h0 : ¬ n < 0 := by omega
    go_enter Try.func40, Try.ntmps40
    go_wp2
    go_ret2
    exact ⟨rfl, rfl⟩
theorem Most_no (n : Int) (w : World) (hn : n < 0 ∨ 8 < n) : Calls Try.prog 39 #[.int .i64 n] w fun e w' => e = .returned (.tuple #[.int .i64 0, .int .i64 2]) ∧ w = w' := by
  rcases hn with h | h
  · go_enter Try.func39, Try.ntmps39
    go_wp2
    go_ret2
    exact ⟨rfl, rfl⟩
  · have h0 : ¬ n < 0 := by omega
    go_enter Try.func39, Try.ntmps39
    go_wp2
    go_ret2
    exact ⟨rfl, rfl⟩
end Go.Proofs.Ytbjeblffmgghgaa
