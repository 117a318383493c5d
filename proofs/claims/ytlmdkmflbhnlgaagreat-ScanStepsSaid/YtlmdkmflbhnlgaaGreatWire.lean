/- classic.head: a Classic frame's bits up to the last one that arbitrates. No condition. -/
import Derived.Test.YtlmdkmflbhnlgaaGreatFields
import Derived.Test.YtlmdkmflbhnlgaaGreatKe
import Derived.Test.YtlmdkmflbhnlgaaGreatCheck2
import Derived.Test.YtlmdkmflbhnlgaaGreatAnd18
import Derived.Test.YtlmdkmflbhnlgaaGreatAdd
import Derived.Test.YtlmdkmflbhnlgaaGreatStuffPut
import Derived.Test.YtlmdkmflbhnlgaaGreatRepeat
namespace Go.Proofs.YtlmdkmflbhnlgaaGreat
open Go.RowKit
theorem fieldsPut_row (w : World) (B b t : Nat) (A : Option Addr) (c : Nat) (n size : Int) (N S : Nat) (l : List Nat) (eN : n = (N : Int)) (eS : size = (S : Int)) (h : Pot w B b t A c l) (hn : N < 18446744073709551616) (hs : S ≤ 64) (hlt : N < 2 ^ S) (hl : l.length + S ≤ 1000000) :
    Calls Tryz.prog 67 #[.pointer (some ⟨b, 0, none⟩), .int .u64 n, .int .i64 size] w fun e w' => e = .returned (.tuple #[]) ∧ (∃ A' c', Pot w' B b t A' c' (l ++ bitsN N S)) ∧ Keep B b w w' := by
  subst eN eS
  exact fieldsPut_any w B b t A c N S l h hn hs hlt hl
set_option maxRecDepth 100000 in
set_option maxHeartbeats 2000000 in
theorem head_any (f : Fr) (A : Option Addr) (n c : Nat) (w : World) (h0 : 0 ≤ f.id) (h1 : f.id < limF f) :
    Calls Tryz.prog 43 #[frv f (.slice A n c)] w fun e w' => e = .returned (.pointer (some ⟨w.heap.size + 1, 0, none⟩)) ∧ (∃ A' c', Pot w' (w.heap.size + 1 + 1) (w.heap.size + 1) 78 A' c' (headL f)) ∧ Below w.heap.size w w' := by
  have hl : headL f = if f.ext then [0] ++ bitsN (f.id.toNat / 262144) 11 ++ [1, 1] ++ bitsN (f.id.toNat % 262144) 18 ++ [bitB f.rtr] ++ [0, 0] else [0] ++ bitsN f.id.toNat 11 ++ [bitB f.rtr] ++ [0, 0] := rfl
  unfold limF at h1
  generalize headL f = l at *
  obtain ⟨kind, id, ext, rtr, brs, esi, sec, sdt, vcid, af, data⟩ := f
  dsimp only [frv] at *
  obtain ⟨m, rfl⟩ := Int.eq_ofNat_of_zero_le h0
  rw [Int.toNat_natCast] at hl
  cases ext
  · simp only [Bool.false_eq_true, if_false] at h1 hl
    have HL := Lib.hid hl
    clear hl h0
    go_enter Tryz.func43, Tryz.ntmps43
    go_wp2_with fail
    refine calls_blk2 (fun W0 q1 q2 hb => ?_)
    have hp : Pot W0 (w.heap.size + 1 + 1) (w.heap.size + 1) 78 none 0 [] := ⟨q2, fun _ e => (by cases e), heap_lt q2, Row.nil _ _ _⟩
    have HB := Lib.hid hb
    have HP := Lib.hid hp
    obtain ⟨a0, a1, a2, a3, a4, a5, a6, a7, a8, a9, a10⟩ := cells11 q1
    have b1 := fun e : KE (w.heap.size + 1 + 1) (w.heap.size + 1) W0 => ke_cell a1 (by show w.heap.size < _; omega) (by show w.heap.size ≠ _; omega) e
    have b2 := fun e : KE (w.heap.size + 1 + 1) (w.heap.size + 1) W0 => ke_cell a2 (by show w.heap.size < _; omega) (by show w.heap.size ≠ _; omega) e
    have b3 := fun e : KE (w.heap.size + 1 + 1) (w.heap.size + 1) W0 => ke_cell a3 (by show w.heap.size < _; omega) (by show w.heap.size ≠ _; omega) e
    clear hb hp q1 q2 a0 a1 a2 a3 a4 a5 a6 a7 a8 a9 a10
    refine (kec_same (fieldsPut_row _ _ _ _ _ _ _ _ 0 1 _ rfl rfl HP.out (by omega) (by omega) (by omega) (by simp))).mono ?_
    rintro x _ ⟨e1, rfl, rfl, A1, c1, hp1⟩
    have HP1 := Lib.hid hp1
    clear hp1
    go_wp2_with fail
    refine (kec (fieldsPut_row _ _ _ _ _ _ _ _ m 11 _ ?c1 rfl HP1.out (by omega) (by omega) (by omega) (by simp [bitsN_length]))).mono ?_
    case c1 => first | rfl | omega
    rintro x _ ⟨e2, rfl, rfl, A2, c2, hp2⟩
    have HP2 := Lib.hid hp2
    clear hp2
    go_wp2_with fail
    refine (kec (fieldsFlag_any _ _ _ _ _ _ rtr _ HP2.out (by simp [bitsN_length]))).mono ?_
    rintro x _ ⟨e3, rfl, rfl, A3, c3, hp3⟩
    have HP3 := Lib.hid hp3
    clear hp3
    go_wp2_with fail
    refine (kec (fieldsPut_row _ _ _ _ _ _ _ _ 0 2 _ rfl rfl HP3.out (by omega) (by omega) (by omega) (by simp [bitsN_length]))).mono ?_
    rintro x _ ⟨e4, rfl, rfl, A4, c4, hp4⟩
    have HP4 := Lib.hid hp4
    clear hp4
    go_wp2_with fail
    go_ret
    refine ⟨rfl, ⟨A4, c4, ?_⟩, HB.out.trans (e4.keep.below (by omega) (by omega))⟩
    have h := HP4.out
    rw [HL.out]
    exact h
  · simp only [if_true] at h1 hl
    have h18 := and18 (m : Int) (by omega) h1
    have HL := Lib.hid hl
    clear hl h0
    go_enter Tryz.func43, Tryz.ntmps43
    go_wp2_with fail
    refine calls_blk2 (fun W0 q1 q2 hb => ?_)
    have hp : Pot W0 (w.heap.size + 1 + 1) (w.heap.size + 1) 78 none 0 [] := ⟨q2, fun _ e => (by cases e), heap_lt q2, Row.nil _ _ _⟩
    have HB := Lib.hid hb
    have HP := Lib.hid hp
    obtain ⟨a0, a1, a2, a3, a4, a5, a6, a7, a8, a9, a10⟩ := cells11 q1
    have b1 := fun e : KE (w.heap.size + 1 + 1) (w.heap.size + 1) W0 => ke_cell a1 (by show w.heap.size < _; omega) (by show w.heap.size ≠ _; omega) e
    have b2 := fun e : KE (w.heap.size + 1 + 1) (w.heap.size + 1) W0 => ke_cell a2 (by show w.heap.size < _; omega) (by show w.heap.size ≠ _; omega) e
    have b3 := fun e : KE (w.heap.size + 1 + 1) (w.heap.size + 1) W0 => ke_cell a3 (by show w.heap.size < _; omega) (by show w.heap.size ≠ _; omega) e
    clear hb hp q1 q2 a0 a1 a2 a3 a4 a5 a6 a7 a8 a9 a10
    refine (kec_same (fieldsPut_row _ _ _ _ _ _ _ _ 0 1 _ rfl rfl HP.out (by omega) (by omega) (by omega) (by simp))).mono ?_
    rintro x _ ⟨e1, rfl, rfl, A1, c1, hp1⟩
    have HP1 := Lib.hid hp1
    clear hp1
    go_wp2_with fail
    refine (kec (fieldsPut_row _ _ _ _ _ _ _ _ (m / 262144) 11 _ ?c1 rfl HP1.out (by omega) (by omega) (by omega) (by simp [bitsN_length]))).mono ?_
    case c1 => first | rfl | omega
    rintro x _ ⟨e2, rfl, rfl, A2, c2, hp2⟩
    have HP2 := Lib.hid hp2
    clear hp2
    go_wp2_with fail
    refine (kec (fieldsPut_row _ _ _ _ _ _ _ _ 3 2 _ rfl rfl HP2.out (by omega) (by omega) (by omega) (by simp [bitsN_length]))).mono ?_
    rintro x _ ⟨e5, rfl, rfl, A5, c5, hp5⟩
    have HP5 := Lib.hid hp5
    clear hp5
    go_wp2_with fail
    refine (kec (fieldsPut_row _ _ _ _ _ _ _ _ (m % 262144) 18 _ ?c2 rfl HP5.out (by omega) (by omega) (by omega) (by simp [bitsN_length]))).mono ?_
    case c2 => first | rfl | omega
    rintro x _ ⟨e6, rfl, rfl, A6, c6, hp6⟩
    have HP6 := Lib.hid hp6
    clear hp6
    go_wp2_with fail
    refine (kec (fieldsFlag_any _ _ _ _ _ _ rtr _ HP6.out (by simp [bitsN_length]))).mono ?_
    rintro x _ ⟨e3, rfl, rfl, A3, c3, hp3⟩
    have HP3 := Lib.hid hp3
    clear hp3
    go_wp2_with fail
    refine (kec (fieldsPut_row _ _ _ _ _ _ _ _ 0 2 _ rfl rfl HP3.out (by omega) (by omega) (by omega) (by simp [bitsN_length]))).mono ?_
    rintro x _ ⟨e4, rfl, rfl, A4, c4, hp4⟩
    have HP4 := Lib.hid hp4
    clear hp4
    go_wp2_with fail
    go_ret
    refine ⟨rfl, ⟨A4, c4, ?_⟩, HB.out.trans (e4.keep.below (by omega) (by omega))⟩
    have h := HP4.out
    rw [HL.out]
    exact h
theorem headL_length (f : Fr) : (headL f).length = if f.ext then 35 else 15 := by unfold headL; split <;> simp [bitsN_length]
theorem headL_bits (f : Fr) : ∀ x ∈ headL f, x ≤ 1 := by
  have hb : ∀ b : Bool, bitB b ≤ 1 := by intro b; cases b <;> decide
  have h0 : ∀ x ∈ [0], x ≤ 1 := by simp
  have h00 : ∀ x ∈ [0, 0], x ≤ 1 := by simp
  have h11 : ∀ x ∈ [1, 1], x ≤ 1 := by simp
  unfold headL
  split <;> intro x hx <;> simp only [List.mem_append, List.mem_singleton] at hx
  · rcases hx with ((((rfl | hx) | hx) | hx) | rfl) | hx
    · omega
    · exact bitsN_bit _ _ x hx
    · exact h11 x hx
    · exact bitsN_bit _ _ x hx
    · exact hb _
    · exact h00 x hx
  · rcases hx with ((rfl | hx) | rfl) | hx
    · omega
    · exact bitsN_bit _ _ x hx
    · exact hb _
    · exact h00 x hx
end Go.Proofs.YtlmdkmflbhnlgaaGreat
namespace Go.Proofs.YtlmdkmflbhnlgaaGreat
open Go.RowKit
/-- A Classic frame's bits ahead of its sum. -/
def coreC (f : Fr) : List Nat := headL f ++ bitsN f.data.length 4 ++ bytesN f.data
def bodyC (f : Fr) : List Nat := addN 15 17817 0 (coreC f)
theorem codeF_1 (n : Nat) : codeF 1 n = if n ≤ 8 then some (n : Int) else none := by
  by_cases h : n ≤ 8
  · simp [codeF, loOf, hiOf, h]; omega
  · simp [codeF, loOf, hiOf, h]; omega
theorem okF_len1 (f : Fr) (hk : f.kind = 1) (h : okF f = true) : f.data.length ≤ 8 := by
  unfold okF at h
  simp only [Bool.and_eq_true] at h
  have h1 := h.1.1.1
  rw [hk, codeF_1] at h1
  split at h1
  · assumption
  · cases h1
theorem okF_lim (f : Fr) (h : okF f = true) : f.id < limF f := by
  unfold okF at h
  simp only [Bool.and_eq_true, decide_eq_true_eq] at h
  exact h.1.1.2
theorem coreC_bits (f : Fr) : ∀ x ∈ coreC f, x ≤ 1 := by
  intro x hx
  simp only [coreC, List.mem_append] at hx
  rcases hx with (hx | hx) | hx
  · exact headL_bits f x hx
  · exact bitsN_bit _ _ x hx
  · exact bytesN_bits _ x hx
theorem coreC_length (f : Fr) : (coreC f).length = (if f.ext then 39 else 19) + 8 * f.data.length := by
  unfold coreC
  rw [List.length_append, List.length_append, headL_length, bitsN_length, bytesN_length]
  split <;> omega
theorem bodyC_length (f : Fr) : (bodyC f).length = (if f.ext then 54 else 34) + 8 * f.data.length := by
  unfold bodyC addN
  rw [List.length_append, coreC_length, bitsN_length]
  split <;> omega
set_option maxRecDepth 100000 in
set_option maxHeartbeats 2000000 in
theorem Body_no (f : Fr) (A : Option Addr) (c : Nat) (w : World) (hl : f.data.length ≤ 9223372036854775807) (hno : ¬ (f.kind = 1 ∧ okF f = true)) :
    Calls Tryz.prog 42 #[frv f (.slice A f.data.length c)] w fun e w' => e = .returned (.tuple #[.slice none 0 0, .int .i64 2]) ∧ Below w.heap.size w w' := by
  have HC := Lib.hid (fun W => Check_any f A c W hl)
  by_cases hk : f.kind = 1
  · have hok : okF f = false := by cases h : okF f with | false => rfl | true => exact absurd ⟨hk, h⟩ hno
    rw [hok] at HC
    have he : errV false = .int .i64 2 := rfl
    rw [he] at HC
    obtain ⟨kind, id, ext, rtr, brs, esi, sec, sdt, vcid, af, data⟩ := f
    dsimp only [frv] at *
    generalize data.length = n at *
    subst hk
    clear hno hok he
    go_enter Tryz.func42, Tryz.ntmps42
    go_wp2_with fail
    refine (HC.out _).mono ?_
    rintro e w1 ⟨rfl, hb⟩
    have HB := Lib.hid hb
    clear hb
    go_wp2_with fail
    go_ret2
    exact ⟨rfl, (below_alloc (Below.refl _ _) _).trans (HB.out.mono (by simp))⟩
  · obtain ⟨kind, id, ext, rtr, brs, esi, sec, sdt, vcid, af, data⟩ := f
    dsimp only [frv] at *
    generalize data.length = n at *
    have hkb : (kind != 1) = true := by rw [bne_iff_ne]; exact hk
    clear hno hk HC
    go_enter Tryz.func42, Tryz.ntmps42
    go_wp2_with fail
    go_ret2
    exact ⟨rfl, below_alloc (Below.refl _ _) _⟩
set_option maxRecDepth 100000 in
set_option maxHeartbeats 4000000 in
theorem Body_ok (f : Fr) (A : Option Addr) (c N : Nat) (w : World) (hk : f.kind = 1) (hok : okF f = true) (h0 : 0 ≤ f.id) (hr : Rd w A (bys f.data)) (hby : isBytes f.data) (hN : (bodyC f).length = N) :
    Calls Tryz.prog 42 #[frv f (.slice A f.data.length c)] w fun e w' => (∃ A' c', e = .returned (.tuple #[.slice A' N c', .int .i64 0]) ∧ Row w' w.heap.size 5 A' c' (bys (bodyC f))) ∧ Below w.heap.size w w' := by
  have hl8 := okF_len1 f hk hok
  have hC := fun W => Check_any f A c W (by omega)
  rw [hok] at hC
  have he : errV true = .int .i64 0 := rfl
  rw [he] at hC
  have hH := fun W => head_any f A f.data.length c W h0 (okF_lim f hok)
  have hcode := fun W => Code_any 1 (f.data.length : Int) W (by omega) (by omega)
  rw [codeF_1, if_pos hl8, codeV_some] at hcode
  have hcl := coreC_length f
  have hcb := coreC_bits f
  have hce : coreC f = headL f ++ bitsN f.data.length 4 ++ bytesN f.data := rfl
  have hbe : bodyC f = addN 15 17817 0 (coreC f) := rfl
  have hhl : (headL f).length ≤ 35 := by rw [headL_length]; split <;> omega
  have hclb : (coreC f).length ≤ 103 := by rw [hcl]; split <;> omega
  have hNc : (coreC f).length + 15 = N := by rw [← hN, hbe, addN, List.length_append, bitsN_length]
  obtain ⟨hL, hhL⟩ : ∃ hL, headL f = hL := ⟨_, rfl⟩
  obtain ⟨co, hco⟩ : ∃ co, coreC f = co := ⟨_, rfl⟩
  obtain ⟨bo, hbo⟩ : ∃ bo, bodyC f = bo := ⟨_, rfl⟩
  rw [hhL] at hhl hce hH
  rw [hco] at hcb hce hbe hNc hclb
  rw [hbo] at hbe ⊢
  obtain ⟨kind, id, ext, rtr, brs, esi, sec, sdt, vcid, af, data⟩ := f
  dsimp only [frv] at *
  obtain ⟨n, hn⟩ : ∃ n, data.length = n := ⟨_, rfl⟩
  rw [hn] at hC hH hcode hce hl8 ⊢
  subst hk
  have HC := Lib.hid hC
  have HH := Lib.hid hH
  have HCODE := Lib.hid hcode
  have HR := Lib.hid hr
  have HBY := Lib.hid hby
  have HN := Lib.hid hn
  have HCB := Lib.hid hcb
  have HCE := Lib.hid hce
  have HBE := Lib.hid hbe
  have HNC := Lib.hid hNc
  have HHL := Lib.hid hhl
  have HCLB := Lib.hid hclb
  clear hC hH hcode hr hby hn hcb hce hbe hNc hhl hclb hcl hco hbo hhL hN hok he h0
  go_enter Tryz.func42, Tryz.ntmps42
  go_wp2_with fail
  refine calls_blk1 (fun W0 q1 hb => ?_)
  have HB := Lib.hid hb
  have HQ := Lib.hid q1
  obtain ⟨a0, a1, a2, a3, a4, a5, a6, a7, a8, a9, a10⟩ := ext11 q1
  have hsz0 : w.heap.size < W0.heap.size := heap_lt q1
  clear hb q1
  refine (extc_same (HC.out _)).mono ?_
  rintro x _ ⟨e1, rfl, rfl⟩
  go_wp2_with fail
  refine (HH.out _).mono ?_
  rintro x w2 ⟨rfl, ⟨A2, c2, hp2⟩, hb2⟩
  have HP2 := Lib.hid hp2
  have HB2 := Lib.hid hb2
  have e2 : ∀ i v, e1.W.cell? ⟨w.heap.size, i, none⟩ = some v → w2.cell? ⟨w.heap.size, i, none⟩ = some v := fun i v h => Below.cell_of HB2.out h
  have b0 := e2 0 _ (a0 e1)
  have b10 := e2 10 _ (a10 e1)
  have hszw : W0.heap.size ≤ e1.W.heap.size := e1.below.size
  clear hp2 hb2 e2
  go_wp2_with fail
  refine (HCODE.out _).mono ?_
  rintro x w3 ⟨rfl, hb3⟩
  have HB3 := Lib.hid hb3
  have d10 := Below.cell_of HB3.out b10
  clear hb3
  go_wp2_with fail
  have hp3 := HP2.out.below HB3.out
  refine (fieldsPut_row w3 _ _ _ A2 c2 _ _ n 4 hL ?c1 rfl hp3 (by omega) (by omega) (by omega) (by have := HHL.out; omega)).mono ?_
  case c1 => first | rfl | omega
  rintro x w4 ⟨rfl, ⟨A4, c4, hp4⟩, hk4⟩
  have HP4 := Lib.hid hp4
  have HK4 := Lib.hid hk4
  have f10 : w4.cell? ⟨w.heap.size, 10, none⟩ = some (.slice A n c) := HK4.out.cell_of d10 (by show w.heap.size < _; omega) (by show w.heap.size ≠ _; omega)
  obtain ⟨q, hq⟩ : ∃ q, (hL ++ bitsN n 4).length = q := ⟨_, rfl⟩
  have f0 : w4.cell? ⟨e1.W.heap.size + 1, 0, none⟩ = some (.slice A4 q c4) := by rw [← hq]; exact HP4.out.cell
  have hbw4 : Below W0.heap.size W0 w4 := by
    have h1 := HK4.out.below (C := W0.heap.size) (by omega) (by omega)
    exact (below_trans (below_trans e1.below HB2.out) HB3.out).trans h1
  have hr4 : Rd w4 A (bys data) := (HR.out.below HB.out).below hbw4
  have HBW4 := Lib.hid hbw4
  have HR4 := Lib.hid hr4
  have HQL := Lib.hid hq
  have hcq : q + 8 * n + 15 = N := by
    have := HNC.out
    rw [HCE.out, List.length_append, bytesN_length, HN.out, HQL.out] at this
    exact this
  have hq100 : q + 8 * n ≤ 103 := by
    have := HCLB.out
    rw [HCE.out, List.length_append, bytesN_length, HN.out, HQL.out] at this
    exact this
  clear hp4 hk4 hp3 hbw4 hr4 hq a0 a1 a2 a3 a4 a5 a6 a7 a8 a9 a10 b0 b10 d10
  go_wp2_with fail
  obtain ⟨pf, hpf⟩ : ∃ pf, e1.W.heap.size + 1 = pf := ⟨_, rfl⟩
  rw [hpf] at f0
  rw [hpf]
  go_region_held3 (fun w' => w'.cell? ⟨pf, 0, none⟩ = some (.slice A4 q c4) ∧ w'.cell? ⟨w.heap.size, 10, none⟩ = some (.slice A n c))
    (first
      | go_keep
      | exact ⟨f0, f10⟩
      | (refine ⟨Below.cell_of hb7 (by assumption), Below.cell_of hb7 (by assumption)⟩)
      | (refine ⟨Below.cell_of hb6 (by assumption), Below.cell_of hb6 (by assumption)⟩)
      | (refine ⟨Below.cell_of hb5 (by assumption), Below.cell_of hb5 (by assumption)⟩)
      | (refine ⟨Below.cell_of hb5 ?_, Below.cell_of hb5 ?_⟩ <;> simp [*])
      | (refine ⟨Below.cell_of hb6 ?_, Below.cell_of hb6 ?_⟩ <;> simp [*])
      | (refine ⟨Below.cell_of hb7 ?_, Below.cell_of hb7 ?_⟩ <;> simp [*]))
    (first
      | (go_at_call 38; refine (Bytes_any _ A c n data HR4.out.drew HN.out (by omega) HBY.out).mono ?_; rintro x w5 ⟨⟨A5, c5, rfl, hrow5⟩, hb5⟩)
      | (go_at_call 55; refine (concat2 w5 A4 A5 c4 c5 q (8 * n) (q + 8 * n) (hL ++ bitsN n 4) (bytesN data) (HP4.out.drew.row.part.below hb5) hrow5.part HQL.out (by rw [bytesN_length, HN.out]) rfl (by omega)).mono ?_; rintro x w6 ⟨⟨A6, c6, rfl, hrow6⟩, hb6⟩; rw [← HCE.out] at hrow6)
      | (go_at_call 68; refine (Add_row of_1 (q + 8 * n) c6 N _ A6 co w6 hrow6 (by rw [HCE.out, List.length_append, bytesN_length, HN.out, HQL.out]) (by omega) HCB.out hcq).mono ?_; rintro x w7 ⟨⟨A7, c7, rfl, hrow7⟩, hb7⟩; rw [← HBE.out] at hrow7))
  all_goals
    go_wp2_with fail
    go_ret2
    have hbw : Below w.heap.size w w4 := below_trans HB.out HBW4.out
    have hb8 : Below w.heap.size w w7 := below_trans (below_alloc (below_trans hbw.drew hb5) _ |>.trans (hb6.mono (by have := (below_alloc (below_trans hbw.drew hb5) (.cells #[.slice A4 q c4, .slice A5 (8 * n) c5] 22)).size; exact this))) hb7
    exact ⟨⟨A7, c7, rfl, hrow7.mono (by have := (below_alloc (below_trans hbw.drew hb5) (.cells #[.slice A4 q c4, .slice A5 (8 * n) c5] 22)).size; have := hb6.size; omega)⟩, hb8⟩
end Go.Proofs.YtlmdkmflbhnlgaaGreat
namespace Go.Proofs.YtlmdkmflbhnlgaaGreat
open Go.RowKit
/-- A Classic frame on the wire. -/
def wireC (f : Fr) : List Nat := stuffN (bodyC f) ++ List.replicate 10 1
theorem coreC_bitsB (f : Fr) : ∀ x ∈ bodyC f, x ≤ 1 := by
  intro x hx
  simp only [bodyC, addN, List.mem_append] at hx
  rcases hx with hx | hx
  · exact coreC_bits f x hx
  · exact bitsN_bit _ _ x hx
set_option maxRecDepth 100000 in
set_option maxHeartbeats 2000000 in
theorem Wire_no (f : Fr) (A : Option Addr) (c : Nat) (w : World) (hl : f.data.length ≤ 9223372036854775807) (hno : ¬ (f.kind = 1 ∧ okF f = true)) :
    Calls Tryz.prog 21 #[frv f (.slice A f.data.length c)] w fun e w' => e = .returned (.tuple #[.agg #[.slice none 0 0, .int .i64 0, .int .i64 0], .int .i64 2]) ∧ Below w.heap.size w w' := by
  have HC := Lib.hid (fun W => Body_no f A c W hl hno)
  obtain ⟨kind, id, ext, rtr, brs, esi, sec, sdt, vcid, af, data⟩ := f
  dsimp only [frv] at *
  generalize data.length = n at *
  clear hno
  go_enter Tryz.func21, Tryz.ntmps21
  go_wp2_with fail
  refine calls_blk2 (fun W0 q1 q2 hb => ?_)
  have HB := Lib.hid hb
  have HQ2 := Lib.hid q2
  have hsz := heap_lt q2
  clear hb q1 q2
  refine (HC.out _).mono ?_
  rintro e w1 ⟨rfl, hb1⟩
  have hq := heap_below hb1 HQ2.out
  have c0 := cell_of_heap hq 0 _ rfl
  have c1 := cell_of_heap hq 1 _ rfl
  have c2 := cell_of_heap hq 2 _ rfl
  have z0 : w1.frozen? ⟨w.heap.size + 1, 0, none⟩ = false := by simp [World.frozen?, hq]
  have z1 : w1.frozen? ⟨w.heap.size + 1, 1, none⟩ = false := by simp [World.frozen?, hq]
  have z2 : w1.frozen? ⟨w.heap.size + 1, 2, none⟩ = false := by simp [World.frozen?, hq]
  have HB1 := Lib.hid hb1
  have HQ3 := Lib.hid hq
  clear hb1 hq
  go_wp2_with fail
  refine bodyPost_ret (v := .tuple #[.agg #[.slice none 0 0, .int .i64 0, .int .i64 0], .int .i64 2]) (by simp [results, Tryz.results21, go_sem, c0, c1, c2]) rfl ⟨rfl, ?_⟩
  have h := below_trans HB.out HB1.out
  exact ((h.setCell (p := ⟨w.heap.size + 1, 0, none⟩) (by show w.heap.size ≤ w.heap.size + 1; omega) _).setCell (p := ⟨w.heap.size + 1, 1, none⟩) (by show w.heap.size ≤ w.heap.size + 1; omega) _).setCell (p := ⟨w.heap.size + 1, 2, none⟩) (by show w.heap.size ≤ w.heap.size + 1; omega) _
set_option maxRecDepth 100000 in
set_option maxHeartbeats 4000000 in
theorem Wire_ok (f : Fr) (A : Option Addr) (c NR NH : Nat) (w : World) (hk : f.kind = 1) (hok : okF f = true) (h0 : 0 ≤ f.id) (hr : Rd w A (bys f.data)) (hby : isBytes f.data) (hNR : (stuffN (bodyC f)).length = NR) (hNH : (stuffN (headL f)).length = NH) :
    Calls Tryz.prog 21 #[frv f (.slice A f.data.length c)] w fun e w' => (∃ A' c', e = .returned (.tuple #[.agg #[.slice A' (NR + 10 : Nat) c', .int .i64 (NH : Nat), .int .i64 (NR + 1 : Nat)], .int .i64 0]) ∧ Row w' w.heap.size 5 A' c' (bys (wireC f))) ∧ Below w.heap.size w w' := by
  obtain ⟨i0, hi, hz0, hz1, hz2⟩ := info_parts info_u8
  have hl8 := okF_len1 f hk hok
  obtain ⟨NB, hNB⟩ : ∃ NB, (bodyC f).length = NB := ⟨_, rfl⟩
  have hNB2 : NB ≤ 118 := by rw [← hNB, bodyC_length]; split <;> omega
  have hNR2 : NR ≤ 150 := by have := stuffN_le (bodyC f); rw [hNR, hNB] at this; omega
  have hhl : (headL f).length ≤ 35 := by rw [headL_length]; split <;> omega
  have HBody := Lib.hid (fun W (hW : Rd W A (bys f.data)) => Body_ok f A c NB W hk hok h0 hW hby hNB)
  have HHead := Lib.hid (fun W => head_any f A f.data.length c W h0 (okF_lim f hok))
  have HbB := Lib.hid (coreC_bitsB f)
  have HhB := Lib.hid (headL_bits f)
  have HW : Hid (wireC f = stuffN (bodyC f) ++ List.replicate 10 1) := rfl
  obtain ⟨bo, hbo⟩ : ∃ bo, bodyC f = bo := ⟨_, rfl⟩
  obtain ⟨hL, hhL⟩ : ∃ hL, headL f = hL := ⟨_, rfl⟩
  obtain ⟨wi, hwi⟩ : ∃ wi, wireC f = wi := ⟨_, rfl⟩
  rw [hbo] at HBody HbB HW hNR hNB
  rw [hhL] at HHead HhB hNH hhl
  rw [hwi] at HW ⊢
  obtain ⟨hn0, hhn⟩ : ∃ hn0, hL.length = hn0 := ⟨_, rfl⟩
  rw [hhn] at hhl
  obtain ⟨kind, id, ext, rtr, brs, esi, sec, sdt, vcid, af, data⟩ := f
  dsimp only [frv] at *
  obtain ⟨n, hn⟩ : ∃ n, data.length = n := ⟨_, rfl⟩
  rw [hn] at HBody HHead ⊢
  have HNR := Lib.hid hNR
  have HNH := Lib.hid hNH
  have HNB := Lib.hid hNB
  have HHN := Lib.hid hhn
  have HR := Lib.hid hr
  clear hNR hNH hNB hhn hr hbo hhL hwi hn hok h0 hby hl8 hk
  go_enter Tryz.func21, Tryz.ntmps21
  go_wp2_with fail
  refine calls_blk2 (fun W0 q1 q2 hb => ?_)
  have HB := Lib.hid hb
  have HQ2 := Lib.hid q2
  have hsz := heap_lt q2
  obtain ⟨a0, a1, a2, a3, a4, a5, a6, a7, a8, a9, a10⟩ := ext11 q1
  clear hb q1 q2
  refine (extc_same (HBody.out _ (HR.out.below HB.out))).mono ?_
  rintro x _ ⟨e1, rfl, A1, c1, rfl, hrow1⟩
  have HROW1 := Lib.hid hrow1
  clear hrow1
  go_wp2_with fail
  refine (extc (StuffPut_any _ A1 c1 NB NR bo HROW1.out.rd HNB.out (by omega) HbB.out HNR.out)).mono ?_
  rintro x _ ⟨e2, rfl, A2, c2, rfl, hrow2⟩
  have HROW2 := Lib.hid (hrow2.mono (ext_ge e1))
  clear hrow2
  go_wp2_with fail
  refine (HHead.out _).mono ?_
  rintro x w3 ⟨rfl, ⟨A3, c3, hp3⟩, hb3⟩
  have f0 : w3.cell? ⟨e2.W.heap.size + 1, 0, none⟩ = some (.slice A3 hn0 c3) := by rw [← HHN.out]; exact hp3.cell
  have HP3 := Lib.hid hp3
  have HB3 := Lib.hid hb3
  have HROW23 := Lib.hid (HROW2.out.below hb3)
  have hbw3 : Below W0.heap.size W0 w3 := below_trans e2.below hb3
  have HBW3 := Lib.hid hbw3
  clear hp3 hb3 hbw3
  go_wp2_with fail
  refine (StuffPut_any _ A3 c3 hn0 NH hL HP3.out.rd HHN.out (by omega) HhB.out HNH.out).mono ?_
  rintro x w4 ⟨⟨A4, c4, rfl, hrow4⟩, hb4⟩
  have HROW24 := Lib.hid (HROW23.out.below hb4)
  have HB4 := Lib.hid hb4
  have hbw4 : Below W0.heap.size W0 w4 := below_trans HBW3.out hb4
  have HBW4 := Lib.hid hbw4
  clear hrow4 hb4 hbw4 f0
  go_wp2_with fail
  refine (repeat_any _ _ (heap_new_at rfl)).mono ?_
  rintro x w5 ⟨⟨A5, c5, rfl, hrow5⟩, hb5⟩
  have hbw5 : Below W0.heap.size W0 w5 := below_trans (below_alloc HBW4.out _) hb5
  have hq := heap_below hbw5 HQ2.out
  have HROW5 := Lib.hid hrow5
  have HROW25 := Lib.hid ((HROW24.out.alloc _).below hb5)
  have HBW5 := Lib.hid hbw5
  have HQ5 := Lib.hid hq
  have hs0 : w.heap.size + 1 < W0.heap.size := hsz
  clear hrow5 hb5 hbw5 hq a0 a1 a2 a3 a4 a5 a6 a7 a8 a9 a10
  go_wp2_with (at_builtin; refine wpList_appE (w0 := W0) HBW5.out rfl (.tmp 39) (.tmp 41) 22 rfl W0.heap.size 5 i0 _ 1 Tryz.underlying22 hi hz0 hz1 hz2 rfl A2 NR c2 (bys (stuffN bo)) rfl (by rw [bys_length]; exact HNR.out) HROW25.out A5 10 c5 (bys (List.replicate 10 1)) rfl rfl HROW5.out.rd (bys_one _) (fun _ e => HROW5.out.none_ e) (NR + 10) rfl (by unfold maxLen; omega) (by omega) (Nat.le_refl _) HBW5.out.size ?_; intro e6 A6 c6 HROW6; have r0 := ext_cell (cell_of_heap HQ2.out 0 _ rfl) e6; have r1 := ext_cell (cell_of_heap HQ2.out 1 _ rfl) e6; have r2 := ext_cell (cell_of_heap HQ2.out 2 _ rfl) e6; have z0 : e6.W.frozen? ⟨w.heap.size + 1, 0, none⟩ = false := (by simp [World.frozen?, ext_heap HQ2.out e6]); have z1 : e6.W.frozen? ⟨w.heap.size + 1, 1, none⟩ = false := (by simp [World.frozen?, ext_heap HQ2.out e6]); have z2 : e6.W.frozen? ⟨w.heap.size + 1, 2, none⟩ = false := (by simp [World.frozen?, ext_heap HQ2.out e6]))
  refine bodyPost_ret (v := .tuple #[.agg #[.slice A6 (NR + 10 : Nat) c6, .int .i64 (NH : Nat), .int .i64 (NR + 1 : Nat)], .int .i64 0]) (by simp [results, Tryz.results21, go_sem, r0, r1, r2]) rfl ⟨⟨A6, c6, rfl, ?_⟩, ?_⟩
  · have h6 := HROW6.out
    rw [← bys_append, ← HW.out] at h6
    have h7 : ∀ ad, A6 = some ad → ad.block ≠ w.heap.size + 1 := fun ad e => by have := h6.ge ad e; omega
    exact (((h6.setCell h7 0 _).setCell h7 1 _).setCell h7 2 _).mono (by omega)
  · have h := below_trans HB.out e6.below
    exact ((h.setCell (p := ⟨w.heap.size + 1, 0, none⟩) (by show w.heap.size ≤ w.heap.size + 1; omega) _).setCell (p := ⟨w.heap.size + 1, 1, none⟩) (by show w.heap.size ≤ w.heap.size + 1; omega) _).setCell (p := ⟨w.heap.size + 1, 2, none⟩) (by show w.heap.size ≤ w.heap.size + 1; omega) _
end Go.Proofs.YtlmdkmflbhnlgaaGreat
