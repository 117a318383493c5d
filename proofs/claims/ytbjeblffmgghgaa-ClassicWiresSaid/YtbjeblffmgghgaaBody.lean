/- classic.Body: a Classic frame's bits ahead of all stuffing. No condition. -/
import Derived.Test.YtbjeblffmgghgaaAdd
import Derived.Test.YtbjeblffmgghgaaHead
import Derived.Test.YtbjeblffmgghgaaCheck2
namespace Go.Proofs.Ytbjeblffmgghgaa
open Go.RowKit
/-- A Classic frame's bits ahead of its sum. -/
def coreC (f : Fr) : List Nat := headL f ++ bitsN f.data.length 4 ++ bytesN f.data
def bodyC (f : Fr) : List Nat := addN 15 17817 0 (coreC f)
theorem codeF_1 (n : Nat) : codeF 1 n = if n ≤ 8 then some (n : Int) else none := by
  by_cases h : n ≤ 8
  · simp [codeF, loOf, hiOf, h]; omega
  · simp [codeF, loOf, hiOf, h]; omega
theorem okF_len1 (f : Fr) (hk : f.kind = 1) (h : okF f = true) : f.data.length ≤ 8 := by
  unfold okF at h
  simp only [Bool.and_eq_true] at h
  have h1 := h.1.1.1
  rw [hk, codeF_1] at h1
  split at h1
  · assumption
  · cases h1
theorem okF_lim (f : Fr) (h : okF f = true) : f.id < limF f := by
  unfold okF at h
  simp only [Bool.and_eq_true, decide_eq_true_eq] at h
  exact h.1.1.2
theorem coreC_bits (f : Fr) : ∀ x ∈ coreC f, x ≤ 1 := by
  intro x hx
  simp only [coreC, List.mem_append] at hx
  rcases hx with (hx | hx) | hx
  · exact headL_bits f x hx
  · exact bitsN_bit _ _ x hx
  · exact bytesN_bits _ x hx
theorem coreC_length (f : Fr) : (coreC f).length = (if f.ext then 39 else 19) + 8 * f.data.length := by
  unfold coreC
  rw [List.length_append, List.length_append, headL_length, bitsN_length, bytesN_length]
  split <;> omega
theorem bodyC_length (f : Fr) : (bodyC f).length = (if f.ext then 54 else 34) + 8 * f.data.length := by
  unfold bodyC addN
  rw [List.length_append, coreC_length, bitsN_length]
  split <;> omega
set_option maxRecDepth 100000 in
set_option maxHeartbeats 2000000 in
theorem Body_no (f : Fr) (A : Option Addr) (c : Nat) (w : World) (hl : f.data.length ≤ 9223372036854775807) (hno : ¬ (f.kind = 1 ∧ okF f = true)) :
    Calls Try.prog 37 #[frv f (.slice A f.data.length c)] w fun e w' => e = .returned (.tuple #[.slice none 0 0, .int .i64 2]) ∧ Below w.heap.size w w' := by
  have HC := Lib.hid (fun W => Check_any f A c W hl)
  by_cases hk : f.kind = 1
  · have hok : okF f = false := by cases h : okF f with | false => rfl | true => exact absurd ⟨hk, h⟩ hno
    rw [hok] at HC
    have he : errV false = .int .i64 2 := rfl
    rw [he] at HC
    obtain ⟨kind, id, ext, rtr, brs, esi, sec, sdt, vcid, af, data⟩ := f
    dsimp only [frv] at *
    generalize data.length = n at *
    subst hk
    clear hno hok he
    go_enter Try.func37, Try.ntmps37
    go_wp2_with fail
    refine (HC.out _).mono ?_
    rintro e w1 ⟨rfl, hb⟩
    have HB := Lib.hid hb
    clear hb
    go_wp2_with fail
    go_ret2
    exact ⟨rfl, (below_alloc (Below.refl _ _) _).trans (HB.out.mono (by simp))⟩
  · obtain ⟨kind, id, ext, rtr, brs, esi, sec, sdt, vcid, af, data⟩ := f
    dsimp only [frv] at *
    generalize data.length = n at *
    have hkb : (kind != 1) = true := by rw [bne_iff_ne]; exact hk
    clear hno hk HC
    go_enter Try.func37, Try.ntmps37
    go_wp2_with fail
    go_ret2
    exact ⟨rfl, below_alloc (Below.refl _ _) _⟩
set_option maxRecDepth 100000 in
set_option maxHeartbeats 4000000 in
theorem Body_ok (f : Fr) (A : Option Addr) (c N : Nat) (w : World) (hk : f.kind = 1) (hok : okF f = true) (h0 : 0 ≤ f.id) (hr : Rd w A (bys f.data)) (hby : isBytes f.data) (hN : (bodyC f).length = N) :
    Calls Try.prog 37 #[frv f (.slice A f.data.length c)] w fun e w' => (∃ A' c', e = .returned (.tuple #[.slice A' N c', .int .i64 0]) ∧ Row w' w.heap.size 5 A' c' (bys (bodyC f))) ∧ Below w.heap.size w w' := by
  have hl8 := okF_len1 f hk hok
  have hC := fun W => Check_any f A c W (by omega)
  rw [hok] at hC
  have he : errV true = .int .i64 0 := rfl
  rw [he] at hC
  have hH := fun W => head_any f A f.data.length c W h0 (okF_lim f hok)
  have hcode := fun W => Code_any 1 (f.data.length : Int) W (by omega) (by omega)
  rw [codeF_1, if_pos hl8, codeV_some] at hcode
  have hcl := coreC_length f
  have hcb := coreC_bits f
  have hce : coreC f = headL f ++ bitsN f.data.length 4 ++ bytesN f.data := rfl
  have hbe : bodyC f = addN 15 17817 0 (coreC f) := rfl
  have hhl : (headL f).length ≤ 35 := by rw [headL_length]; split <;> omega
  have hclb : (coreC f).length ≤ 103 := by rw [hcl]; split <;> omega
  have hNc : (coreC f).length + 15 = N := by rw [← hN, hbe, addN, List.length_append, bitsN_length]
  obtain ⟨hL, hhL⟩ : ∃ hL, headL f = hL := ⟨_, rfl⟩
  obtain ⟨co, hco⟩ : ∃ co, coreC f = co := ⟨_, rfl⟩
  obtain ⟨bo, hbo⟩ : ∃ bo, bodyC f = bo := ⟨_, rfl⟩
  rw [hhL] at hhl hce hH
  rw [hco] at hcb hce hbe hNc hclb
  rw [hbo] at hbe ⊢
  obtain ⟨kind, id, ext, rtr, brs, esi, sec, sdt, vcid, af, data⟩ := f
  dsimp only [frv] at *
  obtain ⟨n, hn⟩ : ∃ n, data.length = n := ⟨_, rfl⟩
  rw [hn] at hC hH hcode hce hl8 ⊢
  subst hk
  have HC := Lib.hid hC
  have HH := Lib.hid hH
  have HCODE := Lib.hid hcode
  have HR := Lib.hid hr
  have HBY := Lib.hid hby
  have HN := Lib.hid hn
  have HCB := Lib.hid hcb
  have HCE := Lib.hid hce
  have HBE := Lib.hid hbe
  have HNC := Lib.hid hNc
  have HHL := Lib.hid hhl
  have HCLB := Lib.hid hclb
  clear hC hH hcode hr hby hn hcb hce hbe hNc hhl hclb hcl hco hbo hhL hN hok he h0
  go_enter Try.func37, Try.ntmps37
  go_wp2_with fail
  refine calls_blk1 (fun W0 q1 hb => ?_)
  have HB := Lib.hid hb
  have HQ := Lib.hid q1
  obtain ⟨a0, a1, a2, a3, a4, a5, a6, a7, a8, a9, a10⟩ := ext11 q1
  have hsz0 : w.heap.size < W0.heap.size := heap_lt q1
  clear hb q1
  refine (extc_same (HC.out _)).mono ?_
  rintro x _ ⟨e1, rfl, rfl⟩
  go_wp2_with fail
  refine (HH.out _).mono ?_
  rintro x w2 ⟨rfl, ⟨A2, c2, hp2⟩, hb2⟩
  have HP2 := Lib.hid hp2
  have HB2 := Lib.hid hb2
  have e2 : ∀ i v, e1.W.cell? ⟨w.heap.size, i, none⟩ = some v → w2.cell? ⟨w.heap.size, i, none⟩ = some v := fun i v h => Below.cell_of HB2.out h
  have b0 := e2 0 _ (a0 e1)
  have b10 := e2 10 _ (a10 e1)
  have hszw : W0.heap.size ≤ e1.W.heap.size := e1.below.size
  clear hp2 hb2 e2
  go_wp2_with fail
  refine (HCODE.out _).mono ?_
  rintro x w3 ⟨rfl, hb3⟩
  have HB3 := Lib.hid hb3
  have d10 := Below.cell_of HB3.out b10
  clear hb3
  go_wp2_with fail
  have hp3 := HP2.out.below HB3.out
  refine (fieldsPut_row w3 _ _ _ A2 c2 _ _ n 4 hL ?c1 rfl hp3 (by omega) (by omega) (by omega) (by have := HHL.out; omega)).mono ?_
  case c1 => first | rfl | omega
  rintro x w4 ⟨rfl, ⟨A4, c4, hp4⟩, hk4⟩
  have HP4 := Lib.hid hp4
  have HK4 := Lib.hid hk4
  have f10 : w4.cell? ⟨w.heap.size, 10, none⟩ = some (.slice A n c) := HK4.out.cell_of d10 (by show w.heap.size < _; omega) (by show w.heap.size ≠ _; omega)
  obtain ⟨q, hq⟩ : ∃ q, (hL ++ bitsN n 4).length = q := ⟨_, rfl⟩
  have f0 : w4.cell? ⟨e1.W.heap.size + 1, 0, none⟩ = some (.slice A4 q c4) := by rw [← hq]; exact HP4.out.cell
  have hbw4 : Below W0.heap.size W0 w4 := by
    have h1 := HK4.out.below (C := W0.heap.size) (by omega) (by omega)
    exact (below_trans (below_trans e1.below HB2.out) HB3.out).trans h1
  have hr4 : Rd w4 A (bys data) := (HR.out.below HB.out).below hbw4
  have HBW4 := Lib.hid hbw4
  have HR4 := Lib.hid hr4
  have HQL := Lib.hid hq
  have hcq : q + 8 * n + 15 = N := by
    have := HNC.out
    rw [HCE.out, List.length_append, bytesN_length, HN.out, HQL.out] at this
    exact this
  have hq100 : q + 8 * n ≤ 103 := by
    have := HCLB.out
    rw [HCE.out, List.length_append, bytesN_length, HN.out, HQL.out] at this
    exact this
  clear hp4 hk4 hp3 hbw4 hr4 hq a0 a1 a2 a3 a4 a5 a6 a7 a8 a9 a10 b0 b10 d10
  go_wp2_with fail
  obtain ⟨pf, hpf⟩ : ∃ pf, e1.W.heap.size + 1 = pf := ⟨_, rfl⟩
  rw [hpf] at f0
  rw [hpf]
  go_region_held3 (fun w' => w'.cell? ⟨pf, 0, none⟩ = some (.slice A4 q c4) ∧ w'.cell? ⟨w.heap.size, 10, none⟩ = some (.slice A n c))
    (first
      | go_keep
      | exact ⟨f0, f10⟩
      | (refine ⟨Below.cell_of hb7 (by assumption), Below.cell_of hb7 (by assumption)⟩)
      | (refine ⟨Below.cell_of hb6 (by assumption), Below.cell_of hb6 (by assumption)⟩)
      | (refine ⟨Below.cell_of hb5 (by assumption), Below.cell_of hb5 (by assumption)⟩)
      | (refine ⟨Below.cell_of hb5 ?_, Below.cell_of hb5 ?_⟩ <;> simp [*])
      | (refine ⟨Below.cell_of hb6 ?_, Below.cell_of hb6 ?_⟩ <;> simp [*])
      | (refine ⟨Below.cell_of hb7 ?_, Below.cell_of hb7 ?_⟩ <;> simp [*]))
    (first
      | (go_at_call 75; refine (Bytes_any _ A c n data HR4.out.drew HN.out (by omega) HBY.out).mono ?_; rintro x w5 ⟨⟨A5, c5, rfl, hrow5⟩, hb5⟩)
      | (go_at_call 74; refine (concat2 w5 A4 A5 c4 c5 q (8 * n) (q + 8 * n) (hL ++ bitsN n 4) (bytesN data) (HP4.out.drew.row.part.below hb5) hrow5.part HQL.out (by rw [bytesN_length, HN.out]) rfl (by omega)).mono ?_; rintro x w6 ⟨⟨A6, c6, rfl, hrow6⟩, hb6⟩; rw [← HCE.out] at hrow6)
      | (go_at_call 73; refine (Add_row of_1 (q + 8 * n) c6 N _ A6 co w6 hrow6 (by rw [HCE.out, List.length_append, bytesN_length, HN.out, HQL.out]) (by omega) HCB.out hcq).mono ?_; rintro x w7 ⟨⟨A7, c7, rfl, hrow7⟩, hb7⟩; rw [← HBE.out] at hrow7))
  all_goals
    go_wp2_with fail
    go_ret2
    have hbw : Below w.heap.size w w4 := below_trans HB.out HBW4.out
    have hb8 : Below w.heap.size w w7 := below_trans (below_alloc (below_trans hbw.drew hb5) _ |>.trans (hb6.mono (by have := (below_alloc (below_trans hbw.drew hb5) (.cells #[.slice A4 q c4, .slice A5 (8 * n) c5] 23)).size; exact this))) hb7
    exact ⟨⟨A7, c7, rfl, hrow7.mono (by have := (below_alloc (below_trans hbw.drew hb5) (.cells #[.slice A4 q c4, .slice A5 (8 * n) c5] 23)).size; have := hb6.size; omega)⟩, hb8⟩
end Go.Proofs.Ytbjeblffmgghgaa
