/- The law ScanStays answers true. No condition. -/
import Derived.Test.YtlmdkmflbhnlgaaGreatAlive09
import Derived.Test.YtlmdkmflbhnlgaaGreatAppB
namespace Go.Proofs.YtlmdkmflbhnlgaaGreat
open Go.RowKit
theorem bitsOk_app {a b : List Nat} (ha : bitsOk a = true) (hb : bitsOk b = true) (h : a.length + b.length ≤ 65536) : bitsOk (a ++ b) = true := by
  unfold bitsOk
  rw [Bool.and_eq_true, decide_eq_true_eq, decide_eq_true_eq, List.length_append]
  exact ⟨h, fun x hx => (List.mem_append.1 hx).elim (bitsOk_mem ha x) (bitsOk_mem hb x)⟩
theorem bitsOk_take {a : List Nat} (ha : bitsOk a = true) (k : Nat) : bitsOk (a.take k) = true := by
  have h1 := bitsOk_mem ha
  unfold bitsOk at ha ⊢
  rw [Bool.and_eq_true, decide_eq_true_eq, decide_eq_true_eq] at ha ⊢
  exact ⟨by rw [List.length_take]; omega, fun x hx => h1 x (List.mem_of_mem_take hx)⟩
/-- Scan of a row that is none of bits. -/
theorem scan_arg (w : World) (A : Option Addr) (c n : Nat) (raw : List Nat) (xl : Bool) (hb : bitsOk raw = false) (hr : Rd w A (bys raw)) (hn : raw.length = n) (hn2 : n ≤ 29000) :
    Calls Tryz.prog 10 #[.slice A n c, .bool xl] w fun e w' => e = .returned (.tuple #[.agg #[.int .i64 0, .int .i64 0, .int .i64 0, .int .u32 0, .bool false, .bool false, .bool false, .bool false, .bool false, .int .u8 0, .int .u8 0, .int .u32 0, .slice none 0 0], .int .i64 2]) ∧ Below w.heap.size w w' := by
  refine (mScan w A c n raw xl hr hn hn2).mono ?_
  rintro e w' ⟨⟨h, -⟩ | ⟨-, rfl⟩, hbl⟩
  · rw [hb] at h; cases h
  · exact ⟨rfl, hbl⟩
set_option maxRecDepth 100000 in
set_option maxHeartbeats 8000000 in
theorem scanStays_walk (w : World) (A0 A1 : Option Addr) (n0 c0 n1 c1 : Nat) (l0 l1 : List Nat) (xl : Bool) (hr0 : Rd w A0 (bys l0)) (hn0 : l0.length = n0) (hz0 : A0 = none → c0 = 0) (hm0 : n0 ≤ 9223372036854775807) (hnc0 : n0 ≤ c0) (hr1 : Rd w A1 (bys l1)) (hn1 : l1.length = n1) (hz1 : A1 = none → c1 = 0) (hm1 : n1 ≤ 9223372036854775807) :
    Calls Tryz.prog 3 #[.slice A0 n0 c0, .slice A1 n1 c1, .bool xl] w fun e w' => e = .returned (.bool true) ∧ Below w.heap.size w w' := by
  obtain ⟨i0, hi, hi0, hi1, hi2⟩ := info_parts info_u8
  have HAL := Lib.hid (fun W => alive09 W)
  by_cases h4 : 400 < n0
  · have g4 : decide ((400 : Int) < (n0 : Int)) = true := by simp; omega
    clear hr0 hr1 hz0 hz1
    go_enter Tryz.func3, Tryz.ntmps3
    go_wp2_with fail
    refine (HAL.out _).mono ?_
    rintro e w1 ⟨rfl, hb1⟩
    have HB1 := Lib.hid hb1
    clear hb1
    go_wp2_with fail
    go_ret
    exact ⟨rfl, HB1.out⟩
  have g4 : decide ((400 : Int) < (n0 : Int)) = false := by simp; omega
  by_cases h1 : 100 < n1
  · have g1 : decide ((100 : Int) < (n1 : Int)) = true := by simp; omega
    clear hr0 hr1 hz0 hz1
    go_enter Tryz.func3, Tryz.ntmps3
    go_wp2_with fail
    refine (HAL.out _).mono ?_
    rintro e w1 ⟨rfl, hb1⟩
    have HB1 := Lib.hid hb1
    clear hb1
    go_wp2_with fail
    go_ret
    exact ⟨rfl, HB1.out⟩
  have g1 : decide ((100 : Int) < (n1 : Int)) = false := by simp; omega
  have HR0 := Lib.hid hr0
  have HR1 := Lib.hid hr1
  have HN0 := Lib.hid hn0
  have HN1 := Lib.hid hn1
  have HCK := Lib.hid (fun W (hW : Rd W A1 (bys l1)) => BitsCheck_any A1 n1 c1 l1 W hW hn1 (by omega))
  obtain ⟨ok1, hok1⟩ : ∃ ok, bitsOk l1 = ok := ⟨_, rfl⟩
  rw [hok1] at HCK
  cases ok1
  · simp only [Bool.false_eq_true, if_false] at HCK
    clear hr0 hr1 hz0 hz1 hok1 hn0 hn1
    go_enter Tryz.func3, Tryz.ntmps3
    go_wp2_with fail
    refine (HAL.out _).mono ?_
    rintro e w1 ⟨rfl, hb1⟩
    have HB1 := Lib.hid hb1
    clear hb1
    go_wp2_with fail
    refine (HCK.out _ (HR1.out.below HB1.out)).mono ?_
    rintro e _ ⟨rfl, rfl⟩
    go_wp2_with fail
    go_ret
    exact ⟨rfl, HB1.out⟩
  simp only [if_true] at HCK
  obtain ⟨ok0, hok0⟩ : ∃ ok, bitsOk l0 = ok := ⟨_, rfl⟩
  cases ok0
  · have HSC := Lib.hid (fun W (hW : Rd W A0 (bys l0)) => scan_arg W A0 c0 n0 l0 xl hok0 hW hn0 (by omega))
    clear hr0 hr1 hz0 hz1 hok1 hn0 hn1 hok0
    go_enter Tryz.func3, Tryz.ntmps3
    go_wp2_with fail
    refine (HAL.out _).mono ?_
    rintro e w1 ⟨rfl, hb1⟩
    have HB1 := Lib.hid hb1
    clear hb1
    go_wp2_with fail
    refine (HCK.out _ (HR1.out.below HB1.out)).mono ?_
    rintro e _ ⟨rfl, rfl⟩
    go_wp2_with fail
    refine (HSC.out _ (HR0.out.below HB1.out)).mono ?_
    rintro e w2 ⟨rfl, hb2⟩
    have HB2 := Lib.hid (below_alloc (below_trans HB1.out hb2) (.cells #[.int .i64 0, .int .i64 0, .int .i64 0, .int .u32 0, .bool false, .bool false, .bool false, .bool false, .bool false, .int .u8 0, .int .u8 0, .int .u32 0, .slice none 0 0] 30))
    clear hb2
    go_wp2_with fail
    go_ret
    exact ⟨by first | rfl | simp, HB2.out⟩
  obtain ⟨S, hS⟩ : ∃ S, scanM xl l0 = S := ⟨_, rfl⟩
  obtain ⟨S', hS'⟩ : ∃ S, scanM xl (l0 ++ l1) = S := ⟨_, rfl⟩
  have HSC := Lib.hid (fun W (hW : Rd W A0 (bys l0)) => scan_bits W A0 c0 n0 l0 xl S hS hok0 hW hn0 (by omega))
  have HSC2 := Lib.hid (fun W A c (hW : Rd W A (bys (l0 ++ l1))) => scan_bits W A c (n0 + n1) (l0 ++ l1) xl S' hS' (bitsOk_app hok0 hok1 (by omega)) hW (by rw [List.length_append, hn0, hn1]) (by omega))
  have hstay : 2 ≤ S.kind → S'.kind = S.kind ∧ S'.err = S.err ∧ S'.sf = S.sf := by rw [← hS, ← hS']; exact scanM_stays xl l0 l1
  have hq : S.kind < 2 → S.err = 0 ∧ S.sf = zFr := by rw [← hS]; exact scanM_q xl l0
  have hsl : S.sf.data.length ≤ 20000 := by rw [← hS]; exact (scanM_ok xl l0 (bitsOk_mem hok0)).sfd
  have HLESS : Hid (S.kind < 2 → ∀ k W A, k ≤ n0 → Rd W A (bys l0) → Calls Tryz.prog 10 #[.slice A k c0, .bool xl] W fun e w' => (∃ (S : MS) (A : Option Addr) (c : Nat), S.kind < 2 ∧ e = .returned (.tuple #[.agg #[.int .i64 S.kind, .int .i64 S.err, .int .i64 S.sf.kind, .int .u32 S.sf.id, .bool S.sf.ext, .bool S.sf.rtr, .bool S.sf.brs, .bool S.sf.esi, .bool S.sf.sec, .int .u8 S.sf.sdt, .int .u8 S.sf.vcid, .int .u32 S.sf.af, .slice A S.sf.data.length c], .int .i64 0])) ∧ Below W.heap.size W w') := by
    show S.kind < 2 → _
    intro hk k W A hkn hW
    refine (scan_bits W A c0 k (l0.take k) xl _ rfl (bitsOk_take hok0 k) (rd_take hW k) (by rw [List.length_take]; omega) (by omega)).mono ?_
    rintro e w' ⟨⟨A, c, rfl, -⟩, hb⟩
    exact ⟨⟨scanM xl (l0.take k), A, c, scanM_less xl l0 k (by rw [hS]; exact hk), rfl⟩, hb⟩
  obtain ⟨tk, htk⟩ : ∃ tk, S.kind = tk := ⟨_, rfl⟩
  obtain ⟨te, hte⟩ : ∃ te, S.err = te := ⟨_, rfl⟩
  obtain ⟨F, htf⟩ : ∃ F, S.sf = F := ⟨_, rfl⟩
  rw [htk, hte, htf] at HSC hstay
  rw [htk, hte, htf] at hq
  rw [htk] at HLESS
  rw [htf] at hsl
  have HZ0 : Hid (bys l0 = [] → A0 = none → c0 = 0) := fun _ h => hz0 h
  have HZ1 : Hid (bys l1 = [] → A1 = none → c1 = 0) := fun _ h => hz1 h
  clear hr0 hr1 hz0 hz1 hok1 hn0 hn1 hok0 hS hS' htk hte htf
  by_cases hk : 2 ≤ tk
  · obtain ⟨j1, j2, j3⟩ := hstay hk
    rw [j1, j2, j3] at HSC2
    have g2 : decide ((2 : Int) ≤ (tk : Int)) = true := by simp; omega
    clear j1 j2 j3 hq hstay HLESS
    go_enter Tryz.func3, Tryz.ntmps3
    go_wp2_with fail
    refine (HAL.out _).mono ?_
    rintro e w1 ⟨rfl, hb1⟩
    have HB1 := Lib.hid hb1
    clear hb1
    go_wp2_with fail
    refine (HCK.out _ (HR1.out.below HB1.out)).mono ?_
    rintro e _ ⟨rfl, rfl⟩
    go_wp2_with fail
    refine (HSC.out _ (HR0.out.below HB1.out)).mono ?_
    rintro e w2 ⟨⟨A2, c2, rfl, hrow2⟩, hb2⟩
    have HB2 := Lib.hid (below_trans HB1.out hb2)
    have HRD2 := Lib.hid hrow2.rd
    clear hb2 hrow2 HB1
    go_upto_region 8 with (fail)
    obtain ⟨W3, hW3, q3, hb3⟩ : ∃ W3, w2.alloc (.cells #[.int .i64 tk, .int .i64 te, .int .i64 F.kind, .int .u32 F.id, .bool F.ext, .bool F.rtr, .bool F.brs, .bool F.esi, .bool F.sec, .int .u8 F.sdt, .int .u8 F.vcid, .int .u32 F.af, .slice A2 F.data.length c2] 30) = W3 ∧ W3.heap[w2.heap.size]? = some (.cells #[.int .i64 tk, .int .i64 te, .int .i64 F.kind, .int .u32 F.id, .bool F.ext, .bool F.rtr, .bool F.brs, .bool F.esi, .bool F.sec, .int .u8 F.sdt, .int .u8 F.vcid, .int .u32 F.af, .slice A2 F.data.length c2] 30 (0, 0)) ∧ Below w2.heap.size w2 W3 := ⟨_, rfl, heap_new_at rfl, below_alloc (Below.refl _ _) _⟩
    rw [hW3]
    have HB3 := Lib.hid (below_trans HB2.out hb3)
    have HRD3 := Lib.hid (HRD2.out.below hb3)
    have Q3 := Lib.hid q3
    have hp23 : w2.heap.size < W3.heap.size := heap_lt q3
    have hw2 : w.heap.size ≤ w2.heap.size := HB2.out.size
    clear hW3 q3 hb3 HRD2 HB2
    generalize w2.heap.size = p7 at *
    have HR03 := Lib.hid (HR0.out.below HB3.out)
    have H0 : Hid (Row (W3.alloc (.cells #[] 5)) W3.heap.size 5 (some ⟨W3.heap.size, 0, none⟩) 0 (bys [])) := own_lit (cs := []) (Nat.le_refl _) rfl (by decide)
    have HB34 := Lib.hid (below_alloc (Below.refl W3.heap.size W3) (.cells #[] 5))
    go_wp2_with (first
      | (at_builtin; refine wpList_appB rfl (.tmp 40) (.tmp 41) 22 rfl W3.heap.size 5 i0 (.int .u8 0) 1 Tryz.underlying22 hi hi0 hi1 hi2 rfl (some ⟨W3.heap.size, 0, none⟩) 0 0 (bys []) (by kernel_rfl) rfl H0.out A0 n0 c0 (bys l0) (by kernel_rfl) (by rw [bys_length]; exact HN0.out) (HR03.out.alloc _) (bys_one _) HZ0.out n0 (by omega) (by unfold maxLen; omega) (by omega) (by simp) ?_; intro W5 A5 c5 HROW5 HB5; have HB35 := Lib.hid (Below.trans HB34.out HB5.out); have HR15 := Lib.hid (HR1.out.below (below_trans HB3.out HB35.out)))
      | (at_builtin; refine wpList_appB rfl (.tmp 42) (.tmp 43) 22 rfl W3.heap.size 5 i0 (.int .u8 0) 1 Tryz.underlying22 hi hi0 hi1 hi2 rfl A5 n0 c5 (bys [] ++ bys l0) (by kernel_rfl) (by rw [List.length_append, bys_length, bys_length, HN0.out]; rw [List.length_nil]; omega) HROW5.out A1 n1 c1 (bys l1) (by kernel_rfl) (by rw [bys_length]; exact HN1.out) HR15.out (bys_one _) HZ1.out (n0 + n1) (by omega) (by unfold maxLen; omega) (by omega) HB35.out.size ?_; intro W6 A6 c6 HROW6 HB6))
    have hrd6 : Rd W6 A6 (bys (l0 ++ l1)) := by have k := HROW6.out.rd; rw [bys_append]; simpa [bys] using k
    have HB36 := Lib.hid (Below.trans HB35.out HB6.out)
    refine (HSC2.out _ _ _ hrd6).mono ?_
    rintro e w7 ⟨⟨A7, c7, rfl, hrow7⟩, hb7⟩
    have HB37 : Hid (Below W3.heap.size W3 w7) := below_trans HB36.out hb7
    have HRD7 := Lib.hid hrow7.rd
    have hb37 := HB37.out
    clear hrd6 hb7 hrow7 HROW5 HROW6 HB35 HB36 HR15 HB34 H0 HB5 HB6 HR03
    go_upto_region 9 with (fail)
    obtain ⟨W8, hW8, q8, hb8⟩ : ∃ W8, w7.alloc (.cells #[.int .i64 tk, .int .i64 te, .int .i64 F.kind, .int .u32 F.id, .bool F.ext, .bool F.rtr, .bool F.brs, .bool F.esi, .bool F.sec, .int .u8 F.sdt, .int .u8 F.vcid, .int .u32 F.af, .slice A7 F.data.length c7] 30) = W8 ∧ W8.heap[w7.heap.size]? = some (.cells #[.int .i64 tk, .int .i64 te, .int .i64 F.kind, .int .u32 F.id, .bool F.ext, .bool F.rtr, .bool F.brs, .bool F.esi, .bool F.sec, .int .u8 F.sdt, .int .u8 F.vcid, .int .u32 F.af, .slice A7 F.data.length c7] 30 (0, 0)) ∧ Below w7.heap.size w7 W8 := ⟨_, rfl, heap_new_at rfl, below_alloc (Below.refl _ _) _⟩
    rw [hW8]
    have hb38 := below_trans hb37 hb8
    have HB8 := Lib.hid (below_trans HB3.out hb38)
    have HRD3' := Lib.hid (HRD3.out.below hb38)
    have HRD7' := Lib.hid (HRD7.out.below hb8)
    obtain ⟨a0, a1, a2, a3, a4, a5, a6, a7, a8, a9, a10, a11, a12⟩ := cells13 (heap_below hb38 Q3.out)
    obtain ⟨z0, z1, z2, z3, z4, z5, z6, z7, z8, z9, z10, z11, z12⟩ := cells13 q8
    have HSAME := Lib.hid (Same09_any tk te F A2 A7 c2 c7 W8 HRD3'.out HRD7'.out (by omega))
    clear hW8 q8 hb8 hb38 hb37 HRD3 HRD7
    go_wp2_with fail
    refine HSAME.out.mono ?_
    rintro e w9 ⟨rfl, hb9⟩
    have HB9 := Lib.hid (below_trans HB8.out hb9)
    clear hb9
    go_wp2_with fail
    go_ret
    exact ⟨by first | rfl | simp, HB9.out⟩
  · obtain ⟨j2, j3⟩ := hq (by omega)
    have gte : ((te : Int) == 0) = true := by rw [j2]; rfl
    have gfk : (F.kind == 0) = true := by rw [j3]; rfl
    clear j2 j3
    have g2 : decide ((2 : Int) ≤ (tk : Int)) = false := by simp; omega
    have HLS := Lib.hid (HLESS.out (by omega))
    clear hq hstay HLESS
    go_enter Tryz.func3, Tryz.ntmps3
    go_wp2_with fail
    refine (HAL.out _).mono ?_
    rintro e w1 ⟨rfl, hb1⟩
    have HB1 := Lib.hid hb1
    clear hb1
    go_wp2_with fail
    refine (HCK.out _ (HR1.out.below HB1.out)).mono ?_
    rintro e _ ⟨rfl, rfl⟩
    go_wp2_with fail
    refine (HSC.out _ (HR0.out.below HB1.out)).mono ?_
    rintro e w2 ⟨⟨A2, c2, rfl, hrow2⟩, hb2⟩
    have HB2 := Lib.hid (below_trans HB1.out hb2)
    have HRD2 := Lib.hid hrow2.rd
    clear hb2 hrow2 HB1
    go_upto_region 8 with (fail)
    obtain ⟨W3, hW3, q3, hb3⟩ : ∃ W3, w2.alloc (.cells #[.int .i64 tk, .int .i64 te, .int .i64 F.kind, .int .u32 F.id, .bool F.ext, .bool F.rtr, .bool F.brs, .bool F.esi, .bool F.sec, .int .u8 F.sdt, .int .u8 F.vcid, .int .u32 F.af, .slice A2 F.data.length c2] 30) = W3 ∧ W3.heap[w2.heap.size]? = some (.cells #[.int .i64 tk, .int .i64 te, .int .i64 F.kind, .int .u32 F.id, .bool F.ext, .bool F.rtr, .bool F.brs, .bool F.esi, .bool F.sec, .int .u8 F.sdt, .int .u8 F.vcid, .int .u32 F.af, .slice A2 F.data.length c2] 30 (0, 0)) ∧ Below w2.heap.size w2 W3 := ⟨_, rfl, heap_new_at rfl, below_alloc (Below.refl _ _) _⟩
    rw [hW3]
    have HB3 := Lib.hid (below_trans HB2.out hb3)
    have HRD3 := Lib.hid (HRD2.out.below hb3)
    have Q3 := Lib.hid q3
    have hp23 : w2.heap.size < W3.heap.size := heap_lt q3
    have hw2 : w.heap.size ≤ w2.heap.size := HB2.out.size
    clear hW3 q3 hb3 HRD2 HB2
    generalize w2.heap.size = p7 at *
    have HR03 := Lib.hid (HR0.out.below HB3.out)
    have H0 : Hid (Row (W3.alloc (.cells #[] 5)) W3.heap.size 5 (some ⟨W3.heap.size, 0, none⟩) 0 (bys [])) := own_lit (cs := []) (Nat.le_refl _) rfl (by decide)
    have HB34 := Lib.hid (below_alloc (Below.refl W3.heap.size W3) (.cells #[] 5))
    go_wp2_with (first
      | (at_builtin; refine wpList_appB rfl (.tmp 40) (.tmp 41) 22 rfl W3.heap.size 5 i0 (.int .u8 0) 1 Tryz.underlying22 hi hi0 hi1 hi2 rfl (some ⟨W3.heap.size, 0, none⟩) 0 0 (bys []) (by kernel_rfl) rfl H0.out A0 n0 c0 (bys l0) (by kernel_rfl) (by rw [bys_length]; exact HN0.out) (HR03.out.alloc _) (bys_one _) HZ0.out n0 (by omega) (by unfold maxLen; omega) (by omega) (by simp) ?_; intro W5 A5 c5 HROW5 HB5; have HB35 := Lib.hid (Below.trans HB34.out HB5.out); have HR15 := Lib.hid (HR1.out.below (below_trans HB3.out HB35.out)))
      | (at_builtin; refine wpList_appB rfl (.tmp 42) (.tmp 43) 22 rfl W3.heap.size 5 i0 (.int .u8 0) 1 Tryz.underlying22 hi hi0 hi1 hi2 rfl A5 n0 c5 (bys [] ++ bys l0) (by kernel_rfl) (by rw [List.length_append, bys_length, bys_length, HN0.out]; rw [List.length_nil]; omega) HROW5.out A1 n1 c1 (bys l1) (by kernel_rfl) (by rw [bys_length]; exact HN1.out) HR15.out (bys_one _) HZ1.out (n0 + n1) (by omega) (by unfold maxLen; omega) (by omega) HB35.out.size ?_; intro W6 A6 c6 HROW6 HB6))
    have hrd6 : Rd W6 A6 (bys (l0 ++ l1)) := by have k := HROW6.out.rd; rw [bys_append]; simpa [bys] using k
    have HB36 := Lib.hid (Below.trans HB35.out HB6.out)
    refine (HSC2.out _ _ _ hrd6).mono ?_
    rintro e w7 ⟨⟨A7, c7, rfl, hrow7⟩, hb7⟩
    have HB37 : Hid (Below W3.heap.size W3 w7) := below_trans HB36.out hb7
    have HRD7 := Lib.hid hrow7.rd
    have hb37 := HB37.out
    clear hrd6 hb7 hrow7 HROW5 HROW6 HB35 HB36 HR15 HB34 H0 HB5 HB6 HR03
    go_upto_region 9 with (fail)
    obtain ⟨W8, hW8, hb8⟩ : ∃ W8, w7.alloc (.cells #[.int .i64 S'.kind, .int .i64 S'.err, .int .i64 S'.sf.kind, .int .u32 S'.sf.id, .bool S'.sf.ext, .bool S'.sf.rtr, .bool S'.sf.brs, .bool S'.sf.esi, .bool S'.sf.sec, .int .u8 S'.sf.sdt, .int .u8 S'.sf.vcid, .int .u32 S'.sf.af, .slice A7 S'.sf.data.length c7] 30) = W8 ∧ Below w7.heap.size w7 W8 := ⟨_, rfl, below_alloc (Below.refl _ _) _⟩
    rw [hW8]
    have hb38 := below_trans hb37 hb8
    have HB8 := Lib.hid (below_trans HB3.out hb38)
    have Q8 := Lib.hid (heap_below hb38 Q3.out)
    have a0 : W8.cell? ⟨p7, 0, none⟩ = some (.int .i64 tk) := cell_of_heap Q8.out 0 _ rfl
    have hp8 : p7 < W8.heap.size := heap_lt Q8.out
    clear hW8 hb8 hb38 hb37 HRD3 HRD7
    generalize hSK : S'.kind = sk' at *
    generalize hSE : S'.err = se' at *
    generalize hSF : S'.sf = sf' at *
    go_wp2_with fail
    go_loopw [61] (fun iv wr => ∃ k : Nat, k ≤ n0 ∧ iv = .int .i64 k ∧ Hid (Below W8.heap.size W8 wr)) (fun iv _ => n0 - (intOf iv).toNat)
    case atStart => exact ⟨0, by omega, rfl, Below.refl _ _⟩
    case round =>
      obtain ⟨k, hk, rfl, HW⟩ := hrel
      by_cases hkn : k < n0
      · have hkl : k < l0.length := by rw [HN0.out]; exact hkn
        obtain ⟨ad, rfl, -⟩ := HR0.out.at_ k hkl
        have HSK := Lib.hid (HLS.out k wr (some ad) (by omega) (HR0.out.below (below_trans HB8.out HW.out)))
        have hc0 : ¬ c0 < k := by omega
        clear hkl
        go_wp2_with fail
        refine HSK.out.mono ?_
        rintro e w9 ⟨⟨S9, A9, c9, hk9, rfl⟩, hb9⟩
        have g9 : decide ((2 : Int) ≤ (S9.kind : Int)) = false := by simp; omega
        have HW9 := Lib.hid (below_alloc (below_trans HW.out hb9) (.cells #[.int .i64 S9.kind, .int .i64 S9.err, .int .i64 S9.sf.kind, .int .u32 S9.sf.id, .bool S9.sf.ext, .bool S9.sf.rtr, .bool S9.sf.brs, .bool S9.sf.esi, .bool S9.sf.sec, .int .u8 S9.sf.sdt, .int .u8 S9.sf.vcid, .int .u32 S9.sf.af, .slice A9 S9.sf.data.length c9] 30))
        clear hb9
        go_wp2_with fail
        go_roundw
        case rel => exact ⟨k + 1, by omega, by go_num, HW9⟩
        case measure => simp [intOf]; omega
      · obtain rfl : n0 = k := by omega
        have HWF := Lib.hid (below_trans HB8.out HW.out)
        have Q9 := heap_below HW.out Q8.out
        have b1 : wr.cell? ⟨p7, 1, none⟩ = some (.int .i64 te) := cell_of_heap Q9 1 _ rfl
        have b2 : wr.cell? ⟨p7, 2, none⟩ = some (.int .i64 F.kind) := cell_of_heap Q9 2 _ rfl
        clear Q9
        go_wp2_with fail
        go_ret
        exact ⟨by first | rfl | simp, HWF.out⟩
end Go.Proofs.YtlmdkmflbhnlgaaGreat
