/- What the laws of layer 9 share: the document's examples. No condition. -/
import Derived.Test.YtlmdkmflbhnlgaaGreatScanW
import Derived.Test.YtlmdkmflbhnlgaaGreatWire
import Derived.Test.YtlmdkmflbhnlgaaGreatPFirst
import Derived.Test.YtlmdkmflbhnlgaaGreatSame09
namespace Go.Proofs.YtlmdkmflbhnlgaaGreat
open Go.RowKit
/-- Scan of a row of bits. -/
theorem scan_bits (w : World) (A : Option Addr) (c n : Nat) (raw : List Nat) (xl : Bool) (S : MS) (hS : scanM xl raw = S) (hb : bitsOk raw = true) (hr : Rd w A (bys raw)) (hn : raw.length = n) (hn2 : n ≤ 29000) :
    Calls Tryz.prog 10 #[.slice A n c, .bool xl] w fun e w' => (∃ A c, e = .returned (.tuple #[.agg #[.int .i64 S.kind, .int .i64 S.err, .int .i64 S.sf.kind, .int .u32 S.sf.id, .bool S.sf.ext, .bool S.sf.rtr, .bool S.sf.brs, .bool S.sf.esi, .bool S.sf.sec, .int .u8 S.sf.sdt, .int .u8 S.sf.vcid, .int .u32 S.sf.af, .slice A S.sf.data.length c], .int .i64 0]) ∧ Row w' w.heap.size 5 A c (bys S.sf.data)) ∧ Below w.heap.size w w' := by
  subst hS
  refine (mScan w A c n raw xl hr hn hn2).mono ?_
  rintro e w' ⟨⟨-, A, c, rfl, hrow⟩ | ⟨h, -⟩, hbl⟩
  · exact ⟨⟨A, c, rfl, hrow⟩, hbl⟩
  · rw [hb] at h; cases h
def exS : Fr := { kind := 1, id := 3, ext := false, rtr := false, brs := false, esi := false, sec := false, sdt := 0, vcid := 0, af := 0, data := [9] }
theorem exS_len : (stuffN (bodyC exS)).length = 45 := by kernel_rfl
theorem exS_head : ∃ n, (stuffN (headL exS)).length = n := ⟨_, rfl⟩
theorem exS_wire : (wireC exS).length = 55 := by kernel_rfl
theorem exS_bits : bitsOk (wireC exS) = true := by kernel_rfl
theorem exS_bits2 : bitsOk ((wireC exS).take 46) = true := by kernel_rfl
set_option maxRecDepth 100000 in
set_option maxHeartbeats 4000000 in
theorem alive09 (w : World) : Calls Tryz.prog 8 #[] w fun e w' => e = .returned (.bool true) ∧ Below w.heap.size w w' := by
  obtain ⟨NH, hNH⟩ := exS_head
  have HW := Lib.hid (fun W A c (hW : Rd W A (bys exS.data)) => Wire_ok exS A c 45 NH W rfl (by kernel_rfl) (by decide) hW (by intro x hx; simp [exS] at hx; omega) exS_len hNH)
  obtain ⟨S1, hS1⟩ : ∃ S, scanM true [1] = S := ⟨_, rfl⟩
  have k1 : S1.kind = 3 ∧ S1.err = 5 := by rw [← hS1]; exact ⟨by kernel_rfl, by kernel_rfl⟩
  obtain ⟨S2, hS2⟩ : ∃ S, scanM false ((wireC exS).take 46) = S := ⟨_, rfl⟩
  have k2 : S2.kind = 1 := by rw [← hS2]; kernel_rfl
  obtain ⟨S3, hS3⟩ : ∃ S, scanM false (wireC exS) = S := ⟨_, rfl⟩
  have k3 : S3.kind = 2 ∧ S3.sf.id = 3 := by rw [← hS3]; exact ⟨by kernel_rfl, by kernel_rfl⟩
  have H1 := Lib.hid (fun W A c (hr : Rd W A (bys [1])) => scan_bits W A c 1 [1] true S1 hS1 (by decide) hr rfl (by omega))
  have H2 := Lib.hid (fun W A c (hr : Rd W A (bys (wireC exS))) => scan_bits W A c 46 ((wireC exS).take 46) false S2 hS2 exS_bits2 (rd_take hr 46) (by rw [List.length_take, exS_wire]; rfl) (by omega))
  have H3 := Lib.hid (fun W A c (hr : Rd W A (bys (wireC exS))) => scan_bits W A c 55 (wireC exS) false S3 hS3 exS_bits hr exS_wire (by omega))
  clear hNH hS1 hS2 hS3
  obtain ⟨a1, a2⟩ := k1
  obtain ⟨a3, a4⟩ := k3
  rw [a1, a2] at H1
  rw [k2] at H2
  rw [a3, a4] at H3
  clear a1 a2 a3 a4 k2
  generalize S1.sf = F1 at *
  generalize S2.sf = F2 at *
  generalize S2.err = e2 at *
  generalize S3.sf = F3 at *
  generalize S3.err = e3 at *
  go_enter Tryz.func8, Tryz.ntmps8
  go_wp2_with fail
  refine (H1.out _ _ 1 (Rd.blk (heap_new_at rfl))).mono ?_
  rintro e w1 ⟨⟨A1, c1, rfl, -⟩, hb1⟩
  have HB1 := Lib.hid (below_trans (below_alloc (Below.refl w.heap.size w) _) hb1)
  clear hb1
  go_wp2_with fail
  refine calls_blk2 fun W2 q1 q2 hb2 => ?_
  refine (HW.out W2 _ 1 (Rd.blk q2)).mono ?_
  rintro e w3 ⟨⟨A3, c3, rfl, hrow⟩, hb3⟩
  obtain ⟨ga, rfl | hz⟩ := hrow.form
  rotate_left
  · rw [bys_length, exS_wire] at hz; cases hz
  have hcap := hrow.cap
  rw [bys_length, exS_wire] at hcap
  have HRD := Lib.hid hrow.rd
  have HB3 := Lib.hid (below_trans (below_trans HB1.out hb2) hb3)
  have Q1 := Lib.hid (heap_below hb3 q1)
  have hs1 : w.heap.size ≤ w1.heap.size := HB1.out.size
  clear q1 q2 hb2 hb3 hrow HB1
  generalize w1.heap.size = p1 at *
  go_wp2_with fail
  refine calls_blk1 fun W4 q4 hb4 => ?_
  refine (H2.out W4 _ _ (HRD.out.below hb4)).mono ?_
  rintro e w5 ⟨⟨A5, c5, rfl, -⟩, hb5⟩
  have hb35 := below_trans hb4 hb5
  have HR5 := Lib.hid (HRD.out.below hb35)
  have HB5 := Lib.hid (below_trans HB3.out hb35)
  have Q1 := Lib.hid (heap_below hb35 Q1.out)
  have Q4 := Lib.hid (heap_below hb5 q4)
  clear q4 hb4 hb5 hb35 HRD HB3
  generalize w3.heap.size = p3 at *
  have d0 : w5.cell? ⟨p3, 0, none⟩ = some (.slice (some ⟨ga, 0, none⟩) 55 c3) := cell_of_heap Q4.out 0 _ rfl
  have hp3 : p3 < w5.heap.size := heap_lt Q4.out
  go_wp2_with fail
  refine calls_blk1 fun W6 q6 hb6 => ?_
  refine (H3.out W6 _ _ (HR5.out.below hb6)).mono ?_
  rintro e w7 ⟨⟨A7, c7, rfl, -⟩, hb7⟩
  have hb57 := below_trans hb6 hb7
  have HB7 := Lib.hid (below_trans HB5.out hb57)
  have Q1' := Lib.hid (heap_below hb57 Q1.out)
  have Q6 := Lib.hid (heap_below hb7 q6)
  clear q6 hb6 hb7 hb57 HR5 HB5 Q1 Q4 d0
  generalize w5.heap.size = p5 at *
  have x0 : w7.cell? ⟨p1, 0, none⟩ = some (.int .i64 3) := cell_of_heap Q1'.out 0 _ rfl
  have x1 : w7.cell? ⟨p1, 1, none⟩ = some (.int .i64 5) := cell_of_heap Q1'.out 1 _ rfl
  have y0 : w7.cell? ⟨p5, 0, none⟩ = some (.int .i64 1) := cell_of_heap Q6.out 0 _ rfl
  have hl1 : p1 < w7.heap.size := heap_lt Q1'.out
  have hl5 : p5 < w7.heap.size := heap_lt Q6.out
  have hbf := Lib.hid (below_alloc HB7.out (.cells #[.int .i64 2, .int .i64 e3, .int .i64 F3.kind, .int .u32 3, .bool F3.ext, .bool F3.rtr, .bool F3.brs, .bool F3.esi, .bool F3.sec, .int .u8 F3.sdt, .int .u8 F3.vcid, .int .u32 F3.af, .slice A7 F3.data.length c7] 30))
  go_wp2_with fail
  go_ret
  exact ⟨by first | rfl | simp, hbf.out⟩
end Go.Proofs.YtlmdkmflbhnlgaaGreat
