/- xl's seal: a sum of what is ahead, and of what has grown. The kinds of sums. No condition. -/
import Derived.Test.YtaknddanggdplaaXlHead
import Derived.Test.YtaknddanggdplaaAdd
namespace Go.Proofs.Ytaknddanggdplaa
open Go.RowKit
set_option maxRecDepth 100000 in
theorem of_4 : OfK 4 13 6631 1 := by
  refine ⟨fun W => ?_, by decide, by decide, by decide, by decide⟩
  go_enter Try.func104, Try.ntmps104
  go_wp2
  exact bodyPost_ret (v := .agg #[.int .i64 13, .int .u64 6631, .int .u64 1]) (by simp [results, Try.results104, go_sem]) rfl ⟨rfl, below_alloc (below_alloc (Below.refl _ _) _) _⟩
set_option maxRecDepth 100000 in
theorem of_5 : OfK 5 32 4104977171 1 := by
  refine ⟨fun W => ?_, by decide, by decide, by decide, by decide⟩
  go_enter Try.func104, Try.ntmps104
  go_wp2
  exact bodyPost_ret (v := .agg #[.int .i64 32, .int .u64 4104977171, .int .u64 1]) (by simp [results, Try.results104, go_sem]) rfl ⟨rfl, below_alloc (below_alloc (Below.refl _ _) _) _⟩
set_option maxRecDepth 100000 in
set_option maxHeartbeats 2000000 in
theorem xlSeal_any {k : Int} {size poly start : Nat} (hO : OfK k size poly start) (w : World) (B b t : Nat) (A A2 : Option Addr) (c c2 n2 : Nat) (l l2 : List Nat) (h : Pot w B b t A c l) (hp2 : PartOk w (A2, c2, l2)) (hn2 : l2.length = n2) (hl : n2 + l.length ≤ 50000) (h01 : ∀ x ∈ l2 ++ l, x ≤ 1) :
    Calls Try.prog 57 #[.pointer (some ⟨b, 0, none⟩), .int .i64 k, .slice A2 n2 c2] w fun e w' => e = .returned (.tuple #[]) ∧ (∃ A' c', Pot w' B b t A' c' (l ++ bitsN (crcN size poly start (l2 ++ l)) size)) ∧ Keep B b w w' := by
  have hlt : crcN size poly start (l2 ++ l) < 2 ^ size := crcN_lt size poly (l2 ++ l) hO.poly start hO.start
  have h32 := hO.h32
  have hpw := pow32 h32
  obtain ⟨q, hq⟩ : ∃ q, l.length = q := ⟨_, rfl⟩
  rw [hq] at hl
  have c0 : w.cell? ⟨b, 0, none⟩ = some (.slice A q c) := by rw [← hq]; exact h.cell
  have HP := Lib.hid h
  have hcc := concat2 w A2 A c2 c n2 q (n2 + q) l2 l hp2 h.row.part hn2 hq rfl (by omega)
  have HCC := Lib.hid hcc
  have hlen : (l2 ++ l).length = n2 + q := by rw [List.length_append, hn2, hq]
  have HLEN := Lib.hid hlen
  have HSUM := Lib.hid (fun (W : World) (base : Nat) (A3 : Option Addr) (c3 : Nat) (hW : Row W base 5 A3 c3 (bys (l2 ++ l))) => Sum_row hO (n2 + q) c3 base A3 (l2 ++ l) W hW hlen (by omega) h01)
  have HSZ := Lib.hid (fun W => Size_any hO W)
  have HQ := Lib.hid hq
  obtain ⟨r, hre⟩ : ∃ r, crcN size poly start (l2 ++ l) = r := ⟨_, rfl⟩
  rw [hre] at hlt HSUM ⊢
  have sb : b < w.heap.size := heap_lt h.box
  clear h hcc hlen hq hre h01 hp2 hn2 hO
  go_enter Try.func57, Try.ntmps57
  go_wp2_with fail
  refine HCC.out.mono ?_
  rintro x w1 ⟨⟨A3, c3, rfl, hrow3⟩, hb1⟩
  have HROW3 := Lib.hid hrow3
  have HB1 := Lib.hid ((below_alloc (Below.refl w.heap.size w) (.cells #[.slice A2 n2 c2, .slice A q c] 23)).trans (hb1.mono (by simp)))
  clear hrow3 hb1
  go_wp2_with fail
  refine (HSUM.out _ _ _ _ HROW3.out).mono ?_
  rintro x w2 ⟨rfl, hb2⟩
  have HB2 := Lib.hid (below_trans HB1.out hb2)
  clear hb2
  go_wp2_with fail
  refine (HSZ.out _).mono ?_
  rintro x w3 ⟨rfl, hb3⟩
  have HB3 := Lib.hid (below_trans HB2.out hb3)
  clear hb3
  go_wp2_with fail
  refine (xlPut_any w3 B b t A c r size l (HP.out.below HB3.out) (by omega) (by omega) hlt (by rw [HQ.out]; omega)).mono ?_
  rintro x w4 ⟨rfl, hpot, hk⟩
  have HPOT := Lib.hid hpot
  have HK := Lib.hid hk
  clear hpot hk
  go_wp2_with fail
  go_end0
  exact ⟨rfl, HPOT.out, (Keep.of HB3.out HP.out.size).trans HK.out⟩
end Go.Proofs.Ytaknddanggdplaa
