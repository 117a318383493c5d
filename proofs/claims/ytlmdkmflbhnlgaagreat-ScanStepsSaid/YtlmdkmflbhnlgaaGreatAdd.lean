/- crc.More, crc.Sum, crc.Size, crc.Add. No condition. -/
import Derived.Test.YtlmdkmflbhnlgaaGreatRun
namespace Go.Proofs.YtlmdkmflbhnlgaaGreat
open Go.RowKit
/-- A kind of sums: its size, its polynomial, its start. -/
structure OfK (k : Int) (size poly start : Nat) : Prop where
  call : ∀ W : World, Calls Tryz.prog 103 #[.int .i64 k] W fun e w' => e = .returned (kindV size poly start) ∧ Below W.heap.size W w'
  h4 : 4 ≤ size
  h32 : size ≤ 32
  poly : poly < 2 ^ size
  start : start < 2 ^ size
set_option maxRecDepth 100000 in
theorem of_1 : OfK 1 15 17817 0 := by
  refine ⟨fun W => ?_, by decide, by decide, by decide, by decide⟩
  go_enter Tryz.func103, Tryz.ntmps103
  go_wp2
  exact bodyPost_ret (v := .agg #[.int .i64 15, .int .u64 17817, .int .u64 0]) (by simp [results, Tryz.results103, go_sem]) rfl ⟨rfl, below_alloc (below_alloc (Below.refl _ _) _) _⟩
theorem field_kind (size poly start : Nat) (w : World) : Sem.run Tryz.prog (Instr.field 147 (kindV size poly start) 0) w = .ok (.int .i64 size) w := by kernel_rfl
theorem field_kind2 (size poly start : Nat) (w : World) : Sem.run Tryz.prog (Instr.field 147 (kindV size poly start) 2) w = .ok (.int .u64 start) w := by kernel_rfl
theorem Size_any {k : Int} {size poly start : Nat} (h : OfK k size poly start) (w : World) : Calls Tryz.prog 91 #[.int .i64 k] w fun e w' => e = .returned (.int .i64 size) ∧ Below w.heap.size w w' := by
  have HO := Lib.hid h.call
  have hf := field_kind size poly start
  clear h
  go_enter Tryz.func91, Tryz.ntmps91
  go_wp2_with fail
  refine (HO.out _).mono ?_
  rintro e w1 ⟨rfl, hb⟩
  have HB := Lib.hid hb
  clear hb
  go_wp2_with fail
  go_ret
  exact ⟨rfl, HB.out⟩
set_option maxRecDepth 100000 in
set_option maxHeartbeats 1000000 in
theorem More_any {k : Int} {size poly start : Nat} (h : OfK k size poly start) (sum b off n c : Nat) (A : Option Addr) (hA : A = some ⟨b, off, none⟩ ∨ n = 0) (l : List Nat) (w : World) (hs : sum < 2 ^ size) (hr : Rd w A (bys l)) (hn : l.length = n) (hn2 : n ≤ 65536) (hc1 : n ≤ c) (hc2 : c ≤ 9223372036854775807) (h01 : ∀ x ∈ l, x ≤ 1) :
    Calls Tryz.prog 102 #[.int .i64 k, .int .u64 sum, .slice A n c] w fun e w' => e = .returned (.tuple #[.int .u64 (crcN size poly sum l : Nat), .int .i64 0]) ∧ Below w.heap.size w w' := by
  have hok : bitsOk l = true := by unfold bitsOk; rw [decide_eq_true (by omega : l.length ≤ 65536), decide_eq_true h01]; rfl
  have hC := fun (W : World) (hW : Rd W A (bys l)) => BitsCheck_any A n c l W hW hn (by omega)
  simp only [hok, if_true] at hC
  have hrun := fun (W : World) (hW : Rd W A (bys l)) => run_any size poly start sum b off n c A hA l W h.h4 h.h32 h.poly hs hW hn (by omega) hc1 hc2 h01
  have HC := Lib.hid hC
  have HRUN := Lib.hid hrun
  have HO := Lib.hid h.call
  have HR := Lib.hid hr
  obtain ⟨r, hre⟩ : ∃ r, crcN size poly sum l = r := ⟨_, rfl⟩
  rw [hre] at HRUN ⊢
  have hz : ((size : Int) == 0) = false := by have := h.h4; rw [beq_eq_false_iff_ne]; omega
  have hdiv : (sum : Int) / 2 ^ min size 64 = 0 := by
    rw [Nat.min_eq_left (by have := h.h32; omega)]
    have e : (sum : Int) / 2 ^ size = ((sum / 2 ^ size : Nat) : Int) := by simp
    rw [e, Nat.div_eq_of_lt hs]; rfl
  have hdiv2 : (sum : Int) / 2 ^ size = 0 := by
    have e : (sum : Int) / 2 ^ size = ((sum / 2 ^ size : Nat) : Int) := by simp
    rw [e, Nat.div_eq_of_lt hs]; rfl
  have hs32 : size ≤ 32 := h.h32
  clear hok hC hrun hr hre h01 hA hs h
  go_enter Tryz.func102, Tryz.ntmps102
  go_wp2_with fail
  refine (HO.out _).mono ?_
  rintro e w1 ⟨rfl, hb⟩
  have HB := Lib.hid hb
  clear hb
  go_wp2_with fail
  refine (HC.out _ ((HR.out.below HB.out).alloc _)).mono ?_
  rintro e _ ⟨rfl, rfl⟩
  go_wp2_with fail
  refine (HRUN.out _ ((HR.out.below HB.out).alloc _)).mono ?_
  rintro e w2 ⟨rfl, hb2⟩
  have HB2 := Lib.hid hb2
  clear hb2
  go_wp2_with fail
  go_ret2
  exact ⟨rfl, below_trans (below_alloc HB.out _) HB2.out⟩
set_option maxHeartbeats 1000000 in
theorem Sum_any {k : Int} {size poly start : Nat} (h : OfK k size poly start) (b off n c : Nat) (A : Option Addr) (hA : A = some ⟨b, off, none⟩ ∨ n = 0) (l : List Nat) (w : World) (hr : Rd w A (bys l)) (hn : l.length = n) (hn2 : n ≤ 65536) (hc1 : n ≤ c) (hc2 : c ≤ 9223372036854775807) (h01 : ∀ x ∈ l, x ≤ 1) :
    Calls Tryz.prog 90 #[.int .i64 k, .slice A n c] w fun e w' => e = .returned (.tuple #[.int .u64 (crcN size poly start l : Nat), .int .i64 0]) ∧ Below w.heap.size w w' := by
  have hM := fun (W : World) (hW : Rd W A (bys l)) => More_any h start b off n c A hA l W h.start hW hn hn2 hc1 hc2 h01
  obtain ⟨r, hre⟩ : ∃ r, crcN size poly start l = r := ⟨_, rfl⟩
  rw [hre]
  simp only [hre] at hM
  have HM := Lib.hid hM
  have HO := Lib.hid h.call
  have HR := Lib.hid hr
  have hf := field_kind2 size poly start
  clear hr hM hA h01 h hre
  go_enter Tryz.func90, Tryz.ntmps90
  go_wp2_with fail
  refine (HO.out _).mono ?_
  rintro e w1 ⟨rfl, hb⟩
  have HB := Lib.hid hb
  clear hb
  go_wp2_with fail
  refine (HM.out _ (HR.out.below HB.out)).mono ?_
  rintro e w2 ⟨rfl, hb2⟩
  have HB2 := Lib.hid hb2
  clear hb2
  go_wp2_with fail
  go_ret2
  exact ⟨rfl, below_trans HB.out HB2.out⟩
/-- Bits with their sum behind. -/
def addN (size poly start : Nat) (l : List Nat) : List Nat := l ++ bitsN (crcN size poly start l) size
set_option maxRecDepth 100000 in
set_option maxHeartbeats 2000000 in
theorem Add_any {k : Int} {size poly start : Nat} (h : OfK k size poly start) (b off n c N : Nat) (A : Option Addr) (hA : A = some ⟨b, off, none⟩ ∨ n = 0) (l : List Nat) (w : World) (hr : Rd w A (bys l)) (hnil : A = none → c = 0) (hn : l.length = n) (hn2 : n ≤ 65536) (hc1 : n ≤ c) (hc2 : c ≤ 9223372036854775807) (h01 : ∀ x ∈ l, x ≤ 1) (hN : n + size = N) :
    Calls Tryz.prog 68 #[.int .i64 k, .slice A n c] w fun e w' => (∃ A' c', e = .returned (.tuple #[.slice A' N c', .int .i64 0]) ∧ Row w' w.heap.size 5 A' c' (bys (addN size poly start l))) ∧ Below w.heap.size w w' := by
  have hS := Sum_any h b off n c A hA l w hr hn hn2 hc1 hc2 h01
  have hlt : crcN size poly start l < 2 ^ size := crcN_lt size poly l h.poly start h.start
  have hpw := pow32 h.h32
  have hadd : addN size poly start l = l ++ bitsN (crcN size poly start l) size := rfl
  obtain ⟨r, hre⟩ : ∃ r, crcN size poly start l = r := ⟨_, rfl⟩
  rw [hre] at hS hlt hadd
  have hput := fun W => bitsPut_any W r size (by omega) (by have := h.h32; omega) hlt
  have HS := Lib.hid hS
  have HPUT := Lib.hid hput
  have HSZ := Lib.hid (Size_any h)
  have HR := Lib.hid hr
  have HNIL := Lib.hid hnil
  have HN := Lib.hid hn
  have HADD := Lib.hid hadd
  have HN2 := Lib.hid hN
  have hsz := h.h32
  obtain ⟨al, hal⟩ : ∃ al, addN size poly start l = al := ⟨_, rfl⟩
  rw [hal] at HADD ⊢
  clear hS hput hr hnil hn hadd h hA h01 hlt hpw hre hal hN
  go_enter Tryz.func68, Tryz.ntmps68
  go_wp2_with fail
  refine HS.out.mono ?_
  rintro e w1 ⟨rfl, hb1⟩
  have HB1 := Lib.hid hb1
  clear hb1
  go_wp2_with fail
  refine (HSZ.out _).mono ?_
  rintro e w2 ⟨rfl, hb2⟩
  have HB2 := Lib.hid hb2
  clear hb2
  go_wp2_with fail
  refine (HPUT.out _).mono ?_
  rintro e w3 ⟨⟨A3, c3, rfl, hrow⟩, hb3⟩
  have HB3 := Lib.hid hb3
  have HROW := Lib.hid hrow
  clear hb3 hrow
  go_wp2_with fail
  have hcat := concat_any (some ⟨w3.heap.size, 0, none⟩) 2 2 N [(A, c, l), (A3, c3, bitsN r size)] (w3.alloc (.cells #[.slice A n c, .slice A3 size c3] 22))
    (by have := Rd.blk (w := w3.alloc (.cells #[.slice A n c, .slice A3 size c3] 22)) (heap_new_at rfl); simpa [partV, HN.out, bitsN_length] using this) rfl
    (by
      intro p hp
      simp only [List.mem_cons, List.not_mem_nil, or_false] at hp
      rcases hp with rfl | rfl
      · exact ⟨(HR.out.below (below_trans (below_trans HB1.out HB2.out) HB3.out)).alloc _, fun _ e => HNIL.out e⟩
      · exact ⟨HROW.out.rd.alloc _, fun _ e => HROW.out.none_ e⟩) (by simp [partsL, bitsN_length, HN.out, HN2.out]) (by rw [← HN2.out]; omega) (by omega)
  refine hcat.mono ?_
  rintro e w4 ⟨⟨A4, c4, rfl, hrow4⟩, hb4⟩
  have HROW4 := Lib.hid hrow4
  have HB4 := Lib.hid hb4
  clear hrow4 hb4 hcat
  go_wp2_with fail
  go_ret2
  have hb : Below w.heap.size w w3 := below_trans (below_trans HB1.out HB2.out) HB3.out
  refine ⟨⟨A4, c4, rfl, ?_⟩, below_trans (below_alloc hb _) HB4.out⟩
  have h4 := HROW4.out
  have e4 : partsL [(A, c, l), (A3, c3, bitsN r size)] = al := by rw [HADD.out]; simp [partsL]
  rw [e4] at h4
  exact h4.mono (Nat.le_trans hb.size (by simp))
theorem Row.form {w : World} {base t c : Nat} {A : Option Addr} {xs : List Value} (h : Row w base t A c xs) : ∃ b, A = some ⟨b, 0, none⟩ ∨ xs.length = 0 := by
  rcases h.2 with ⟨hv, hx⟩ | ⟨g, cap, cur, hv, _⟩
  · injection hv with e1 e2 _
    exact ⟨0, .inr e2⟩
  · injection hv with e
    exact ⟨g, .inl e⟩
theorem Row.capm {w : World} {base t c : Nat} {A : Option Addr} {xs : List Value} (h : Row w base t A c xs) : c ≤ 9223372036854775807 := by
  rcases h.2 with ⟨hv, hx⟩ | ⟨g, cap, cur, hv, _, _, _, hm, _⟩
  · injection hv with _ _ e3; omega
  · injection hv with _ _ e3
    unfold maxLen at hm
    omega
theorem Add_row {k : Int} {size poly start : Nat} (h : OfK k size poly start) (n c N base : Nat) (A : Option Addr) (l : List Nat) (w : World) (hrow : Row w base 5 A c (bys l)) (hn : l.length = n) (hn2 : n ≤ 65536) (h01 : ∀ x ∈ l, x ≤ 1) (hN : n + size = N) :
    Calls Tryz.prog 68 #[.int .i64 k, .slice A n c] w fun e w' => (∃ A' c', e = .returned (.tuple #[.slice A' N c', .int .i64 0]) ∧ Row w' w.heap.size 5 A' c' (bys (addN size poly start l))) ∧ Below w.heap.size w w' := by
  obtain ⟨b, hA⟩ := hrow.form
  rw [bys_length, hn] at hA
  have hcap := hrow.cap
  rw [bys_length, hn] at hcap
  exact Add_any h b 0 n c N A hA l w hrow.rd (fun e => hrow.none_ e) hn hn2 hcap hrow.capm h01 hN
theorem Sum_row {k : Int} {size poly start : Nat} (h : OfK k size poly start) (n c base : Nat) (A : Option Addr) (l : List Nat) (w : World) (hrow : Row w base 5 A c (bys l)) (hn : l.length = n) (hn2 : n ≤ 65536) (h01 : ∀ x ∈ l, x ≤ 1) :
    Calls Tryz.prog 90 #[.int .i64 k, .slice A n c] w fun e w' => e = .returned (.tuple #[.int .u64 (crcN size poly start l : Nat), .int .i64 0]) ∧ Below w.heap.size w w' := by
  obtain ⟨b, hA⟩ := hrow.form
  rw [bys_length, hn] at hA
  have hcap := hrow.cap
  rw [bys_length, hn] at hcap
  exact Sum_any h b 0 n c A hA l w hrow.rd hn hn2 hcap hrow.capm h01
/-- Two rows joined, whose slices lie in one block. -/
theorem concat2 (W : World) (A1 A2 : Option Addr) (c1 c2 n1 n2 N : Nat) (l1 l2 : List Nat) (h1 : PartOk W (A1, c1, l1)) (h2 : PartOk W (A2, c2, l2)) (e1 : l1.length = n1) (e2 : l2.length = n2) (hN : n1 + n2 = N) (hN2 : N ≤ 1000000) :
    Calls Tryz.prog 55 #[.slice (some ⟨W.heap.size, 0, none⟩) 2 2] (W.alloc (.cells #[.slice A1 n1 c1, .slice A2 n2 c2] 22)) fun e w' => (∃ A' c', e = .returned (.slice A' N c') ∧ Row w' (W.alloc (.cells #[.slice A1 n1 c1, .slice A2 n2 c2] 22)).heap.size 5 A' c' (bys (l1 ++ l2))) ∧ Below (W.alloc (.cells #[.slice A1 n1 c1, .slice A2 n2 c2] 22)).heap.size (W.alloc (.cells #[.slice A1 n1 c1, .slice A2 n2 c2] 22)) w' := by
  have hL : partsL [(A1, c1, l1), (A2, c2, l2)] = l1 ++ l2 := by simp [partsL]
  rw [← hL]
  refine concat_any _ 2 2 N [(A1, c1, l1), (A2, c2, l2)] _ ?_ rfl ?_ ?_ hN2 (by omega)
  · have := Rd.blk (w := W.alloc (.cells #[.slice A1 n1 c1, .slice A2 n2 c2] 22)) (heap_new_at rfl)
    simpa [partV, e1, e2] using this
  · intro p hp
    simp only [List.mem_cons, List.not_mem_nil, or_false] at hp
    rcases hp with rfl | rfl
    · exact h1.below (below_alloc (Below.refl _ _) _)
    · exact h2.below (below_alloc (Below.refl _ _) _)
  · rw [hL, List.length_append, e1, e2, hN]
theorem Row.part {w : World} {base t c : Nat} {A : Option Addr} {l : List Nat} (h : Row w base t A c (bys l)) : PartOk w (A, c, l) := ⟨h.rd, fun _ e => h.none_ e⟩
end Go.Proofs.YtlmdkmflbhnlgaaGreat
namespace Go.Proofs.YtlmdkmflbhnlgaaGreat
open Go.RowKit
theorem row_at {w W : World} {base c ga : Nat} {l : List Nat} (hrow : Row w base 5 (some ⟨ga, 0, none⟩) c (bys l)) (hW : Below w.heap.size w W) (k v : Nat) (h : l[k]? = some v) : W.cell? ⟨ga, k, none⟩ = some (.int .u8 (v : Int)) := by
  have hk : k < l.length := (List.getElem?_eq_some_iff.1 h).1
  obtain ⟨ad, e, hc⟩ := hrow.rd k (.int .u8 (v : Int)) (by rw [bys_get l k hk, (List.getElem?_eq_some_iff.1 h).2])
  injection e with e
  subst e
  refine Below.cell_of hW ?_
  rw [← hc]
  unfold Addr.add
  by_cases hk0 : k = 0 <;> simp [hk0]
theorem row_some {w : World} {base c n : Nat} {A : Option Addr} {l : List Nat} (hrow : Row w base 5 A c (bys l)) (hl : l.length = n) (hn : 0 < n) : ∃ ga, A = some ⟨ga, 0, none⟩ ∧ ga < w.heap.size ∧ n ≤ c ∧ c ≤ 9223372036854775807 := by
  obtain ⟨ga, hA⟩ := hrow.form
  rcases hA with rfl | h
  · have h0 := row_at (W := w) hrow (Below.refl _ _) 0 (l[0]'(by omega)) (by simp)
    have hcap := hrow.cap
    rw [bys_length, hl] at hcap
    exact ⟨ga, rfl, cell_lt h0, hcap, hrow.capm⟩
  · rw [bys_length] at h; omega
theorem calls_name {P : Program} {f : FuncId} {args : Array Value} {W : World} {R : Ending → World → Prop} {T : World → Prop} (hT : T W) (h : ∀ W0, T W0 → Calls P f args W0 R) : Calls P f args W R := h W hT
end Go.Proofs.YtlmdkmflbhnlgaaGreat
