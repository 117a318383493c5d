/- The law ScanSteps answers true. No condition. -/
import Derived.Test.YtlmdkmflbhnlgaaGreatLawScanStays
namespace Go.Proofs.YtlmdkmflbhnlgaaGreat
open Go.RowKit
set_option maxRecDepth 100000 in
set_option maxHeartbeats 4000000 in
theorem mSeeArg (mp b : Nat) (hb : 1 < b) (w : World) : Calls Tryz.prog 13 #[.pointer (some ⟨mp, 0, none⟩), .int .u8 b] w fun e w' => e = .returned (.tuple #[.agg #[.int .i64 0, .int .i64 0, .int .i64 0, .int .u32 0, .bool false, .bool false, .bool false, .bool false, .bool false, .int .u8 0, .int .u8 0, .int .u32 0, .slice none 0 0], .int .i64 2]) ∧ Below w.heap.size w w' := by
  have gb : decide ((1 : Int) < (b : Int)) = true := by simp; omega
  go_enter Tryz.func13, Tryz.ntmps13
  go_upto_region 1 with (fail)
  obtain ⟨W1, hW1, q1, hb1⟩ : ∃ W1, w.alloc (.cells #[.int .i64 0, .int .i64 0, .int .i64 0, .int .u32 0, .bool false, .bool false, .bool false, .bool false, .bool false, .int .u8 0, .int .u8 0, .int .u32 0, .slice none 0 0] 30) = W1 ∧ W1.heap[w.heap.size]? = some (.cells #[.int .i64 0, .int .i64 0, .int .i64 0, .int .u32 0, .bool false, .bool false, .bool false, .bool false, .bool false, .int .u8 0, .int .u8 0, .int .u32 0, .slice none 0 0] 30 (0, 0)) ∧ Below w.heap.size w W1 := ⟨_, rfl, heap_new_at rfl, below_alloc (Below.refl _ _) _⟩
  rw [hW1]
  have Q1 := Lib.hid q1
  have HB1 := Lib.hid hb1
  clear hW1 q1 hb1
  go_wp2_with (first
    | (refine wpList_bputs (g := w.heap.size) Q1.out rfl 30 (.tmp 4) (.tmp 13) rfl 0 13 (stL 0 0 zFr none 0) rfl (by kernel_rfl) (by kernel_rfl) info_statusE (by simp [stL, Value.oneCell']) (by simp) (stL 0 0 zFr none 0).toArray (by kernel_rfl) ?_; intro W7 Q7 T7)
    | fail)
  have hbx := Q7.out
  refine bodyPost_ret (v := .tuple #[.agg #[.int .i64 0, .int .i64 0, .int .i64 0, .int .u32 0, .bool false, .bool false, .bool false, .bool false, .bool false, .int .u8 0, .int .u8 0, .int .u32 0, .slice none 0 0], .int .i64 2]) ?_ rfl ?_
  · obtain ⟨k0, k1, k2, k3, k4, k5, k6, k7, k8, k9, k10, k11, k12⟩ := cells13 hbx
    simp [results, Tryz.results13, go_sem, zFr, *]
  · exact ⟨rfl, Below.trans HB1.out (T7.out.below (fun x hx => by simp at hx; omega) HB1.out.size)⟩
set_option maxRecDepth 100000 in
set_option maxHeartbeats 4000000 in
theorem mSeeNil (w : World) : Calls Tryz.prog 13 #[.pointer none, .int .u8 0] w fun e w' => e = .returned (.tuple #[.agg #[.int .i64 0, .int .i64 0, .int .i64 0, .int .u32 0, .bool false, .bool false, .bool false, .bool false, .bool false, .int .u8 0, .int .u8 0, .int .u32 0, .slice none 0 0], .int .i64 1]) ∧ Below w.heap.size w w' := by
  go_enter Tryz.func13, Tryz.ntmps13
  go_upto_region 1 with (fail)
  obtain ⟨W1, hW1, q1, hb1⟩ : ∃ W1, w.alloc (.cells #[.int .i64 0, .int .i64 0, .int .i64 0, .int .u32 0, .bool false, .bool false, .bool false, .bool false, .bool false, .int .u8 0, .int .u8 0, .int .u32 0, .slice none 0 0] 30) = W1 ∧ W1.heap[w.heap.size]? = some (.cells #[.int .i64 0, .int .i64 0, .int .i64 0, .int .u32 0, .bool false, .bool false, .bool false, .bool false, .bool false, .int .u8 0, .int .u8 0, .int .u32 0, .slice none 0 0] 30 (0, 0)) ∧ Below w.heap.size w W1 := ⟨_, rfl, heap_new_at rfl, below_alloc (Below.refl _ _) _⟩
  rw [hW1]
  have Q1 := Lib.hid q1
  have HB1 := Lib.hid hb1
  clear hW1 q1 hb1
  go_wp2_with (first
    | (refine wpList_bputs (g := w.heap.size) Q1.out rfl 30 (.tmp 4) (.tmp 9) rfl 0 13 (stL 0 0 zFr none 0) rfl (by kernel_rfl) (by kernel_rfl) info_statusE (by simp [stL, Value.oneCell']) (by simp) (stL 0 0 zFr none 0).toArray (by kernel_rfl) ?_; intro W7 Q7 T7)
    | fail)
  have hbx := Q7.out
  refine bodyPost_ret (v := .tuple #[.agg #[.int .i64 0, .int .i64 0, .int .i64 0, .int .u32 0, .bool false, .bool false, .bool false, .bool false, .bool false, .int .u8 0, .int .u8 0, .int .u32 0, .slice none 0 0], .int .i64 1]) ?_ rfl ?_
  · obtain ⟨k0, k1, k2, k3, k4, k5, k6, k7, k8, k9, k10, k11, k12⟩ := cells13 hbx
    simp [results, Tryz.results13, go_sem, zFr, *]
  · exact ⟨rfl, Below.trans HB1.out (T7.out.below (fun x hx => by simp at hx; omega) HB1.out.size)⟩
set_option maxRecDepth 100000 in
set_option maxHeartbeats 4000000 in
theorem mStatusNil (w : World) : Calls Tryz.prog 15 #[.pointer none] w fun e w' => e = .returned (.tuple #[.agg #[.int .i64 0, .int .i64 0, .int .i64 0, .int .u32 0, .bool false, .bool false, .bool false, .bool false, .bool false, .int .u8 0, .int .u8 0, .int .u32 0, .slice none 0 0], .int .i64 1]) ∧ Below w.heap.size w w' := by
  go_enter Tryz.func15, Tryz.ntmps15
  go_upto_region 1 with (fail)
  obtain ⟨W1, hW1, q1, hb1⟩ : ∃ W1, w.alloc (.cells #[.int .i64 0, .int .i64 0, .int .i64 0, .int .u32 0, .bool false, .bool false, .bool false, .bool false, .bool false, .int .u8 0, .int .u8 0, .int .u32 0, .slice none 0 0] 30) = W1 ∧ W1.heap[w.heap.size]? = some (.cells #[.int .i64 0, .int .i64 0, .int .i64 0, .int .u32 0, .bool false, .bool false, .bool false, .bool false, .bool false, .int .u8 0, .int .u8 0, .int .u32 0, .slice none 0 0] 30 (0, 0)) ∧ Below w.heap.size w W1 := ⟨_, rfl, heap_new_at rfl, below_alloc (Below.refl _ _) _⟩
  rw [hW1]
  have Q1 := Lib.hid q1
  have HB1 := Lib.hid hb1
  clear hW1 q1 hb1
  go_wp2_with (first
    | (refine wpList_bputs (g := w.heap.size) Q1.out rfl 30 (.tmp 2) (.tmp 7) rfl 0 13 (stL 0 0 zFr none 0) rfl (by kernel_rfl) (by kernel_rfl) info_statusE (by simp [stL, Value.oneCell']) (by simp) (stL 0 0 zFr none 0).toArray (by kernel_rfl) ?_; intro W7 Q7 T7)
    | fail)
  have hbx := Q7.out
  refine bodyPost_ret (v := .tuple #[.agg #[.int .i64 0, .int .i64 0, .int .i64 0, .int .u32 0, .bool false, .bool false, .bool false, .bool false, .bool false, .int .u8 0, .int .u8 0, .int .u32 0, .slice none 0 0], .int .i64 1]) ?_ rfl ?_
  · obtain ⟨k0, k1, k2, k3, k4, k5, k6, k7, k8, k9, k10, k11, k12⟩ := cells13 hbx
    simp [results, Tryz.results15, go_sem, zFr, *]
  · exact ⟨rfl, Below.trans HB1.out (T7.out.below (fun x hx => by simp at hx; omega) HB1.out.size)⟩
theorem mSeenNil (w : World) : Calls Tryz.prog 14 #[.pointer none] w fun e w' => e = .returned (.int .i64 0) ∧ w = w' := by
  go_enter Tryz.func14, Tryz.ntmps14
  go_wp2
  go_ret
  exact ⟨rfl, rfl⟩
/-- The machine with another row of the caller's. -/
def setG (S : MS) (g : Option Addr × Nat × List Nat) : MS := { S with gh := g }
theorem ite_setG {c : Prop} [Decidable c] (A B : MS) (g : Option Addr × Nat × List Nat) : setG (if c then A else B) g = if c then setG A g else setG B g := by split <;> rfl
theorem startM_g (S : MS) (g : Option Addr × Nat × List Nat) : startM (setG S g) = setG (startM S) g := by unfold startM; rw [ite_setG]; rfl
theorem identM_g (S : MS) (g : Option Addr × Nat × List Nat) : identM (setG S g) = setG (identM S) g := by unfold identM; dsimp only; rw [ite_setG, ite_setG]; rfl
theorem extendedM_g (S : MS) (g : Option Addr × Nat × List Nat) : extendedM (setG S g) = setG (extendedM S) g := by unfold extendedM; dsimp only; rw [ite_setG]; rfl
theorem reservedM_g (S : MS) (g : Option Addr × Nat × List Nat) : reservedM (setG S g) = setG (reservedM S) g := by unfold reservedM; rw [ite_setG]; rfl
theorem formatM_g (S : MS) (g : Option Addr × Nat × List Nat) : formatM (setG S g) = setG (formatM S) g := by unfold formatM; rw [ite_setG, ite_setG]; rfl
theorem newerM_g (S : MS) (g : Option Addr × Nat × List Nat) : newerM (setG S g) = setG (newerM S) g := by unfold newerM; rw [ite_setG, ite_setG]; rfl
theorem codeM_g (S : MS) (g : Option Addr × Nat × List Nat) : codeM (setG S g) = setG (codeM S) g := by unfold codeM; dsimp only; rw [ite_setG]; rfl
theorem fdCodeM_g (S : MS) (g : Option Addr × Nat × List Nat) : fdCodeM (setG S g) = setG (fdCodeM S) g := by unfold fdCodeM; dsimp only; rw [ite_setG]; rfl
theorem xlHeadM_g (S : MS) (g : Option Addr × Nat × List Nat) : xlHeadM (setG S g) = setG (xlHeadM S) g := by unfold xlHeadM; rw [ite_setG]; rfl
theorem nextM_g (S : MS) (g : Option Addr × Nat × List Nat) : nextM (setG S g) = setG (nextM S) g := by
  have e : (setG S g).next = S.next := rfl
  unfold nextM
  rw [e]
  cases S.next
  · exact startM_g S g
  · exact identM_g S g
  · exact extendedM_g S g
  · exact reservedM_g S g
  · exact formatM_g S g
  · exact newerM_g S g
  · exact codeM_g S g
  · rfl
  · exact fdCodeM_g S g
  · rfl
  · exact xlHeadM_g S g
  · rfl
theorem doM_g (S : MS) (d : Do) (l : List Nat) (g : Option Addr × Nat × List Nat) : doM (setG S g) d l = setG (doM S d l) g := by cases d <;> rfl
theorem aftM_g (S : MS) (x : Aft) (g : Option Addr × Nat × List Nat) : aftM (setG S g) x = setG (aftM S x) g := by cases x <;> rfl
theorem dynM_g (S : MS) (b : Nat) (g : Option Addr × Nat × List Nat) : dynM (setG S g) b = setG (dynM S b) g := by
  unfold dynM
  rw [ite_setG, ite_setG, ite_setG, ← nextM_g]
  rfl
theorem partStepM_g (S : MS) (p e n : Nat) (a : Bool) (d : Do) (b : Nat) (g : Option Addr × Nat × List Nat) : partStepM (setG S g) p e a n d b = setG (partStepM S p e a n d b) g := by
  unfold partStepM
  dsimp only
  rw [ite_setG, ite_setG, ← doM_g]
  rfl
theorem markStepM_g (S : MS) (l : List Nat) (x : Aft) (b : Nat) (g : Option Addr × Nat × List Nat) : markStepM (setG S g) l x b = setG (markStepM S l x b) g := by
  unfold markStepM
  rw [ite_setG, ite_setG, ← aftM_g]
  rfl
theorem lastM_g (S : MS) (b : Nat) (g : Option Addr × Nat × List Nat) : lastM (setG S g) b = setG (lastM S b) g := by
  unfold lastM
  dsimp only
  rw [ite_setG, ite_setG, ite_setG, ite_setG]
  rfl
theorem stepM_g (S : MS) (b : Nat) (g : Option Addr × Nat × List Nat) : stepM (setG S g) b = setG (stepM S b) g := by
  have e : (setG S g).step = S.step := rfl
  unfold stepM
  rw [e]
  cases S.step
  · exact dynM_g S b g
  · exact partStepM_g S _ _ _ _ _ b g
  · exact markStepM_g S _ _ b g
  · exact lastM_g S b g
theorem seeM_g (S : MS) (b : Nat) (g : Option Addr × Nat × List Nat) : seeM (setG S g) b = setG (seeM S b) g := by
  unfold seeM
  rw [ite_setG, ← stepM_g]
  rfl
theorem MOk.ghost {S : MS} (h : MOk S) (g : Option Addr × Nat × List Nat) : MOk (setG S g) :=
  ⟨h.raw, h.l, h.own, h.rawn, h.fd, h.sfd, fun hk => by
    have := h.stp hk
    show StpFits (setG S g) S.step
    cases hx : S.step <;> rw [hx] at this
    · exact ⟨this.1, this.2.1, this.2.2.1, this.2.2.2.congr' rfl rfl⟩
    · exact this
    · exact this
    · exact this⟩
/-- The bits of a row of bytes. -/
def bitsOf (l : List Nat) : List Nat := l.filter fun x => decide (x ≤ 1)
theorem bitsOf_snoc1 (l : List Nat) (b : Nat) (h : b ≤ 1) : bitsOf (l ++ [b]) = bitsOf l ++ [b] := by unfold bitsOf; rw [List.filter_append]; simp [h]
theorem bitsOf_snoc2 (l : List Nat) (b : Nat) (h : 1 < b) : bitsOf (l ++ [b]) = bitsOf l := by unfold bitsOf; rw [List.filter_append]; simp; omega
theorem bitsOf_le (l : List Nat) : (bitsOf l).length ≤ l.length := List.length_filter_le _ _
theorem bitsOf_ok (l : List Nat) (h : l.length ≤ 65536) : bitsOk (bitsOf l) = true := by
  unfold bitsOk
  rw [Bool.and_eq_true, decide_eq_true_eq, decide_eq_true_eq]
  exact ⟨Nat.le_trans (bitsOf_le l) h, fun x hx => by have := (List.mem_filter.1 hx).2; simpa using this⟩
set_option maxRecDepth 100000 in
set_option maxHeartbeats 16000000 in
theorem scanSteps_walk (w : World) (A0 : Option Addr) (n0 c0 : Nat) (l0 : List Nat) (xl : Bool) (hr0 : Rd w A0 (bys l0)) (hn0 : l0.length = n0) (hm0 : n0 ≤ 9223372036854775807) (hby : isBytes l0) :
    Calls Tryz.prog 4 #[.slice A0 n0 c0, .bool xl] w fun e w' => e = .returned (.bool true) ∧ Below w.heap.size w w' := by
  have HAL := Lib.hid (fun W => alive09 W)
  by_cases h4 : 400 < n0
  · have g4 : decide ((400 : Int) < (n0 : Int)) = true := by simp; omega
    clear hr0
    go_enter Tryz.func4, Tryz.ntmps4
    go_wp2_with fail
    refine (HAL.out _).mono ?_
    rintro e w1 ⟨rfl, hb1⟩
    have HB1 := Lib.hid hb1
    clear hb1
    go_wp2_with fail
    go_ret
    exact ⟨rfl, HB1.out⟩
  have g4 : decide ((400 : Int) < (n0 : Int)) = false := by simp; omega
  have HR0 := Lib.hid hr0
  have HN0 := Lib.hid hn0
  have HBY := Lib.hid hby
  have HNW := Lib.hid (fun W => mNew xl W)
  have HSN := Lib.hid (fun W => mSeeNil W)
  have HTN := Lib.hid (fun W => mStatusNil W)
  have HEN := Lib.hid (fun W => mSeenNil W)
  clear hr0 hn0 hby
  go_enter Tryz.func4, Tryz.ntmps4
  go_wp2_with fail
  refine (HAL.out _).mono ?_
  rintro e w1 ⟨rfl, hb1⟩
  have HB1 := Lib.hid hb1
  clear hb1
  go_wp2_with fail
  refine (HNW.out _).mono ?_
  rintro e w2 ⟨rfl, ⟨s2, a2, h2, n2⟩, hb2⟩
  have HB2 := Lib.hid (below_trans HB1.out hb2)
  have hw1 : w.heap.size ≤ w1.heap.size := HB1.out.size
  have hw2 : w1.heap.size < w2.heap.size := h2.lt
  have HM2 : Hid (∃ s a, MR w2 s w1.heap.size (setG (scanM xl (bitsOf (l0.take 0))) (none, 0, bitsOf (l0.take 0))) a ∧ ∀ k ∈ s, w1.heap.size ≤ k) := ⟨s2, a2, h2, n2⟩
  clear h2 n2 hb2 HB1
  generalize w1.heap.size = mp at *
  go_wp2_with fail
  go_loopw [6, 29] (fun sv iv wr => ∃ (k m c : Nat) (A : Option Addr), k ≤ n0 ∧ iv = .int .i64 k ∧ sv = .slice A m c ∧ m ≤ k ∧ Hid ((bitsOf (l0.take k)).length = m) ∧ Hid (∃ s a, MR wr s mp (setG (scanM xl (bitsOf (l0.take k))) (A, c, bitsOf (l0.take k))) a ∧ ∀ j ∈ s, mp ≤ j) ∧ Hid (Below mp w2 wr)) (fun _ iv _ => n0 - (intOf iv).toNat)
  case atStart => exact ⟨0, 0, 0, none, by omega, rfl, rfl, by omega, rfl, HM2, Below.refl _ _⟩
  case round =>
    obtain ⟨k, m, c, A, hk, rfl, rfl, hmk, HLEN, HM, HW⟩ := hrel
    by_cases hkn : k < n0
    · have hkl : k < l0.length := by rw [HN0.out]; exact hkn
      have hbw : Below w.heap.size w wr := HB2.out.trans (HW.out.mono (by omega))
      obtain ⟨ad, rfl, ca⟩ := (HR0.out.below hbw).at_ k hkl
      have hx := HBY.out l0[k] (List.getElem_mem hkl)
      have htk : l0.take (k + 1) = l0.take k ++ [l0[k]] := List.take_succ_eq_append_getElem hkl
      obtain ⟨x, hxe⟩ : ∃ x, l0[k] = x := ⟨_, rfl⟩
      rw [hxe] at ca hx htk
      obtain ⟨s3, a3, h3, n3⟩ := HM.out
      have hlt4 : (l0.take k).length ≤ 400 := by rw [List.length_take]; omega
      obtain ⟨L, hL⟩ : ∃ L, bitsOf (l0.take k) = L := ⟨_, rfl⟩
      have hok : bitsOk L = true := by rw [← hL]; exact bitsOf_ok _ (by omega)
      have HMS := Lib.hid h3.lt
      rw [hL] at h3 HLEN
      have H3 := Lib.hid h3
      have N3 := Lib.hid n3
      have hmlt := h3.lt
      have HL1 := Lib.hid hL
      have HTK := Lib.hid htk
      have HOK := Lib.hid hok
      clear hxe hbw hkl h3 n3 HM htk hok hL
      by_cases hx1 : 1 < x
      · have g5 : decide ((1 : Int) < (x : Int)) = true := by simp; omega
        have HSA := Lib.hid (fun W => mSeeArg mp x hx1 W)
        have HNX : Hid (bitsOf (l0.take (k + 1)) = L) := by show _ = _; rw [HTK.out, bitsOf_snoc2 _ _ hx1]; exact HL1.out
        have HSEEN := Lib.hid (fun W s a (hW : MR W s mp (setG (scanM xl L) (A, c, L)) a) => by
          have k := mSeen hW
          rw [show (setG (scanM xl L) (A, c, L)).seen = m by show (scanM xl L).seen = m; rw [scanM_seen, HLEN.out]] at k
          exact k)
        go_wp2_with fail
        refine (HSA.out _).mono ?_
        rintro e w4 ⟨rfl, hb4⟩
        have H4 := Lib.hid (H3.out.below hb4)
        have HW4 := Lib.hid (HW.out.trans (hb4.mono (by omega)))
        clear hb4
        go_wp2_with fail
        refine calls_blk1 fun W5 q5 hb5 => ?_
        refine (HSEEN.out _ _ _ (H4.out.below hb5)).mono ?_
        rintro e _ ⟨rfl, rfl⟩
        have H5 : Hid (∃ s a, MR W5 s mp (setG (scanM xl (bitsOf (l0.take (k + 1)))) (A, c, bitsOf (l0.take (k + 1)))) a ∧ ∀ j ∈ s, mp ≤ j) := by show ∃ s a, _; rw [HNX.out]; exact ⟨_, _, H4.out.below hb5, N3.out⟩
        have HW5 := Lib.hid (HW4.out.trans (hb5.mono (by have := H4.out.lt; omega)))
        clear q5 hb5
        go_wp2_with fail
        go_roundw
        case rel => exact ⟨k + 1, m, c, A, by omega, by go_num, rfl, by omega, by show _ = _; rw [HNX.out]; exact HLEN.out, H5, HW5⟩
        case measure => simp [intOf]; omega
      · have g5 : decide ((1 : Int) < (x : Int)) = false := by simp; omega
        have hx2 : x ≤ 1 := by omega
        have HNX : Hid (bitsOf (l0.take (k + 1)) = L ++ [x]) := by show _ = _; rw [HTK.out, bitsOf_snoc1 _ _ hx2, HL1.out]
        have hok3 : MOk (setG (scanM xl L) (A, c, L)) := (scanM_ok xl L (bitsOk_mem HOK.out)).ghost _
        have hsee := mSee H3.out hok3 (by show (scanM xl L).seen ≤ 29000; rw [scanM_seen, HLEN.out]; omega) x hx2
        rw [seeM_g, ← scanM_snoc] at hsee
        have HSEE := Lib.hid hsee
        have hlen1 : (L ++ [x]).length = m + 1 := by rw [List.length_append, HLEN.out]; rfl
        have hok1 : bitsOk (L ++ [x]) = true := bitsOk_app HOK.out (by unfold bitsOk; simp; omega) (by rw [HLEN.out]; simp; omega)
        obtain ⟨S, hS⟩ : ∃ S, scanM xl (L ++ [x]) = S := ⟨_, rfl⟩
        rw [hS] at HSEE
        have HSC := Lib.hid (fun W A c (hW : Rd W A (bys (L ++ [x]))) => scan_bits W A c (m + 1) (L ++ [x]) xl S hS hok1 hW hlen1 (by omega))
        have hseen : S.seen = m + 1 := by rw [← hS, scanM_seen, hlen1]
        have hsfd : S.sf.data.length ≤ 20000 := by rw [← hS]; exact (scanM_ok xl _ (bitsOk_mem hok1)).sfd
        have HNX2 : Hid (scanM xl (bitsOf (l0.take (k + 1))) = S) := by show _ = _; rw [HNX.out, hS]
        have HLEN1 := Lib.hid hlen1
        have HSE := Lib.hid hseen
        clear hok3 hsee hlen1 hok1 hS hseen hx1 hx
        go_wp2_with fail
        refine HSEE.out.mono ?_
        rintro e w4 ⟨A4, c4, s4, a4, rfl, h4, n4, t4, hrow4, hap4⟩
        have hnew4 : ∀ j ∈ s4, mp ≤ j := fun j hj => (n4 j hj).elim (N3.out j) (fun h => by omega)
        have HW4 : Hid (Below mp w2 w4) := HW.out.trans (t4.below N3.out (by omega))
        have hD4 : DatU w4 s4 A4 c4 S.sf.data := ⟨hrow4.rd, fun k hk => ⟨hap4 k hk, hrow4.lt_ k hk, hrow4.blk_ty k hk⟩, fun e => hrow4.none_ e⟩
        have HD4 := Lib.hid hD4
        have H4 : Hid (MR w4 s4 mp (setG S (A, c, L)) a4) := h4
        have N4 := Lib.hid hnew4
        have hm4 := h4.lt
        clear h4 n4 t4 hrow4 hap4 hnew4 hD4
        obtain ⟨tk, htk⟩ : ∃ tk, S.kind = tk := ⟨_, rfl⟩
        obtain ⟨te, hte⟩ : ∃ te, S.err = te := ⟨_, rfl⟩
        obtain ⟨F, htf⟩ : ∃ F, S.sf = F := ⟨_, rfl⟩
        have HST := Lib.hid (fun W s a g (hW : MR W s mp (setG S g) a) => by
          have k := mStatus hW (show S.sf.data.length ≤ 1000000 by omega)
          rw [show (setG S g).kind = tk from htk, show (setG S g).err = te from hte, show (setG S g).sf = F from htf] at k
          exact k)
        have HSEEN := Lib.hid (fun W s a g (hW : MR W s mp (setG S g) a) => by
          have k := mSeen hW
          rw [show (setG S g).seen = m + 1 from HSE.out] at k
          exact k)
        rw [htk, hte, htf] at HSC
        rw [htf] at HD4 hsfd
        simp only [stL, setG, htk, hte, htf]
        clear htk hte htf
        go_upto_region 11 with (fail)
        obtain ⟨W5, hW5, q5, hb5⟩ : ∃ W5, w4.alloc (.cells #[.int .i64 tk, .int .i64 te, .int .i64 F.kind, .int .u32 F.id, .bool F.ext, .bool F.rtr, .bool F.brs, .bool F.esi, .bool F.sec, .int .u8 F.sdt, .int .u8 F.vcid, .int .u32 F.af, .slice A4 F.data.length c4] 30) = W5 ∧ W5.heap[w4.heap.size]? = some (.cells #[.int .i64 tk, .int .i64 te, .int .i64 F.kind, .int .u32 F.id, .bool F.ext, .bool F.rtr, .bool F.brs, .bool F.esi, .bool F.sec, .int .u8 F.sdt, .int .u8 F.vcid, .int .u32 F.af, .slice A4 F.data.length c4] 30 (0, 0)) ∧ Below w4.heap.size w4 W5 := ⟨_, rfl, heap_new_at rfl, below_alloc (Below.refl _ _) _⟩
        rw [hW5]
        have H5 := Lib.hid (H4.out.below hb5)
        have D5 := Lib.hid (HD4.out.turn (Turn.of (s := s4) hb5) (fun _ hk => .inl hk))
        have B5 := Lib.hid (BoxV.new q5 H4.out.rest.mem.2 (Nat.le_refl _))
        have HW5 := Lib.hid (HW4.out.trans (hb5.mono (by omega)))
        have hm5 : mp < W5.heap.size := H5.out.lt
        clear hW5 q5 hb5 HD4 H4 HW4
        generalize w4.heap.size = p9 at *
        go_wp2_with (first
          | (at_builtin; refine wpList_appU rfl (.tmp 55) (.tmp 57) rfl A m c L (by kernel_rfl) (H5.out.alloc (.cells #[.int .u8 x] 5)).rest.gho.row.1 HLEN.out W5.heap.size 1 x (by kernel_rfl) (heap_new_at rfl) (by omega) ?_; intro W6 A6 c6 HR6 T6 N6)
          | fail)
        have hb56 : Below W5.heap.size W5 (W5.alloc (.cells #[.int .u8 x] 5)) := below_alloc (Below.refl _ _) _
        obtain ⟨h7, t7, n7⟩ := (H5.out.alloc (.cells #[.int .u8 x] 5)).ghApp (A3 := A6) (c3 := c6) (b := x) T6.out HR6.out N6.out
        have H7 : Hid (MR W6 (blkA A6 ++ s4) mp (setG S (A6, c6, L ++ [x])) a4) := h7
        have D7 := Lib.hid ((D5.out.turn (Turn.of (s := s4) hb56) (fun _ hk => .inl hk)).turn t7 n7)
        have B7 := Lib.hid ((B5.out.turn (Turn.of (s := s4) hb56) (fun _ hk => .inl hk)).turn t7 n7)
        have HW7 : Hid (Below mp w2 W6) := (HW5.out.trans (hb56.mono (by omega))).trans (t7.below N4.out (by have := hb56.size; omega))
        have N7 : Hid (∀ j ∈ blkA A6 ++ s4, mp ≤ j) := fun j hj => (n7 j hj).elim (N4.out j) (fun h => by have := hb56.size; omega)
        have hm7 : mp < W6.heap.size := h7.lt
        clear h7 t7 n7 hb56 H5 D5 B5 HW5 T6 N6 N4
        generalize blkA A6 ++ s4 = s7 at *
        refine (HSC.out _ _ _ HR6.out.rd).mono ?_
        rintro e w8 ⟨⟨A8, c8, rfl, hrow8⟩, hb8⟩
        have H8 := Lib.hid (H7.out.below hb8)
        have D8 := Lib.hid (D7.out.1.below hb8)
        have Q8 := Lib.hid (heap_below hb8 B7.out.1)
        have R8 := Lib.hid hrow8.rd
        have HW8 := Lib.hid (HW7.out.trans (hb8.mono (by omega)))
        clear hrow8 hb8 H7 D7 B7 HW7 HR6
        go_upto_region 16 with (fail)
        obtain ⟨W9, hW9, q9, hb9⟩ : ∃ W9, w8.alloc (.cells #[.int .i64 tk, .int .i64 te, .int .i64 F.kind, .int .u32 F.id, .bool F.ext, .bool F.rtr, .bool F.brs, .bool F.esi, .bool F.sec, .int .u8 F.sdt, .int .u8 F.vcid, .int .u32 F.af, .slice A8 F.data.length c8] 30) = W9 ∧ W9.heap[w8.heap.size]? = some (.cells #[.int .i64 tk, .int .i64 te, .int .i64 F.kind, .int .u32 F.id, .bool F.ext, .bool F.rtr, .bool F.brs, .bool F.esi, .bool F.sec, .int .u8 F.sdt, .int .u8 F.vcid, .int .u32 F.af, .slice A8 F.data.length c8] 30 (0, 0)) ∧ Below w8.heap.size w8 W9 := ⟨_, rfl, heap_new_at rfl, below_alloc (Below.refl _ _) _⟩
        rw [hW9]
        have hm8 : mp < w8.heap.size := H8.out.lt
        have H9 := Lib.hid (H8.out.below hb9)
        have D9 := Lib.hid (D8.out.below hb9)
        have Q9 := Lib.hid (heap_below hb9 Q8.out)
        have R9 := Lib.hid (R8.out.below hb9)
        have P9 := Lib.hid q9
        have HW9 := Lib.hid (HW8.out.trans (hb9.mono (by omega)))
        clear hW9 q9 hb9 H8 D8 Q8 R8 HW8
        generalize w8.heap.size = p11 at *
        go_wp2_with fail
        refine (HST.out _ _ _ _ H9.out).mono ?_
        rintro e w10 ⟨A10, c10, rfl, hrow10, hb10⟩
        have hm9 : mp < W9.heap.size := H9.out.lt
        have H10 := Lib.hid (H9.out.below hb10)
        have D10 := Lib.hid (D9.out.below hb10)
        have Q10 := Lib.hid (heap_below hb10 Q9.out)
        have R10 := Lib.hid (R9.out.below hb10)
        have P10 := Lib.hid (heap_below hb10 P9.out)
        have U10 := Lib.hid hrow10.rd
        have HW10 := Lib.hid (HW9.out.trans (hb10.mono (by omega)))
        clear hrow10 hb10 H9 D9 Q9 R9 P9 HW9
        simp only [stL]
        go_upto_region 17 with (fail)
        obtain ⟨W11, hW11, q11, hb11⟩ : ∃ W11, w10.alloc (.cells #[.int .i64 tk, .int .i64 te, .int .i64 F.kind, .int .u32 F.id, .bool F.ext, .bool F.rtr, .bool F.brs, .bool F.esi, .bool F.sec, .int .u8 F.sdt, .int .u8 F.vcid, .int .u32 F.af, .slice A10 F.data.length c10] 30) = W11 ∧ W11.heap[w10.heap.size]? = some (.cells #[.int .i64 tk, .int .i64 te, .int .i64 F.kind, .int .u32 F.id, .bool F.ext, .bool F.rtr, .bool F.brs, .bool F.esi, .bool F.sec, .int .u8 F.sdt, .int .u8 F.vcid, .int .u32 F.af, .slice A10 F.data.length c10] 30 (0, 0)) ∧ Below w10.heap.size w10 W11 := ⟨_, rfl, heap_new_at rfl, below_alloc (Below.refl _ _) _⟩
        rw [hW11]
        have hm10 : mp < w10.heap.size := H10.out.lt
        have H11 := Lib.hid (H10.out.below hb11)
        have D11 := Lib.hid (D10.out.below hb11)
        have Q11 := Lib.hid (heap_below hb11 Q10.out)
        have R11 := Lib.hid (R10.out.below hb11)
        have P11 := Lib.hid (heap_below hb11 P10.out)
        have U11 := Lib.hid (U10.out.below hb11)
        have V11 := Lib.hid q11
        have HW11 := Lib.hid (HW10.out.trans (hb11.mono (by omega)))
        clear hW11 q11 hb11 H10 D10 Q10 R10 P10 U10 HW10
        generalize w10.heap.size = p13 at *
        obtain ⟨a0, a1, a2, a3', a4', a5, a6, a7, a8, a9, a10, a11, a12⟩ := cells13 Q11.out
        obtain ⟨z0, z1, z2, z3, z4, z5, z6, z7, z8, z9, z10, z11, z12⟩ := cells13 P11.out
        have HS1 := Lib.hid (Same09_any tk te F A4 A8 c4 c8 W11 D11.out R11.out (by omega))
        go_wp2_with fail
        refine HS1.out.mono ?_
        rintro e w12 ⟨rfl, hb12⟩
        clear a0 a1 a2 a3' a4' a5 a6 a7 a8 a9 a10 a11 a12 z0 z1 z2 z3 z4 z5 z6 z7 z8 z9 z10 z11 z12
        have hm11 : mp < W11.heap.size := H11.out.lt
        have H12 := Lib.hid (H11.out.below hb12)
        have HW12 := Lib.hid (HW11.out.trans (hb12.mono (by omega)))
        have HS2 := Lib.hid (Same09_any tk te F A4 A10 c4 c10 w12 (D11.out.below hb12) (U11.out.below hb12) (by omega))
        obtain ⟨a0, a1, a2, a3', a4', a5, a6, a7, a8, a9, a10, a11, a12⟩ := cells13 (heap_below hb12 Q11.out)
        obtain ⟨z0, z1, z2, z3, z4, z5, z6, z7, z8, z9, z10, z11, z12⟩ := cells13 (heap_below hb12 V11.out)
        clear hb12 H11 D11 Q11 R11 P11 U11 V11 HW11 HS1
        go_wp2_with fail
        refine HS2.out.mono ?_
        rintro e w13 ⟨rfl, hb13⟩
        clear a0 a1 a2 a3' a4' a5 a6 a7 a8 a9 a10 a11 a12 z0 z1 z2 z3 z4 z5 z6 z7 z8 z9 z10 z11 z12
        have hm12 : mp < w12.heap.size := H12.out.lt
        have H13 := Lib.hid (H12.out.below hb13)
        have HW13 := Lib.hid (HW12.out.trans (hb13.mono (by omega)))
        clear hb13 H12 HW12 HS2
        go_wp2_with fail
        refine (HSEEN.out _ _ _ _ H13.out).mono ?_
        rintro e _ ⟨rfl, rfl⟩
        have HFIN : Hid (∃ s a, MR w13 s mp (setG (scanM xl (bitsOf (l0.take (k + 1)))) (A6, c6, bitsOf (l0.take (k + 1)))) a ∧ ∀ j ∈ s, mp ≤ j) := by show ∃ s a, _; rw [HNX2.out, HNX.out]; exact ⟨_, _, H13.out, N7.out⟩
        go_wp2_with fail
        go_roundw
        case rel => exact ⟨k + 1, m + 1, c6, A6, by omega, by go_num, rfl, by omega, by show _ = _; rw [HNX.out]; exact HLEN1.out, HFIN, HW13⟩
        case measure => simp [intOf]; omega
    · obtain rfl : n0 = k := by omega
      have HBW : Hid (Below w.heap.size w wr) := HB2.out.trans (HW.out.mono (by omega))
      clear HM HW
      go_wp2_with fail
      refine (HSN.out _).mono ?_
      rintro e w9 ⟨rfl, hb9⟩
      have HB9 := Lib.hid (below_alloc (below_trans HBW.out hb9) (.cells #[.int .i64 0, .int .i64 0, .int .i64 0, .int .u32 0, .bool false, .bool false, .bool false, .bool false, .bool false, .int .u8 0, .int .u8 0, .int .u32 0, .slice none 0 0] 30))
      clear hb9
      go_wp2_with fail
      refine (HTN.out _).mono ?_
      rintro e w10 ⟨rfl, hb10⟩
      have HB10 := Lib.hid (below_alloc (below_trans HB9.out hb10) (.cells #[.int .i64 0, .int .i64 0, .int .i64 0, .int .u32 0, .bool false, .bool false, .bool false, .bool false, .bool false, .int .u8 0, .int .u8 0, .int .u32 0, .slice none 0 0] 30))
      clear hb10
      go_wp2_with fail
      refine (HEN.out _).mono ?_
      rintro e _ ⟨rfl, rfl⟩
      go_wp2_with fail
      go_ret
      exact ⟨by first | rfl | simp, HB10.out⟩
end Go.Proofs.YtlmdkmflbhnlgaaGreat
