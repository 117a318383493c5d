/- scan's See: a bit is seen. No condition. -/
import Derived.Test.YtlmdkmflbhnlgaaGreatScanU
import Derived.Test.YtlmdkmflbhnlgaaGreatScanV
namespace Go.Proofs.YtlmdkmflbhnlgaaGreat
open Go.RowKit
variable {w : World} {s : List Nat} {mp : Nat} {S : MS} {a : MA}
/-- One of the calls that take a bit. -/
def StepCall (mp b : Nat) (v : Value) (W : World) (Q : Ending → World → Prop) : Prop :=
  (v = .func (.func 25) #[.pointer (some ⟨mp, 0, none⟩)] #[] ∧ Calls Tryz.prog 25 #[.pointer (some ⟨mp, 0, none⟩), .int .u8 b] W Q) ∨ (v = .func (.func 114) #[.pointer (some ⟨mp, 0, none⟩)] #[] ∧ Calls Tryz.prog 114 #[.pointer (some ⟨mp, 0, none⟩), .int .u8 b] W Q) ∨ (∃ x1 x2 x3 x4 x5, v = .func (.func 127) #[] #[.pointer (some ⟨x1, 0, none⟩), .pointer (some ⟨x2, 0, none⟩), .pointer (some ⟨x3, 0, none⟩), .pointer (some ⟨x4, 0, none⟩), .pointer (some ⟨x5, 0, none⟩)] ∧ Calls Tryz.prog 127 #[.int .u8 b, .pointer (some ⟨x1, 0, none⟩), .pointer (some ⟨x2, 0, none⟩), .pointer (some ⟨x3, 0, none⟩), .pointer (some ⟨x4, 0, none⟩), .pointer (some ⟨x5, 0, none⟩)] W Q) ∨ (∃ x1 x2 x3, v = .func (.func 131) #[] #[.pointer (some ⟨x1, 0, none⟩), .pointer (some ⟨x2, 0, none⟩), .pointer (some ⟨x3, 0, none⟩)] ∧ Calls Tryz.prog 131 #[.int .u8 b, .pointer (some ⟨x1, 0, none⟩), .pointer (some ⟨x2, 0, none⟩), .pointer (some ⟨x3, 0, none⟩)] W Q)
theorem mStep (h : MR w s mp S a) (ok : MOk S) (hk : S.kind < 2) (hr : S.raw.length ≤ 30000) (b : Nat) (hb : b ≤ 1) : StepCall mp b a.sv w (MDone w s mp (stepM S b)) := by
  have hx := h.rest.step
  have hst := ok.stp hk
  cases e : S.step with
  | dynamic =>
    rw [e] at hx hst
    obtain ⟨k1, k2, k3, k4⟩ := hst
    rw [stepM_dyn e]
    exact .inl ⟨hx, mDynamic h b _ _ rfl hr rfl (by omega) hb ok.l _ rfl k4⟩
  | last =>
    rw [e] at hx hst
    have k1 : S.at_ < 9 := hst
    rw [stepM_last e]
    exact .inr (.inl ⟨hx, mLast h b hb (by omega)⟩)
  | part prev ev ah size d =>
    rw [e] at hx hst
    obtain ⟨k1, k2, k3, k4, k5, k6, k7, k8⟩ := hst
    obtain ⟨p, q, r, u, t, dv, hv, b1, b2, b3, b4, b5, b6⟩ := hx
    have hsz : size ≤ 30000 := by
      cases d with
      | fd k =>
        obtain ⟨hk, rfl, rfl, hs⟩ := k4
        have e1 : fsize (4 + kSize 2) 4 true = 27 := rfl
        have e2 : fsize (4 + kSize 3) 4 true = 32 := rfl
        rcases hk with rfl | rfl <;> omega
      | xl1 =>
        obtain ⟨rfl, rfl, hs⟩ := k4
        have e1 : fsize 20 8 false = 22 := rfl
        omega
      | xl2 z =>
        obtain ⟨hz1, hz2, rfl, rfl, hs⟩ := k4
        have e1 : fsize (109 + 8 * z) 8 false = 122 + 9 * z := by unfold fsize; rw [if_neg (by omega), if_neg (by simp)]; omega
        omega
    rw [stepM_part e]
    exact .inr (.inr (.inl ⟨p, q, r, u, t, hv, mPartStep h p q r u t prev ev size b _ ah d dv b1 b2 b3 b4 b5 b6 k4 k1 hb k2 k3 rfl (by omega) ok.own k6 hr ok.raw k7 (by omega) ok.l⟩))
  | mark l x =>
    rw [e] at hx hst
    obtain ⟨k1, k2, k3, k4, k5, k6⟩ := hst
    obtain ⟨p, q, r, A, c, av, hv, b1, b2, b3, b4, b5⟩ := hx
    rw [stepM_mark e]
    exact .inr (.inr (.inr ⟨p, q, r, hv, mMarkStep h p q r A c _ l x av b b1 b2 b3 b4 b5 rfl (by omega) (by omega) k3⟩))
/-- What See and Status answer, and what they leave. -/
def SeeOf (w : World) (s : List Nat) (mp : Nat) (S : MS) (e : Ending) (w' : World) : Prop :=
  ∃ A c s' a', e = .returned (.tuple #[.agg (stL S.kind S.err S.sf A c).toArray, .int .i64 0]) ∧ MR w' s' mp S a' ∧ (∀ k ∈ s', k ∈ s ∨ w.heap.size ≤ k) ∧ Turn s w w' ∧ Row w' w.heap.size 5 A c (bys S.sf.data) ∧ ∀ k ∈ blkA A, k ∉ s'
theorem cells_of_stL (k e : Nat) (f : Fr) (A : Option Addr) (c : Nat) : (stL k e f A c).length = 13 := rfl
set_option maxRecDepth 100000 in
set_option maxHeartbeats 4000000 in
theorem mSee (h : MR w s mp S a) (ok : MOk S) (hn : S.seen ≤ 29000) (b : Nat) (hb : b ≤ 1) :
    Calls Tryz.prog 13 #[.pointer (some ⟨mp, 0, none⟩), .int .u8 b] w (SeeOf w s mp (seeM S b)) := by
  have hok := seeM_ok ok b hb
  have hsfd := hok.sfd
  obtain ⟨n, hnn⟩ : ∃ n, S.seen = n := ⟨_, rfl⟩
  obtain ⟨kd, hkd⟩ : ∃ kd, S.kind = kd := ⟨_, rfl⟩
  have c14 : w.cell? ⟨mp, 14, none⟩ = some (.int .i64 n) := h.cell 14 _ (by rw [← hnn]; rfl)
  have c1 : w.cell? ⟨mp, 1, none⟩ = some (.int .i64 kd) := h.cell 1 _ (by rw [← hkd]; rfl)
  have HS : Hid (seeM S b = if kd < 2 then stepM { S with seen := S.seen + 1 } b else { S with seen := S.seen + 1 }) := by show seeM S b = _; rw [← hkd]; rfl
  have HSTEP : Hid (∀ W a', MR W s mp { S with seen := S.seen + 1 } a' → kd < 2 → StepCall mp b a'.sv W (MDone W s mp (stepM { S with seen := S.seen + 1 } b))) := by
    show ∀ W a', _
    intro W a' hW hk
    exact mStep hW ok.saw (by show S.kind < 2; omega) (by show S.raw.length ≤ 30000; have := ok.rawn; omega) b hb
  have HDS : Hid ((mca S a).setIfInBounds 14 (.int .i64 (n + 1 : Nat)) = mca { S with seen := S.seen + 1 } a) := by
    show (mca S a).setIfInBounds 14 (.int .i64 (n + 1 : Nat)) = _
    rw [← hnn]; rfl
  have HSTAT := Lib.hid (fun W s' a' (hW : MR W s' mp (seeM S b) a') => mStatus hW (by omega))
  obtain ⟨T, hT⟩ : ∃ T, seeM S b = T := ⟨_, rfl⟩
  rw [hT] at HS HSTAT ⊢
  have HH := Lib.hid h
  have hmpl := h.lt
  have hb2 : b < 2 := by omega
  have hnl : n ≤ 30000 := by omega
  have HNN := Lib.hid hnn
  have HKD := Lib.hid hkd
  have HSM : Hid (∀ k ∈ s, k < w.heap.size) := h.rest.mem.2
  have gb : decide ((1 : Int) < (b : Int)) = false := by simp; omega
  clear h ok hok hsfd hn hb hT hnn hkd
  obtain ⟨tk, htk⟩ : ∃ tk, T.kind = tk := ⟨_, rfl⟩
  obtain ⟨te, hte⟩ : ∃ te, T.err = te := ⟨_, rfl⟩
  obtain ⟨F, htf⟩ : ∃ F, T.sf = F := ⟨_, rfl⟩
  rw [htk, hte, htf] at HSTAT
  have HTK := Lib.hid htk
  have HTE := Lib.hid hte
  have HTF := Lib.hid htf
  clear htk hte htf
  by_cases hk : kd < 2
  · have gk : decide ((kd : Int) < 2) = true := by simp; omega
    rw [if_pos hk] at HS
    have HKK := Lib.hid hk
    clear hk
    go_enter Tryz.func13, Tryz.ntmps13
    go_upto_region 1 with (fail)
    obtain ⟨W1, hW1, q1, hb1⟩ : ∃ W1, w.alloc (.cells #[.int .i64 0, .int .i64 0, .int .i64 0, .int .u32 0, .bool false, .bool false, .bool false, .bool false, .bool false, .int .u8 0, .int .u8 0, .int .u32 0, .slice none 0 0] 30) = W1 ∧ W1.heap[w.heap.size]? = some (.cells #[.int .i64 0, .int .i64 0, .int .i64 0, .int .u32 0, .bool false, .bool false, .bool false, .bool false, .bool false, .int .u8 0, .int .u8 0, .int .u32 0, .slice none 0 0] 30 (0, 0)) ∧ Below w.heap.size w W1 := ⟨_, rfl, heap_new_at rfl, below_alloc (Below.refl _ _) _⟩
    rw [hW1]
    have H1 := Lib.hid (HH.out.below hb1)
    have B1 := Lib.hid (BoxV.new q1 HSM.out (Nat.le_refl _))
    have HB1 := Lib.hid hb1
    have z14 : W1.cell? ⟨mp, 14, none⟩ = some (.int .i64 n) := Below.cell_of hb1 c14
    have z1 : W1.cell? ⟨mp, 1, none⟩ = some (.int .i64 kd) := Below.cell_of hb1 c1
    clear c14 c1 hW1 q1 hb1
    go_upto_region 7 with (first | (refine wpList_mputN H1.out rfl rfl 3 (.tmp 20) (.tmp 18) rfl 14 (.int .i64 (n + 1 : Nat)) (by kernel_rfl) (by kernel_rfl) rfl info_intS (by decide) { S with seen := S.seen + 1 } a HDS.out (fun _ _ hm => hm) ?_; intro W2 H2 T2; have y1 : W2.cell? ⟨mp, 1, none⟩ = some (.int .i64 kd) := H2.out.cell 1 _ (by rw [← HKD.out]; rfl); have B2 := Lib.hid (B1.out.turn T2.out (fun _ hk => .inl hk)); have hsz2 := T2.out.size) | fail)
    obtain ⟨hv, hcall⟩ | ⟨hv, hcall⟩ | ⟨x1, x2, x3, x4, x5, hv, hcall⟩ | ⟨x1, x2, x3, hv, hcall⟩ := HSTEP.out _ _ H2.out HKK.out
    · have y3 : W2.cell? ⟨mp, 15, none⟩ = some (.func (.func 25) #[.pointer (some ⟨mp, 0, none⟩)] #[]) := H2.out.cell 15 _ (by rw [← hv]; rfl)
      have HC := Lib.hid hcall
      clear hcall hv y1
      go_wp2_with fail
      refine HC.out.mono ?_
      rintro e w3 ⟨rfl, s3, a3, h3, n3, t3⟩
      have H3 : Hid (MR w3 s3 mp T a3) := HS.out ▸ h3
      have B3 := Lib.hid (B2.out.turn t3 n3)
      have N3 : Hid (∀ k ∈ s3, k ∈ s ∨ w.heap.size ≤ k) := fun k hk => (n3 k hk).imp id (fun h => Nat.le_trans HB1.out.size (Nat.le_trans hsz2 h))
      have T3 := Lib.hid (T2.out.tr t3)
      have HG3 : Hid (w.heap.size < w3.heap.size) := heap_lt B3.out.1
      clear h3 n3 t3 H1 H2 B2 B1 T2 z14 z1 hsz2
      go_wp2_with fail
      refine (HSTAT.out _ _ _ H3.out).mono ?_
      rintro e w6 ⟨A', c', rfl, hrow, hb6⟩
      have H6 := Lib.hid (H3.out.below hb6)
      have B6 := Lib.hid (B3.out.turn (Turn.of (s := s3) hb6) (fun _ hk => .inl hk))
      have T6 := Lib.hid (T3.out.tr (Turn.of (s := s) hb6))
      have HROW := Lib.hid hrow
      have HS3 : Hid (∀ k ∈ s3, k < w3.heap.size) := H3.out.rest.mem.2
      have hs03 : w.heap.size ≤ w3.heap.size := Nat.le_trans HB1.out.size T3.out.size
      clear hrow hb6 H3 B3 T3
      go_wp2_with (first
        | (refine wpList_bputs (g := w.heap.size) B6.out.1 rfl 30 (.tmp 4) (.tmp 35) rfl 0 13 (stL tk te F A' c') rfl (by kernel_rfl) (by kernel_rfl) info_statusE (by simp [stL, Value.oneCell']) (by simp) (stL tk te F A' c').toArray (by kernel_rfl) ?_; intro W7 Q7 T7)
        | fail)
      have hbx := Q7.out
      refine bodyPost_ret (v := .tuple #[.agg (stL tk te F A' c').toArray, .int .i64 0]) ?_ rfl ?_
      · obtain ⟨k0, k1, k2, k3, k4, k5, k6, k7, k8, k9, k10, k11, k12⟩ := cells13 hbx
        simp [results, Tryz.results13, go_sem, stL, *]
      · have hrk : ∀ k ∈ blkA A', w3.heap.size ≤ k := fun k hk => own_blk HROW.out k hk
        have hg3 : w.heap.size < w3.heap.size := HG3.out
        refine ⟨A', c', s3, a3, by rw [HTK.out, HTE.out, HTF.out], H6.out.turnG T7.out B6.out.1 B6.out.2, N3.out, ?_, ?_, ?_⟩
        · exact ((Turn.of (s := s) HB1.out).tr T6.out).trans (T7.out.mono (s' := [w.heap.size]) (fun _ h => .inl h)) (fun k hk => .inr (by simp at hk; omega))
        · rw [HTF.out]
          exact (HROW.out.mono hs03).turn T7.out (fun ad e hm => by simp at hm; have := hrk ad.block (by rw [e]; simp [blkA]); omega)
        · intro k hk hm
          have := hrk k hk
          have := HS3.out k hm
          omega
    · have y3 : W2.cell? ⟨mp, 15, none⟩ = some (.func (.func 114) #[.pointer (some ⟨mp, 0, none⟩)] #[]) := H2.out.cell 15 _ (by rw [← hv]; rfl)
      have HC := Lib.hid hcall
      clear hcall hv y1
      go_wp2_with fail
      refine HC.out.mono ?_
      rintro e w3 ⟨rfl, s3, a3, h3, n3, t3⟩
      have H3 : Hid (MR w3 s3 mp T a3) := HS.out ▸ h3
      have B3 := Lib.hid (B2.out.turn t3 n3)
      have N3 : Hid (∀ k ∈ s3, k ∈ s ∨ w.heap.size ≤ k) := fun k hk => (n3 k hk).imp id (fun h => Nat.le_trans HB1.out.size (Nat.le_trans hsz2 h))
      have T3 := Lib.hid (T2.out.tr t3)
      have HG3 : Hid (w.heap.size < w3.heap.size) := heap_lt B3.out.1
      clear h3 n3 t3 H1 H2 B2 B1 T2 z14 z1 hsz2
      go_wp2_with fail
      refine (HSTAT.out _ _ _ H3.out).mono ?_
      rintro e w6 ⟨A', c', rfl, hrow, hb6⟩
      have H6 := Lib.hid (H3.out.below hb6)
      have B6 := Lib.hid (B3.out.turn (Turn.of (s := s3) hb6) (fun _ hk => .inl hk))
      have T6 := Lib.hid (T3.out.tr (Turn.of (s := s) hb6))
      have HROW := Lib.hid hrow
      have HS3 : Hid (∀ k ∈ s3, k < w3.heap.size) := H3.out.rest.mem.2
      have hs03 : w.heap.size ≤ w3.heap.size := Nat.le_trans HB1.out.size T3.out.size
      clear hrow hb6 H3 B3 T3
      go_wp2_with (first
        | (refine wpList_bputs (g := w.heap.size) B6.out.1 rfl 30 (.tmp 4) (.tmp 35) rfl 0 13 (stL tk te F A' c') rfl (by kernel_rfl) (by kernel_rfl) info_statusE (by simp [stL, Value.oneCell']) (by simp) (stL tk te F A' c').toArray (by kernel_rfl) ?_; intro W7 Q7 T7)
        | fail)
      have hbx := Q7.out
      refine bodyPost_ret (v := .tuple #[.agg (stL tk te F A' c').toArray, .int .i64 0]) ?_ rfl ?_
      · obtain ⟨k0, k1, k2, k3, k4, k5, k6, k7, k8, k9, k10, k11, k12⟩ := cells13 hbx
        simp [results, Tryz.results13, go_sem, stL, *]
      · have hrk : ∀ k ∈ blkA A', w3.heap.size ≤ k := fun k hk => own_blk HROW.out k hk
        have hg3 : w.heap.size < w3.heap.size := HG3.out
        refine ⟨A', c', s3, a3, by rw [HTK.out, HTE.out, HTF.out], H6.out.turnG T7.out B6.out.1 B6.out.2, N3.out, ?_, ?_, ?_⟩
        · exact ((Turn.of (s := s) HB1.out).tr T6.out).trans (T7.out.mono (s' := [w.heap.size]) (fun _ h => .inl h)) (fun k hk => .inr (by simp at hk; omega))
        · rw [HTF.out]
          exact (HROW.out.mono hs03).turn T7.out (fun ad e hm => by simp at hm; have := hrk ad.block (by rw [e]; simp [blkA]); omega)
        · intro k hk hm
          have := hrk k hk
          have := HS3.out k hm
          omega
    · have y3 : W2.cell? ⟨mp, 15, none⟩ = some (.func (.func 127) #[] #[.pointer (some ⟨x1, 0, none⟩), .pointer (some ⟨x2, 0, none⟩), .pointer (some ⟨x3, 0, none⟩), .pointer (some ⟨x4, 0, none⟩), .pointer (some ⟨x5, 0, none⟩)]) := H2.out.cell 15 _ (by rw [← hv]; rfl)
      have HC := Lib.hid hcall
      clear hcall hv y1
      go_wp2_with fail
      refine HC.out.mono ?_
      rintro e w3 ⟨rfl, s3, a3, h3, n3, t3⟩
      have H3 : Hid (MR w3 s3 mp T a3) := HS.out ▸ h3
      have B3 := Lib.hid (B2.out.turn t3 n3)
      have N3 : Hid (∀ k ∈ s3, k ∈ s ∨ w.heap.size ≤ k) := fun k hk => (n3 k hk).imp id (fun h => Nat.le_trans HB1.out.size (Nat.le_trans hsz2 h))
      have T3 := Lib.hid (T2.out.tr t3)
      have HG3 : Hid (w.heap.size < w3.heap.size) := heap_lt B3.out.1
      clear h3 n3 t3 H1 H2 B2 B1 T2 z14 z1 hsz2
      go_wp2_with fail
      refine (HSTAT.out _ _ _ H3.out).mono ?_
      rintro e w6 ⟨A', c', rfl, hrow, hb6⟩
      have H6 := Lib.hid (H3.out.below hb6)
      have B6 := Lib.hid (B3.out.turn (Turn.of (s := s3) hb6) (fun _ hk => .inl hk))
      have T6 := Lib.hid (T3.out.tr (Turn.of (s := s) hb6))
      have HROW := Lib.hid hrow
      have HS3 : Hid (∀ k ∈ s3, k < w3.heap.size) := H3.out.rest.mem.2
      have hs03 : w.heap.size ≤ w3.heap.size := Nat.le_trans HB1.out.size T3.out.size
      clear hrow hb6 H3 B3 T3
      go_wp2_with (first
        | (refine wpList_bputs (g := w.heap.size) B6.out.1 rfl 30 (.tmp 4) (.tmp 35) rfl 0 13 (stL tk te F A' c') rfl (by kernel_rfl) (by kernel_rfl) info_statusE (by simp [stL, Value.oneCell']) (by simp) (stL tk te F A' c').toArray (by kernel_rfl) ?_; intro W7 Q7 T7)
        | fail)
      have hbx := Q7.out
      refine bodyPost_ret (v := .tuple #[.agg (stL tk te F A' c').toArray, .int .i64 0]) ?_ rfl ?_
      · obtain ⟨k0, k1, k2, k3, k4, k5, k6, k7, k8, k9, k10, k11, k12⟩ := cells13 hbx
        simp [results, Tryz.results13, go_sem, stL, *]
      · have hrk : ∀ k ∈ blkA A', w3.heap.size ≤ k := fun k hk => own_blk HROW.out k hk
        have hg3 : w.heap.size < w3.heap.size := HG3.out
        refine ⟨A', c', s3, a3, by rw [HTK.out, HTE.out, HTF.out], H6.out.turnG T7.out B6.out.1 B6.out.2, N3.out, ?_, ?_, ?_⟩
        · exact ((Turn.of (s := s) HB1.out).tr T6.out).trans (T7.out.mono (s' := [w.heap.size]) (fun _ h => .inl h)) (fun k hk => .inr (by simp at hk; omega))
        · rw [HTF.out]
          exact (HROW.out.mono hs03).turn T7.out (fun ad e hm => by simp at hm; have := hrk ad.block (by rw [e]; simp [blkA]); omega)
        · intro k hk hm
          have := hrk k hk
          have := HS3.out k hm
          omega
    · have y3 : W2.cell? ⟨mp, 15, none⟩ = some (.func (.func 131) #[] #[.pointer (some ⟨x1, 0, none⟩), .pointer (some ⟨x2, 0, none⟩), .pointer (some ⟨x3, 0, none⟩)]) := H2.out.cell 15 _ (by rw [← hv]; rfl)
      have HC := Lib.hid hcall
      clear hcall hv y1
      go_wp2_with fail
      refine HC.out.mono ?_
      rintro e w3 ⟨rfl, s3, a3, h3, n3, t3⟩
      have H3 : Hid (MR w3 s3 mp T a3) := HS.out ▸ h3
      have B3 := Lib.hid (B2.out.turn t3 n3)
      have N3 : Hid (∀ k ∈ s3, k ∈ s ∨ w.heap.size ≤ k) := fun k hk => (n3 k hk).imp id (fun h => Nat.le_trans HB1.out.size (Nat.le_trans hsz2 h))
      have T3 := Lib.hid (T2.out.tr t3)
      have HG3 : Hid (w.heap.size < w3.heap.size) := heap_lt B3.out.1
      clear h3 n3 t3 H1 H2 B2 B1 T2 z14 z1 hsz2
      go_wp2_with fail
      refine (HSTAT.out _ _ _ H3.out).mono ?_
      rintro e w6 ⟨A', c', rfl, hrow, hb6⟩
      have H6 := Lib.hid (H3.out.below hb6)
      have B6 := Lib.hid (B3.out.turn (Turn.of (s := s3) hb6) (fun _ hk => .inl hk))
      have T6 := Lib.hid (T3.out.tr (Turn.of (s := s) hb6))
      have HROW := Lib.hid hrow
      have HS3 : Hid (∀ k ∈ s3, k < w3.heap.size) := H3.out.rest.mem.2
      have hs03 : w.heap.size ≤ w3.heap.size := Nat.le_trans HB1.out.size T3.out.size
      clear hrow hb6 H3 B3 T3
      go_wp2_with (first
        | (refine wpList_bputs (g := w.heap.size) B6.out.1 rfl 30 (.tmp 4) (.tmp 35) rfl 0 13 (stL tk te F A' c') rfl (by kernel_rfl) (by kernel_rfl) info_statusE (by simp [stL, Value.oneCell']) (by simp) (stL tk te F A' c').toArray (by kernel_rfl) ?_; intro W7 Q7 T7)
        | fail)
      have hbx := Q7.out
      refine bodyPost_ret (v := .tuple #[.agg (stL tk te F A' c').toArray, .int .i64 0]) ?_ rfl ?_
      · obtain ⟨k0, k1, k2, k3, k4, k5, k6, k7, k8, k9, k10, k11, k12⟩ := cells13 hbx
        simp [results, Tryz.results13, go_sem, stL, *]
      · have hrk : ∀ k ∈ blkA A', w3.heap.size ≤ k := fun k hk => own_blk HROW.out k hk
        have hg3 : w.heap.size < w3.heap.size := HG3.out
        refine ⟨A', c', s3, a3, by rw [HTK.out, HTE.out, HTF.out], H6.out.turnG T7.out B6.out.1 B6.out.2, N3.out, ?_, ?_, ?_⟩
        · exact ((Turn.of (s := s) HB1.out).tr T6.out).trans (T7.out.mono (s' := [w.heap.size]) (fun _ h => .inl h)) (fun k hk => .inr (by simp at hk; omega))
        · rw [HTF.out]
          exact (HROW.out.mono hs03).turn T7.out (fun ad e hm => by simp at hm; have := hrk ad.block (by rw [e]; simp [blkA]); omega)
        · intro k hk hm
          have := hrk k hk
          have := HS3.out k hm
          omega
  · have gk : decide ((kd : Int) < 2) = false := by simp; omega
    rw [if_neg hk] at HS
    clear hk
    go_enter Tryz.func13, Tryz.ntmps13
    go_upto_region 1 with (fail)
    obtain ⟨W1, hW1, q1, hb1⟩ : ∃ W1, w.alloc (.cells #[.int .i64 0, .int .i64 0, .int .i64 0, .int .u32 0, .bool false, .bool false, .bool false, .bool false, .bool false, .int .u8 0, .int .u8 0, .int .u32 0, .slice none 0 0] 30) = W1 ∧ W1.heap[w.heap.size]? = some (.cells #[.int .i64 0, .int .i64 0, .int .i64 0, .int .u32 0, .bool false, .bool false, .bool false, .bool false, .bool false, .int .u8 0, .int .u8 0, .int .u32 0, .slice none 0 0] 30 (0, 0)) ∧ Below w.heap.size w W1 := ⟨_, rfl, heap_new_at rfl, below_alloc (Below.refl _ _) _⟩
    rw [hW1]
    have H1 := Lib.hid (HH.out.below hb1)
    have B1 := Lib.hid (BoxV.new q1 HSM.out (Nat.le_refl _))
    have HB1 := Lib.hid hb1
    have z14 : W1.cell? ⟨mp, 14, none⟩ = some (.int .i64 n) := Below.cell_of hb1 c14
    have z1 : W1.cell? ⟨mp, 1, none⟩ = some (.int .i64 kd) := Below.cell_of hb1 c1
    clear c14 c1 hW1 q1 hb1
    have hs3 : MR W1 s mp S a := H1.out
    go_wp2_with (first | (refine wpList_mputN H1.out rfl rfl 3 (.tmp 20) (.tmp 18) rfl 14 (.int .i64 (n + 1 : Nat)) (by kernel_rfl) (by kernel_rfl) rfl info_intS (by decide) { S with seen := S.seen + 1 } a HDS.out (fun _ _ hm => hm) ?_; intro W2 H2 T2; have y1 : W2.cell? ⟨mp, 1, none⟩ = some (.int .i64 kd) := H2.out.cell 1 _ (by rw [← HKD.out]; rfl); have B2 := Lib.hid (B1.out.turn T2.out (fun _ hk => .inl hk)); have hsz2 := T2.out.size) | fail)
    obtain ⟨s3, a3, h3, hs3'⟩ : ∃ s3 a3, MR W2 s3 mp T a3 ∧ s = s3 := ⟨s, a, HS.out ▸ H2.out, rfl⟩
    have H3 := Lib.hid h3
    have B3 : Hid (BoxV W2 s3 w.heap.size _ 30) := hs3' ▸ B2.out
    have N3 : Hid (∀ k ∈ s3, k ∈ s ∨ w.heap.size ≤ k) := fun k hk => .inl (hs3' ▸ hk)
    have T3 := Lib.hid T2.out
    have HG3 : Hid (w.heap.size < W2.heap.size) := heap_lt B3.out.1
    clear h3 hs3 hs3' H1 H2 B2 B1 T2 z14 z1 hsz2 y1
    refine (HSTAT.out _ _ _ H3.out).mono ?_
    rintro e w6 ⟨A', c', rfl, hrow, hb6⟩
    have H6 := Lib.hid (H3.out.below hb6)
    have B6 := Lib.hid (B3.out.turn (Turn.of (s := s3) hb6) (fun _ hk => .inl hk))
    have T6 := Lib.hid (T3.out.tr (Turn.of (s := s) hb6))
    have HROW := Lib.hid hrow
    have HS3 : Hid (∀ k ∈ s3, k < W2.heap.size) := H3.out.rest.mem.2
    have hs03 : w.heap.size ≤ W2.heap.size := Nat.le_trans HB1.out.size T3.out.size
    clear hrow hb6 H3 B3 T3
    go_wp2_with (first
      | (refine wpList_bputs (g := w.heap.size) B6.out.1 rfl 30 (.tmp 4) (.tmp 35) rfl 0 13 (stL tk te F A' c') rfl (by kernel_rfl) (by kernel_rfl) info_statusE (by simp [stL, Value.oneCell']) (by simp) (stL tk te F A' c').toArray (by kernel_rfl) ?_; intro W7 Q7 T7)
      | fail)
    have hbx := Q7.out
    refine bodyPost_ret (v := .tuple #[.agg (stL tk te F A' c').toArray, .int .i64 0]) ?_ rfl ?_
    · obtain ⟨k0, k1, k2, k3, k4, k5, k6, k7, k8, k9, k10, k11, k12⟩ := cells13 hbx
      simp [results, Tryz.results13, go_sem, stL, *]
    · have hrk : ∀ k ∈ blkA A', W2.heap.size ≤ k := fun k hk => own_blk HROW.out k hk
      have hg3 : w.heap.size < W2.heap.size := HG3.out
      refine ⟨A', c', s3, a3, by rw [HTK.out, HTE.out, HTF.out], H6.out.turnG T7.out B6.out.1 B6.out.2, N3.out, ?_, ?_, ?_⟩
      · exact ((Turn.of (s := s) HB1.out).tr T6.out).trans (T7.out.mono (s' := [w.heap.size]) (fun _ h => .inl h)) (fun k hk => .inr (by simp at hk; omega))
      · rw [HTF.out]
        exact (HROW.out.mono hs03).turn T7.out (fun ad e hm => by simp at hm; have := hrk ad.block (by rw [e]; simp [blkA]); omega)
      · intro k hk hm
        have := hrk k hk
        have := HS3.out k hm
        omega
end Go.Proofs.YtlmdkmflbhnlgaaGreat
namespace Go.Proofs.YtlmdkmflbhnlgaaGreat
open Go.RowKit
/-- What Scan answers. -/
def ScanOf (w : World) (xl : Bool) (raw : List Nat) (e : Ending) (w' : World) : Prop :=
  ((bitsOk raw = true ∧ ∃ A c, e = .returned (.tuple #[.agg (stL (scanM xl raw).kind (scanM xl raw).err (scanM xl raw).sf A c).toArray, .int .i64 0]) ∧ Row w' w.heap.size 5 A c (bys (scanM xl raw).sf.data)) ∨
    (bitsOk raw = false ∧ e = .returned (.tuple #[.agg (stL 0 0 zFr none 0).toArray, .int .i64 2]))) ∧ Below w.heap.size w w'
theorem bitsOk_mem {l : List Nat} (h : bitsOk l = true) : ∀ x ∈ l, x ≤ 1 := by
  unfold bitsOk at h
  rw [Bool.and_eq_true, decide_eq_true_eq, decide_eq_true_eq] at h
  exact h.2
set_option maxRecDepth 100000 in
set_option maxHeartbeats 4000000 in
theorem mScan (w : World) (A : Option Addr) (c n : Nat) (raw : List Nat) (xl : Bool) (hr : Rd w A (bys raw)) (hn : raw.length = n) (hn2 : n ≤ 29000) :
    Calls Tryz.prog 10 #[.slice A n c, .bool xl] w (ScanOf w xl raw) := by
  have HCK := Lib.hid (fun W (hW : Rd W A (bys raw)) => BitsCheck_any A n c raw W hW hn (by omega))
  have HR := Lib.hid hr
  have HN := Lib.hid hn
  obtain ⟨ok, hok⟩ : ∃ ok, bitsOk raw = ok := ⟨_, rfl⟩
  rw [hok] at HCK
  have HOK := Lib.hid hok
  clear hr hn hok
  cases ok
  · simp only [Bool.false_eq_true, if_false] at HCK
    go_enter Tryz.func10, Tryz.ntmps10
    go_wp2_with fail
    refine calls_blk1 fun W1 q1 hb1 => ?_
    refine (HCK.out _ (HR.out.below hb1)).mono ?_
    rintro e _ ⟨rfl, rfl⟩
    have Q1 := Lib.hid q1
    have HB1 := Lib.hid hb1
    clear q1 hb1
    go_wp2_with (first
      | (refine wpList_bputs (g := w.heap.size) Q1.out rfl 30 (.tmp 4) (.tmp 14) rfl 0 13 (stL 0 0 zFr none 0) rfl (by kernel_rfl) (by kernel_rfl) info_statusE (by simp [stL, Value.oneCell']) (by simp) (stL 0 0 zFr none 0).toArray (by kernel_rfl) ?_; intro W7 Q7 T7)
      | fail)
    have hbx := Q7.out
    refine bodyPost_ret (v := .tuple #[.agg (stL 0 0 zFr none 0).toArray, .int .i64 2]) ?_ rfl ?_
    · obtain ⟨k0, k1, k2, k3, k4, k5, k6, k7, k8, k9, k10, k11, k12⟩ := cells13 hbx
      simp [results, Tryz.results10, go_sem, stL, *]
    · exact ⟨.inr ⟨HOK.out, rfl⟩, Below.trans HB1.out (T7.out.below (fun x hx => by simp at hx; omega) HB1.out.size)⟩
  · simp only [if_true] at HCK
    go_enter Tryz.func10, Tryz.ntmps10
    go_wp2_with fail
    refine calls_blk1 fun W1 q1 hb1 => ?_
    refine (HCK.out _ (HR.out.below hb1)).mono ?_
    rintro e _ ⟨rfl, rfl⟩
    have Q1 := Lib.hid q1
    have HB1 := Lib.hid hb1
    clear q1 hb1
    go_wp2_with fail
    refine (mNew xl W1).mono ?_
    rintro e w2 ⟨rfl, ⟨s2, a2, h2, n2⟩, hb2⟩
    have hw1 : w.heap.size < W1.heap.size := heap_lt Q1.out
    have HB2 : Hid (Below w.heap.size w w2) := HB1.out.trans (hb2.mono (by omega))
    have HQ2 := Lib.hid (heap_below hb2 Q1.out)
    have HRW2 := Lib.hid ((HR.out.below HB1.out).below hb2)
    have HM2 : Hid (∃ s a, MR w2 s W1.heap.size (scanM xl (raw.take 0)) a ∧ ∀ k ∈ s, W1.heap.size ≤ k) := ⟨s2, a2, h2, n2⟩
    have hw2 : W1.heap.size < w2.heap.size := h2.lt
    clear h2 n2 hb2
    generalize W1.heap.size = mp at *
    go_wp2_with fail
    go_loopw [9, 20] (fun bv iv wr => ∃ k : Nat, k ≤ n ∧ iv = .int .i64 k ∧ Hid (∃ s a, MR wr s mp (scanM xl (raw.take k)) a ∧ ∀ j ∈ s, mp ≤ j) ∧ Hid (Below mp w2 wr)) (fun _ iv _ => n - (intOf iv).toNat)
    case atStart => exact ⟨0, by omega, rfl, HM2, Below.refl _ _⟩
    case round =>
      obtain ⟨k, hk, rfl, HM, HW⟩ := hrel
      by_cases hkn : k < n
      · have hkl : k < raw.length := by rw [HN.out]; exact hkn
        have hbw : Below w.heap.size w wr := HB2.out.trans (HW.out.mono (by omega))
        obtain ⟨ad, rfl, ca⟩ := (HR.out.below hbw).at_ k hkl
        have hx := bitsOk_mem HOK.out raw[k] (List.getElem_mem hkl)
        have htk : raw.take (k + 1) = raw.take k ++ [raw[k]] := List.take_succ_eq_append_getElem hkl
        obtain ⟨x, hxe⟩ : ∃ x, raw[k] = x := ⟨_, rfl⟩
        rw [hxe] at ca hx htk
        obtain ⟨s3, a3, h3, n3⟩ := HM.out
        have hok3 : MOk (scanM xl (raw.take k)) := scanM_ok xl _ (fun y hy => bitsOk_mem HOK.out y (List.mem_of_mem_take hy))
        have hsee := mSee h3 hok3 (by rw [scanM_seen, List.length_take]; omega) x hx
        rw [← scanM_snoc, ← htk] at hsee
        have HSEE := Lib.hid hsee
        have N3 := Lib.hid n3
        have hmw := h3.lt
        clear hxe htk hsee hok3 h3 n3 hbw hkl
        go_wp2_with fail
        refine HSEE.out.mono ?_
        rintro e w4 ⟨A4, c4, s4, a4, rfl, h4, n4, t4, -, -⟩
        have HM4 : Hid (∃ s a, MR w4 s mp (scanM xl (raw.take (k + 1))) a ∧ ∀ j ∈ s, mp ≤ j) := ⟨s4, a4, h4, fun j hj => (n4 j hj).elim (N3.out j) (fun h => by omega)⟩
        have HW4 : Hid (Below mp w2 w4) := HW.out.trans (t4.below N3.out (by omega))
        clear h4 n4 t4
        go_wp2_with fail
        go_roundw
        case rel => exact ⟨k + 1, by omega, by go_num, HM4, HW4⟩
        case measure => simp [intOf]; omega
      · obtain rfl : n = k := by omega
        obtain ⟨s3, a3, h3, n3⟩ := HM.out
        rw [← HN.out, List.take_length] at h3
        have hok3 : MOk (scanM xl raw) := scanM_ok xl _ (fun y hy => bitsOk_mem HOK.out y hy)
        have hst := mStatus h3 (by have := hok3.sfd; omega)
        have HBW : Hid (Below w.heap.size w wr) := HB2.out.trans (HW.out.mono (by omega))
        have HQ3 : Hid (wr.heap[w.heap.size]? = _) := heap_belowG HW.out hw1 HQ2.out
        obtain ⟨tk, htk⟩ : ∃ tk, (scanM xl raw).kind = tk := ⟨_, rfl⟩
        obtain ⟨te, hte⟩ : ∃ te, (scanM xl raw).err = te := ⟨_, rfl⟩
        obtain ⟨F, htf⟩ : ∃ F, (scanM xl raw).sf = F := ⟨_, rfl⟩
        rw [htk, hte, htf] at hst
        have HTK := Lib.hid htk
        have HTE := Lib.hid hte
        have HTF := Lib.hid htf
        have HST := Lib.hid hst
        have hww : mp < wr.heap.size := h3.lt
        clear htk hte htf hst h3 n3 hok3 HM
        go_wp2_with fail
        refine HST.out.mono ?_
        rintro e w6 ⟨A', c', rfl, hrow, hb6⟩
        have HROW := Lib.hid hrow
        have HQ6 := Lib.hid (heap_below hb6 HQ3.out)
        have HB6 := Lib.hid (below_trans HBW.out hb6)
        clear hrow hb6
        go_wp2_with (first
          | (refine wpList_bputs (g := w.heap.size) HQ6.out rfl 30 (.tmp 4) (.tmp 30) rfl 0 13 (stL tk te F A' c') rfl (by kernel_rfl) (by kernel_rfl) info_statusE (by simp [stL, Value.oneCell']) (by simp) (stL tk te F A' c').toArray (by kernel_rfl) ?_; intro W7 Q7 T7)
          | fail)
        have hbx := Q7.out
        refine bodyPost_ret (v := .tuple #[.agg (stL tk te F A' c').toArray, .int .i64 0]) ?_ rfl ?_
        · obtain ⟨k0, k1, k2, k3, k4, k5, k6, k7, k8, k9, k10, k11, k12⟩ := cells13 hbx
          simp [results, Tryz.results10, go_sem, stL, *]
        · refine ⟨.inl ⟨HOK.out, A', c', by rw [HTK.out, HTE.out, HTF.out], ?_⟩, Below.trans HB6.out (T7.out.below (fun x hx => by simp at hx; omega) HB6.out.size)⟩
          rw [HTF.out]
          exact (HROW.out.mono (by omega)).turn T7.out (fun ad e hm => by simp at hm; have := own_blk HROW.out ad.block (by rw [e]; simp [blkA]); omega)
end Go.Proofs.YtlmdkmflbhnlgaaGreat
