/- bits.Run: how many bits alike a row ends with. No condition. -/
import Derived.Test.YtlmdkmflbhnlgaaGreatRun
namespace Go.Proofs.YtlmdkmflbhnlgaaGreat
open Go.RowKit
attribute [local go_sem] Oper.semAt_some
/-- The k-th bit from behind. -/
def endN (l : List Nat) (k : Nat) : Nat := (l[l.length - 1 - k]?).getD 0
abbrev backV (l : List Nat) (x : Nat) : Array Value := #[.int .i64 ((l.length - 1 - x : Nat) : Int), .int .u8 (endN l x : Nat)]
theorem keep_drewN {B b : Nat} (w : World) (k : Nat) : Keep B b w (w.drewN k) := ⟨rfl, rfl, rfl, Nat.le_refl _, fun _ _ _ => rfl⟩
set_option maxRecDepth 100000 in
set_option maxHeartbeats 2000000 in
theorem back1_in (n : Nat) (hn : 1 ≤ n) (lp Bs n₀ x₀ b off len cap : Nat) (l : List Nat) (hlen : l.length = len) (hl : len ≤ 1000000) (hBsn : Bs < n₀ ∧ Bs ≠ x₀) (hb : 0 < len → b < n₀ ∧ b ≠ x₀) (A : Option Addr) (hA : 0 < len → A = some ⟨b, off, none⟩) (J Jx : List Nat → World → Prop)
    (hY : ∀ pre x W, J pre W → pre.length < len → YieldAt Fence.wide (n - 1) Tryz.prog lp (backV l x) W fun e W' =>
      (e = .returned (.bool true) ∧ J (pre ++ [x]) W' ∧ Keep n₀ x₀ W W') ∨ (e = .returned (.bool false) ∧ Jx (pre ++ [x]) W'))
    (W : World) (hBs : W.cell? ⟨Bs, 0, none⟩ = some (.slice A len cap)) (hc : ∀ j, j < len → W.cell? ⟨b, off + j, none⟩ = some (.int .u8 ((l[j]?).getD 0 : Nat))) (h0 : J [] W) :
    CallsIn Fence.wide n Tryz.prog 94 #[.func (.yield lp) #[] #[], .pointer (some ⟨Bs, 0, none⟩)] W fun e W' => (∃ v, e = .returned v) ∧
      ((∃ ys, ys = List.range len ∧ J ys W') ∨ (∃ pre, (∃ k, k ≤ len ∧ pre = List.range k) ∧ Jx pre W')) := by
  refine callsIn_of_wp Tryz.func94 rfl trivial ?_ rfl
  simp only [Tryz.ntmps94, List.size_toArray, List.length_cons, List.length_nil, Nat.reduceAdd, Nat.reduceSub, Array.replicate_succ, Array.replicate_zero, List.push_toArray, List.append_toArray, List.nil_append, List.cons_append]
  have HL := Lib.hid hlen
  have HC := Lib.hid hc
  have HB := Lib.hid hb
  have HA := Lib.hid hA
  have H0 := Lib.hid h0
  clear hlen hc hb hA h0
  gi_wp2
  gi_loopw [3] (fun i wr => ∃ k : Nat, k ≤ len ∧ i = .int .i64 ((len : Int) - 1 - k) ∧ Hid (J (List.range k) wr) ∧ Hid (Keep n₀ x₀ W wr)) (fun i _ => (intOf i + 1).toNat)
  case atStart => exact ⟨0, Nat.zero_le _, by simp, H0.out, Keep.refl _ _ _⟩
  case round =>
    obtain ⟨k, hk, rfl, hJs, hnx⟩ := hrel
    have c1 : wr.cell? ⟨Bs, 0, none⟩ = some (.slice A len cap) := hnx.out.cell_of hBs hBsn.1 hBsn.2
    by_cases hlt : k < len
    · obtain ⟨q, hq⟩ : ∃ q, len - 1 - k = q := ⟨_, rfl⟩
      have hqi : (len : Int) - 1 - k = (q : Int) := by omega
      have hA2 := HA.out (by omega)
      have hb2 := HB.out (by omega)
      subst hA2
      have cq : wr.cell? ⟨b, off + q, none⟩ = some (.int .u8 ((l[q]?).getD 0 : Nat)) := hnx.out.cell_of (HC.out q (by omega)) hb2.1 hb2.2
      obtain ⟨fn, tmps, assign, body, hy, hR⟩ := hY _ k wr hJs.out (by rw [List.length_range]; exact hlt)
      have hen : endN l k = (l[q]?).getD 0 := by unfold endN; rw [HL.out, hq]
      dsimp only [backV] at hy
      rw [HL.out, hq, hen] at hy
      obtain ⟨v, hv⟩ : ∃ v, (l[q]?).getD 0 = v := ⟨_, rfl⟩
      rw [hv] at hy cq
      have hql : (q : Int) < (len : Int) := by omega
      rw [hqi]
      have HQI := Lib.hid hqi
      clear hq hqi hen hv hBs
      gi_wp2
      refine hR.mono ?_
      rintro e W3 (⟨rfl, hJ3, hk3⟩ | ⟨rfl, hJx3⟩)
      · have HJ3 := Lib.hid hJ3
        have HK3 := Lib.hid hk3
        clear hJ3 hk3
        gi_wp2
        go_roundw
        case rel => exact ⟨k + 1, by omega, by have := HQI.out; first | (congr 1; omega) | go_num, by show J _ _; rw [List.range_succ]; exact HJ3.out, hnx.out.trans HK3.out⟩
        case measure => (simp [intOf] <;> omega)
      · have HJX := Lib.hid hJx3
        clear hJx3
        gi_wp2
        refine bodyPost_ret (results_none rfl _ _ _) rfl ?_
        exact ⟨⟨_, rfl⟩, .inr ⟨_, ⟨k + 1, by omega, rfl⟩, by rw [List.range_succ]; exact HJX.out⟩⟩
    · obtain rfl : len = k := by omega
      have hi : (len : Int) - 1 - len = -1 := by omega
      rw [hi]
      clear hi hBs
      gi_wp2
      go_end0
      exact ⟨⟨_, rfl⟩, .inl ⟨_, rfl, hJs.out⟩⟩
theorem Back_any (A : Option Addr) (len cap : Nat) (w : World) :
    Calls Tryz.prog 71 #[.slice A len cap] w fun e w' => e = .returned (.func (.func 94) #[] #[.pointer (some ⟨w.heap.size, 0, none⟩)]) ∧ w.alloc (.cells #[.slice A len cap] 22) = w' := by
  go_enter Tryz.func71, Tryz.ntmps71
  go_wp2_with fail
  go_ret
  exact ⟨rfl, rfl⟩
theorem back_stops (n : Nat) (hn : 1 ≤ n) (Bs n₀ x₀ b off len cap : Nat) (l : List Nat) (hlen : l.length = len) (hl : len ≤ 1000000) (hBsn : Bs < n₀ ∧ Bs ≠ x₀) (hb : 0 < len → b < n₀ ∧ b ≠ x₀) (A : Option Addr) (hA : 0 < len → A = some ⟨b, off, none⟩) (w : World)
    (hBs : w.cell? ⟨Bs, 0, none⟩ = some (.slice A len cap)) (hc : ∀ j, j < len → w.cell? ⟨b, off + j, none⟩ = some (.int .u8 ((l[j]?).getD 0 : Nat))) :
    SeqStopsK Fence.wide n Tryz.prog 94 #[.pointer (some ⟨Bs, 0, none⟩)] (backV l) (Keep n₀ x₀) (fun ys => ys = List.range len)
      (fun pre => ∃ k, k ≤ len ∧ pre = List.range k) len w := fun lp J Jx W hW hJ _ hY h0 =>
  back1_in n hn lp Bs n₀ x₀ b off len cap l hlen hl hBsn hb A hA J Jx hY W (Below.cell_of hW hBs) (fun j hj => Below.cell_of hW (hc j hj)) h0
/-- Does a row end with just r bits alike? -/
def RunIs (l : List Nat) (r : Nat) : Prop := r ≤ l.length ∧ (∀ j, j < r → endN l j = endN l 0) ∧ (r < l.length → endN l r ≠ endN l 0)
set_option maxRecDepth 100000 in
set_option maxHeartbeats 4000000 in
theorem runBits_any (b off n c : Nat) (A : Option Addr) (l : List Nat) (w : World) (hA : 0 < n → A = some ⟨b, off, none⟩) (hn : l.length = n) (hn2 : n ≤ 1000000) (hr : Rd w A (bys l)) :
    Calls Tryz.prog 47 #[.slice A n c] w fun e w' => (∃ r : Nat, e = .returned (.int .i64 r) ∧ RunIs l r) ∧ Below w.heap.size w w' := by
  by_cases h0 : n = 0
  · subst h0
    have hl : l = [] := List.eq_nil_of_length_eq_zero hn
    subst hl
    clear hA hr hn
    go_enter Tryz.func47, Tryz.ntmps47
    go_wp2_with fail
    go_ret
    exact ⟨⟨0, rfl, by simp, fun j h => absurd h (by omega), fun h => absurd h (by simp)⟩, Below.refl _ _⟩
  · have hA2 := hA (by omega)
    subst hA2
    have hcell : ∀ j, j < n → w.cell? ⟨b, off + j, none⟩ = some (.int .u8 ((l[j]?).getD 0 : Nat)) := by
      intro j hj
      obtain ⟨ad, e, hc⟩ := hr j (.int .u8 (l[j]'(by omega) : Int)) (bys_get l j (by omega))
      injection e with e
      subst e
      rw [List.getElem?_eq_getElem (by omega), Option.getD_some, ← hc]
      congr 1
      unfold Addr.add
      by_cases hj0 : j = 0 <;> simp [hj0]
    have hbw : b < w.heap.size := cell_lt (hcell 0 (by omega))
    obtain ⟨q, hq⟩ : ∃ q, n - 1 = q := ⟨_, rfl⟩
    have hqi : IntKind.i64.wrap ((n : Int) - 1) = (q : Int) := by rw [IntWalk.i64_in _ (by omega)]; omega
    have cq := hcell q (by omega)
    have hlast : endN l 0 = (l[q]?).getD 0 := by unfold endN; rw [hn, ← hq]; rfl
    obtain ⟨last, hla⟩ : ∃ last, (l[q]?).getD 0 = last := ⟨_, rfl⟩
    rw [hla] at cq hlast
    have hql : (q : Int) < (n : Int) := by omega
    have hn0 : ((n : Int) == 0) = false := by rw [beq_eq_false_iff_ne]; omega
    have HLAST := Lib.hid hlast
    have HN := Lib.hid hn
    have HC := Lib.hid hcell
    have HQ := Lib.hid hq
    have HQI := Lib.hid hqi
    have hq2 : (n : Int) - 1 = (q : Int) := by omega
    clear hA hr hlast hn hcell hq hla h0 hqi
    refine (callsIn_wide (n := 5)).1 ?_
    refine callsIn_of_wp_marks Tryz.func47 rfl trivial ?_ rfl
    simp only [Tryz.ntmps47, List.size_toArray, List.length_cons, List.length_nil, Nat.reduceAdd, Nat.reduceSub, Array.replicate_succ, Array.replicate_zero, List.push_toArray, List.append_toArray, List.nil_append, List.cons_append]
    gi_wp2_with (refine ⟨trivial, ?_⟩; gi_at_call 71; refine (callsIn_wide.2 (Back_any (some ⟨b, off, none⟩) n c _)).mono ?_; rintro e _ ⟨rfl, rfl⟩)
    obtain ⟨g, hg⟩ : ∃ g, w.heap.size = g := ⟨_, rfl⟩
    have HG := Lib.hid hg
    refine name_world (T := fun W0 => W0.heap[g]? = some (.cells #[.int .u8 last] 5) ∧ W0.heap[g + 1]? = some (.cells #[.int .i64 0] 3) ∧ W0.heap[g + 1 + 1]? = some (.cells #[.slice (some ⟨b, off, none⟩) n c] 22) ∧ W0.heap.size = g + 1 + 1 + 1 ∧ Below g w W0) ?_ ?_
    · refine ⟨heap_push (heap_push (heap_new_at hg.symm)), heap_push (heap_new_at (by simp [hg])), heap_new_at (by simp [hg]), by simp [hg], ?_⟩
      exact (((Below.refl g w).alloc (by omega) _).alloc (by simp; omega) _).alloc (by simp; omega) _
    rw [hg]
    rw [hg] at hbw
    clear hg
    rintro W0 ⟨f0, f1, f2, fs, fb⟩
    have F0 := Lib.hid f0
    have F1 := Lib.hid f1
    have FS := Lib.hid fs
    have FB := Lib.hid fb
    refine wpIn_rangeFunc_ownG rfl (by omega) (gf := 94) (lb := #[.pointer (some ⟨g + 1 + 1, 0, none⟩)]) rfl trivial (enters_of Tryz.func94 (by kernel_rfl) rfl)
      (back_stops (5 - 1) (by omega) (g + 1 + 1) W0.heap.size (g + 1) b off n c l HN.out hn2 (by omega) (fun _ => by omega) (some ⟨b, off, none⟩) (fun _ => rfl) W0 (cell_of_heap f2 0 _ rfl) (fun j hj => Below.cell_of (by rw [HG.out]; exact fb) (HC.out j hj)))
      (fun h k => h.trans k) (fun W j o o' hj ho _ _ => grown_keep (grownBy_putObj' W j o') (by have := heap_lt ho; omega) (fun r e => by cases e; exact hj)) (Below.refl _ _) (fun _ => rfl)
      (fun pre W => Keep W0.heap.size (g + 1) W0 W ∧ (∀ y ∈ pre, endN l y = last) ∧ W.heap[g + 1]? = some (.cells #[.int .i64 (pre.length : Nat)] 3))
      (fun cd pre W => (cd = .exit 0 ∧ ∃ ini x, pre = ini ++ [x] ∧ endN l x ≠ last ∧ (∀ y ∈ ini, endN l y = last) ∧ W.heap[g + 1]? = some (.cells #[.int .i64 (ini.length : Nat)] 3)) ∧ Keep W0.heap.size (g + 1) W0 W)
      (OwnFrom.and (ownFrom_keep (Nat.le_refl _)) (OwnFrom.and (ownFrom_fact _) (ownFrom_heap _ (by omega))))
      ?own
      ⟨Keep.refl _ _ _, by simp, f1⟩
      (fun x => { tmps := #[.slice (some ⟨b, off, none⟩) n c, undef, .int .i64 0, .pointer (some ⟨g, 0, none⟩), .pointer (some ⟨g + 1, 0, none⟩), undef, .int .u8 (endN l x : Nat), .slice (some ⟨b, off, none⟩) n c, .int .i64 n, .bool false,
        .slice (some ⟨b, off, none⟩) n c, .slice (some ⟨b, off, none⟩) n c, .int .i64 n, .int .i64 q, .pointer (some ⟨b, off + q, none⟩), .int .u8 last, .slice (some ⟨b, off, none⟩) n c, .func (.func 94) #[] #[.pointer (some ⟨g + 1 + 1, 0, none⟩)],
        .int .i64 ((l.length - 1 - x : Nat) : Int), .int .u8 (endN l x : Nat), undef, undef, undef, undef, undef, undef], defers := [] }) ?assign ?body ?done ?stop
    case own =>
      intro cd xs W W' row hs hgr hr
      obtain ⟨⟨e0, ini, x, e1, e2, e3, e4⟩, hk⟩ := hs
      refine ⟨⟨e0, ini, x, e1, e2, e3, ?_⟩, ?_⟩
      · exact (ownFrom_heap (β := Unit) (fun _ => .cells #[.int .i64 (ini.length : Nat)] 3) (by omega : g + 1 < W0.heap.size)) () _ _ _ e4 hgr hr
      · exact (ownFrom_keep (β := Unit) (Nat.le_refl W0.heap.size)) () _ _ _ hk hgr hr
    case assign =>
      intro j x W K hK
      gi_wp2
      exact hK
    case body =>
      rintro lp pre x W ⟨hKp, hall, hcn⟩ hlen
      have a0 : W.cell? ⟨g, 0, none⟩ = some (.int .u8 last) := cell_of_heap (hKp.heap F0.out (by omega) (by omega)) 0 _ rfl
      have b0 : W.cell? ⟨g + 1, 0, none⟩ = some (.int .i64 (pre.length : Nat)) := cell_of_heap hcn 0 _ rfl
      have z0 : W.frozen? ⟨g + 1, 0, none⟩ = false := by simp [World.frozen?, hcn]
      have hsz : g + 1 + 1 + 1 ≤ W.heap.size := by rw [← FS.out]; exact hKp.size
      have HKP := Lib.hid hKp
      have HALL := Lib.hid hall
      have HCN := Lib.hid hcn
      clear hKp hall hcn f0 f1 f2 fs fb
      by_cases he : endN l x = last
      · have hne : ((endN l x : Nat) != last) = false := by simp [he]
        obtain ⟨v, hv⟩ : ∃ v, endN l x = v := ⟨_, rfl⟩
        obtain ⟨m, hm⟩ : ∃ m, pre.length = m := ⟨_, rfl⟩
        have hm1 : wrap64 ((m : Int) + 1) = (((pre ++ [x]).length : Nat) : Int) := by unfold wrap64; simp [hm]; omega
        rw [hm] at b0
        have HE := Lib.hid he
        have HM1 := Lib.hid hm1
        have HV := Lib.hid hv
        have hvl : v = last := by omega
        subst hvl
        clear he hm1 hm
        rw [HV.out]
        gi_wp2
        have hk1 : Keep W0.heap.size (g + 1) W (W.setCell ⟨g + 1, 0, none⟩ (.int .i64 (wrap64 ((m : Int) + 1)))) := (Keep.refl _ _ _).setCell (p := ⟨g + 1, 0, none⟩) (.inl rfl) _
        refine ⟨(KeepsOthers.setCell _ _ _).from _, hk1, HKP.out.trans hk1, ?_, ?_⟩
        · intro y hy
          rcases List.mem_append.1 hy with h | h
          · exact HALL.out y h
          · rw [List.mem_singleton.1 h]; exact HV.out
        · rw [heap_setCell HCN.out 0 _, HM1.out]
          rfl
      · obtain ⟨v, hv⟩ : ∃ v, endN l x = v := ⟨_, rfl⟩
        rw [hv] at he ⊢
        have HV := Lib.hid hv
        have hvl : (v : Int) ≠ (last : Int) := by omega
        clear hv
        gi_wp2
        exact ⟨(KeepsOthers.refl _).from _, ⟨rfl, pre, x, rfl, by rw [HV.out]; exact he, HALL.out, HCN.out⟩, HKP.out⟩
    case done =>
      rintro D ys W hD rfl ⟨hKp, hall, hcn⟩ hKd
      rw [List.length_range] at hcn
      have hrun : RunIs l n := by
        refine ⟨by rw [HN.out]; omega, fun j hj => ?_, fun h => absurd h (by rw [HN.out]; omega)⟩
        rw [hall j (List.mem_range.2 hj), HLAST.out]
      have b0 : W.cell? ⟨g + 1, 0, none⟩ = some (.int .i64 n) := cell_of_heap hcn 0 _ rfl
      have HRUN := Lib.hid hrun
      have HBEL := Lib.hid (FB.out.trans (hKp.below (C := g) (by omega) (by omega)))
      have HKD := Lib.hid hKd
      clear hrun hall hcn hKp hKd f0 f1 f2 fs fb
      gi_wp2
      have hK' := HKD.out
      refine ⟨by simp, .inl ⟨_, _, rfl, run_takeDeferred hK', ?_⟩⟩
      refine ⟨.int .i64 n, by simp [results, Tryz.f47, go_sem], ⟨n, rfl, HRUN.out⟩, ?_⟩
      rw [HG.out]
      exact HBEL.out.trans (belowK_b (w := W0) (by rw [FS.out]; omega) _ D _ _ hD hK' rfl rfl)
    case stop =>
      rintro D cd pre W hD ⟨k, hk, rfl⟩ ⟨⟨rfl, ini, x, e1, e2, e3, hcn⟩, hKp⟩ hKd
      obtain ⟨k, rfl⟩ : ∃ k', k = k' + 1 := ⟨k - 1, by cases k <;> simp at e1 ⊢⟩
      rw [List.range_succ] at e1
      have e5 := List.append_inj_right' e1 rfl
      have e4 := List.append_inj_left' e1 rfl
      simp at e5
      subst e5
      subst e4
      rw [List.length_range] at hcn
      have hrun : RunIs l k := by
        refine ⟨by rw [HN.out]; omega, fun j hj => ?_, fun h => ?_⟩
        · rw [e3 j (List.mem_range.2 hj), HLAST.out]
        · rw [HLAST.out]; exact e2
      have b0 : W.cell? ⟨g + 1, 0, none⟩ = some (.int .i64 k) := cell_of_heap hcn 0 _ rfl
      have HRUN := Lib.hid hrun
      have HBEL := Lib.hid (FB.out.trans (hKp.below (C := g) (by omega) (by omega)))
      have HKD := Lib.hid hKd
      clear hrun e1 e2 e3 hcn hKp hKd f0 f1 f2 fs fb
      gi_wp2
      have hK' := HKD.out
      refine ⟨by simp, .inl ⟨_, _, rfl, run_takeDeferred hK', ?_⟩⟩
      refine ⟨.int .i64 k, by simp [results, Tryz.f47, go_sem], ⟨k, rfl, HRUN.out⟩, ?_⟩
      rw [HG.out]
      exact HBEL.out.trans (belowK_b (w := W0) (by rw [FS.out]; omega) _ D _ _ hD hK' rfl rfl)
end Go.Proofs.YtlmdkmflbhnlgaaGreat
