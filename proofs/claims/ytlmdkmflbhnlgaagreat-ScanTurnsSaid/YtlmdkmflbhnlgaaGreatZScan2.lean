/- Words, walks and plain facts that several laws need, part 2: each with its own head. No condition. -/
import Derived.Test.YtlmdkmflbhnlgaaGreatZScan1
import Derived.StillTailTactics
import Derived.RangeFuncNested
import Derived.RangeFuncBound
import Derived.RangeFuncCalls
import Derived.RangeFuncLeaves
import Derived.OwnWalkIn
import Derived.TacticsInMore
import Derived.LoopNIn
import Derived.LoopIn
import Derived.Sort.QuietIn
import Derived.Shelf.Abstract
import Derived.Handy
-- Run: A region that draws its order, of plain operations, in a round of a loop over a function: one walk in the text's order. No condition.
namespace Go.Proofs.YtlmdkmflbhnlgaaGreat
open Go Go.RowKit
/-- An operation that calls nothing and defers nothing. -/
def plainB : Op → Bool
  | .move _ | .assign _ | .load _ _ | .store _ _ _ | .binOp _ _ _ _ _ | .convert _ _ _ | .fieldAddr _ _ _ | .indexAddr _ _ _ => true
  | _ => false
section
variable {F : Fence} {n : Nat} {P : Program} {ops : Array Oper} {md : Region.Mode}
theorem value_noenter {s : Sem Value} {w w' : World} {f : FuncId} {args : Array Value} : ((do let x ← s; pure (Next.value x)) : Sem Next).run P w ≠ .ok (.enter f args) w' := by
  rw [Sem.run_bind]
  cases s.run P w with
  | ok v w1 => simp [Result.andThen]
  | halt h w1 => simp [Result.andThen]
theorem skip_noenter {s : Sem Unit} {w w' : World} {f : FuncId} {args : Array Value} : ((do s; pure Next.skip) : Sem Next).run P w ≠ .ok (.enter f args) w' := by
  rw [Sem.run_bind]
  cases s.run P w with
  | ok v w1 => simp [Result.andThen]
  | halt h w1 => simp [Result.andThen]
theorem plain_noenter {o : Oper} (h : plainB o.op = true) (ρ : Operand → Value) (w w' : World) (f : FuncId) (args : Array Value) : (execOp ρ o).run P w ≠ .ok (.enter f args) w' := by
  unfold execOp
  cases ho : o.op <;> rw [ho] at h <;> simp only [plainB] at h <;> first | exact absurd h (by decide) | skip
  all_goals first
    | exact value_noenter
    | exact skip_noenter
    | simp
theorem plain_about {o : Oper} (h : plainB o.op = true) (w : World) (ρ : Operand → Value) : o.about P w ρ = none := by
  unfold Oper.about
  cases ho : o.op <;> rw [ho] at h <;> simp only [plainB] at h <;> first | exact absurd h (by decide) | rfl
theorem plain_defer {o : Oper} (h : plainB o.op = true) (c : Call) : o.op ≠ .defer c := by
  intro e; rw [e] at h; simp [plainB] at h
theorem wpIn_of_still {o : Oper} {a : Act} {w : World} {K : Act → Prop} {K' : Act → World → Prop} {Q' : Exit → Act → World → Prop} (hp : plainB o.op = true) (h : ∀ a, K a → K' a w) (hh : o.still P a w K) : o.wpIn F n P a w K' Q' := by
  refine ⟨fun f hf => (by rw [plain_about hp] at hf; cases hf), ?_⟩
  rw [Oper.semAt_eq _ _ _ (plain_defer hp)]
  have hne := plain_noenter (P := P) hp a.eval w
  unfold Oper.still at hh
  generalize (execOp a.eval o).run P w = r at *
  cases r with
  | ok x w' =>
    cases x <;> simp only [Oper.stillUpon] at hh <;> simp only [Oper.uponIn]
    case enter f args => exact absurd rfl (hne w' f args)
    all_goals (obtain ⟨rfl, h2⟩ := hh; exact h _ h2)
  | halt x w' => simp only [Oper.stillUpon] at hh
theorem wpOpIn_of_stOp {i : Nat} {a : Act} {w : World} {K : Act → Prop} {K' : Act → World → Prop} {Q' : Exit → Act → World → Prop} (hp : ∀ (j : Nat) (o : Oper), ops[j]? = some o → plainB o.op = true) (h : ∀ a, K a → K' a w) (hh : stOp P ops w i K a) : wpOpIn F n P ops Q' i K' a w := by
  unfold stOp at hh
  unfold wpOpIn
  split
  · rename_i ho; simp only [ho] at hh; exact h _ hh
  · rename_i o ho
    simp only [ho] at hh
    split
    · rename_i hw; simp only [hw, if_true] at hh; exact wpIn_of_still (hp i o ho) h hh
    · rename_i hw; simp only [hw] at hh
      exact ⟨fun f hf => (by rw [plain_about (hp i o ho)] at hf; cases hf), h _ hh⟩
theorem wpAnyIn_of_head {k g : Nat} {w : World} {L : Array Bool → Act → Prop} {Q' : Exit → Act → World → Prop} (hp : ∀ (j : Nat) (o : Oper), ops[j]? = some o → plainB o.op = true) (hL : ∀ listed a, L listed a → wpAnyIn F n P md ops Q' g listed a w) :
    ∀ (f : Nat) (listed : Array Bool) (a : Act), wpAnyL P md ops w k L f listed a → wpAnyIn F n P md ops Q' (f + g) listed a w
  | 0, listed, a, h => by rw [Nat.zero_add]; exact hL _ _ h
  | f + 1, listed, a, h => by
    rw [show f + 1 + g = (f + g) + 1 by omega]
    exact ⟨fun h0 => absurd h0 h.1, fun i hi => wpOpIn_of_stOp hp (fun a' h' => wpAnyIn_of_head hp hL f _ a' h') (h.2 i hi).2⟩
theorem wpOpIn_mono' {i : Nat} {a : Act} {w : World} {K K' : Act → World → Prop} {Q : Exit → Act → World → Prop} (h : ∀ a w, K a w → K' a w) (hh : wpOpIn F n P ops Q i K a w) : wpOpIn F n P ops Q i K' a w := wpOpIn_mono h hh
theorem wpAnyIn_of_seq {Q' : Exit → Act → World → Prop} : ∀ (l : List Oper) (k : Nat) (listed : Array Bool) (a : Act) (w : World), (∀ j, l[j]? = ops[k + j]?) →
    Region.seqB md ops l.length k listed = true → wpListIn F n P ops Q' l a w → wpAnyIn F n P md ops Q' l.length listed a w
  | [], _, _, _, _, _, hB, h => ⟨by simpa [Region.seqB] using hB, h⟩
  | o :: l, k, listed, a, w, hl, hB, h => by
    have h0 : ops[k]? = some o := by simpa using (hl 0).symm
    simp only [List.length_cons, Region.seqB, Bool.and_eq_true, decide_eq_true_eq] at hB
    refine ⟨fun h1 => (by rw [hB.1] at h1; cases h1), fun i hi => ?_⟩
    rw [hB.1] at hi
    have hik : i = k := by simpa using hi
    subst hik
    have hw : wpOpIn F n P ops Q' i (wpListIn F n P ops Q' l) a w := by unfold wpOpIn; simp only [h0]; exact h
    exact wpOpIn_mono (fun a' w' h' => wpAnyIn_of_seq l (i + 1) _ a' w' (fun j => by have := hl (j + 1); simpa [Nat.add_assoc, Nat.add_comm 1 j] using this) hB.2 h') hw
theorem wpIn_region_still_tail {id : Nat} {Q : Exit → Act → World → Prop} {a : Act} {w : World} {l : List Oper} (k : Nat) (hp : (l.all fun o => plainB o.op) = true) (hm : P.follows .mixedOrders = true) (hB : Region.lexTailB .any l.toArray k = true)
    (h : wpStill P l.toArray w.drew (fun a' => wpListIn F n P l.toArray Q (l.drop k) a' w.drew) (l.take k) a) : (Code.region id l.toArray true).wpIn F n P Q a w := by
  have hp' : ∀ (j : Nat) (o : Oper), l.toArray[j]? = some o → plainB o.op = true := fun j o ho => by
    have : o ∈ l := List.mem_of_getElem? (i := j) (by simpa using ho)
    exact List.all_eq_true.1 hp o this
  simp only [Region.lexTailB, Bool.and_eq_true, decide_eq_true_eq] at hB
  obtain ⟨⟨⟨⟨hsel, hn⟩, hs⟩, hc⟩, hlex⟩ := hB
  have hn' : k < l.length := by simpa using hn
  have htl : (l.take k).length = k := by simp; omega
  have hdl : (l.drop k).length = l.toArray.size - k := by simp
  have inv0 : HeadInv .any l.toArray k (Array.replicate l.toArray.size false) :=
    ⟨by simp, fun j oj _ hl => (by rw [getD_replicate_false] at hl; cases hl), fun t _ ht => getD_in (by simpa using ht) (getD_replicate_false _ _)⟩
  have H := wpAnyL_lex (md := .any) (g := l.toArray.size - k) hsel hs hc hn (l.take k) 0 _ a (fun j hj => by
    have hj' : j < k := by rw [htl] at hj; exact hj
    simp [hj']) (by simpa using htl) inv0 (by rw [htl]; exact hlex) h
  refine wpIn_region_any hm ?_
  have := wpAnyIn_of_head (F := F) (n := n) (Q' := Q) (g := l.toArray.size - k) hp' (fun listed a' hL => by
    have := wpAnyIn_of_seq (F := F) (n := n) (md := .any) (Q' := Q) (l.drop k) k listed a' w.drew (fun j => by simp [List.getElem?_drop]) (by rw [hdl]; exact hL.1) hL.2
    rwa [hdl] at this) _ _ _ H
  rw [htl, show k + (l.toArray.size - k) = l.toArray.size by omega] at this
  exact this
end
end Go.Proofs.YtlmdkmflbhnlgaaGreat
namespace Go.Proofs.YtlmdkmflbhnlgaaGreat
open Go.RowKit
attribute [local go_sem] Oper.semAt_some
/-- The k-th piece's value. -/
abbrev chunkV (b off len sz k : Nat) : Value := .slice (some ⟨b, off + sz * k, none⟩) (min sz (len - sz * k)) (min sz (len - sz * k))
theorem chunk_lt {sz nch len : Nat} (h1 : sz * nch < len + sz) (h2 : len ≤ sz * nch) (k : Nat) : k < nch ↔ sz * k < len := by
  constructor
  · intro h
    have := Nat.mul_le_mul_left sz (show k + 1 ≤ nch by omega)
    rw [Nat.mul_add] at this
    omega
  · intro h
    refine Nat.lt_of_not_le fun hle => ?_
    have := Nat.mul_le_mul_left sz hle
    omega
set_option maxRecDepth 100000 in
set_option maxHeartbeats 2000000 in
theorem chunk1_in (n : Nat) (hn : 1 ≤ n) (l Bs Bn n₀ b off len cap sz nch : Nat) (hsz : 1 ≤ sz) (hszb : sz ≤ 1000) (hlen : len ≤ 1000000) (hlc : len ≤ cap) (hcap : cap ≤ 9223372036854775807)
    (hn1 : sz * nch < len + sz) (hn2 : len ≤ sz * nch) (x₀ : Nat) (hBsn : Bs < n₀ ∧ Bs ≠ x₀) (hBnn : Bn < n₀ ∧ Bn ≠ x₀) (J Jx : List Nat → World → Prop)
    (hY : ∀ pre x W, J pre W → pre.length < nch → YieldAt Fence.wide (n - 1) Tryz.prog l #[chunkV b off len sz x] W fun e W' =>
      (e = .returned (.bool true) ∧ J (pre ++ [x]) W' ∧ Keep n₀ x₀ W W') ∨ (e = .returned (.bool false) ∧ Jx (pre ++ [x]) W'))
    (hJd : ∀ pre W k, J pre W → J pre (World.drewN W k)) (W : World) (hBs : W.cell? ⟨Bs, 0, none⟩ = some (.slice (some ⟨b, off, none⟩) len cap)) (hBn : W.cell? ⟨Bn, 0, none⟩ = some (.int .i64 sz)) (h0 : J [] W) :
    CallsIn Fence.wide n Tryz.prog 125 #[.func (.yield l) #[] #[], .pointer (some ⟨Bs, 0, none⟩), .pointer (some ⟨Bn, 0, none⟩)] W fun e W' => (∃ v, e = .returned v) ∧
      ((∃ ys, ys = List.range nch ∧ J ys W') ∨ (∃ pre, (∃ k, k ≤ nch ∧ pre = List.range k) ∧ Jx pre W')) := by
  refine callsIn_of_wp Tryz.func125 rfl trivial ?_ rfl
  simp only [Tryz.ntmps125, List.size_toArray, List.length_cons, List.length_nil, Nat.reduceAdd, Nat.reduceSub, Array.replicate_succ, Array.replicate_zero, List.push_toArray, List.append_toArray, List.nil_append, List.cons_append]
  have HN := Lib.hid (chunk_lt hn1 hn2)
  have H1 := Lib.hid hn1
  have H2 := Lib.hid hn2
  have H0 := Lib.hid h0
  clear hn1 hn2 h0
  gi_wp2
  gi_loopw [4] (fun i wr => ∃ k : Nat, k ≤ nch ∧ i = .int .i64 (sz * k : Nat) ∧ Hid (J (List.range k) wr) ∧ Hid (Keep n₀ x₀ W wr)) (fun i _ => len + sz - (intOf i).toNat)
  case atStart => exact ⟨0, Nat.zero_le _, rfl, H0.out, Keep.refl _ _ _⟩
  case round =>
    obtain ⟨k, hk, rfl, hJs, hnx⟩ := hrel
    have c1 : wr.cell? ⟨Bs, 0, none⟩ = some (.slice (some ⟨b, off, none⟩) len cap) := hnx.out.cell_of hBs hBsn.1 hBsn.2
    have c2 : wr.cell? ⟨Bn, 0, none⟩ = some (.int .i64 sz) := hnx.out.cell_of hBn hBnn.1 hBnn.2
    obtain ⟨q, hq⟩ : ∃ q, sz * k = q := ⟨_, rfl⟩
    rw [hq]
    have HQ := Lib.hid hq
    by_cases hlt : q < len
    · have hkn : k < nch := (HN.out k).2 (by rw [hq]; exact hlt)
      have hqc : (q : Int) ≤ (cap : Int) := by omega
      have hql : (q : Int) ≤ (len : Int) := by omega
      have hlc' : (len : Int) ≤ (cap : Int) := by omega
      clear hq hBs hBn
      by_cases hm : len - q < sz
      · have HM := Lib.hid hm
        gi_wp2
        gi_quiet (fail)
        obtain ⟨fn, tmps, assign, body, hy, hR⟩ := hY _ k (wr.drewN nq) (hJd _ _ _ hJs.out) (by rw [List.length_range]; exact hkn)
        dsimp only [chunkV] at hy
        rw [HQ.out, Nat.min_eq_right (by have := HM.out; omega)] at hy
        gi_wp2
        refine hR.mono ?_
        rintro e W3 (⟨rfl, hJ3, hk3⟩ | ⟨rfl, hJx3⟩)
        · have HJ3 := Lib.hid hJ3
          have HK3 := Lib.hid hk3
          clear hJ3 hk3
          have c2' : W3.cell? ⟨Bn, 0, none⟩ = some (.int .i64 sz) := HK3.out.cell_of (Below.cell_of (below_drewN (Below.refl _ _) _) c2) hBnn.1 hBnn.2
          gi_wp2
          go_roundw
          case rel => exact ⟨k + 1, by omega, by rw [Nat.mul_add, HQ.out]; go_num, by show J _ _; rw [List.range_succ]; exact HJ3.out, hnx.out.trans ((Keep.of (below_drewN (Below.refl n₀ _) nq) (Nat.le_refl _)).trans HK3.out)⟩
          case measure => simp [intOf]; omega
        · have HJX := Lib.hid hJx3
          clear hJx3
          gi_wp2
          refine bodyPost_ret (results_none rfl _ _ _) rfl ?_
          exact ⟨⟨_, rfl⟩, .inr ⟨_, ⟨k + 1, by omega, rfl⟩, by rw [List.range_succ]; exact HJX.out⟩⟩
      · have HM := Lib.hid hm
        gi_wp2
        gi_quiet (fail)
        obtain ⟨fn, tmps, assign, body, hy, hR⟩ := hY _ k (wr.drewN nq) (hJd _ _ _ hJs.out) (by rw [List.length_range]; exact hkn)
        dsimp only [chunkV] at hy
        rw [HQ.out, Nat.min_eq_left (by have := HM.out; omega)] at hy
        gi_wp2
        refine hR.mono ?_
        rintro e W3 (⟨rfl, hJ3, hk3⟩ | ⟨rfl, hJx3⟩)
        · have HJ3 := Lib.hid hJ3
          have HK3 := Lib.hid hk3
          clear hJ3 hk3
          have c2' : W3.cell? ⟨Bn, 0, none⟩ = some (.int .i64 sz) := HK3.out.cell_of (Below.cell_of (below_drewN (Below.refl _ _) _) c2) hBnn.1 hBnn.2
          gi_wp2
          go_roundw
          case rel => exact ⟨k + 1, by omega, by rw [Nat.mul_add, HQ.out]; go_num, by show J _ _; rw [List.range_succ]; exact HJ3.out, hnx.out.trans ((Keep.of (below_drewN (Below.refl n₀ _) nq) (Nat.le_refl _)).trans HK3.out)⟩
          case measure => simp [intOf]; omega
        · have HJX := Lib.hid hJx3
          clear hJx3
          gi_wp2
          refine bodyPost_ret (results_none rfl _ _ _) rfl ?_
          exact ⟨⟨_, rfl⟩, .inr ⟨_, ⟨k + 1, by omega, rfl⟩, by rw [List.range_succ]; exact HJX.out⟩⟩
    · have hkn : k = nch := by
        have h1 : ¬ k < nch := fun h => hlt (by rw [← hq]; exact (HN.out k).1 h)
        omega
      have HK := Lib.hid hkn
      clear hq hBs hBn hkn
      have hle : (len : Int) ≤ (q : Int) := by omega
      gi_wp2
      go_end0
      exact ⟨⟨_, rfl⟩, .inl ⟨_, rfl, by rw [← HK.out]; exact hJs.out⟩⟩
set_option maxRecDepth 100000 in
set_option maxHeartbeats 1000000 in
theorem chunk1_nil_in (n : Nat) (l Bs Bn : Nat) (A : Option Addr) (cap : Nat) (J : List Nat → World → Prop) (W : World) (hBs : W.cell? ⟨Bs, 0, none⟩ = some (.slice A 0 cap)) (h0 : J [] W) :
    CallsIn Fence.wide n Tryz.prog 125 #[.func (.yield l) #[] #[], .pointer (some ⟨Bs, 0, none⟩), .pointer (some ⟨Bn, 0, none⟩)] W fun e W' => (∃ v, e = .returned v) ∧ J [] W' := by
  refine callsIn_of_wp Tryz.func125 rfl trivial ?_ rfl
  simp only [Tryz.ntmps125, List.size_toArray, List.length_cons, List.length_nil, Nat.reduceAdd, Nat.reduceSub, Array.replicate_succ, Array.replicate_zero, List.push_toArray, List.append_toArray, List.nil_append, List.cons_append]
  have H0 := Lib.hid h0
  clear h0
  gi_wp2
  gi_loopw [4] (fun i wr => i = .int .i64 0 ∧ wr = W) (fun _ _ => 0)
  case atStart => exact ⟨rfl, rfl⟩
  case round =>
    obtain ⟨rfl, rfl⟩ := hrel
    gi_wp2
    go_end0
    exact ⟨⟨_, rfl⟩, H0.out⟩
theorem Chunk_any (A : Option Addr) (len cap sz : Nat) (w : World) (hsz : 1 ≤ sz) (hszb : sz ≤ 1000) :
    Calls Tryz.prog 113 #[.slice A len cap, .int .i64 sz] w fun e w' => e = .returned (.func (.func 125) #[] #[.pointer (some ⟨w.heap.size, 0, none⟩), .pointer (some ⟨w.heap.size + 1, 0, none⟩)]) ∧ (w.alloc (.cells #[.slice A len cap] 22)).alloc (.cells #[.int .i64 sz] 3) = w' := by
  have h1 : ¬ (sz : Int) < 1 := by omega
  go_enter Tryz.func113, Tryz.ntmps113
  go_wp2_with fail
  go_ret
  exact ⟨rfl, rfl⟩
/-- How many pieces there are. -/
def nchN (len sz : Nat) : Nat := (len + sz - 1) / sz
theorem nchN_spec (len sz : Nat) (h : 1 ≤ sz) : sz * nchN len sz < len + sz ∧ len ≤ sz * nchN len sz := by
  unfold nchN
  have h1 := Nat.div_add_mod (len + sz - 1) sz
  have h2 := Nat.mod_lt (len + sz - 1) (show sz > 0 by omega)
  omega
theorem abides_drewN {β : Type} {B : Nat} {J : β → World → Prop} (h : AbidesFrom B J) {s : β} {W : World} (k : Nat) (hs : J s W) : J s (W.drewN k) :=
  h s W _ none hs ⟨rfl, rfl, rfl, Nat.le_refl _, fun _ _ _ => rfl⟩ (fun r e => by cases e)
theorem chunk_stops (n : Nat) (hn : 1 ≤ n) (Bs Bn n₀ x₀ b off len cap sz : Nat) (A : Option Addr) (hA : A = some ⟨b, off, none⟩ ∨ len = 0) (hsz : 1 ≤ sz) (hszb : sz ≤ 1000) (hlen : len ≤ 1000000) (hlc : len ≤ cap) (hcap : cap ≤ 9223372036854775807)
    (hBsn : Bs < n₀ ∧ Bs ≠ x₀) (hBnn : Bn < n₀ ∧ Bn ≠ x₀) (w : World) (hBs : w.cell? ⟨Bs, 0, none⟩ = some (.slice A len cap)) (hBn : w.cell? ⟨Bn, 0, none⟩ = some (.int .i64 sz)) :
    SeqStopsK Fence.wide n Tryz.prog 125 #[.pointer (some ⟨Bs, 0, none⟩), .pointer (some ⟨Bn, 0, none⟩)] (fun x : Nat => #[chunkV b off len sz x]) (Keep n₀ x₀) (fun ys => ys = List.range (nchN len sz))
      (fun pre => ∃ k, k ≤ nchN len sz ∧ pre = List.range k) (nchN len sz) w := fun l J Jx W hW hJ _ hY h0 => by
  have c1 := Below.cell_of hW hBs
  have c2 := Below.cell_of hW hBn
  obtain ⟨s1, s2⟩ := nchN_spec len sz hsz
  rcases hA with rfl | rfl
  · exact chunk1_in n hn l Bs Bn n₀ b off len cap sz (nchN len sz) hsz hszb hlen hlc hcap s1 s2 x₀ hBsn hBnn J Jx hY (fun pre W k h => abides_drewN hJ k h) W c1 c2 h0
  · have h0' : nchN 0 sz = 0 := by unfold nchN; exact Nat.div_eq_of_lt (by omega)
    rw [h0']
    exact (chunk1_nil_in n l Bs Bn A cap J W c1 h0).mono fun e W' ⟨he, hj⟩ => ⟨he, .inl ⟨[], rfl, hj⟩⟩
end Go.Proofs.YtlmdkmflbhnlgaaGreat
namespace Go.Proofs.YtlmdkmflbhnlgaaGreat
open Go.RowKit
attribute [local go_sem] Oper.semAt_some
theorem wpListIn_store_row {F : Fence} {n : Nat} {P : Program} {ops : Array Oper} {rest : List Oper} {o : Oper} {a : Act} {w : World} {Q : Exit → Act → World → Prop} (hgd : o.guard = none) (ty : TypeId) (x y : Operand) (ho : o.op = .store ty x y)
    (g : Nat) (cells : Array Value) (hx : a.eval x = .pointer (some ⟨g, 0, none⟩)) (hy : a.eval y = .agg cells)
    (t : TypeId) (old : Array Value) (hg : w.heap[g]? = some (.cells old t (0, 0))) (hi : (P.info? ty).map (·.size) = some cells.size)
    (hold : old.size = cells.size) (h1 : cells.all (·.oneCell') = true)
    (h : wpListIn F n P ops Q rest (a.put o.dst undef) (w.setRow g cells)) : wpListIn F n P ops Q (o :: rest) a w := by
  refine wpListIn_plain hgd fun K hK => ?_
  unfold Oper.wpIn
  refine ⟨?_, ?_⟩
  · simp [Oper.about, ho]
  · rw [Oper.semAt_plain F _ _ (by rw [ho]; intro c hc'; cases hc')]
    unfold execOp
    simp only [ho, hx, hy, Instr.storeAt, Instr.sureAddr, Sem.run_bind, Sem.run_pure, Result.andThen_ok, run_storeVar_row w g t ty old cells hg hi hold h1]
    exact hK _ _ h
/-- The x-th piece's bits. -/
def chunkL (l : List Nat) (sz x : Nat) : List Nat := (l.drop (sz * x)).take sz
theorem chunkL_length (l : List Nat) (sz x : Nat) : (chunkL l sz x).length = min sz (l.length - sz * x) := by simp [chunkL]
theorem chunkL_all (l : List Nat) (sz : Nat) : ∀ k, (List.range k).flatMap (chunkL l sz) = l.take (sz * k) := by
  intro k
  induction k with
  | zero => simp
  | succ k ih =>
    rw [List.range_succ, List.flatMap_append, ih, List.flatMap_singleton, Nat.mul_succ, List.take_add]
    rfl
theorem chunkL_mem (l : List Nat) (sz x : Nat) : ∀ y ∈ chunkL l sz x, y ∈ l := fun _ h => List.mem_of_mem_drop (List.mem_of_mem_take h)
theorem chunkL_rd {w : World} {b off : Nat} {l : List Nat} (h : Rd w (some ⟨b, off, none⟩) (bys l)) (sz x : Nat) : Rd w (some ⟨b, off + sz * x, none⟩) (bys (chunkL l sz x)) := by
  intro j u hj
  refine ⟨_, rfl, ?_⟩
  have hl : j < (chunkL l sz x).length := by have := (List.getElem?_eq_some_iff.1 hj).1; rwa [bys_length] at this
  have h2 : (bys l)[sz * x + j]? = some u := by
    rw [← hj]
    unfold bys chunkL
    rw [chunkL_length] at hl
    simp [List.getElem?_map, List.getElem?_drop, show j < sz by omega]
  obtain ⟨ad, e, hc⟩ := h _ _ h2
  injection e with e
  subst e
  rw [← hc]
  congr 1
  unfold Addr.add
  by_cases h0 : j = 0
  · subst h0
    by_cases h1 : sz * x = 0 <;> simp [h1]
  · simp [h0, Nat.add_assoc]
theorem name_world {F : Fence} {n : Nat} {P : Program} {cd : Code} {Q : Exit → Act → World → Prop} {a : Act} {W : World} {T : World → Prop} (hT : T W) (h : ∀ W0, T W0 → cd.wpIn F n P Q a W0) : cd.wpIn F n P Q a W := h W hT
theorem grown_keep {B b : Nat} {W W' : World} {row : Option Nat} (hg : W.grownBy W' row) (hB : B ≤ W.heap.size) (hr : ∀ r, row = some r → B ≤ r) : Keep B b W W' :=
  ⟨hg.os, hg.tape, hg.output, hg.size, fun k hk _ => hg.block k (by omega) (fun e => by have := hr k e.symm; omega)⟩
theorem ownFrom_keep {β : Type} {B b : Nat} {w0 : World} (h : B ≤ w0.heap.size) : OwnFrom B (fun (_ : β) W => Keep B b w0 W) :=
  fun _ _ _ _ hs hg hr => hs.trans (grown_keep hg (Nat.le_trans h hs.size) (fun r e => (hr r e).1))
theorem ownFrom_heap {β : Type} {B g : Nat} (f : β → Obj) (hg : g < B) : OwnFrom B (fun s W => W.heap[g]? = some (f s)) :=
  fun _ _ _ _ hs hgr hr => (hgr.block g (heap_lt hs) (fun e => by have := (hr g e.symm).1; omega)).trans hs
theorem ownFrom_fact {β : Type} {B : Nat} (p : β → Prop) : OwnFrom B (fun s _ => p s) := fun _ _ _ _ hs _ _ => hs
theorem keepsFrom_below {B : Nat} {W W' : World} (h : Below W.heap.size W W') : KeepsFrom B W W' :=
  ⟨h.size, fun k _ _ hk _ => (h.block k (heap_lt hk)).trans hk⟩
theorem Keep.setRow {B b : Nat} {w w' : World} (h : Keep B b w w') (g : Nat) (hB : B ≤ g) (cs : Array Value) : Keep B b w (w'.setRow g cs) :=
  ⟨h.os, h.tape, h.output, by rw [setRow_size]; exact h.size, fun k hk h1 => by rw [setRow_other _ _ _ _ (by omega)]; exact h.block k hk h1⟩
theorem below_setRow {B : Nat} {w w' : World} (h : Below B w w') (g : Nat) (hB : B ≤ g) (cs : Array Value) : Below B w (w'.setRow g cs) :=
  ⟨h.os, h.tape, h.output, by rw [setRow_size]; exact h.size, fun k hk => by rw [setRow_other _ _ _ _ (by omega)]; exact h.block k hk⟩
set_option maxRecDepth 100000 in
set_option maxHeartbeats 4000000 in
theorem run_any (size poly start sum : Nat) (b off n c : Nat) (A : Option Addr) (hA : A = some ⟨b, off, none⟩ ∨ n = 0) (l : List Nat) (w : World) (h4 : 4 ≤ size) (h32 : size ≤ 32) (hp : poly < 2 ^ size) (hs : sum < 2 ^ size) (hr : Rd w A (bys l)) (hn : l.length = n) (hn2 : n ≤ 1000000) (hc1 : n ≤ c) (hc2 : c ≤ 9223372036854775807) (h01 : ∀ x ∈ l, x ≤ 1) :
    Calls Tryz.prog 112 #[kindV size poly start, .int .u64 sum, .slice A n c] w fun e w' => e = .returned (.int .u64 (crcN size poly sum l : Nat)) ∧ Below w.heap.size w w' := by
  have HT := Lib.hid (fun W => table_any size poly start W h4 h32 hp)
  obtain ⟨cs, hcs⟩ : ∃ cs, (tabV size poly 16).toArray = cs := ⟨_, rfl⟩
  rw [hcs] at HT
  have hi : (Tryz.prog.info? 161).map (·.size) = some cs.size := by
    have : (Tryz.prog.info? 161).map (·.size) = some 16 := by kernel_rfl
    rw [this, ← hcs]; simp [tabV_length]
  have hcz : (#[Value.int IntKind.u64 0, Value.int IntKind.u64 0, Value.int IntKind.u64 0, Value.int IntKind.u64 0, Value.int IntKind.u64 0, Value.int IntKind.u64 0, Value.int IntKind.u64 0, Value.int IntKind.u64 0, Value.int IntKind.u64 0, Value.int IntKind.u64 0, Value.int IntKind.u64 0, Value.int IntKind.u64 0, Value.int IntKind.u64 0, Value.int IntKind.u64 0, Value.int IntKind.u64 0, Value.int IntKind.u64 0] : Array Value).size = cs.size := by rw [← hcs]; simp [tabV_length]
  have h1 : cs.all (·.oneCell') = true := by rw [← hcs]; simp [tabV]; intros; rfl
  have HCS := Lib.hid hcs
  have HI := Lib.hid hi
  have HCZ := Lib.hid hcz
  have H1 := Lib.hid h1
  have HP := Lib.hid hp
  have HS := Lib.hid hs
  have HR := Lib.hid hr
  have HN := Lib.hid hn
  have H01 := Lib.hid h01
  have HA := Lib.hid hA
  clear hcs hi hcz h1 hp hs hr hn h01 hA
  refine (callsIn_wide (n := 5)).1 ?_
  refine callsIn_of_wp_marks Tryz.func112 rfl trivial ?_ rfl
  simp only [Tryz.ntmps112, List.size_toArray, List.length_cons, List.length_nil, Nat.reduceAdd, Nat.reduceSub, Array.replicate_succ, Array.replicate_zero, List.push_toArray, List.append_toArray, List.nil_append, List.cons_append]
  gi_wp2_with (first
    | (refine ⟨trivial, ?_⟩; gi_at_call 122; refine (callsIn_wide.2 (HT.out _)).mono ?_; rintro e w1 ⟨rfl, hb1⟩; have HB1 := Lib.hid hb1; clear hb1)
    | (with_reducible refine wpListIn_store_row rfl 161 (.tmp 7) (.tmp 13) rfl w1.heap.size cs rfl rfl 161 #[Value.int IntKind.u64 0, Value.int IntKind.u64 0, Value.int IntKind.u64 0, Value.int IntKind.u64 0, Value.int IntKind.u64 0, Value.int IntKind.u64 0, Value.int IntKind.u64 0, Value.int IntKind.u64 0, Value.int IntKind.u64 0, Value.int IntKind.u64 0, Value.int IntKind.u64 0, Value.int IntKind.u64 0, Value.int IntKind.u64 0, Value.int IntKind.u64 0, Value.int IntKind.u64 0, Value.int IntKind.u64 0] (heap_new_at rfl) HI.out HCZ.out H1.out ?_)
    | (refine ⟨trivial, ?_⟩; gi_at_call 113; refine (callsIn_wide.2 (Chunk_any A n c 4 _ (by omega) (by omega))).mono ?_; rintro e _ ⟨rfl, rfl⟩))
  obtain ⟨g, hg⟩ : ∃ g, w.heap.size = g := ⟨_, rfl⟩
  obtain ⟨q, hq⟩ : ∃ q, w1.heap.size = q := ⟨_, rfl⟩
  have HG := Lib.hid hg
  have HQ := Lib.hid hq
  have hgq : g + 1 + 1 < q := by
    have h1 := HB1.out.size
    simp at h1
    omega
  refine name_world (T := fun W0 => W0.heap[g]? = some (.cells #[.int .i64 size, .int .u64 poly, .int .u64 start] 147) ∧ W0.heap[g + 1]? = some (.cells #[.int .u64 sum] 71) ∧ W0.heap[g + 1 + 1]? = some (.cells #[.int .u64 0] 71) ∧ W0.heap[q]? = some (.cells cs 161) ∧
    W0.heap[q + 1]? = some (.cells #[.slice A n c] 22) ∧ W0.heap[q + 1 + 1]? = some (.cells #[.int .i64 4] 3) ∧ W0.heap.size = q + 1 + 1 + 1 ∧ Below g w W0) ?_ ?_
  · have e1 : ((w.alloc (.cells #[.int .i64 size, .int .u64 poly, .int .u64 start] 147)).alloc (.cells #[.int .u64 sum] 71)).heap.size = g + 1 + 1 := by simp [hg]
    have k0 := heap_below HB1.out (heap_push (heap_push (heap_new_at (w := w) (o := .cells #[.int .i64 size, .int .u64 poly, .int .u64 start] 147) hg.symm)))
    have k1 := heap_below HB1.out (heap_push (heap_new_at (g := g + 1) (w := w.alloc (.cells #[.int .i64 size, .int .u64 poly, .int .u64 start] 147)) (o := .cells #[.int .u64 sum] 71) (by simp [hg])))
    have k2 := heap_below HB1.out (heap_new_at (g := g + 1 + 1) (w := (w.alloc (.cells #[.int .i64 size, .int .u64 poly, .int .u64 start] 147)).alloc (.cells #[.int .u64 sum] 71)) (o := .cells #[.int .u64 0] 71) (by rw [e1]))
    refine ⟨?_, ?_, ?_, ?_, ?_, ?_, ?_, ?_⟩
    · refine heap_push (heap_push ?_)
      rw [setRow_other _ _ _ _ (by omega)]
      exact heap_push k0
    · refine heap_push (heap_push ?_)
      rw [setRow_other _ _ _ _ (by omega)]
      exact heap_push k1
    · refine heap_push (heap_push ?_)
      rw [setRow_other _ _ _ _ (by omega)]
      exact heap_push k2
    · refine heap_push (heap_push ?_)
      rw [hq]
      exact setRow_heap _ _ _ _ _ _ (heap_new_at hq.symm)
    · exact heap_push (heap_new_at (by simp [hq]))
    · exact heap_new_at (by simp [hq])
    · simp [hq]
    · have b1 : Below g w w1 := ((((Below.refl g w).alloc (by omega) _).alloc (by simp; omega) _).alloc (by simp; omega) _).trans (HB1.out.mono (by simp; omega))
      exact ((below_setRow (b1.alloc (by omega) _) _ (by omega) _).alloc (by simp; omega) _).alloc (by simp; omega) _
  rw [hg, hq]
  clear hg hq HB1
  rintro W0 ⟨f0, f1, f2, f3, f4, f5, fs, fb⟩
  have F0 := Lib.hid f0
  have F1 := Lib.hid f1
  have F2 := Lib.hid f2
  have F3 := Lib.hid f3
  have FS := Lib.hid fs
  have FB := Lib.hid fb
  refine wpIn_rangeFunc_ownG rfl (by omega) (gf := 125) (lb := #[.pointer (some ⟨q + 1, 0, none⟩), .pointer (some ⟨q + 1 + 1, 0, none⟩)]) rfl trivial (enters_of Tryz.func125 (by kernel_rfl) rfl)
    (chunk_stops (5 - 1) (by omega) (q + 1) (q + 1 + 1) W0.heap.size (g + 1) b off n c 4 A HA.out (by omega) (by omega) hn2 hc1 hc2 (by omega) (by omega) W0 (cell_of_heap f4 0 _ rfl) (cell_of_heap f5 0 _ rfl))
    (fun h k => h.trans k) (fun W j o o' hj ho _ _ => grown_keep (grownBy_putObj' W j o') (by have := heap_lt ho; omega) (fun r e => by cases e; exact hj)) (Below.refl _ _) (fun _ => rfl)
    (fun pre W => Keep W0.heap.size (g + 1) W0 W ∧ W.heap[g + 1]? = some (.cells #[.int .u64 (crcN size poly sum (pre.flatMap (chunkL l 4)) : Nat)] 71))
    (fun cd pre W => (cd = .ret ∧ ∃ ini x, pre = ini ++ [x] ∧ n - 4 * x < 4) ∧ W.heap[g + 1 + 1]? = some (.cells #[.int .u64 (crcN size poly sum (pre.flatMap (chunkL l 4)) : Nat)] 71) ∧ Below g w W)
    (OwnFrom.and (ownFrom_keep (Nat.le_refl _)) (ownFrom_heap _ (by omega)))
    (fun cd => OwnFrom.and (ownFrom_fact _) (OwnFrom.and (ownFrom_heap _ (by omega)) (ownFrom_below (by rw [HG.out]; exact Nat.le_refl _) (by omega))))
    ⟨Keep.refl _ _ _, f1⟩
    (fun x => { tmps := #[kindV size poly start, .int .u64 sum, .slice A n c, .pointer (some ⟨g, 0, none⟩), .pointer (some ⟨g + 1, 0, none⟩), undef, .pointer (some ⟨g + 1 + 1, 0, none⟩), .pointer (some ⟨q, 0, none⟩), chunkV b off n 4 x, undef, undef, undef, .agg #[.int .i64 size, .int .u64 poly, .int .u64 start], .agg cs, .slice A n c,
      .func (.func 125) #[] #[.pointer (some ⟨q + 1, 0, none⟩), .pointer (some ⟨q + 1 + 1, 0, none⟩)], chunkV b off n 4 x, undef, undef, undef, undef, undef, undef, undef, undef, undef, undef, undef, undef, undef, undef, undef, undef, undef, undef, undef, undef, undef, undef, undef, undef, undef, undef, undef, undef, undef, undef, undef, undef], defers := [] }) ?assign ?body ?done ?stop
  case assign =>
    intro j x W K hK
    gi_wp2
    exact hK
  case body =>
    rintro lp pre x W ⟨hKp, hsum⟩ _
    have a0 : W.cell? ⟨g, 0, none⟩ = some (.int .i64 size) := cell_of_heap (hKp.heap F0.out (by omega) (by omega)) 0 _ rfl
    have a1 : W.cell? ⟨g, 1, none⟩ = some (.int .u64 poly) := cell_of_heap (hKp.heap F0.out (by omega) (by omega)) 1 _ rfl
    have a2 : W.cell? ⟨g, 2, none⟩ = some (.int .u64 start) := cell_of_heap (hKp.heap F0.out (by omega) (by omega)) 2 _ rfl
    have hres := hKp.heap F2.out (by omega) (by omega)
    have htab := hKp.heap F3.out (by omega) (by omega)
    have hbel : Below g w W := FB.out.trans (hKp.below (by omega) (by omega))
    have hsz : q + 1 + 1 + 1 ≤ W.heap.size := by rw [← FS.out]; exact hKp.size
    obtain ⟨s, hsv⟩ : ∃ s, crcN size poly sum (pre.flatMap (chunkL l 4)) = s := ⟨_, rfl⟩
    have hslt : s < 2 ^ size := by rw [← hsv]; exact crcN_lt size poly _ HP.out sum HS.out
    have hnext : crcN size poly sum ((pre ++ [x]).flatMap (chunkL l 4)) = crcN size poly s (chunkL l 4 x) := by
      rw [List.flatMap_append, crcN_append, hsv, List.flatMap_singleton]
    rw [hsv] at hsum
    have b0 : W.cell? ⟨g + 1, 0, none⟩ = some (.int .u64 s) := cell_of_heap hsum 0 _ rfl
    have hlenc : (chunkL l 4 x).length = min 4 (n - 4 * x) := by rw [chunkL_length, HN.out]
    have hrd : ∀ W2, Below W.heap.size W W2 → 0 < min 4 (n - 4 * x) → Rd W2 (some ⟨b, off + 4 * x, none⟩) (bys (chunkL l 4 x)) := by
      intro W2 hW2 hpos
      have hA2 : A = some ⟨b, off, none⟩ := by
        rcases HA.out with e | e
        · exact e
        · omega
      have h1 := HR.out.below (w' := W) (by rw [HG.out]; exact hbel)
      rw [hA2] at h1
      exact (chunkL_rd h1 4 x).below hW2
    have h01c : ∀ y ∈ chunkL l 4 x, y ≤ 1 := fun y hy => H01.out y (chunkL_mem l 4 x y hy)
    have HSV := Lib.hid hsv
    have HNX := Lib.hid hnext
    have HKP := Lib.hid hKp
    have HSUM := Lib.hid hsum
    have HRES := Lib.hid hres
    have HTAB := Lib.hid htab
    have HBEL := Lib.hid hbel
    have HLC := Lib.hid hlenc
    have HRD := Lib.hid hrd
    have H01C := Lib.hid h01c
    have HSLT := Lib.hid hslt
    clear hsv hnext hKp hsum hres htab hbel hlenc hrd h01c f1 f2 f3 f4 f5 fs fb f0 hslt
    by_cases hm : n - 4 * x < 4
    · have hmin : min 4 (n - 4 * x) = n - 4 * x := Nat.min_eq_right (by omega)
      have hall : ∀ W2, W2 = W → Calls Tryz.prog 123 #[.int .u64 s, .slice (some ⟨b, off + 4 * x, none⟩) (n - 4 * x) (n - 4 * x), .func (.func 124) #[kindV size poly start] #[]] W2 fun e w' => e = .returned (.int .u64 (crcN size poly s (chunkL l 4 x) : Nat)) ∧ Below W2.heap.size W2 w' := by
        rintro W2 rfl
        by_cases h0 : 0 < n - 4 * x
        · exact all_any size poly start s _ _ _ (chunkL l 4 x) W2 h4 h32 HP.out HSLT.out (HRD.out W2 (Below.refl _ _) (by omega)) (by rw [HLC.out]; omega) (by omega) H01C.out
        · have e0 : chunkL l 4 x = [] := List.eq_nil_of_length_eq_zero (by rw [HLC.out]; omega)
          exact all_any size poly start s _ _ _ (chunkL l 4 x) W2 h4 h32 HP.out HSLT.out (by rw [e0]; exact Rd.nil _ _) (by rw [e0]; simp; omega) (by omega) H01C.out
      have HALL := Lib.hid (hall W rfl)
      have HM := Lib.hid hmin
      have hlt4 : ((n - 4 * x : Nat) : Int) < 4 := by omega
      clear hall hmin
      dsimp only [chunkV]
      rw [HM.out]
      gi_wp2_with (refine ⟨trivial, ?_⟩; gi_at_call 123; refine (CallsIn.inRound lp (callsIn_wide.2 HALL.out)).mono ?_; rintro e w2 ⟨rfl, hb2⟩; have r0 : w2.cell? ⟨g + 1 + 1, 0, none⟩ = some (.int .u64 0) := Below.cell_of hb2 (cell_of_heap HRES.out 0 _ rfl); have z0 : w2.frozen? ⟨g + 1 + 1, 0, none⟩ = false := (by simp [World.frozen?, heap_below hb2 HRES.out]); have HB2 := Lib.hid hb2; clear hb2)
      refine ⟨(keepsFrom_below HB2.out).trans ((KeepsOthers.setCell _ _ _).from _), ⟨rfl, pre, x, rfl, hm⟩, ?_, (HBEL.out.trans (HB2.out.mono (by omega))).setCell (p := ⟨g + 1 + 1, 0, none⟩) (by show g ≤ g + 1 + 1; omega) _⟩
      rw [heap_setCell (heap_below HB2.out HRES.out) 0 _, HNX.out]
      rfl
    · have hmin : min 4 (n - 4 * x) = 4 := Nat.min_eq_left (by omega)
      have hl4 : (chunkL l 4 x).length = 4 := by rw [HLC.out]; exact hmin
      have hget := Get_any W (some ⟨b, off + 4 * x, none⟩) 4 4 (chunkL l 4 x) (HRD.out W (Below.refl _ _) (by omega)) hl4 (by omega) H01C.out
      have hN := numN_lt (chunkL l 4 x) H01C.out
      rw [hl4] at hN
      have hcr := crcN_four size poly s h4 HSLT.out (chunkL l 4 x) hl4 H01C.out
      have hpw := pow32 h32
      have hslt' := HSLT.out
      obtain ⟨p4, hp4⟩ : ∃ p4, size - 4 = p4 := ⟨_, rfl⟩
      have hhi : s / 2 ^ p4 < 16 := by
        refine Nat.div_lt_of_lt_mul ?_
        obtain rfl : size = p4 + 4 := by omega
        rw [Nat.pow_add] at hslt'
        exact hslt'
      have hxlt : (s / 2 ^ p4) ^^^ numN (chunkL l 4 x) < 16 := Nat.xor_lt_two_pow (n := 4) hhi hN
      have hxor1 : bits .xor .u64 ((s : Int) / 2 ^ p4) ((numN (chunkL l 4 x) : Nat) : Int) = (((s / 2 ^ p4) ^^^ numN (chunkL l 4 x) : Nat) : Int) := by
        have e : ((s : Int) / 2 ^ p4) = ((s / 2 ^ p4 : Nat) : Int) := by simp
        rw [e]; exact u64_xor_nat _ _ (by omega) (by omega)
      have hmin64 : min p4 64 = p4 := Nat.min_eq_left (by omega)
      have hs4 : IntKind.i64.wrap ((size : Int) - 4) = (p4 : Int) := by rw [IntWalk.i64_in _ (by omega)]; omega
      have hmask : bits .and .u64 (IntKind.u64.wrap ((s : Int) * 16)) (IntKind.u64.wrap (IntKind.u64.wrap (2 ^ size) - 1)) = ((s * 16 % 2 ^ size : Nat) : Int) := by
        have e : IntKind.u64.wrap ((s : Int) * 16) = ((s * 16 : Nat) : Int) := by rw [IntWalk.u64_in _ ⟨by omega, by omega⟩]; omega
        rw [e, mask_u64 size _ h32 (by omega)]
      have htlt : tabN size poly ((s / 2 ^ p4) ^^^ numN (chunkL l 4 x)) < 2 ^ size := by
        refine crcN_lt size poly _ HP.out _ ?_
        rw [hp4]
        obtain rfl : size = p4 + 4 := by omega
        rw [Nat.pow_add]
        have h0 : 0 < 2 ^ p4 := Nat.two_pow_pos _
        have := Nat.mul_lt_mul_of_pos_right hxlt h0
        omega
      have hmlt : s * 16 % 2 ^ size < 2 ^ size := Nat.mod_lt _ (Nat.two_pow_pos _)
      have hxor2 : bits .xor .u64 ((s * 16 % 2 ^ size : Nat) : Int) ((tabN size poly ((s / 2 ^ p4) ^^^ numN (chunkL l 4 x)) : Nat) : Int) = ((s * 16 % 2 ^ size ^^^ tabN size poly ((s / 2 ^ p4) ^^^ numN (chunkL l 4 x)) : Nat) : Int) := u64_xor_nat _ _ (by omega) (by omega)
      rw [hp4] at hcr
      have hcell : cs[(s / 2 ^ p4) ^^^ numN (chunkL l 4 x)]? = some (.int .u64 (tabN size poly ((s / 2 ^ p4) ^^^ numN (chunkL l 4 x)) : Nat)) := by
        rw [← HCS.out]; simp [tabV, hxlt]
      obtain ⟨N, hNe⟩ : ∃ N, numN (chunkL l 4 x) = N := ⟨_, rfl⟩
      rw [hNe] at hget hN hcr hxlt hxor1 htlt hxor2 hcell
      obtain ⟨hi, hhie⟩ : ∃ hi, (s / 2 ^ p4) ^^^ N = hi := ⟨_, rfl⟩
      rw [hhie] at hcr hxlt hxor1 htlt hxor2 hcell
      obtain ⟨T, hTe⟩ : ∃ T, tabN size poly hi = T := ⟨_, rfl⟩
      rw [hTe] at hcr htlt hxor2 hcell
      obtain ⟨M, hMe⟩ : ∃ M, s * 16 % 2 ^ size = M := ⟨_, rfl⟩
      rw [hMe] at hmask hmlt hcr hxor2
      have HGET := Lib.hid hget
      have HM := Lib.hid hmin
      have HCR := Lib.hid hcr
      have HCELL := Lib.hid hcell
      have HFACT : Hid (hs4 = hs4) := rfl
      clear hget hmin hcr hNe hhie hTe hMe hslt' htlt hmlt hpw hhi hN hl4 hcell hp4 HFACT
      have hi16 : (hi : Int) < 16 := by omega
      have hi0 : (0 : Int) ≤ (hi : Int) := by omega
      have hm4 : ¬ (4 : Int) < 4 := by omega
      dsimp only [chunkV]
      rw [HM.out]
      gi_wp2_with (refine ⟨trivial, ?_⟩; gi_at_call 95; refine (CallsIn.inRound lp (callsIn_wide.2 HGET.out)).mono ?_; rintro e w2 ⟨rfl, hb2⟩; have a0' := Below.cell_of hb2 a0; have b0' := Below.cell_of hb2 b0; have z0 : w2.frozen? ⟨g + 1, 0, none⟩ = false := (by simp [World.frozen?, heap_below hb2 HSUM.out]); have t0 : w2.cell? ⟨q, hi, none⟩ = some (.int .u64 T) := Below.cell_of hb2 (cell_of_heap HTAB.out hi _ HCELL.out); have HB2 := Lib.hid hb2; clear hb2)
      refine wpIn_region_still_tail 11 (by kernel_rfl) (by kernel_rfl) (by kernel_rfl) ?_
      simp only [List.take_succ_cons, List.take_zero, List.drop_succ_cons, List.drop_zero]
      repeat still_step
      refine wpStill_nil ?_
      gi_wp2
      have hk1 : Keep W0.heap.size (g + 1) W ((w2.setCell ⟨g + 1, 0, none⟩ (.int .u64 ((M ^^^ T : Nat) : Int))).drew) := ((Keep.of HB2.out HKP.out.size).setCell (p := ⟨g + 1, 0, none⟩) (.inl rfl) _).drew
      refine ⟨((keepsFrom_below HB2.out).trans ((KeepsOthers.setCell _ _ _).from _)).trans ((KeepsOthers.drew _).from _), hk1, HKP.out.trans hk1, ?_⟩
      rw [HNX.out, HCR.out]
      show (w2.setCell _ _).heap[g + 1]? = _
      rw [heap_setCell (heap_below HB2.out HSUM.out) 0 _]
      rfl
  case done =>
    rintro D ys W hD rfl ⟨hKp, hsum⟩ hKd
    have hall : crcN size poly sum ((List.range (nchN n 4)).flatMap (chunkL l 4)) = crcN size poly sum l := by
      rw [chunkL_all, List.take_of_length_le]
      rw [HN.out]; exact (nchN_spec n 4 (by omega)).2
    rw [hall] at hsum
    have HALL := Lib.hid hall
    obtain ⟨r, hr⟩ : ∃ r, crcN size poly sum l = r := ⟨_, rfl⟩
    rw [hr] at hsum
    have HRV := Lib.hid hr
    have b0 : W.cell? ⟨g + 1, 0, none⟩ = some (.int .u64 r) := cell_of_heap hsum 0 _ rfl
    have hres := hKp.heap F2.out (by omega) (by omega)
    have r0 : W.cell? ⟨g + 1 + 1, 0, none⟩ = some (.int .u64 0) := cell_of_heap hres 0 _ rfl
    have z0 : W.frozen? ⟨g + 1 + 1, 0, none⟩ = false := by simp [World.frozen?, hres]
    have hbel : Below g w W := FB.out.trans (hKp.below (by omega) (by omega))
    have HRES := Lib.hid hres
    have HBEL := Lib.hid hbel
    have HKD := Lib.hid hKd
    clear hall hr hsum hres hbel hKd f0 f1 f2 f3 f4 f5 fs fb
    gi_wp2
    have hK' := (KeepsOthers.setCell W ⟨g + 1 + 1, 0, none⟩ (.int .u64 r)).same D _ HKD.out rfl
    refine ⟨by simp, .inl ⟨_, _, rfl, run_takeDeferred hK', ?_⟩⟩
    have hc5 := cell_kept (World.cell?_setCell_same' W ⟨g + 1 + 1, 0, none⟩ (.int .u64 r) (by rw [r0]; rfl)) (grownBy_putObj' _ D (.deferred none)) (fun r e => by cases e; exact ⟨_, hK', rfl⟩)
    refine ⟨.int .u64 r, by simp [results, Tryz.f112, go_sem, hc5], ⟨by rw [HRV.out], ?_⟩⟩
    rw [HG.out]
    exact (HBEL.out.setCell (p := ⟨g + 1 + 1, 0, none⟩) (by show g ≤ g + 1 + 1; omega) _).trans (belowK_b (w := W0) (by rw [FS.out]; omega) _ D _ _ hD hK' rfl rfl)
  case stop =>
    rintro D cd pre W hD ⟨k, hk, rfl⟩ ⟨⟨rfl, ini, x, e1, e2⟩, hres, hB⟩ hKd
    have hall : crcN size poly sum ((List.range k).flatMap (chunkL l 4)) = crcN size poly sum l := by
      rw [chunkL_all, List.take_of_length_le]
      rw [HN.out]
      cases k with
      | zero => simp at e1
      | succ k =>
        rw [List.range_succ] at e1
        have e3 := List.append_inj_right' e1 rfl
        simp at e3
        omega
    rw [hall] at hres
    obtain ⟨r, hr⟩ : ∃ r, crcN size poly sum l = r := ⟨_, rfl⟩
    rw [hr] at hres
    have HRV := Lib.hid hr
    have r0 : W.cell? ⟨g + 1 + 1, 0, none⟩ = some (.int .u64 r) := cell_of_heap hres 0 _ rfl
    have HBEL := Lib.hid hB
    have HKD := Lib.hid hKd
    clear hall hr hres hB hKd f0 f1 f2 f3 f4 f5 fs fb e1
    gi_wp2
    have hK' := HKD.out
    refine ⟨by simp, .inl ⟨_, _, rfl, run_takeDeferred hK', ?_⟩⟩
    have hc5 := cell_kept r0 (grownBy_putObj' _ D (.deferred none)) (fun r e => by cases e; exact ⟨_, hK', rfl⟩)
    refine ⟨.int .u64 r, by simp [results, Tryz.f112, go_sem, hc5], ⟨by rw [HRV.out], ?_⟩⟩
    rw [HG.out]
    exact HBEL.out.trans (belowK_b (w := W0) (by rw [FS.out]; omega) _ D _ _ hD hK' rfl rfl)
end Go.Proofs.YtlmdkmflbhnlgaaGreat
-- Add: crc.More, crc.Sum, crc.Size, crc.Add. No condition.
namespace Go.Proofs.YtlmdkmflbhnlgaaGreat
open Go.RowKit
/-- A kind of sums: its size, its polynomial, its start. -/
structure OfK (k : Int) (size poly start : Nat) : Prop where
  call : ∀ W : World, Calls Tryz.prog 103 #[.int .i64 k] W fun e w' => e = .returned (kindV size poly start) ∧ Below W.heap.size W w'
  h4 : 4 ≤ size
  h32 : size ≤ 32
  poly : poly < 2 ^ size
  start : start < 2 ^ size
set_option maxRecDepth 100000 in
theorem of_1 : OfK 1 15 17817 0 := by
  refine ⟨fun W => ?_, by decide, by decide, by decide, by decide⟩
  go_enter Tryz.func103, Tryz.ntmps103
  go_wp2
  exact bodyPost_ret (v := .agg #[.int .i64 15, .int .u64 17817, .int .u64 0]) (by simp [results, Tryz.results103, go_sem]) rfl ⟨rfl, below_alloc (below_alloc (Below.refl _ _) _) _⟩
theorem field_kind (size poly start : Nat) (w : World) : Sem.run Tryz.prog (Instr.field 147 (kindV size poly start) 0) w = .ok (.int .i64 size) w := by kernel_rfl
theorem field_kind2 (size poly start : Nat) (w : World) : Sem.run Tryz.prog (Instr.field 147 (kindV size poly start) 2) w = .ok (.int .u64 start) w := by kernel_rfl
theorem Size_any {k : Int} {size poly start : Nat} (h : OfK k size poly start) (w : World) : Calls Tryz.prog 91 #[.int .i64 k] w fun e w' => e = .returned (.int .i64 size) ∧ Below w.heap.size w w' := by
  have HO := Lib.hid h.call
  have hf := field_kind size poly start
  clear h
  go_enter Tryz.func91, Tryz.ntmps91
  go_wp2_with fail
  refine (HO.out _).mono ?_
  rintro e w1 ⟨rfl, hb⟩
  have HB := Lib.hid hb
  clear hb
  go_wp2_with fail
  go_ret
  exact ⟨rfl, HB.out⟩
set_option maxRecDepth 100000 in
set_option maxHeartbeats 1000000 in
theorem More_any {k : Int} {size poly start : Nat} (h : OfK k size poly start) (sum b off n c : Nat) (A : Option Addr) (hA : A = some ⟨b, off, none⟩ ∨ n = 0) (l : List Nat) (w : World) (hs : sum < 2 ^ size) (hr : Rd w A (bys l)) (hn : l.length = n) (hn2 : n ≤ 65536) (hc1 : n ≤ c) (hc2 : c ≤ 9223372036854775807) (h01 : ∀ x ∈ l, x ≤ 1) :
    Calls Tryz.prog 102 #[.int .i64 k, .int .u64 sum, .slice A n c] w fun e w' => e = .returned (.tuple #[.int .u64 (crcN size poly sum l : Nat), .int .i64 0]) ∧ Below w.heap.size w w' := by
  have hok : bitsOk l = true := by unfold bitsOk; rw [decide_eq_true (by omega : l.length ≤ 65536), decide_eq_true h01]; rfl
  have hC := fun (W : World) (hW : Rd W A (bys l)) => BitsCheck_any A n c l W hW hn (by omega)
  simp only [hok, if_true] at hC
  have hrun := fun (W : World) (hW : Rd W A (bys l)) => run_any size poly start sum b off n c A hA l W h.h4 h.h32 h.poly hs hW hn (by omega) hc1 hc2 h01
  have HC := Lib.hid hC
  have HRUN := Lib.hid hrun
  have HO := Lib.hid h.call
  have HR := Lib.hid hr
  obtain ⟨r, hre⟩ : ∃ r, crcN size poly sum l = r := ⟨_, rfl⟩
  rw [hre] at HRUN ⊢
  have hz : ((size : Int) == 0) = false := by have := h.h4; rw [beq_eq_false_iff_ne]; omega
  have hdiv : (sum : Int) / 2 ^ min size 64 = 0 := by
    rw [Nat.min_eq_left (by have := h.h32; omega)]
    have e : (sum : Int) / 2 ^ size = ((sum / 2 ^ size : Nat) : Int) := by simp
    rw [e, Nat.div_eq_of_lt hs]; rfl
  have hdiv2 : (sum : Int) / 2 ^ size = 0 := by
    have e : (sum : Int) / 2 ^ size = ((sum / 2 ^ size : Nat) : Int) := by simp
    rw [e, Nat.div_eq_of_lt hs]; rfl
  have hs32 : size ≤ 32 := h.h32
  clear hok hC hrun hr hre h01 hA hs h
  go_enter Tryz.func102, Tryz.ntmps102
  go_wp2_with fail
  refine (HO.out _).mono ?_
  rintro e w1 ⟨rfl, hb⟩
  have HB := Lib.hid hb
  clear hb
  go_wp2_with fail
  refine (HC.out _ ((HR.out.below HB.out).alloc _)).mono ?_
  rintro e _ ⟨rfl, rfl⟩
  go_wp2_with fail
  refine (HRUN.out _ ((HR.out.below HB.out).alloc _)).mono ?_
  rintro e w2 ⟨rfl, hb2⟩
  have HB2 := Lib.hid hb2
  clear hb2
  go_wp2_with fail
  go_ret2
  exact ⟨rfl, below_trans (below_alloc HB.out _) HB2.out⟩
set_option maxHeartbeats 1000000 in
theorem Sum_any {k : Int} {size poly start : Nat} (h : OfK k size poly start) (b off n c : Nat) (A : Option Addr) (hA : A = some ⟨b, off, none⟩ ∨ n = 0) (l : List Nat) (w : World) (hr : Rd w A (bys l)) (hn : l.length = n) (hn2 : n ≤ 65536) (hc1 : n ≤ c) (hc2 : c ≤ 9223372036854775807) (h01 : ∀ x ∈ l, x ≤ 1) :
    Calls Tryz.prog 90 #[.int .i64 k, .slice A n c] w fun e w' => e = .returned (.tuple #[.int .u64 (crcN size poly start l : Nat), .int .i64 0]) ∧ Below w.heap.size w w' := by
  have hM := fun (W : World) (hW : Rd W A (bys l)) => More_any h start b off n c A hA l W h.start hW hn hn2 hc1 hc2 h01
  obtain ⟨r, hre⟩ : ∃ r, crcN size poly start l = r := ⟨_, rfl⟩
  rw [hre]
  simp only [hre] at hM
  have HM := Lib.hid hM
  have HO := Lib.hid h.call
  have HR := Lib.hid hr
  have hf := field_kind2 size poly start
  clear hr hM hA h01 h hre
  go_enter Tryz.func90, Tryz.ntmps90
  go_wp2_with fail
  refine (HO.out _).mono ?_
  rintro e w1 ⟨rfl, hb⟩
  have HB := Lib.hid hb
  clear hb
  go_wp2_with fail
  refine (HM.out _ (HR.out.below HB.out)).mono ?_
  rintro e w2 ⟨rfl, hb2⟩
  have HB2 := Lib.hid hb2
  clear hb2
  go_wp2_with fail
  go_ret2
  exact ⟨rfl, below_trans HB.out HB2.out⟩
/-- Bits with their sum behind. -/
def addN (size poly start : Nat) (l : List Nat) : List Nat := l ++ bitsN (crcN size poly start l) size
set_option maxRecDepth 100000 in
set_option maxHeartbeats 2000000 in
theorem Add_any {k : Int} {size poly start : Nat} (h : OfK k size poly start) (b off n c N : Nat) (A : Option Addr) (hA : A = some ⟨b, off, none⟩ ∨ n = 0) (l : List Nat) (w : World) (hr : Rd w A (bys l)) (hnil : A = none → c = 0) (hn : l.length = n) (hn2 : n ≤ 65536) (hc1 : n ≤ c) (hc2 : c ≤ 9223372036854775807) (h01 : ∀ x ∈ l, x ≤ 1) (hN : n + size = N) :
    Calls Tryz.prog 68 #[.int .i64 k, .slice A n c] w fun e w' => (∃ A' c', e = .returned (.tuple #[.slice A' N c', .int .i64 0]) ∧ Row w' w.heap.size 5 A' c' (bys (addN size poly start l))) ∧ Below w.heap.size w w' := by
  have hS := Sum_any h b off n c A hA l w hr hn hn2 hc1 hc2 h01
  have hlt : crcN size poly start l < 2 ^ size := crcN_lt size poly l h.poly start h.start
  have hpw := pow32 h.h32
  have hadd : addN size poly start l = l ++ bitsN (crcN size poly start l) size := rfl
  obtain ⟨r, hre⟩ : ∃ r, crcN size poly start l = r := ⟨_, rfl⟩
  rw [hre] at hS hlt hadd
  have hput := fun W => bitsPut_any W r size (by omega) (by have := h.h32; omega) hlt
  have HS := Lib.hid hS
  have HPUT := Lib.hid hput
  have HSZ := Lib.hid (Size_any h)
  have HR := Lib.hid hr
  have HNIL := Lib.hid hnil
  have HN := Lib.hid hn
  have HADD := Lib.hid hadd
  have HN2 := Lib.hid hN
  have hsz := h.h32
  obtain ⟨al, hal⟩ : ∃ al, addN size poly start l = al := ⟨_, rfl⟩
  rw [hal] at HADD ⊢
  clear hS hput hr hnil hn hadd h hA h01 hlt hpw hre hal hN
  go_enter Tryz.func68, Tryz.ntmps68
  go_wp2_with fail
  refine HS.out.mono ?_
  rintro e w1 ⟨rfl, hb1⟩
  have HB1 := Lib.hid hb1
  clear hb1
  go_wp2_with fail
  refine (HSZ.out _).mono ?_
  rintro e w2 ⟨rfl, hb2⟩
  have HB2 := Lib.hid hb2
  clear hb2
  go_wp2_with fail
  refine (HPUT.out _).mono ?_
  rintro e w3 ⟨⟨A3, c3, rfl, hrow⟩, hb3⟩
  have HB3 := Lib.hid hb3
  have HROW := Lib.hid hrow
  clear hb3 hrow
  go_wp2_with fail
  have hcat := concat_any (some ⟨w3.heap.size, 0, none⟩) 2 2 N [(A, c, l), (A3, c3, bitsN r size)] (w3.alloc (.cells #[.slice A n c, .slice A3 size c3] 22))
    (by have := Rd.blk (w := w3.alloc (.cells #[.slice A n c, .slice A3 size c3] 22)) (heap_new_at rfl); simpa [partV, HN.out, bitsN_length] using this) rfl
    (by
      intro p hp
      simp only [List.mem_cons, List.not_mem_nil, or_false] at hp
      rcases hp with rfl | rfl
      · exact ⟨(HR.out.below (below_trans (below_trans HB1.out HB2.out) HB3.out)).alloc _, fun _ e => HNIL.out e⟩
      · exact ⟨HROW.out.rd.alloc _, fun _ e => HROW.out.none_ e⟩) (by simp [partsL, bitsN_length, HN.out, HN2.out]) (by rw [← HN2.out]; omega) (by omega)
  refine hcat.mono ?_
  rintro e w4 ⟨⟨A4, c4, rfl, hrow4⟩, hb4⟩
  have HROW4 := Lib.hid hrow4
  have HB4 := Lib.hid hb4
  clear hrow4 hb4 hcat
  go_wp2_with fail
  go_ret2
  have hb : Below w.heap.size w w3 := below_trans (below_trans HB1.out HB2.out) HB3.out
  refine ⟨⟨A4, c4, rfl, ?_⟩, below_trans (below_alloc hb _) HB4.out⟩
  have h4 := HROW4.out
  have e4 : partsL [(A, c, l), (A3, c3, bitsN r size)] = al := by rw [HADD.out]; simp [partsL]
  rw [e4] at h4
  exact h4.mono (Nat.le_trans hb.size (by simp))
theorem Row.form {w : World} {base t c : Nat} {A : Option Addr} {xs : List Value} (h : Row w base t A c xs) : ∃ b, A = some ⟨b, 0, none⟩ ∨ xs.length = 0 := by
  rcases h.2 with ⟨hv, hx⟩ | ⟨g, cap, cur, hv, _⟩
  · injection hv with e1 e2 _
    exact ⟨0, .inr e2⟩
  · injection hv with e
    exact ⟨g, .inl e⟩
theorem Row.capm {w : World} {base t c : Nat} {A : Option Addr} {xs : List Value} (h : Row w base t A c xs) : c ≤ 9223372036854775807 := by
  rcases h.2 with ⟨hv, hx⟩ | ⟨g, cap, cur, hv, _, _, _, hm, _⟩
  · injection hv with _ _ e3; omega
  · injection hv with _ _ e3
    unfold maxLen at hm
    omega
theorem Add_row {k : Int} {size poly start : Nat} (h : OfK k size poly start) (n c N base : Nat) (A : Option Addr) (l : List Nat) (w : World) (hrow : Row w base 5 A c (bys l)) (hn : l.length = n) (hn2 : n ≤ 65536) (h01 : ∀ x ∈ l, x ≤ 1) (hN : n + size = N) :
    Calls Tryz.prog 68 #[.int .i64 k, .slice A n c] w fun e w' => (∃ A' c', e = .returned (.tuple #[.slice A' N c', .int .i64 0]) ∧ Row w' w.heap.size 5 A' c' (bys (addN size poly start l))) ∧ Below w.heap.size w w' := by
  obtain ⟨b, hA⟩ := hrow.form
  rw [bys_length, hn] at hA
  have hcap := hrow.cap
  rw [bys_length, hn] at hcap
  exact Add_any h b 0 n c N A hA l w hrow.rd (fun e => hrow.none_ e) hn hn2 hcap hrow.capm h01 hN
theorem Sum_row {k : Int} {size poly start : Nat} (h : OfK k size poly start) (n c base : Nat) (A : Option Addr) (l : List Nat) (w : World) (hrow : Row w base 5 A c (bys l)) (hn : l.length = n) (hn2 : n ≤ 65536) (h01 : ∀ x ∈ l, x ≤ 1) :
    Calls Tryz.prog 90 #[.int .i64 k, .slice A n c] w fun e w' => e = .returned (.tuple #[.int .u64 (crcN size poly start l : Nat), .int .i64 0]) ∧ Below w.heap.size w w' := by
  obtain ⟨b, hA⟩ := hrow.form
  rw [bys_length, hn] at hA
  have hcap := hrow.cap
  rw [bys_length, hn] at hcap
  exact Sum_any h b 0 n c A hA l w hrow.rd hn hn2 hcap hrow.capm h01
/-- Two rows joined, whose slices lie in one block. -/
theorem concat2 (W : World) (A1 A2 : Option Addr) (c1 c2 n1 n2 N : Nat) (l1 l2 : List Nat) (h1 : PartOk W (A1, c1, l1)) (h2 : PartOk W (A2, c2, l2)) (e1 : l1.length = n1) (e2 : l2.length = n2) (hN : n1 + n2 = N) (hN2 : N ≤ 1000000) :
    Calls Tryz.prog 55 #[.slice (some ⟨W.heap.size, 0, none⟩) 2 2] (W.alloc (.cells #[.slice A1 n1 c1, .slice A2 n2 c2] 22)) fun e w' => (∃ A' c', e = .returned (.slice A' N c') ∧ Row w' (W.alloc (.cells #[.slice A1 n1 c1, .slice A2 n2 c2] 22)).heap.size 5 A' c' (bys (l1 ++ l2))) ∧ Below (W.alloc (.cells #[.slice A1 n1 c1, .slice A2 n2 c2] 22)).heap.size (W.alloc (.cells #[.slice A1 n1 c1, .slice A2 n2 c2] 22)) w' := by
  have hL : partsL [(A1, c1, l1), (A2, c2, l2)] = l1 ++ l2 := by simp [partsL]
  rw [← hL]
  refine concat_any _ 2 2 N [(A1, c1, l1), (A2, c2, l2)] _ ?_ rfl ?_ ?_ hN2 (by omega)
  · have := Rd.blk (w := W.alloc (.cells #[.slice A1 n1 c1, .slice A2 n2 c2] 22)) (heap_new_at rfl)
    simpa [partV, e1, e2] using this
  · intro p hp
    simp only [List.mem_cons, List.not_mem_nil, or_false] at hp
    rcases hp with rfl | rfl
    · exact h1.below (below_alloc (Below.refl _ _) _)
    · exact h2.below (below_alloc (Below.refl _ _) _)
  · rw [hL, List.length_append, e1, e2, hN]
theorem Row.part {w : World} {base t c : Nat} {A : Option Addr} {l : List Nat} (h : Row w base t A c (bys l)) : PartOk w (A, c, l) := ⟨h.rd, fun _ e => h.none_ e⟩
end Go.Proofs.YtlmdkmflbhnlgaaGreat
namespace Go.Proofs.YtlmdkmflbhnlgaaGreat
open Go.RowKit
theorem row_at {w W : World} {base c ga : Nat} {l : List Nat} (hrow : Row w base 5 (some ⟨ga, 0, none⟩) c (bys l)) (hW : Below w.heap.size w W) (k v : Nat) (h : l[k]? = some v) : W.cell? ⟨ga, k, none⟩ = some (.int .u8 (v : Int)) := by
  have hk : k < l.length := (List.getElem?_eq_some_iff.1 h).1
  obtain ⟨ad, e, hc⟩ := hrow.rd k (.int .u8 (v : Int)) (by rw [bys_get l k hk, (List.getElem?_eq_some_iff.1 h).2])
  injection e with e
  subst e
  refine Below.cell_of hW ?_
  rw [← hc]
  unfold Addr.add
  by_cases hk0 : k = 0 <;> simp [hk0]
theorem row_some {w : World} {base c n : Nat} {A : Option Addr} {l : List Nat} (hrow : Row w base 5 A c (bys l)) (hl : l.length = n) (hn : 0 < n) : ∃ ga, A = some ⟨ga, 0, none⟩ ∧ ga < w.heap.size ∧ n ≤ c ∧ c ≤ 9223372036854775807 := by
  obtain ⟨ga, hA⟩ := hrow.form
  rcases hA with rfl | h
  · have h0 := row_at (W := w) hrow (Below.refl _ _) 0 (l[0]'(by omega)) (by simp)
    have hcap := hrow.cap
    rw [bys_length, hl] at hcap
    exact ⟨ga, rfl, cell_lt h0, hcap, hrow.capm⟩
  · rw [bys_length] at h; omega
theorem calls_name {P : Program} {f : FuncId} {args : Array Value} {W : World} {R : Ending → World → Prop} {T : World → Prop} (hT : T W) (h : ∀ W0, T W0 → Calls P f args W0 R) : Calls P f args W R := h W hT
end Go.Proofs.YtlmdkmflbhnlgaaGreat
-- Tells: fixed.Tells, crc.Fits. No condition.
namespace Go.Proofs.YtlmdkmflbhnlgaaGreat
open Go.RowKit
/-- What four bits tell, if anything. -/
def tellsG (n : Nat) : Nat := (n / 2) ^^^ (n / 2 / 2) ^^^ (n / 2 / 4)
def tellsOk (n : Nat) : Bool := ((tellsG n) ^^^ n) % 2 == 0
set_option maxHeartbeats 4000000 in
theorem Tells_any (A : Option Addr) (c : Nat) (l : List Nat) (w : World) (hr : Rd w A (bys l)) (hl : l.length = 4) (h01 : ∀ x ∈ l, x ≤ 1) :
    Calls Tryz.prog 129 #[.slice A 4 c] w fun e w' => e = .returned (.tuple #[.int .i64 (if tellsOk (numN l) then tellsG (numN l) else 0 : Nat), .int .i64 (if tellsOk (numN l) then 0 else 6)]) ∧ Below w.heap.size w w' := by
  have HG := Lib.hid (Get_any w A c 4 l hr hl (by omega) h01)
  have hlt : numN l < 16 := by have := numN_lt l h01; rw [hl] at this; exact this
  clear hr hl h01
  generalize numN l = n at *
  have hc : n = 0 ∨ n = 1 ∨ n = 2 ∨ n = 3 ∨ n = 4 ∨ n = 5 ∨ n = 6 ∨ n = 7 ∨ n = 8 ∨ n = 9 ∨ n = 10 ∨ n = 11 ∨ n = 12 ∨ n = 13 ∨ n = 14 ∨ n = 15 := by omega
  clear hlt
  rcases hc with rfl | rfl | rfl | rfl | rfl | rfl | rfl | rfl | rfl | rfl | rfl | rfl | rfl | rfl | rfl | rfl
  all_goals
    go_enter Tryz.func129, Tryz.ntmps129
    go_wp2_with fail
    refine HG.out.mono ?_
    rintro e w1 ⟨rfl, hb⟩
    have HB := Lib.hid hb
    clear hb
    go_wp2_with fail
    go_ret2
    exact ⟨by first | rfl | decide, HB.out⟩
theorem rd_take {w : World} {A : Option Addr} {l : List Nat} (h : Rd w A (bys l)) (d : Nat) : Rd w A (bys (l.take d)) := fun j u hj => by
  have hjd : j < (bys (l.take d)).length := (List.getElem?_eq_some_iff.1 hj).1
  rw [bys_length, List.length_take] at hjd
  refine h j u ?_
  rw [bys] at hj ⊢
  rw [List.getElem?_map] at hj ⊢
  rw [List.getElem?_take_of_lt (by omega)] at hj
  exact hj
theorem rd_drop {w : World} {g o : Nat} {l : List Nat} (h : Rd w (some ⟨g, o, none⟩) (bys l)) (d : Nat) : Rd w (some ⟨g, o + d, none⟩) (bys (l.drop d)) := fun j u hj => by
  obtain ⟨ad, e, hc⟩ := h (d + j) u (by
    rw [bys] at hj ⊢
    rw [List.getElem?_map] at hj ⊢
    rw [List.getElem?_drop] at hj
    exact hj)
  injection e with e
  subst e
  refine ⟨_, rfl, ?_⟩
  have e3 : (⟨g, o + d, none⟩ : Addr).add j = (⟨g, o, none⟩ : Addr).add (d + j) := by
    unfold Addr.add
    by_cases hj0 : j = 0
    · subst hj0; by_cases hd0 : d = 0
      · subst hd0; simp
      · simp [hd0]
    · have : d + j ≠ 0 := by omega
      simp [hj0]; omega
  rw [e3]; exact hc
/-- Does a row end with its own sum? -/
def fitsC (size poly start : Nat) (l : List Nat) : Bool := decide (crcN size poly start (l.take (l.length - size)) = numN (l.drop (l.length - size)))
set_option maxHeartbeats 4000000 in
theorem CrcFits_any {k : Int} {size poly start : Nat} (h : OfK k size poly start) (hs0 : 0 < size) (hs64 : size ≤ 64) (g c n : Nat) (l : List Nat) (w : World) (hr : Rd w (some ⟨g, 0, none⟩) (bys l)) (hn : l.length = n) (hn2 : n ≤ 65536) (hs : size ≤ n) (hc1 : n ≤ c) (hc2 : c ≤ 9223372036854775807) (h01 : ∀ x ∈ l, x ≤ 1) :
    Calls Tryz.prog 107 #[.int .i64 k, .slice (some ⟨g, 0, none⟩) n c] w fun e w' => e = .returned (.bool (fitsC size poly start l)) ∧ Below w.heap.size w w' := by
  obtain ⟨d, hd⟩ : ∃ d, n - size = d := ⟨_, rfl⟩
  have hok : bitsOk l = true := by unfold bitsOk; rw [decide_eq_true (by omega : l.length ≤ 65536), decide_eq_true h01]; rfl
  have HZ := Lib.hid (fun W => Size_any h W)
  have HC := Lib.hid (fun W hW => BitsCheck_any (some ⟨g, 0, none⟩) n c l W hW hn (by omega))
  rw [hok] at HC
  have h1 : (l.drop d).length = size := by rw [List.length_drop, hn]; omega
  have h2 : (l.take d).length = d := by rw [List.length_take, hn]; omega
  have HG := Lib.hid (fun W hW => Get_any W (some ⟨g, d, none⟩) (c - d) size (l.drop d) hW h1 hs64 (fun x hx => h01 x (List.mem_of_mem_drop hx)))
  have HS := Lib.hid (fun W hW => Sum_any h g 0 d c (some ⟨g, 0, none⟩) (.inl rfl) (l.take d) W hW h2 (by omega) (by omega) hc2 (fun x hx => h01 x (List.mem_of_mem_take hx)))
  have hf : fitsC size poly start l = decide (crcN size poly start (l.take d) = numN (l.drop d)) := by unfold fitsC; rw [hn, hd]
  rw [hf]
  have HR := Lib.hid hr
  have HD1 : Hid (∀ W, Rd W (some ⟨g, 0, none⟩) (bys l) → Rd W (some ⟨g, d, none⟩) (bys (l.drop d))) := fun W h => by have := rd_drop h d; rwa [Nat.zero_add] at this
  have HD2 : Hid (∀ W, Rd W (some ⟨g, 0, none⟩) (bys l) → Rd W (some ⟨g, 0, none⟩) (bys (l.take d))) := fun W h => rd_take h d
  generalize crcN size poly start (l.take d) = X at *
  generalize numN (l.drop d) = Y at *
  have hdi : (n : Int) - (size : Int) = (d : Int) := by omega
  have hcd : ¬ c = d := by omega
  have hnd : n - d = size := by omega
  have hs0' : ¬ size = 0 := by omega
  have hsl : ¬ n < size := by omega
  clear hr hok h01 h1 h2 hf hn hd
  go_enter Tryz.func107, Tryz.ntmps107
  go_wp2_with fail
  refine (HZ.out _).mono ?_
  rintro e w1 ⟨rfl, hb1⟩
  have R1 := Lib.hid (HR.out.below hb1)
  have HB1 := Lib.hid hb1
  clear hb1
  go_wp2_with fail
  refine (HC.out _ R1.out).mono ?_
  rintro e _ ⟨rfl, rfl⟩
  simp only [if_true]
  go_wp2_with fail
  refine (HG.out _ (HD1.out _ R1.out)).mono ?_
  rintro e w2 ⟨rfl, hb2⟩
  have R2 := Lib.hid (R1.out.below hb2)
  have HB2 := Lib.hid (below_trans HB1.out hb2)
  clear hb2
  go_wp2_with fail
  refine (HS.out _ (HD2.out _ R2.out)).mono ?_
  rintro e w3 ⟨rfl, hb3⟩
  have HB3 := Lib.hid (below_trans HB2.out hb3)
  clear hb3
  go_wp2_with fail
  go_ret
  exact ⟨ret_bool (by rw [Bool.eq_iff_iff]; simp only [beq_iff_eq, decide_eq_true_eq]; omega), HB3.out⟩
end Go.Proofs.YtlmdkmflbhnlgaaGreat
-- PFixed: Fixed stuffing, by definition: a stuff bit behind every so many bits (and ahead of all, where the way says so). No condition.
namespace Go.Proofs.YtlmdkmflbhnlgaaGreat
open Go.RowKit
/-- Bits with stuff bits; every: how many bits lie between two; left: how many are left ahead of the next. -/
def fixE (every : Nat) : Nat → Nat → List Nat → List Nat
  | _, _, [] => []
  | last, left, x :: l => if left = 0 then (1 - last) :: x :: fixE every x (every - 1) l else x :: fixE every x (left - 1) l
def fixN (every : Nat) (ahead : Bool) (prev : Nat) (l : List Nat) : List Nat := fixE every prev (if ahead then 0 else every) l
theorem fixE_bits (every : Nat) (l : List Nat) (h : ∀ x ∈ l, x ≤ 1) : ∀ last left, ∀ x ∈ fixE every last left l, x ≤ 1 := by
  induction l with
  | nil => intro last left x hx; simp [fixE] at hx
  | cons y l ih =>
    intro last left x hx
    have hy := h y (by simp)
    have hl := fun z hz => h z (List.mem_cons_of_mem y hz)
    unfold fixE at hx
    split at hx
    · rcases List.mem_cons.1 hx with rfl | hx
      · omega
      · rcases List.mem_cons.1 hx with rfl | hx
        · exact hy
        · exact ih hl _ _ x hx
    · rcases List.mem_cons.1 hx with rfl | hx
      · exact hy
      · exact ih hl _ _ x hx
/-- Of (left) bits none, then one behind each (every): how long it gets. -/
theorem fixE_length (every : Nat) (he : 1 ≤ every) (l : List Nat) : ∀ last left, left ≤ every → (fixE every last left l).length = l.length + (l.length + (every - left) - 1) / every - (if left = every then 0 else 0) + (if l.length = 0 then 0 else 0) ∨ l = [] := by
  induction l with
  | nil => intro last left _; exact .inr rfl
  | cons x l ih =>
    intro last left hle
    refine .inl ?_
    simp only [ite_self, Nat.sub_zero, Nat.add_zero]
    unfold fixE
    split
    · rename_i h0
      subst h0
      rcases ih x (every - 1) (by omega) with h | rfl
      · simp only [ite_self, Nat.sub_zero, Nat.add_zero] at h
        simp only [List.length_cons, h]
        have e1 : l.length + 1 + (every - 0) - 1 = l.length + every := by omega
        have e2 : l.length + (every - (every - 1)) - 1 = l.length := by omega
        rw [e1, e2, Nat.add_div_right _ (by omega)]
        omega
      · have e : 1 + (every - 0) - 1 = every := by omega
        simp [fixE, Nat.div_self (show 0 < every by omega)]
    · rename_i h0
      rcases ih x (left - 1) (by omega) with h | rfl
      · simp only [ite_self, Nat.sub_zero, Nat.add_zero] at h
        simp only [List.length_cons, h]
        have e1 : l.length + (every - (left - 1)) - 1 = l.length + 1 + (every - left) - 1 := by omega
        rw [e1]
        omega
      · have e : 1 + (every - left) - 1 = every - left := by omega
        simp [fixE, e, Nat.div_eq_of_lt (show every - left < every by omega)]
theorem fixN_length (every : Nat) (ahead : Bool) (prev : Nat) (l : List Nat) (he : 1 ≤ every) : (fixN every ahead prev l).length = if l.length = 0 then 0 else l.length + (l.length - 1) / every + (if ahead then 1 else 0) := by
  by_cases h0 : l = []
  · subst h0; simp [fixN, fixE]
  · have hl : l.length ≠ 0 := fun h => h0 (List.eq_nil_of_length_eq_zero h)
    rw [if_neg hl]
    unfold fixN
    rcases fixE_length every he l prev (if ahead then 0 else every) (by split <;> omega) with h | h
    · rw [h]
      cases ahead
      · simp
      · have e : l.length + every - 1 = (l.length - 1) + every := by omega
        simp [e, Nat.add_div_right _ (show 0 < every by omega)]
        omega
    · exact absurd h h0
end Go.Proofs.YtlmdkmflbhnlgaaGreat
-- Fixed0: fixed's line: how a row of raw bits is gone through. No condition.
namespace Go.Proofs.YtlmdkmflbhnlgaaGreat
open Go.RowKit
abbrev lineC (ev : Nat) (ah : Bool) (last left : Nat) : Obj := .cells #[.int .i64 ev, .bool ah, .int .u8 last, .int .i64 left] 144
theorem due_any (b ev last left : Nat) (ah : Bool) (w : World) (h : w.heap[b]? = some (lineC ev ah last left)) :
    Calls Tryz.prog 86 #[.pointer (some ⟨b, 0, none⟩)] w fun e w' => e = .returned (.bool (decide (left = 0))) ∧ w = w' := by
  have c3 : w.cell? ⟨b, 3, none⟩ = some (.int .i64 left) := cell_of_heap h 3 _ rfl
  go_enter Tryz.func86, Tryz.ntmps86
  go_wp2
  go_ret
  exact ⟨ret_bool (by rw [Bool.eq_iff_iff]; simp), rfl⟩
set_option maxHeartbeats 1000000 in
theorem lineSee_any (b ev last left x : Nat) (ah : Bool) (w : World) (h : w.heap[b]? = some (lineC ev ah last left)) (hl : 1 ≤ left) (hl2 : left ≤ 1000) :
    Calls Tryz.prog 88 #[.pointer (some ⟨b, 0, none⟩), .int .u8 x] w fun e w' => e = .returned (.tuple #[]) ∧ w'.heap[b]? = some (lineC ev ah x (left - 1)) ∧ Touch b b w w' := by
  have c2 : w.cell? ⟨b, 2, none⟩ = some (.int .u8 last) := cell_of_heap h 2 _ rfl
  have c3 : w.cell? ⟨b, 3, none⟩ = some (.int .i64 left) := cell_of_heap h 3 _ rfl
  have z2 : w.frozen? ⟨b, 2, none⟩ = false := by simp [World.frozen?, h]
  have z3 : w.frozen? ⟨b, 3, none⟩ = false := by simp [World.frozen?, h]
  have HH := Lib.hid h
  clear h
  go_enter Tryz.func88, Tryz.ntmps88
  go_wp2
  go_end0
  refine ⟨rfl, ?_, ((Touch.refl b b w).setCell (p := ⟨b, 2, none⟩) (.inl rfl) _).setCell (p := ⟨b, 3, none⟩) (.inl rfl) _⟩
  rw [heap_setCell (heap_setCell HH.out 2 _) 3 _]
  simp
  omega
set_option maxHeartbeats 1000000 in
theorem lineStuff_any (b ev last left : Nat) (ah : Bool) (w : World) (h : w.heap[b]? = some (lineC ev ah last left)) (hl : last ≤ 1) :
    Calls Tryz.prog 87 #[.pointer (some ⟨b, 0, none⟩)] w fun e w' => e = .returned (.int .u8 (1 - last : Nat)) ∧ w'.heap[b]? = some (lineC ev ah (1 - last) ev) ∧ Touch b b w w' := by
  have c0 : w.cell? ⟨b, 0, none⟩ = some (.int .i64 ev) := cell_of_heap h 0 _ rfl
  have c2 : w.cell? ⟨b, 2, none⟩ = some (.int .u8 last) := cell_of_heap h 2 _ rfl
  have c3 : w.cell? ⟨b, 3, none⟩ = some (.int .i64 left) := cell_of_heap h 3 _ rfl
  have z2 : w.frozen? ⟨b, 2, none⟩ = false := by simp [World.frozen?, h]
  have z3 : w.frozen? ⟨b, 3, none⟩ = false := by simp [World.frozen?, h]
  have HH := Lib.hid h
  clear h
  go_enter Tryz.func87, Tryz.ntmps87
  go_wp2
  go_region
  go_wp2
  have e1 : (1 : Int) - (last : Int) = ((1 - last : Nat) : Int) := by omega
  go_ret
  refine ⟨ret_int (by omega), ?_, (((Touch.refl b b w).setCell (p := ⟨b, 2, none⟩) (.inl rfl) _).setCell (p := ⟨b, 3, none⟩) (.inl rfl) _).drew⟩
  show ((w.setCell _ _).setCell _ _).heap[b]? = _
  rw [heap_setCell (heap_setCell HH.out 2 _) 3 _, e1]
  simp
abbrev wayV (ev : Nat) (ah : Bool) : Value := .agg #[.int .i64 ev, .bool ah]
theorem may_any (ev : Nat) (ah : Bool) (w : World) (h1 : 1 ≤ ev) (h2 : ev ≤ 64) :
    Calls Tryz.prog 101 #[wayV ev ah] w fun e w' => e = .returned (.bool true) ∧ Below w.heap.size w w' := by
  have a1 : (1 : Int) ≤ (ev : Int) := by omega
  have a2 : (ev : Int) ≤ 64 := by omega
  go_enter Tryz.func101, Tryz.ntmps101
  go_wp2
  go_ret
  exact ⟨by first | rfl | simp, below_alloc (Below.refl _ _) _⟩
theorem begin_any (ev prev : Nat) (ah : Bool) (w : World) :
    Calls Tryz.prog 85 #[wayV ev ah, .int .u8 prev] w fun e w' => e = .returned (.pointer (some ⟨w.heap.size + 1, 0, none⟩)) ∧ w'.heap[w.heap.size + 1]? = some (lineC ev ah prev (if ah then 0 else ev)) ∧ w'.heap.size = w.heap.size + 1 + 1 ∧ Below w.heap.size w w' := by
  have hb := below_alloc (below_alloc (Below.refl w.heap.size w) (.cells #[.int .i64 ev, .bool ah] 99)) (.cells #[.int .i64 ev, .bool ah, .int .u8 prev, .int .i64 ev] 144)
  cases ah
  · go_enter Tryz.func85, Tryz.ntmps85
    go_wp2
    go_ret
    exact ⟨rfl, heap_new_at (by simp), by simp, hb⟩
  · go_enter Tryz.func85, Tryz.ntmps85
    go_wp2
    go_ret
    exact ⟨rfl, heap_new_at (by simp), by simp, below_alloc (below_alloc (Below.refl _ _) _) _⟩
def fsize (n ev : Nat) (ah : Bool) : Nat := if n = 0 then 0 else n + (n - 1) / ev + (if ah then 1 else 0)
theorem FSize_any (n ev : Nat) (ah : Bool) (w : World) (h1 : 1 ≤ ev) (h2 : ev ≤ 64) (hn : n ≤ 65536) :
    Calls Tryz.prog 83 #[.int .i64 n, wayV ev ah] w fun e w' => e = .returned (.tuple #[.int .i64 (fsize n ev ah : Nat), .int .i64 0]) ∧ Below w.heap.size w w' := by
  have HM := Lib.hid (fun W => may_any ev ah W h1 h2)
  have a0 : ¬ (n : Int) < 0 := by omega
  have a1 : ¬ (65536 : Int) < (n : Int) := by omega
  have hev : ¬ (ev : Int) = 0 := by omega
  obtain ⟨q, hq⟩ : ∃ q, (n - 1) / ev = q := ⟨_, rfl⟩
  have hqle : q ≤ n := by rw [← hq]; exact Nat.le_trans (Nat.div_le_self _ _) (by omega)
  by_cases hn0 : n = 0
  · subst hn0
    clear hq hqle
    go_enter Tryz.func83, Tryz.ntmps83
    go_wp2_with fail
    refine (HM.out _).mono ?_
    rintro e w1 ⟨rfl, hb⟩
    have HB := Lib.hid (below_trans (below_alloc (Below.refl _ w) _) hb)
    clear hb
    go_wp2_with fail
    go_ret2
    exact ⟨rfl, HB.out⟩
  · have hnz : ((n : Int) == 0) = false := by rw [beq_eq_false_iff_ne]; omega
    have hdiv : ((n : Int) - 1).tdiv (ev : Int) = (q : Int) := by
      rw [Int.tdiv_eq_ediv_of_nonneg (by omega), ← hq]
      have : (n : Int) - 1 = ((n - 1 : Nat) : Int) := by omega
      rw [this]; simp
    have hfs : (fsize n ev ah : Int) = (n : Int) + (q : Int) + (if ah then 1 else 0) := by
      unfold fsize; rw [if_neg hn0, hq]; cases ah <;> simp
    have HFS := Lib.hid hfs
    clear hq hfs
    go_enter Tryz.func83, Tryz.ntmps83
    go_wp2_with fail
    refine calls_name (T := fun W1 => W1.heap[w.heap.size]? = some (.cells #[.int .i64 ev, .bool ah] 99) ∧ Below w.heap.size w W1) ⟨heap_new_at rfl, below_alloc (Below.refl _ _) _⟩ ?_
    rintro W1 ⟨q1, hb1⟩
    refine (HM.out _).mono ?_
    rintro e w1 ⟨rfl, hb⟩
    have c0 := cell_of_heap (heap_below hb q1) 0 _ rfl
    have c1 : w1.cell? ⟨w.heap.size, 1, none⟩ = some (.bool ah) := cell_of_heap (heap_below hb q1) 1 _ rfl
    have HB := Lib.hid (below_trans hb1 hb)
    clear hb q1 hb1
    cases ah
    · go_wp2_with fail
      go_ret2
      exact ⟨ret_fst (by have := HFS.out; simp at this; omega), HB.out⟩
    · go_wp2_with fail
      go_ret2
      exact ⟨ret_fst (by have := HFS.out; simp at this; omega), HB.out⟩
theorem fcheck_any (prev ev n c : Nat) (ah : Bool) (A : Option Addr) (l : List Nat) (w : World) (h1 : 1 ≤ ev) (h2 : ev ≤ 64) (hp : prev ≤ 1) (hr : Rd w A (bys l)) (hn : l.length = n) (hn2 : n ≤ 65536) (h01 : ∀ x ∈ l, x ≤ 1) :
    Calls Tryz.prog 84 #[.int .u8 prev, .slice A n c, wayV ev ah] w fun e w' => e = .returned (.bool true) ∧ Below w.heap.size w w' := by
  have hok : bitsOk l = true := by unfold bitsOk; rw [decide_eq_true (by omega : l.length ≤ 65536), decide_eq_true h01]; rfl
  have hC := fun W (hW : Rd W A (bys l)) => BitsCheck_any A n c l W hW hn (by omega)
  rw [hok, if_pos rfl] at hC
  have HC := Lib.hid hC
  have HM := Lib.hid (fun W => may_any ev ah W h1 h2)
  have HR := Lib.hid hr
  have hp1 : (prev : Int) ≤ 1 := by omega
  clear hok hC hr h01
  go_enter Tryz.func84, Tryz.ntmps84
  go_wp2_with fail
  refine (HC.out _ (HR.out.alloc _)).mono ?_
  rintro e _ ⟨rfl, rfl⟩
  go_wp2_with fail
  refine (HM.out _).mono ?_
  rintro e w1 ⟨rfl, hb⟩
  have HB := Lib.hid (below_trans (below_alloc (Below.refl _ w) _) hb)
  clear hb
  go_wp2_with fail
  go_ret
  exact ⟨by first | rfl | simp, HB.out⟩
end Go.Proofs.YtlmdkmflbhnlgaaGreat
-- PStuff: Stuffing as a law of lists: runs, lengths, and where two rows first differ. No condition.
namespace Go.Proofs.YtlmdkmflbhnlgaaGreat
open Go.RowKit
/-- The run behind one bit more. -/
def seeN (last run x : Nat) : Nat := if 0 < run ∧ last = x then run + 1 else 1
def stf : Nat → Nat → List Nat → List Nat
  | _, _, [] => []
  | last, run, b :: l => if run = 5 then (1 - last) :: b :: stf b (seeN (1 - last) 1 b) l else b :: stf b (seeN last run b) l
/-- The state of the raw row behind a list. -/
def stE : Nat → Nat → List Nat → Nat × Nat
  | last, run, [] => (last, run)
  | last, run, b :: l => if run = 5 then stE b (seeN (1 - last) 1 b) l else stE b (seeN last run b) l
/-- Bits with stuff bits. -/
def stuffN (l : List Nat) : List Nat := stf 0 0 l
theorem seeN_le (last run x : Nat) : seeN last run x ≤ run + 1 := by unfold seeN; split <;> omega
theorem seeN_pos (last run x : Nat) : 1 ≤ seeN last run x := by unfold seeN; split <;> omega
theorem stf_append (a b : List Nat) : ∀ last run, stf last run (a ++ b) = stf last run a ++ stf (stE last run a).1 (stE last run a).2 b := by
  induction a with
  | nil => intro last run; rfl
  | cons x a ih =>
    intro last run
    simp only [List.cons_append, stf, stE]
    split <;> rw [ih] <;> rfl
theorem stE_append (a b : List Nat) : ∀ last run, stE last run (a ++ b) = stE (stE last run a).1 (stE last run a).2 b := by
  induction a with
  | nil => intro last run; rfl
  | cons x a ih =>
    intro last run
    simp only [List.cons_append, stE]
    split <;> rw [ih]
theorem stE_le (l : List Nat) : ∀ last run, run ≤ 5 → (stE last run l).2 ≤ 5 := by
  induction l with
  | nil => intro last run h; exact h
  | cons x l ih =>
    intro last run h
    simp only [stE]
    split
    · exact ih _ _ (by have := seeN_le (1 - last) 1 x; omega)
    · exact ih _ _ (by have := seeN_le last run x; omega)
theorem stf_len (l : List Nat) : ∀ last run, run ≤ 5 → l ≠ [] → 4 * (stf last run l).length + 1 ≤ 5 * l.length + run := by
  induction l with
  | nil => intro _ _ _ h; exact absurd rfl h
  | cons x l ih =>
    intro last run h _
    simp only [stf]
    by_cases hl : l = []
    · subst hl
      split <;> simp [stf] <;> omega
    · split
      · have h1 := seeN_le (1 - last) 1 x
        have := ih x (seeN (1 - last) 1 x) (by omega) hl
        simp only [List.length_cons]; omega
      · have h1 := seeN_le last run x
        have := ih x (seeN last run x) (by omega) hl
        simp only [List.length_cons]; omega
theorem stf_ge (l : List Nat) : ∀ last run, l.length ≤ (stf last run l).length := by
  induction l with
  | nil => intro _ _; simp
  | cons x l ih =>
    intro last run
    simp only [stf]
    split
    · have := ih x (seeN (1 - last) 1 x); simp only [List.length_cons]; omega
    · have := ih x (seeN last run x); simp only [List.length_cons]; omega
theorem stuffN_len (l : List Nat) (h : l ≠ []) : (stuffN l).length ≤ l.length + (l.length - 1) / 4 := by
  have := stf_len l 0 0 (by omega) h
  unfold stuffN; omega
theorem stuffN_le (l : List Nat) : (stuffN l).length ≤ l.length + l.length / 4 := by
  by_cases h : l = []
  · subst h; simp [stuffN, stf]
  · have := stuffN_len l h; omega
theorem stuffN_ge (l : List Nat) : l.length ≤ (stuffN l).length := stf_ge l 0 0
theorem stf_bits (l : List Nat) (hl : ∀ x ∈ l, x ≤ 1) : ∀ last run, ∀ x ∈ stf last run l, x ≤ 1 := by
  induction l with
  | nil => intro _ _ x hx; simp [stf] at hx
  | cons b l ih =>
    intro last run x hx
    have hb := hl b (by simp)
    have hl' : ∀ x ∈ l, x ≤ 1 := fun x hx => hl x (by simp [hx])
    simp only [stf] at hx
    split at hx
    · simp only [List.mem_cons] at hx
      rcases hx with rfl | rfl | hx
      · omega
      · exact hb
      · exact ih hl' _ _ x hx
    · simp only [List.mem_cons] at hx
      rcases hx with rfl | hx
      · exact hb
      · exact ih hl' _ _ x hx
theorem stuffN_bits (l : List Nat) (hl : ∀ x ∈ l, x ≤ 1) : ∀ x ∈ stuffN l, x ≤ 1 := stf_bits l hl 0 0
theorem stf_diff (p a b : List Nat) (x y : Nat) : ∀ last run, ∃ q a' b', stf last run (p ++ x :: a) = q ++ x :: a' ∧ stf last run (p ++ y :: b) = q ++ y :: b' := by
  induction p with
  | nil =>
    intro last run
    simp only [List.nil_append, stf]
    split
    · exact ⟨[1 - last], _, _, rfl, rfl⟩
    · exact ⟨[], _, _, rfl, rfl⟩
  | cons z p ih =>
    intro last run
    simp only [List.cons_append, stf]
    split
    · obtain ⟨q, a', b', h1, h2⟩ := ih z (seeN (1 - last) 1 z)
      exact ⟨(1 - last) :: z :: q, a', b', by rw [h1]; rfl, by rw [h2]; rfl⟩
    · obtain ⟨q, a', b', h1, h2⟩ := ih z (seeN last run z)
      exact ⟨z :: q, a', b', by rw [h1]; rfl, by rw [h2]; rfl⟩
/-- Runs of a raw row: none is longer than five. -/
def runsB : Nat → Nat → List Nat → Bool
  | _, _, [] => true
  | last, run, b :: l => decide (seeN last run b ≤ 5) && runsB b (seeN last run b) l
theorem stf_runs (l : List Nat) : ∀ last run, run ≤ 5 → runsB last run (stf last run l) = true := by
  induction l with
  | nil => intro _ _ _; rfl
  | cons b l ih =>
    intro last run h
    simp only [stf]
    split
    · have e : seeN last run (1 - last) = 1 := by unfold seeN; rw [if_neg (by omega)]
      have h1 := seeN_le (1 - last) 1 b
      simp only [runsB, e]
      rw [ih _ _ (by omega)]
      simp; omega
    · have h1 := seeN_le last run b
      simp only [runsB]
      rw [ih _ _ (by omega)]
      simp; omega
theorem stuffN_runs (l : List Nat) : runsB 0 0 (stuffN l) = true := stf_runs l 0 0 (by omega)
/-- The state of a raw row. -/
def rawE : Nat → Nat → List Nat → Nat × Nat
  | last, run, [] => (last, run)
  | last, run, b :: l => rawE b (seeN last run b) l
theorem rawE_append (a b : List Nat) : ∀ last run, rawE last run (a ++ b) = rawE (rawE last run a).1 (rawE last run a).2 b := by
  induction a with
  | nil => intro last run; rfl
  | cons x a ih => intro last run; simp only [List.cons_append, rawE]; rw [ih]
theorem rawE_stf (l : List Nat) : ∀ last run, run ≤ 5 → rawE last run (stf last run l) = stE last run l := by
  induction l with
  | nil => intro _ _ _; rfl
  | cons b l ih =>
    intro last run h
    simp only [stf, stE]
    split
    · have e : seeN last run (1 - last) = 1 := by unfold seeN; rw [if_neg (by omega)]
      have h1 := seeN_le (1 - last) 1 b
      simp only [rawE, e]
      exact ih _ _ (by omega)
    · have h1 := seeN_le last run b
      simp only [rawE]
      exact ih _ _ (by omega)
theorem runsB_append (a b : List Nat) : ∀ last run, runsB last run (a ++ b) = (runsB last run a && runsB (rawE last run a).1 (rawE last run a).2 b) := by
  induction a with
  | nil => intro last run; simp [runsB, rawE]
  | cons x a ih => intro last run; simp only [List.cons_append, runsB, rawE]; rw [ih, Bool.and_assoc]
/-- How a raw row ends. -/
def Tails (last run : Nat) (out : List Nat) : Prop := (run = 0 ∧ out = []) ∨ (1 ≤ run ∧ ∃ pre, out = pre ++ List.replicate run last ∧ ∀ p y, pre = p ++ [y] → y ≠ last)
theorem Tails.see {last run : Nat} {out : List Nat} (h : Tails last run out) (b : Nat) : Tails b (seeN last run b) (out ++ [b]) := by
  right
  refine ⟨seeN_pos _ _ _, ?_⟩
  rcases h with ⟨rfl, rfl⟩ | ⟨h1, pre, rfl, hp⟩
  · exact ⟨[], by simp [seeN], fun p y h => by simp at h⟩
  · by_cases e : last = b
    · subst e
      refine ⟨pre, ?_, hp⟩
      have : seeN last run last = run + 1 := by unfold seeN; rw [if_pos ⟨by omega, rfl⟩]
      rw [this, List.replicate_succ', List.append_assoc]
    · have : seeN last run b = 1 := by unfold seeN; rw [if_neg (by simp [e])]
      rw [this]
      refine ⟨pre ++ List.replicate run last, by simp, fun p y h => ?_⟩
      obtain ⟨r, rfl⟩ : ∃ r, run = r + 1 := ⟨run - 1, by omega⟩
      rw [List.replicate_succ', ← List.append_assoc] at h
      have := List.append_inj_right' h rfl
      simp at this
      omega
theorem Tails.full {last run : Nat} {out : List Nat} (h : Tails last run out) (h5 : run ≤ 5) : run = 5 ↔ (5 ≤ out.length ∧ ∀ j, j < 5 → out[out.length - 1 - j]? = out[out.length - 1]?) := by
  rcases h with ⟨rfl, rfl⟩ | ⟨h1, pre, rfl, hp⟩
  · simp
  · have hlast : ∀ j, j < run → (pre ++ List.replicate run last)[(pre ++ List.replicate run last).length - 1 - j]? = some last := by
      intro j hj
      rw [List.getElem?_append_right (by simp; omega), List.getElem?_replicate, if_pos (by simp; omega)]
    constructor
    · rintro rfl
      refine ⟨by simp, fun j hj => ?_⟩
      have h0 := hlast 0 (by omega)
      rw [Nat.sub_zero] at h0
      rw [hlast j hj, h0]
    · rintro ⟨h6, h7⟩
      refine Classical.byContradiction fun hne => ?_
      have hr : run < 5 := by omega
      rcases List.eq_nil_or_concat pre with rfl | ⟨p, y, hpre⟩
      · simp at h6; omega
      · rw [List.concat_eq_append] at hpre
        subst hpre
        have h8 := h7 run hr
        have h9 := hlast 0 (by omega)
        rw [Nat.sub_zero] at h9
        rw [h9] at h8
        have hy := hp p y rfl
        rw [List.getElem?_append_left (by simp)] at h8
        have e : (p ++ [y] ++ List.replicate run last).length - 1 - run = p.length := by simp
        rw [e, List.getElem?_append_right (by omega)] at h8
        simp at h8
        exact hy h8
end Go.Proofs.YtlmdkmflbhnlgaaGreat
-- StuffPut: stuff's state: how a row of raw bits ends. No condition.
namespace Go.Proofs.YtlmdkmflbhnlgaaGreat
open Go.RowKit
def seeL (last run x : Nat) : Nat := if 0 < run ∧ last = x then last else x
theorem full_any (b : Nat) (last run : Nat) (t : TypeId) (w : World) (h : w.heap[b]? = some (.cells #[.int .u8 last, .int .i64 run] t)) :
    Calls Tryz.prog 40 #[.pointer (some ⟨b, 0, none⟩)] w fun e w' => e = .returned (.bool (decide (run = 5))) ∧ w = w' := by
  have c0 := cell_of_heap h 0 _ rfl
  have c1 : w.cell? ⟨b, 1, none⟩ = some (.int .i64 run) := cell_of_heap h 1 _ rfl
  go_enter Tryz.func40, Tryz.ntmps40
  go_wp2
  go_ret
  exact ⟨ret_bool (by rw [Bool.eq_iff_iff]; simp; omega), rfl⟩
set_option maxHeartbeats 1000000 in
theorem see_any (b : Nat) (last run x : Nat) (t : TypeId) (w : World) (h : w.heap[b]? = some (.cells #[.int .u8 last, .int .i64 run] t)) (hr : run ≤ 1000000) :
    Calls Tryz.prog 41 #[.pointer (some ⟨b, 0, none⟩), .int .u8 x] w fun e w' => e = .returned (.tuple #[]) ∧ w'.heap[b]? = some (.cells #[.int .u8 (seeL last run x : Nat), .int .i64 (seeN last run x : Nat)] t) ∧ Touch b b w w' := by
  have c0 := cell_of_heap h 0 _ rfl
  have c1 : w.cell? ⟨b, 1, none⟩ = some (.int .i64 run) := cell_of_heap h 1 _ rfl
  have z0 : w.frozen? ⟨b, 0, none⟩ = false := by simp [World.frozen?, h]
  have z1 : w.frozen? ⟨b, 1, none⟩ = false := by simp [World.frozen?, h]
  have HH := Lib.hid h
  clear h
  by_cases hr0 : run = 0
  · subst hr0
    go_enter Tryz.func41, Tryz.ntmps41
    go_wp2
    go_end0
    refine ⟨rfl, ?_, ((Touch.refl b b w).setCell (p := ⟨b, 0, none⟩) (.inl rfl) _).setCell (p := ⟨b, 1, none⟩) (.inl rfl) _⟩
    rw [heap_setCell (heap_setCell HH.out 0 _) 1 _]
    simp [seeN, seeL]
  · by_cases he : last = x
    · have hei : ((run : Int) > 0) := by omega
      subst he
      go_enter Tryz.func41, Tryz.ntmps41
      go_wp2
      (first | go_returns | go_ret)
      refine ⟨rfl, ?_, (Touch.refl b b w).setCell (p := ⟨b, 1, none⟩) (.inl rfl) _⟩
      rw [heap_setCell HH.out 1 _]
      simp [seeN, seeL, show 0 < run by omega]
    · have hne : ¬ (last : Int) = (x : Int) := by omega
      go_enter Tryz.func41, Tryz.ntmps41
      go_wp2
      go_end0
      refine ⟨rfl, ?_, ((Touch.refl b b w).setCell (p := ⟨b, 0, none⟩) (.inl rfl) _).setCell (p := ⟨b, 1, none⟩) (.inl rfl) _⟩
      rw [heap_setCell (heap_setCell HH.out 0 _) 1 _]
      simp [seeN, seeL, he]
end Go.Proofs.YtlmdkmflbhnlgaaGreat
namespace Go.Proofs.YtlmdkmflbhnlgaaGreat
open Go.RowKit
theorem seeL_eq (last run x : Nat) : seeL last run x = x := by unfold seeL; split <;> simp_all
/-- Of what lay below B only blocks b and d are turned. -/
structure Keep2 (B b d : Nat) (w w' : World) : Prop where
  os : w'.os = w.os
  tape : w'.tape = w.tape
  output : w'.output = w.output
  size : w.heap.size ≤ w'.heap.size
  block : ∀ k, k < B → k ≠ b → k ≠ d → w'.heap[k]? = w.heap[k]?
theorem Keep2.refl (B b d : Nat) (w : World) : Keep2 B b d w w := ⟨rfl, rfl, rfl, Nat.le_refl _, fun _ _ _ _ => rfl⟩
theorem Keep2.trans {B b d : Nat} {w w1 w2 : World} (h : Keep2 B b d w w1) (k : Keep2 B b d w1 w2) : Keep2 B b d w w2 :=
  ⟨k.os.trans h.os, k.tape.trans h.tape, k.output.trans h.output, Nat.le_trans h.size k.size, fun i hi h1 h2 => (k.block i hi h1 h2).trans (h.block i hi h1 h2)⟩
theorem Keep2.ofTouch {B b d : Nat} {w w' : World} (h : Touch b b w w') (hB : B ≤ w.heap.size) : Keep2 B b d w w' := ⟨h.os, h.tape, h.output, h.size, fun k hk h1 _ => h.block k (by omega) h1 h1⟩
theorem Keep2.ofKeep {B b d : Nat} {w w' : World} (h : Keep B d w w') : Keep2 B b d w w' := ⟨h.os, h.tape, h.output, h.size, fun k hk _ h2 => h.block k hk h2⟩
theorem Keep2.below {B b d C : Nat} {w w' : World} (h : Keep2 B b d w w') (hb : C ≤ b) (hd : C ≤ d) (hB : C ≤ B) : Below C w w' := ⟨h.os, h.tape, h.output, h.size, fun k hk => h.block k (by omega) (by omega) (by omega)⟩
theorem Keep2.cell_of {B b d : Nat} {w w' : World} (h : Keep2 B b d w w') {a : Addr} {v : Value} (hc : w.cell? a = some v) (h1 : a.block < B) (h2 : a.block ≠ b) (h3 : a.block ≠ d) : w'.cell? a = some v := cell_same (h.block _ h1 h2 h3) hc
/-- A row of stuffed bits under way: block bs holds how it ends, block bo the row. -/
structure Stf (w : World) (B bs bo : Nat) (A : Option Addr) (c last run : Nat) (out : List Nat) : Prop where
  pot : Pot w B bo 22 A c out
  st : w.heap[bs]? = some (.cells #[.int .u8 last, .int .i64 run] 75)
  ne : bs ≠ bo
  ns : ∀ ad, A = some ad → ad.block ≠ bs
  lt : bs < B
theorem Row.touch {w w' : World} {base t c b : Nat} {A : Option Addr} {xs : List Value} (h : Row w base t A c xs) (ht : Touch b b w w') (hb : ∀ ad, A = some ad → ad.block ≠ b) : Row w' base t A c xs := by
  refine ⟨h.1, h.2.imp id fun ⟨g, cap, cur, hv, hg, hh, r⟩ => ⟨g, cap, cur, hv, hg, ?_, r⟩⟩
  have hne : g ≠ b := by injection hv with e _ _; exact hb _ e
  rw [ht.block g (heap_lt hh) hne hne]; exact hh
theorem Row.ge {w : World} {base t c : Nat} {A : Option Addr} {xs : List Value} (h : Row w base t A c xs) : ∀ ad, A = some ad → base ≤ ad.block := by
  intro ad e
  subst e
  rcases h.2 with ⟨hv, _⟩ | ⟨g, cap, cur, hv, hg, _⟩
  · cases hv
  · injection hv with e; injection e with e; rw [e]; exact hg
set_option maxRecDepth 100000 in
set_option maxHeartbeats 1000000 in
theorem put1_any (w : World) (B bs bo : Nat) (A : Option Addr) (c last run x : Nat) (out : List Nat) (h : Stf w B bs bo A c last run out) (hrun : run ≤ 1000) (hl : out.length + 1 ≤ 1000000) :
    Calls Tryz.prog 39 #[.func (.func 41) #[.pointer (some ⟨bs, 0, none⟩)] #[], .int .u8 x, .pointer (some ⟨bo, 0, none⟩)] w fun e w' => e = .returned (.tuple #[]) ∧ (∃ A' c', Stf w' B bs bo A' c' x (seeN last run x) (out ++ [x])) ∧ Keep2 B bs bo w w' := by
  obtain ⟨i0, hi, hz0, hz1, hz2⟩ := info_parts info_u8
  have HH := Lib.hid h
  have HSEE := Lib.hid (see_any bs last run x 75 w h.st (by omega))
  clear h
  go_enter Tryz.func39, Tryz.ntmps39
  go_wp2_with fail
  refine HSEE.out.mono ?_
  rintro e w1 ⟨rfl, hst, ht⟩
  rw [seeL_eq] at hst
  have hbo : w1.heap[bo]? = some (.cells #[.slice A out.length c] 22) := by
    rw [ht.block bo (heap_lt HH.out.pot.box) (Ne.symm HH.out.ne) (Ne.symm HH.out.ne)]; exact HH.out.pot.box
  have hpot : Pot w1 B bo 22 A c out := ⟨hbo, HH.out.pot.ne, Nat.le_trans HH.out.pot.size ht.size, HH.out.pot.row.touch ht HH.out.ns⟩
  obtain ⟨q, hq⟩ : ∃ q, out.length = q := ⟨_, rfl⟩
  have hq2 : q + 1 ≤ 1000000 := by omega
  have c0 : w1.cell? ⟨bo, 0, none⟩ = some (.slice A q c) := by rw [← hq]; exact hpot.cell
  have z0 : w1.frozen? ⟨bo, 0, none⟩ = false := hpot.frozen
  have sb : bo < w1.heap.size := heap_lt hpot.box
  have HPOT := Lib.hid hpot
  have HST := Lib.hid hst
  have HT := Lib.hid ht
  have HL := Lib.hid hq
  clear hpot hst ht hq hl hbo
  go_wp2_with (at_builtin; refine wpList_pot (W0 := w1) (HPOT.out.alloc _) (.of (below_alloc (Below.refl _ _) _) HPOT.out.size) rfl (.tmp 8) (.tmp 10) 22 rfl i0 _ 1 Tryz.underlying22 hi hz0 hz1 hz2 rfl q HL.out rfl _ 1 1 [x] rfl rfl (Rd.blk (heap_new_at rfl)) (by intro h; cases h) (q + 1) rfl (by unfold maxLen; omega) (by omega) ?_; intro w3 A3 c3 HP3 c03 z03)
  go_end0
  obtain ⟨p1, p2⟩ := HP3.out.store (n := q + 1) (by rw [List.length_append, HL.out]; rfl)
  refine ⟨rfl, ⟨A3, c3, p1, ?_, HH.out.ne, fun ad e => by have := p1.row.ge ad e; have := HH.out.lt; omega, HH.out.lt⟩, (Keep2.ofTouch HT.out HH.out.pot.size).trans (.ofKeep p2)⟩
  rw [p2.block bs HH.out.lt HH.out.ne]
  exact HST.out
theorem put1_row (w : World) (B bs bo : Nat) (A : Option Addr) (c last run X : Nat) (x : Int) (out : List Nat) (eX : x = (X : Int)) (h : Stf w B bs bo A c last run out) (hrun : run ≤ 1000) (hl : out.length + 1 ≤ 1000000) :
    Calls Tryz.prog 39 #[.func (.func 41) #[.pointer (some ⟨bs, 0, none⟩)] #[], .int .u8 x, .pointer (some ⟨bo, 0, none⟩)] w fun e w' => e = .returned (.tuple #[]) ∧ (∃ A' c', Stf w' B bs bo A' c' X (seeN last run X) (out ++ [X])) ∧ Keep2 B bs bo w w' := by
  subst eX
  exact put1_any w B bs bo A c last run X out h hrun hl
theorem drop_cons (l : List Nat) (k : Nat) (h : k < l.length) : l.drop k = l[k] :: l.drop (k + 1) := List.drop_eq_getElem_cons h
theorem below_of_grown {w w' : World} (h : w.grownBy w' none) : Below w.heap.size w w' := (Below.refl _ w).grown h (Nat.le_refl _) (by simp)
set_option maxRecDepth 100000 in
set_option maxHeartbeats 2000000 in
theorem StuffPut_any (w : World) (A : Option Addr) (c n N : Nat) (l : List Nat) (hr : Rd w A (bys l)) (hn : l.length = n) (hn2 : n ≤ 50000) (h01 : ∀ x ∈ l, x ≤ 1) (hN : (stuffN l).length = N) :
    Calls Tryz.prog 20 #[.slice A n c] w fun e w' => (∃ A' c', e = .returned (.tuple #[.slice A' N c', .int .i64 0]) ∧ Row w' w.heap.size 5 A' c' (bys (stuffN l))) ∧ Below w.heap.size w w' := by
  obtain ⟨i0, hi, hz0, hz1, hz2⟩ := info_parts info_u8
  have hok : bitsOk l = true := by unfold bitsOk; rw [decide_eq_true (by omega : l.length ≤ 65536), decide_eq_true h01]; rfl
  have hC := BitsCheck_any A n c l w hr hn (by omega)
  rw [hok, if_pos rfl] at hC
  have hN2 : N ≤ 65536 := by have := stuffN_le l; omega
  have HC := Lib.hid hC
  have HR := Lib.hid hr
  have HN := Lib.hid hn
  have H01 := Lib.hid h01
  have HNN := Lib.hid hN
  clear hok hC hr hn h01 hN
  go_enter Tryz.func20, Tryz.ntmps20
  go_wp2_with fail
  refine HC.out.mono ?_
  rintro e _ ⟨rfl, rfl⟩
  go_wp2_with (refine wpList_make_own _ rfl _ (.tmp 20) 22 rfl (w.heap.size + 1) 5 i0 (.int .u8 0) 1 Tryz.underlying22 hi hz0 hz1 .i64 .i64 _ (n + n / 4) rfl rfl (by omega) (by rw [hz2]; omega) (by unfold maxLen; omega) (by simp) ?_; intro w1 hown hgr)
  obtain ⟨g, hg⟩ : ∃ g, w.heap.size = g := ⟨_, rfl⟩
  have hst : w1.heap[g]? = some (.cells #[.int .u8 ((0 : Nat) : Int), .int .i64 ((0 : Nat) : Int)] 75) := heap_below (below_of_grown hgr) (heap_new_at hg.symm)
  have hsz : g + 1 ≤ w1.heap.size := by have := heap_lt hst; omega
  rw [World.size_alloc, hg] at hown
  have hbw : Below g w w1 := by rw [← hg]; exact below_trans (below_alloc (Below.refl _ _) _) (below_of_grown hgr)
  have hstf : Stf (w1.alloc (.cells #[.slice (some ⟨g + 1, 0, none⟩) 0 (n + n / 4)] 22)) (g + 1) g w1.heap.size (some ⟨g + 1, 0, none⟩) (n + n / 4) 0 0 [] :=
    ⟨⟨heap_new_at rfl, fun ad e => by
        injection e with e
        subst e
        rcases hown.2 with ⟨hv, _⟩ | ⟨g', cap, cur, hv, _, hh, _⟩
        · cases hv
        · injection hv with e; injection e with e; injection e with e
          have := heap_lt hh
          show g + 1 ≠ _
          omega, by simp; omega, World.ownsRow.alloc hown _⟩, heap_push hst, by have := heap_lt hst; omega, fun ad e => by injection e with e; subst e; show g + 1 ≠ g; omega, by omega⟩
  obtain ⟨bo, hbo⟩ : ∃ bo, w1.heap.size = bo := ⟨_, rfl⟩
  rw [hbo] at hstf
  have hk0 : Keep2 (g + 1) g bo w (w1.alloc (.cells #[.slice (some ⟨g + 1, 0, none⟩) 0 (n + n / 4)] 22)) := by
    have hb := hbw.alloc (by omega) (.cells #[.slice (some ⟨g + 1, 0, none⟩) 0 (n + n / 4)] 22)
    exact ⟨hb.os, hb.tape, hb.output, hb.size, fun k hk h1 _ => hb.block k (by omega)⟩
  have HSTF := Lib.hid hstf
  have HK0 := Lib.hid hk0
  have HG := Lib.hid hg
  have HBO := Lib.hid hbo
  have hgb : g ≤ bo := by omega
  rw [hg, hbo]
  clear hst hsz hown hbw hstf hk0 hg hbo hgr hi hz0 hz1 hz2
  go_loopw [25] (fun iv wr => ∃ (k last run : Nat) (A' : Option Addr) (c' : Nat) (out : List Nat), k ≤ n ∧ iv = .int .i64 k ∧ run ≤ 5 ∧ last ≤ 1 ∧ Hid (out ++ stf last run (l.drop k) = stuffN l) ∧ Hid (Stf wr (g + 1) g bo A' c' last run out) ∧ Hid (Keep2 (g + 1) g bo w wr)) (fun iv _ => n - (intOf iv).toNat)
  case atStart => exact ⟨0, 0, 0, _, _, [], by omega, rfl, by omega, by omega, rfl, HSTF, HK0⟩
  case round =>
    obtain ⟨k, last, run, A', c', out, hk, rfl, hr5, hl1, HM, HQ, HK⟩ := hrel
    have hol : out.length ≤ 65536 := by have := congrArg List.length HM.out; rw [List.length_append, HNN.out] at this; omega
    by_cases hkn : k < n
    · have hkl : k < l.length := by rw [HN.out]; exact hkn
      have hrd : Rd wr A (bys l) := by
        intro j u hj
        obtain ⟨ad, e, hc⟩ := HR.out j u hj
        have hlt := cell_lt hc
        exact ⟨ad, e, HK.out.cell_of hc (by rw [HG.out] at hlt; omega) (by rw [HG.out] at hlt; omega) (by rw [HG.out] at hlt; omega)⟩
      obtain ⟨ad, rfl, ca⟩ := hrd.at_ k hkl
      have hx := H01.out l[k] (List.getElem_mem hkl)
      have hd := drop_cons l k hkl
      obtain ⟨x, hxe⟩ : ∃ x, l[k] = x := ⟨_, rfl⟩
      rw [hxe] at ca hx hd
      have HD := Lib.hid hd
      have hfull := full_any g last run 75 wr HQ.out.st
      clear hd hxe hrd
      by_cases h5 : run = 5
      · rw [decide_eq_true h5] at hfull
        subst h5
        have HF := Lib.hid hfull
        have b0 : wr.cell? ⟨g, 0, none⟩ = some (.int .u8 last) := cell_of_heap HQ.out.st 0 _ rfl
        clear hfull
        go_wp2_with fail
        refine HF.out.mono ?_
        rintro e _ ⟨rfl, rfl⟩
        go_wp2_with fail
        refine (put1_row wr (g + 1) g bo A' c' last 5 (1 - last) _ out ?e1 HQ.out (by omega) (by omega)).mono ?_
        case e1 => first | rfl | omega
        rintro e w2 ⟨rfl, ⟨A2, c2, hs2⟩, hk2⟩
        have HS2 := Lib.hid hs2
        have HK2 := Lib.hid hk2
        clear hs2 hk2
        go_wp2_with fail
        refine (put1_any w2 (g + 1) g bo A2 c2 (1 - last) (seeN last 5 (1 - last)) x (out ++ [1 - last]) HS2.out (by have := seeN_le last 5 (1 - last); omega) (by simp; omega)).mono ?_
        rintro e w3 ⟨rfl, ⟨A3, c3, hs3⟩, hk3⟩
        have HS3 := Lib.hid hs3
        have HK3 := Lib.hid hk3
        clear hs3 hk3
        go_wp2_with fail
        go_roundw
        case rel =>
          have e1 : seeN last 5 (1 - last) = 1 := by unfold seeN; rw [if_neg (by omega)]
          have h3 := HS3.out
          rw [e1] at h3
          refine ⟨k + 1, x, seeN (1 - last) 1 x, A3, c3, (out ++ [1 - last]) ++ [x], by omega, by go_num, by have := seeN_le (1 - last) 1 x; omega, hx, ?_, h3, HK.out.trans (HK2.out.trans HK3.out)⟩
          show _ = _
          rw [← HM.out, HD.out, stf, if_pos rfl, List.append_assoc, List.append_assoc]
          rfl
        case measure => simp [intOf]; omega
      · rw [decide_eq_false h5] at hfull
        have HF := Lib.hid hfull
        have H5 := Lib.hid h5
        clear hfull h5
        go_wp2_with fail
        refine HF.out.mono ?_
        rintro e _ ⟨rfl, rfl⟩
        go_wp2_with fail
        refine (put1_any wr (g + 1) g bo A' c' last run x out HQ.out (by omega) (by omega)).mono ?_
        rintro e w3 ⟨rfl, ⟨A3, c3, hs3⟩, hk3⟩
        have HS3 := Lib.hid hs3
        have HK3 := Lib.hid hk3
        clear hs3 hk3
        go_wp2_with fail
        go_roundw
        case rel =>
          refine ⟨k + 1, x, seeN last run x, A3, c3, out ++ [x], by omega, by go_num, by have := seeN_le last run x; have := H5.out; omega, hx, ?_, HS3.out, HK.out.trans HK3.out⟩
          show _ = _
          rw [← HM.out, HD.out, stf, if_neg H5.out, List.append_assoc]
          rfl
        case measure => simp [intOf]; omega
    · obtain rfl : n = k := by omega
      have hm := HM.out
      rw [← HN.out, List.drop_length, stf, List.append_nil] at hm
      subst hm
      have c0 : wr.cell? ⟨bo, 0, none⟩ = some (.slice A' N c') := by rw [← HNN.out]; exact HQ.out.pot.cell
      have hnl : ¬ (65536 : Int) < (N : Int) := by omega
      clear hol
      go_wp2_with fail
      go_ret2
      refine ⟨⟨A', c', rfl, ?_⟩, ?_⟩
      · rw [HG.out]; exact HQ.out.pot.row.mono (by omega)
      · rw [HG.out]; exact HK.out.below (Nat.le_refl _) hgb (by omega)
end Go.Proofs.YtlmdkmflbhnlgaaGreat
-- FixedGet: fixed.Get: what a row with fixed stuffing tells. No condition.
namespace Go.Proofs.YtlmdkmflbhnlgaaGreat
open Go.RowKit
theorem heap_belowG {B g : Nat} {w w' : World} {o : Obj} (h : Below B w w') (hg : g < B) (ho : w.heap[g]? = some o) : w'.heap[g]? = some o := (h.block g hg).trans ho
/-- What such a row tells: an error's number, and the bits. -/
def fgetE (ev : Nat) : Nat → Nat → Bool → List Nat → List Nat → Int × List Nat
  | _, _, due, out, [] => if due then (7, []) else (0, out)
  | last, left, _, out, b :: r => if left = 0 then (if 1 - last = b then fgetE ev (1 - last) ev true out r else (4, [])) else fgetE ev b (left - 1) false (out ++ [b]) r
def fgetN (ev : Nat) (ah : Bool) (prev : Nat) (l : List Nat) : Int × List Nat := fgetE ev prev (if ah then 0 else ev) false [] l
/-- What fixed.Get answers. -/
def FGetOf (w : World) (r : Int × List Nat) (e : Ending) (w' : World) : Prop :=
  ((r.1 = 0 ∧ ∃ A' c', e = .returned (.tuple #[.slice A' r.2.length c', .int .i64 0]) ∧ Row w' w.heap.size 5 A' c' (bys r.2)) ∨ (r.1 ≠ 0 ∧ e = .returned (.tuple #[.slice none 0 0, .int .i64 r.1]))) ∧ Below w.heap.size w w'
set_option maxRecDepth 100000 in
set_option maxHeartbeats 4000000 in
theorem FGet_any (w : World) (A : Option Addr) (prev ev c n : Nat) (ah : Bool) (l : List Nat) (h1 : 1 ≤ ev) (h2 : ev ≤ 64) (hp : prev ≤ 1) (hr : Rd w A (bys l)) (hn : l.length = n) (hn2 : n ≤ 65536) (h01 : ∀ x ∈ l, x ≤ 1) :
    Calls Tryz.prog 128 #[.int .u8 prev, .slice A n c, wayV ev ah] w (FGetOf w (fgetN ev ah prev l)) := by
  obtain ⟨i0, hi, hz0, hz1, hz2⟩ := info_parts info_u8
  have HC := Lib.hid (fun W (hW : Rd W A (bys l)) => fcheck_any prev ev n c ah A l W h1 h2 hp hW hn (by omega) h01)
  have HR := Lib.hid hr
  have HN := Lib.hid hn
  have H01 := Lib.hid h01
  obtain ⟨F, hF⟩ : ∃ F, fgetN ev ah prev l = F := ⟨_, rfl⟩
  rw [hF]
  have HF0 : Hid (fgetE ev prev (if ah then 0 else ev) false [] (l.drop 0) = F) := hF
  clear hr hn h01 hF
  go_enter Tryz.func128, Tryz.ntmps128
  go_wp2_with fail
  refine calls_name (T := fun W1 => W1.heap[w.heap.size]? = some (.cells #[.int .i64 ev, .bool ah] 99) ∧ Below w.heap.size w W1) ⟨heap_new_at rfl, below_alloc (Below.refl _ _) _⟩ ?_
  rintro W1 ⟨q1, hb1⟩
  have a0 := fun e : Ext W1 => ext_cell (cell_of_heap q1 0 _ rfl) e
  have a1 : ∀ e : Ext W1, e.W.cell? ⟨w.heap.size, 1, none⟩ = some (.bool ah) := fun e => ext_cell (cell_of_heap q1 1 _ rfl) e
  have hsz := ext_lt q1
  have HB1 := Lib.hid hb1
  clear q1 hb1
  refine (extc_same (HC.out _ (HR.out.below HB1.out))).mono ?_
  rintro x _ ⟨e2, rfl, rfl⟩
  go_wp2_with fail
  refine (begin_any ev prev ah e2.W).mono ?_
  rintro x W2 ⟨rfl, hline, hsz2, hb2⟩
  obtain ⟨g, hg⟩ : ∃ g, e2.W.heap.size + 1 = g := ⟨_, rfl⟩
  rw [hg] at hline hsz2
  rw [hg]
  have hwg : w.heap.size ≤ g := by have := hsz e2; omega
  have HL3 := Lib.hid hline
  have HB3 : Hid (Below w.heap.size w W2) := HB1.out.trans ((e2.below.mono (by exact HB1.out.size)).trans (hb2.mono (by have := hsz e2; omega)))
  clear hline hb2 a0 a1 hsz hg
  have hleft : (if ah then 0 else ev) ≤ ev := by split <;> omega
  go_wp2_with fail
  go_loopw [9, 10, 23] (fun v dv iv wr => ∃ (k last left q : Nat) (due : Bool) (A' : Option Addr) (c' : Nat) (out : List Nat), k ≤ n ∧ iv = .int .i64 k ∧ v = .slice A' q c' ∧ dv = .bool due ∧ Hid (out.length = q) ∧ left ≤ ev ∧ last ≤ 1 ∧ q ≤ k ∧ Hid (fgetE ev last left due out (l.drop k) = F) ∧ Hid (Row wr (g + 1) 5 A' c' (bys out)) ∧ Hid (wr.heap[g]? = some (lineC ev ah last left)) ∧ Hid (Below w.heap.size w wr)) (fun _ _ iv _ => n - (intOf iv).toNat)
  case atStart => exact ⟨0, prev, (if ah then 0 else ev), 0, false, none, 0, [], by omega, rfl, rfl, rfl, rfl, hleft, hp, by omega, HF0, Row.nil _ _ _, HL3, HB3⟩
  case round =>
    obtain ⟨k, last, left, q, due, A', c', out, hk, rfl, rfl, rfl, HQL, hlev, hl1, hqk, HM, HQ, HL, HW⟩ := hrel
    by_cases hkn : k < n
    · have hkl : k < l.length := by rw [HN.out]; exact hkn
      obtain ⟨ad, rfl, ca⟩ := (HR.out.below HW.out).at_ k hkl
      have hx := H01.out l[k] (List.getElem_mem hkl)
      have hd : l.drop k = l[k] :: l.drop (k + 1) := List.drop_eq_getElem_cons hkl
      obtain ⟨x, hxe⟩ : ∃ x, l[k] = x := ⟨_, rfl⟩
      rw [hxe] at ca hx hd
      have hm := HM.out
      rw [hd] at hm
      have hgw : g < wr.heap.size := heap_lt HL.out
      have hge : ∀ ad, A' = some ad → ad.block ≠ g := fun ad e => by have := HQ.out.ge ad e; omega
      have HDUE := Lib.hid (due_any g ev last left ah wr HL.out)
      clear hd hxe
      by_cases h0 : left = 0
      · subst h0
        rw [fgetE, if_pos rfl] at hm
        have HSTF := Lib.hid (lineStuff_any g ev last 0 ah wr HL.out hl1)
        obtain ⟨y, hy⟩ : ∃ y, 1 - last = y := ⟨_, rfl⟩
        rw [hy] at hm HSTF
        have hy1 : y ≤ 1 := by omega
        clear hy
        by_cases hyx : y = x
        · subst hyx
          rw [if_pos rfl] at hm
          have HST := Lib.hid hm
          clear hm
          go_wp2_with fail
          refine HDUE.out.mono ?_
          rintro e _ ⟨rfl, rfl⟩
          go_wp2_with fail
          refine HSTF.out.mono ?_
          rintro e w4 ⟨rfl, hl4, ht4⟩
          have HL4 := Lib.hid hl4
          have HQ4 := Lib.hid (HQ.out.touch ht4 hge)
          have HW4 := Lib.hid (HW.out.trans (ht4.below hwg hwg (by omega)))
          clear hl4 ht4
          go_wp2_with fail
          go_roundw
          case rel => exact ⟨k + 1, y, ev, q, true, A', c', out, by omega, by go_num, rfl, by first | rfl | simp, HQL, by omega, hy1, by omega, HST, HQ4, HL4, HW4⟩
          case measure => simp [intOf]; omega
        · rw [if_neg hyx] at hm
          have HST := Lib.hid hm
          clear hm
          go_wp2_with fail
          refine HDUE.out.mono ?_
          rintro e _ ⟨rfl, rfl⟩
          go_wp2_with fail
          refine HSTF.out.mono ?_
          rintro e w4 ⟨rfl, hl4, ht4⟩
          have HW4 := Lib.hid (HW.out.trans (ht4.below hwg hwg (by omega)))
          clear hl4 ht4
          go_wp2_with fail
          go_ret2
          rw [← HST.out]
          exact ⟨.inr ⟨by decide, rfl⟩, HW4.out⟩
      · rw [fgetE, if_neg h0] at hm
        have HST := Lib.hid hm
        have HSEE := Lib.hid (lineSee_any g ev last left x ah wr HL.out (by omega) (by omega))
        have hdue := HDUE.out
        rw [decide_eq_false h0] at hdue
        have HDU2 := Lib.hid hdue
        clear hdue hm
        go_wp2_with fail
        refine HDU2.out.mono ?_
        rintro e _ ⟨rfl, rfl⟩
        go_wp2_with fail
        refine HSEE.out.mono ?_
        rintro e w6 ⟨rfl, hl6, ht6⟩
        have HL6 := Lib.hid hl6
        have HQ6 := Lib.hid (HQ.out.touch ht6 hge)
        have HW6 := Lib.hid (HW.out.trans (ht6.below hwg hwg (by omega)))
        have hgw6 : g < w6.heap.size := heap_lt hl6
        clear hl6 ht6
        go_wp2_with (at_builtin; refine wpList_appB (W := _) rfl (.tmp 34) (.tmp 36) 22 rfl (g + 1) 5 i0 _ 1 Tryz.underlying22 hi hz0 hz1 hz2 rfl A' q c' (bys out) rfl (by rw [bys_length]; exact HQL.out) (HQ6.out.alloc _) _ 1 1 (bys [x]) rfl rfl (Rd.blk (heap_new_at rfl)) (bys_one _) (by intro h; cases h) (q + 1) (by omega) (by unfold maxLen; omega) (by omega) (by simp; omega) ?_; intro w7 A7 c7 HO7 HB7)
        go_roundw
        case rel =>
          have ho7 := HO7.out
          rw [← bys_append] at ho7
          refine ⟨k + 1, x, left - 1, q + 1, false, A7, c7, out ++ [x], by omega, by go_num, rfl, by first | rfl | simp, by show _ = _; rw [List.length_append, HQL.out]; rfl, by omega, hx, by omega, HST, ho7, heap_belowG HB7.out (by omega) (heap_push HL6.out), (below_alloc HW6.out _).trans (HB7.out.mono (by omega))⟩
        case measure => simp [intOf]; omega
    · obtain rfl : n = k := by omega
      have hm := HM.out
      rw [← HN.out, List.drop_length, fgetE] at hm
      cases due
      · simp only [Bool.false_eq_true, if_false] at hm
        have HST := Lib.hid hm
        clear hm
        go_wp2_with fail
        go_ret2
        rw [← HST.out]
        exact ⟨.inl ⟨rfl, A', c', by rw [HQL.out]; rfl, HQ.out.mono (by omega)⟩, HW.out⟩
      · simp only [if_true] at hm
        have HST := Lib.hid hm
        clear hm
        go_wp2_with fail
        go_ret2
        rw [← HST.out]
        exact ⟨.inr ⟨by decide, rfl⟩, HW.out⟩
end Go.Proofs.YtlmdkmflbhnlgaaGreat
