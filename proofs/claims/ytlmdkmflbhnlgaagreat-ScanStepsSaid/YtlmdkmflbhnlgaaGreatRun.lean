/- A region that draws its order, of plain operations, in a round of a loop over a function: one walk in the text's order. No condition. -/
import Derived.Test.YtlmdkmflbhnlgaaGreatGet
import Derived.StillTailTactics
import Derived.RangeFuncNested
import Derived.RangeFuncBound
import Derived.RangeFuncCalls
import Derived.RangeFuncLeaves
import Derived.OwnWalkIn
import Derived.TacticsInMore
import Derived.LoopNIn
import Derived.LoopIn
import Derived.Sort.QuietIn
import Derived.Shelf.Abstract
namespace Go.Proofs.YtlmdkmflbhnlgaaGreat
open Go Go.RowKit
/-- An operation that calls nothing and defers nothing. -/
def plainB : Op → Bool
  | .move _ | .assign _ | .load _ _ | .store _ _ _ | .binOp _ _ _ _ _ | .convert _ _ _ | .fieldAddr _ _ _ | .indexAddr _ _ _ => true
  | _ => false
section
variable {F : Fence} {n : Nat} {P : Program} {ops : Array Oper} {md : Region.Mode}
theorem value_noenter {s : Sem Value} {w w' : World} {f : FuncId} {args : Array Value} : ((do let x ← s; pure (Next.value x)) : Sem Next).run P w ≠ .ok (.enter f args) w' := by
  rw [Sem.run_bind]
  cases s.run P w with
  | ok v w1 => simp [Result.andThen]
  | halt h w1 => simp [Result.andThen]
theorem skip_noenter {s : Sem Unit} {w w' : World} {f : FuncId} {args : Array Value} : ((do s; pure Next.skip) : Sem Next).run P w ≠ .ok (.enter f args) w' := by
  rw [Sem.run_bind]
  cases s.run P w with
  | ok v w1 => simp [Result.andThen]
  | halt h w1 => simp [Result.andThen]
theorem plain_noenter {o : Oper} (h : plainB o.op = true) (ρ : Operand → Value) (w w' : World) (f : FuncId) (args : Array Value) : (execOp ρ o).run P w ≠ .ok (.enter f args) w' := by
  unfold execOp
  cases ho : o.op <;> rw [ho] at h <;> simp only [plainB] at h <;> first | exact absurd h (by decide) | skip
  all_goals first
    | exact value_noenter
    | exact skip_noenter
    | simp
theorem plain_about {o : Oper} (h : plainB o.op = true) (w : World) (ρ : Operand → Value) : o.about P w ρ = none := by
  unfold Oper.about
  cases ho : o.op <;> rw [ho] at h <;> simp only [plainB] at h <;> first | exact absurd h (by decide) | rfl
theorem plain_defer {o : Oper} (h : plainB o.op = true) (c : Call) : o.op ≠ .defer c := by
  intro e; rw [e] at h; simp [plainB] at h
theorem wpIn_of_still {o : Oper} {a : Act} {w : World} {K : Act → Prop} {K' : Act → World → Prop} {Q' : Exit → Act → World → Prop} (hp : plainB o.op = true) (h : ∀ a, K a → K' a w) (hh : o.still P a w K) : o.wpIn F n P a w K' Q' := by
  refine ⟨fun f hf => (by rw [plain_about hp] at hf; cases hf), ?_⟩
  rw [Oper.semAt_eq _ _ _ (plain_defer hp)]
  have hne := plain_noenter (P := P) hp a.eval w
  unfold Oper.still at hh
  generalize (execOp a.eval o).run P w = r at *
  cases r with
  | ok x w' =>
    cases x <;> simp only [Oper.stillUpon] at hh <;> simp only [Oper.uponIn]
    case enter f args => exact absurd rfl (hne w' f args)
    all_goals (obtain ⟨rfl, h2⟩ := hh; exact h _ h2)
  | halt x w' => simp only [Oper.stillUpon] at hh
theorem wpOpIn_of_stOp {i : Nat} {a : Act} {w : World} {K : Act → Prop} {K' : Act → World → Prop} {Q' : Exit → Act → World → Prop} (hp : ∀ (j : Nat) (o : Oper), ops[j]? = some o → plainB o.op = true) (h : ∀ a, K a → K' a w) (hh : stOp P ops w i K a) : wpOpIn F n P ops Q' i K' a w := by
  unfold stOp at hh
  unfold wpOpIn
  split
  · rename_i ho; simp only [ho] at hh; exact h _ hh
  · rename_i o ho
    simp only [ho] at hh
    split
    · rename_i hw; simp only [hw, if_true] at hh; exact wpIn_of_still (hp i o ho) h hh
    · rename_i hw; simp only [hw] at hh
      exact ⟨fun f hf => (by rw [plain_about (hp i o ho)] at hf; cases hf), h _ hh⟩
theorem wpAnyIn_of_head {k g : Nat} {w : World} {L : Array Bool → Act → Prop} {Q' : Exit → Act → World → Prop} (hp : ∀ (j : Nat) (o : Oper), ops[j]? = some o → plainB o.op = true) (hL : ∀ listed a, L listed a → wpAnyIn F n P md ops Q' g listed a w) :
    ∀ (f : Nat) (listed : Array Bool) (a : Act), wpAnyL P md ops w k L f listed a → wpAnyIn F n P md ops Q' (f + g) listed a w
  | 0, listed, a, h => by rw [Nat.zero_add]; exact hL _ _ h
  | f + 1, listed, a, h => by
    rw [show f + 1 + g = (f + g) + 1 by omega]
    exact ⟨fun h0 => absurd h0 h.1, fun i hi => wpOpIn_of_stOp hp (fun a' h' => wpAnyIn_of_head hp hL f _ a' h') (h.2 i hi).2⟩
theorem wpOpIn_mono' {i : Nat} {a : Act} {w : World} {K K' : Act → World → Prop} {Q : Exit → Act → World → Prop} (h : ∀ a w, K a w → K' a w) (hh : wpOpIn F n P ops Q i K a w) : wpOpIn F n P ops Q i K' a w := wpOpIn_mono h hh
theorem wpAnyIn_of_seq {Q' : Exit → Act → World → Prop} : ∀ (l : List Oper) (k : Nat) (listed : Array Bool) (a : Act) (w : World), (∀ j, l[j]? = ops[k + j]?) →
    Region.seqB md ops l.length k listed = true → wpListIn F n P ops Q' l a w → wpAnyIn F n P md ops Q' l.length listed a w
  | [], _, _, _, _, _, hB, h => ⟨by simpa [Region.seqB] using hB, h⟩
  | o :: l, k, listed, a, w, hl, hB, h => by
    have h0 : ops[k]? = some o := by simpa using (hl 0).symm
    simp only [List.length_cons, Region.seqB, Bool.and_eq_true, decide_eq_true_eq] at hB
    refine ⟨fun h1 => (by rw [hB.1] at h1; cases h1), fun i hi => ?_⟩
    rw [hB.1] at hi
    have hik : i = k := by simpa using hi
    subst hik
    have hw : wpOpIn F n P ops Q' i (wpListIn F n P ops Q' l) a w := by unfold wpOpIn; simp only [h0]; exact h
    exact wpOpIn_mono (fun a' w' h' => wpAnyIn_of_seq l (i + 1) _ a' w' (fun j => by have := hl (j + 1); simpa [Nat.add_assoc, Nat.add_comm 1 j] using this) hB.2 h') hw
theorem wpIn_region_still_tail {id : Nat} {Q : Exit → Act → World → Prop} {a : Act} {w : World} {l : List Oper} (k : Nat) (hp : (l.all fun o => plainB o.op) = true) (hm : P.follows .mixedOrders = true) (hB : Region.lexTailB .any l.toArray k = true)
    (h : wpStill P l.toArray w.drew (fun a' => wpListIn F n P l.toArray Q (l.drop k) a' w.drew) (l.take k) a) : (Code.region id l.toArray true).wpIn F n P Q a w := by
  have hp' : ∀ (j : Nat) (o : Oper), l.toArray[j]? = some o → plainB o.op = true := fun j o ho => by
    have : o ∈ l := List.mem_of_getElem? (i := j) (by simpa using ho)
    exact List.all_eq_true.1 hp o this
  simp only [Region.lexTailB, Bool.and_eq_true, decide_eq_true_eq] at hB
  obtain ⟨⟨⟨⟨hsel, hn⟩, hs⟩, hc⟩, hlex⟩ := hB
  have hn' : k < l.length := by simpa using hn
  have htl : (l.take k).length = k := by simp; omega
  have hdl : (l.drop k).length = l.toArray.size - k := by simp
  have inv0 : HeadInv .any l.toArray k (Array.replicate l.toArray.size false) :=
    ⟨by simp, fun j oj _ hl => (by rw [getD_replicate_false] at hl; cases hl), fun t _ ht => getD_in (by simpa using ht) (getD_replicate_false _ _)⟩
  have H := wpAnyL_lex (md := .any) (g := l.toArray.size - k) hsel hs hc hn (l.take k) 0 _ a (fun j hj => by
    have hj' : j < k := by rw [htl] at hj; exact hj
    simp [hj']) (by simpa using htl) inv0 (by rw [htl]; exact hlex) h
  refine wpIn_region_any hm ?_
  have := wpAnyIn_of_head (F := F) (n := n) (Q' := Q) (g := l.toArray.size - k) hp' (fun listed a' hL => by
    have := wpAnyIn_of_seq (F := F) (n := n) (md := .any) (Q' := Q) (l.drop k) k listed a' w.drew (fun j => by simp [List.getElem?_drop]) (by rw [hdl]; exact hL.1) hL.2
    rwa [hdl] at this) _ _ _ H
  rw [htl, show k + (l.toArray.size - k) = l.toArray.size by omega] at this
  exact this
end
end Go.Proofs.YtlmdkmflbhnlgaaGreat
namespace Go.Proofs.YtlmdkmflbhnlgaaGreat
open Go.RowKit
attribute [local go_sem] Oper.semAt_some
/-- The k-th piece's value. -/
abbrev chunkV (b off len sz k : Nat) : Value := .slice (some ⟨b, off + sz * k, none⟩) (min sz (len - sz * k)) (min sz (len - sz * k))
theorem chunk_lt {sz nch len : Nat} (h1 : sz * nch < len + sz) (h2 : len ≤ sz * nch) (k : Nat) : k < nch ↔ sz * k < len := by
  constructor
  · intro h
    have := Nat.mul_le_mul_left sz (show k + 1 ≤ nch by omega)
    rw [Nat.mul_add] at this
    omega
  · intro h
    refine Nat.lt_of_not_le fun hle => ?_
    have := Nat.mul_le_mul_left sz hle
    omega
set_option maxRecDepth 100000 in
set_option maxHeartbeats 2000000 in
theorem chunk1_in (n : Nat) (hn : 1 ≤ n) (l Bs Bn n₀ b off len cap sz nch : Nat) (hsz : 1 ≤ sz) (hszb : sz ≤ 1000) (hlen : len ≤ 1000000) (hlc : len ≤ cap) (hcap : cap ≤ 9223372036854775807)
    (hn1 : sz * nch < len + sz) (hn2 : len ≤ sz * nch) (x₀ : Nat) (hBsn : Bs < n₀ ∧ Bs ≠ x₀) (hBnn : Bn < n₀ ∧ Bn ≠ x₀) (J Jx : List Nat → World → Prop)
    (hY : ∀ pre x W, J pre W → pre.length < nch → YieldAt Fence.wide (n - 1) Tryz.prog l #[chunkV b off len sz x] W fun e W' =>
      (e = .returned (.bool true) ∧ J (pre ++ [x]) W' ∧ Keep n₀ x₀ W W') ∨ (e = .returned (.bool false) ∧ Jx (pre ++ [x]) W'))
    (hJd : ∀ pre W k, J pre W → J pre (World.drewN W k)) (W : World) (hBs : W.cell? ⟨Bs, 0, none⟩ = some (.slice (some ⟨b, off, none⟩) len cap)) (hBn : W.cell? ⟨Bn, 0, none⟩ = some (.int .i64 sz)) (h0 : J [] W) :
    CallsIn Fence.wide n Tryz.prog 125 #[.func (.yield l) #[] #[], .pointer (some ⟨Bs, 0, none⟩), .pointer (some ⟨Bn, 0, none⟩)] W fun e W' => (∃ v, e = .returned v) ∧
      ((∃ ys, ys = List.range nch ∧ J ys W') ∨ (∃ pre, (∃ k, k ≤ nch ∧ pre = List.range k) ∧ Jx pre W')) := by
  refine callsIn_of_wp Tryz.func125 rfl trivial ?_ rfl
  simp only [Tryz.ntmps125, List.size_toArray, List.length_cons, List.length_nil, Nat.reduceAdd, Nat.reduceSub, Array.replicate_succ, Array.replicate_zero, List.push_toArray, List.append_toArray, List.nil_append, List.cons_append]
  have HN := Lib.hid (chunk_lt hn1 hn2)
  have H1 := Lib.hid hn1
  have H2 := Lib.hid hn2
  have H0 := Lib.hid h0
  clear hn1 hn2 h0
  gi_wp2
  gi_loopw [4] (fun i wr => ∃ k : Nat, k ≤ nch ∧ i = .int .i64 (sz * k : Nat) ∧ Hid (J (List.range k) wr) ∧ Hid (Keep n₀ x₀ W wr)) (fun i _ => len + sz - (intOf i).toNat)
  case atStart => exact ⟨0, Nat.zero_le _, rfl, H0.out, Keep.refl _ _ _⟩
  case round =>
    obtain ⟨k, hk, rfl, hJs, hnx⟩ := hrel
    have c1 : wr.cell? ⟨Bs, 0, none⟩ = some (.slice (some ⟨b, off, none⟩) len cap) := hnx.out.cell_of hBs hBsn.1 hBsn.2
    have c2 : wr.cell? ⟨Bn, 0, none⟩ = some (.int .i64 sz) := hnx.out.cell_of hBn hBnn.1 hBnn.2
    obtain ⟨q, hq⟩ : ∃ q, sz * k = q := ⟨_, rfl⟩
    rw [hq]
    have HQ := Lib.hid hq
    by_cases hlt : q < len
    · have hkn : k < nch := (HN.out k).2 (by rw [hq]; exact hlt)
      have hqc : (q : Int) ≤ (cap : Int) := by omega
      have hql : (q : Int) ≤ (len : Int) := by omega
      have hlc' : (len : Int) ≤ (cap : Int) := by omega
      clear hq hBs hBn
      by_cases hm : len - q < sz
      · have HM := Lib.hid hm
        gi_wp2
        gi_quiet (fail)
        obtain ⟨fn, tmps, assign, body, hy, hR⟩ := hY _ k (wr.drewN nq) (hJd _ _ _ hJs.out) (by rw [List.length_range]; exact hkn)
        dsimp only [chunkV] at hy
        rw [HQ.out, Nat.min_eq_right (by have := HM.out; omega)] at hy
        gi_wp2
        refine hR.mono ?_
        rintro e W3 (⟨rfl, hJ3, hk3⟩ | ⟨rfl, hJx3⟩)
        · have HJ3 := Lib.hid hJ3
          have HK3 := Lib.hid hk3
          clear hJ3 hk3
          have c2' : W3.cell? ⟨Bn, 0, none⟩ = some (.int .i64 sz) := HK3.out.cell_of (Below.cell_of (below_drewN (Below.refl _ _) _) c2) hBnn.1 hBnn.2
          gi_wp2
          go_roundw
          case rel => exact ⟨k + 1, by omega, by rw [Nat.mul_add, HQ.out]; go_num, by show J _ _; rw [List.range_succ]; exact HJ3.out, hnx.out.trans ((Keep.of (below_drewN (Below.refl n₀ _) nq) (Nat.le_refl _)).trans HK3.out)⟩
          case measure => simp [intOf]; omega
        · have HJX := Lib.hid hJx3
          clear hJx3
          gi_wp2
          refine bodyPost_ret (results_none rfl _ _ _) rfl ?_
          exact ⟨⟨_, rfl⟩, .inr ⟨_, ⟨k + 1, by omega, rfl⟩, by rw [List.range_succ]; exact HJX.out⟩⟩
      · have HM := Lib.hid hm
        gi_wp2
        gi_quiet (fail)
        obtain ⟨fn, tmps, assign, body, hy, hR⟩ := hY _ k (wr.drewN nq) (hJd _ _ _ hJs.out) (by rw [List.length_range]; exact hkn)
        dsimp only [chunkV] at hy
        rw [HQ.out, Nat.min_eq_left (by have := HM.out; omega)] at hy
        gi_wp2
        refine hR.mono ?_
        rintro e W3 (⟨rfl, hJ3, hk3⟩ | ⟨rfl, hJx3⟩)
        · have HJ3 := Lib.hid hJ3
          have HK3 := Lib.hid hk3
          clear hJ3 hk3
          have c2' : W3.cell? ⟨Bn, 0, none⟩ = some (.int .i64 sz) := HK3.out.cell_of (Below.cell_of (below_drewN (Below.refl _ _) _) c2) hBnn.1 hBnn.2
          gi_wp2
          go_roundw
          case rel => exact ⟨k + 1, by omega, by rw [Nat.mul_add, HQ.out]; go_num, by show J _ _; rw [List.range_succ]; exact HJ3.out, hnx.out.trans ((Keep.of (below_drewN (Below.refl n₀ _) nq) (Nat.le_refl _)).trans HK3.out)⟩
          case measure => simp [intOf]; omega
        · have HJX := Lib.hid hJx3
          clear hJx3
          gi_wp2
          refine bodyPost_ret (results_none rfl _ _ _) rfl ?_
          exact ⟨⟨_, rfl⟩, .inr ⟨_, ⟨k + 1, by omega, rfl⟩, by rw [List.range_succ]; exact HJX.out⟩⟩
    · have hkn : k = nch := by
        have h1 : ¬ k < nch := fun h => hlt (by rw [← hq]; exact (HN.out k).1 h)
        omega
      have HK := Lib.hid hkn
      clear hq hBs hBn hkn
      have hle : (len : Int) ≤ (q : Int) := by omega
      gi_wp2
      go_end0
      exact ⟨⟨_, rfl⟩, .inl ⟨_, rfl, by rw [← HK.out]; exact hJs.out⟩⟩
set_option maxRecDepth 100000 in
set_option maxHeartbeats 1000000 in
theorem chunk1_nil_in (n : Nat) (l Bs Bn : Nat) (A : Option Addr) (cap : Nat) (J : List Nat → World → Prop) (W : World) (hBs : W.cell? ⟨Bs, 0, none⟩ = some (.slice A 0 cap)) (h0 : J [] W) :
    CallsIn Fence.wide n Tryz.prog 125 #[.func (.yield l) #[] #[], .pointer (some ⟨Bs, 0, none⟩), .pointer (some ⟨Bn, 0, none⟩)] W fun e W' => (∃ v, e = .returned v) ∧ J [] W' := by
  refine callsIn_of_wp Tryz.func125 rfl trivial ?_ rfl
  simp only [Tryz.ntmps125, List.size_toArray, List.length_cons, List.length_nil, Nat.reduceAdd, Nat.reduceSub, Array.replicate_succ, Array.replicate_zero, List.push_toArray, List.append_toArray, List.nil_append, List.cons_append]
  have H0 := Lib.hid h0
  clear h0
  gi_wp2
  gi_loopw [4] (fun i wr => i = .int .i64 0 ∧ wr = W) (fun _ _ => 0)
  case atStart => exact ⟨rfl, rfl⟩
  case round =>
    obtain ⟨rfl, rfl⟩ := hrel
    gi_wp2
    go_end0
    exact ⟨⟨_, rfl⟩, H0.out⟩
theorem Chunk_any (A : Option Addr) (len cap sz : Nat) (w : World) (hsz : 1 ≤ sz) (hszb : sz ≤ 1000) :
    Calls Tryz.prog 113 #[.slice A len cap, .int .i64 sz] w fun e w' => e = .returned (.func (.func 125) #[] #[.pointer (some ⟨w.heap.size, 0, none⟩), .pointer (some ⟨w.heap.size + 1, 0, none⟩)]) ∧ (w.alloc (.cells #[.slice A len cap] 22)).alloc (.cells #[.int .i64 sz] 3) = w' := by
  have h1 : ¬ (sz : Int) < 1 := by omega
  go_enter Tryz.func113, Tryz.ntmps113
  go_wp2_with fail
  go_ret
  exact ⟨rfl, rfl⟩
/-- How many pieces there are. -/
def nchN (len sz : Nat) : Nat := (len + sz - 1) / sz
theorem nchN_spec (len sz : Nat) (h : 1 ≤ sz) : sz * nchN len sz < len + sz ∧ len ≤ sz * nchN len sz := by
  unfold nchN
  have h1 := Nat.div_add_mod (len + sz - 1) sz
  have h2 := Nat.mod_lt (len + sz - 1) (show sz > 0 by omega)
  omega
theorem abides_drewN {β : Type} {B : Nat} {J : β → World → Prop} (h : AbidesFrom B J) {s : β} {W : World} (k : Nat) (hs : J s W) : J s (W.drewN k) :=
  h s W _ none hs ⟨rfl, rfl, rfl, Nat.le_refl _, fun _ _ _ => rfl⟩ (fun r e => by cases e)
theorem chunk_stops (n : Nat) (hn : 1 ≤ n) (Bs Bn n₀ x₀ b off len cap sz : Nat) (A : Option Addr) (hA : A = some ⟨b, off, none⟩ ∨ len = 0) (hsz : 1 ≤ sz) (hszb : sz ≤ 1000) (hlen : len ≤ 1000000) (hlc : len ≤ cap) (hcap : cap ≤ 9223372036854775807)
    (hBsn : Bs < n₀ ∧ Bs ≠ x₀) (hBnn : Bn < n₀ ∧ Bn ≠ x₀) (w : World) (hBs : w.cell? ⟨Bs, 0, none⟩ = some (.slice A len cap)) (hBn : w.cell? ⟨Bn, 0, none⟩ = some (.int .i64 sz)) :
    SeqStopsK Fence.wide n Tryz.prog 125 #[.pointer (some ⟨Bs, 0, none⟩), .pointer (some ⟨Bn, 0, none⟩)] (fun x : Nat => #[chunkV b off len sz x]) (Keep n₀ x₀) (fun ys => ys = List.range (nchN len sz))
      (fun pre => ∃ k, k ≤ nchN len sz ∧ pre = List.range k) (nchN len sz) w := fun l J Jx W hW hJ _ hY h0 => by
  have c1 := Below.cell_of hW hBs
  have c2 := Below.cell_of hW hBn
  obtain ⟨s1, s2⟩ := nchN_spec len sz hsz
  rcases hA with rfl | rfl
  · exact chunk1_in n hn l Bs Bn n₀ b off len cap sz (nchN len sz) hsz hszb hlen hlc hcap s1 s2 x₀ hBsn hBnn J Jx hY (fun pre W k h => abides_drewN hJ k h) W c1 c2 h0
  · have h0' : nchN 0 sz = 0 := by unfold nchN; exact Nat.div_eq_of_lt (by omega)
    rw [h0']
    exact (chunk1_nil_in n l Bs Bn A cap J W c1 h0).mono fun e W' ⟨he, hj⟩ => ⟨he, .inl ⟨[], rfl, hj⟩⟩
end Go.Proofs.YtlmdkmflbhnlgaaGreat
namespace Go.Proofs.YtlmdkmflbhnlgaaGreat
open Go.RowKit
attribute [local go_sem] Oper.semAt_some
theorem wpListIn_store_row {F : Fence} {n : Nat} {P : Program} {ops : Array Oper} {rest : List Oper} {o : Oper} {a : Act} {w : World} {Q : Exit → Act → World → Prop} (hgd : o.guard = none) (ty : TypeId) (x y : Operand) (ho : o.op = .store ty x y)
    (g : Nat) (cells : Array Value) (hx : a.eval x = .pointer (some ⟨g, 0, none⟩)) (hy : a.eval y = .agg cells)
    (t : TypeId) (old : Array Value) (hg : w.heap[g]? = some (.cells old t (0, 0))) (hi : (P.info? ty).map (·.size) = some cells.size)
    (hold : old.size = cells.size) (h1 : cells.all (·.oneCell') = true)
    (h : wpListIn F n P ops Q rest (a.put o.dst undef) (w.setRow g cells)) : wpListIn F n P ops Q (o :: rest) a w := by
  refine wpListIn_plain hgd fun K hK => ?_
  unfold Oper.wpIn
  refine ⟨?_, ?_⟩
  · simp [Oper.about, ho]
  · rw [Oper.semAt_plain F _ _ (by rw [ho]; intro c hc'; cases hc')]
    unfold execOp
    simp only [ho, hx, hy, Instr.storeAt, Instr.sureAddr, Sem.run_bind, Sem.run_pure, Result.andThen_ok, run_storeVar_row w g t ty old cells hg hi hold h1]
    exact hK _ _ h
/-- The x-th piece's bits. -/
def chunkL (l : List Nat) (sz x : Nat) : List Nat := (l.drop (sz * x)).take sz
theorem chunkL_length (l : List Nat) (sz x : Nat) : (chunkL l sz x).length = min sz (l.length - sz * x) := by simp [chunkL]
theorem chunkL_all (l : List Nat) (sz : Nat) : ∀ k, (List.range k).flatMap (chunkL l sz) = l.take (sz * k) := by
  intro k
  induction k with
  | zero => simp
  | succ k ih =>
    rw [List.range_succ, List.flatMap_append, ih, List.flatMap_singleton, Nat.mul_succ, List.take_add]
    rfl
theorem chunkL_mem (l : List Nat) (sz x : Nat) : ∀ y ∈ chunkL l sz x, y ∈ l := fun _ h => List.mem_of_mem_drop (List.mem_of_mem_take h)
theorem chunkL_rd {w : World} {b off : Nat} {l : List Nat} (h : Rd w (some ⟨b, off, none⟩) (bys l)) (sz x : Nat) : Rd w (some ⟨b, off + sz * x, none⟩) (bys (chunkL l sz x)) := by
  intro j u hj
  refine ⟨_, rfl, ?_⟩
  have hl : j < (chunkL l sz x).length := by have := (List.getElem?_eq_some_iff.1 hj).1; rwa [bys_length] at this
  have h2 : (bys l)[sz * x + j]? = some u := by
    rw [← hj]
    unfold bys chunkL
    rw [chunkL_length] at hl
    simp [List.getElem?_map, List.getElem?_drop, show j < sz by omega]
  obtain ⟨ad, e, hc⟩ := h _ _ h2
  injection e with e
  subst e
  rw [← hc]
  congr 1
  unfold Addr.add
  by_cases h0 : j = 0
  · subst h0
    by_cases h1 : sz * x = 0 <;> simp [h1]
  · simp [h0, Nat.add_assoc]
theorem name_world {F : Fence} {n : Nat} {P : Program} {cd : Code} {Q : Exit → Act → World → Prop} {a : Act} {W : World} {T : World → Prop} (hT : T W) (h : ∀ W0, T W0 → cd.wpIn F n P Q a W0) : cd.wpIn F n P Q a W := h W hT
theorem grown_keep {B b : Nat} {W W' : World} {row : Option Nat} (hg : W.grownBy W' row) (hB : B ≤ W.heap.size) (hr : ∀ r, row = some r → B ≤ r) : Keep B b W W' :=
  ⟨hg.os, hg.tape, hg.output, hg.size, fun k hk _ => hg.block k (by omega) (fun e => by have := hr k e.symm; omega)⟩
theorem ownFrom_keep {β : Type} {B b : Nat} {w0 : World} (h : B ≤ w0.heap.size) : OwnFrom B (fun (_ : β) W => Keep B b w0 W) :=
  fun _ _ _ _ hs hg hr => hs.trans (grown_keep hg (Nat.le_trans h hs.size) (fun r e => (hr r e).1))
theorem ownFrom_heap {β : Type} {B g : Nat} (f : β → Obj) (hg : g < B) : OwnFrom B (fun s W => W.heap[g]? = some (f s)) :=
  fun _ _ _ _ hs hgr hr => (hgr.block g (heap_lt hs) (fun e => by have := (hr g e.symm).1; omega)).trans hs
theorem ownFrom_fact {β : Type} {B : Nat} (p : β → Prop) : OwnFrom B (fun s _ => p s) := fun _ _ _ _ hs _ _ => hs
theorem keepsFrom_below {B : Nat} {W W' : World} (h : Below W.heap.size W W') : KeepsFrom B W W' :=
  ⟨h.size, fun k _ _ hk _ => (h.block k (heap_lt hk)).trans hk⟩
theorem Keep.setRow {B b : Nat} {w w' : World} (h : Keep B b w w') (g : Nat) (hB : B ≤ g) (cs : Array Value) : Keep B b w (w'.setRow g cs) :=
  ⟨h.os, h.tape, h.output, by rw [setRow_size]; exact h.size, fun k hk h1 => by rw [setRow_other _ _ _ _ (by omega)]; exact h.block k hk h1⟩
theorem below_setRow {B : Nat} {w w' : World} (h : Below B w w') (g : Nat) (hB : B ≤ g) (cs : Array Value) : Below B w (w'.setRow g cs) :=
  ⟨h.os, h.tape, h.output, by rw [setRow_size]; exact h.size, fun k hk => by rw [setRow_other _ _ _ _ (by omega)]; exact h.block k hk⟩
set_option maxRecDepth 100000 in
set_option maxHeartbeats 4000000 in
theorem run_any (size poly start sum : Nat) (b off n c : Nat) (A : Option Addr) (hA : A = some ⟨b, off, none⟩ ∨ n = 0) (l : List Nat) (w : World) (h4 : 4 ≤ size) (h32 : size ≤ 32) (hp : poly < 2 ^ size) (hs : sum < 2 ^ size) (hr : Rd w A (bys l)) (hn : l.length = n) (hn2 : n ≤ 1000000) (hc1 : n ≤ c) (hc2 : c ≤ 9223372036854775807) (h01 : ∀ x ∈ l, x ≤ 1) :
    Calls Tryz.prog 112 #[kindV size poly start, .int .u64 sum, .slice A n c] w fun e w' => e = .returned (.int .u64 (crcN size poly sum l : Nat)) ∧ Below w.heap.size w w' := by
  have HT := Lib.hid (fun W => table_any size poly start W h4 h32 hp)
  obtain ⟨cs, hcs⟩ : ∃ cs, (tabV size poly 16).toArray = cs := ⟨_, rfl⟩
  rw [hcs] at HT
  have hi : (Tryz.prog.info? 161).map (·.size) = some cs.size := by
    have : (Tryz.prog.info? 161).map (·.size) = some 16 := by kernel_rfl
    rw [this, ← hcs]; simp [tabV_length]
  have hcz : (#[Value.int IntKind.u64 0, Value.int IntKind.u64 0, Value.int IntKind.u64 0, Value.int IntKind.u64 0, Value.int IntKind.u64 0, Value.int IntKind.u64 0, Value.int IntKind.u64 0, Value.int IntKind.u64 0, Value.int IntKind.u64 0, Value.int IntKind.u64 0, Value.int IntKind.u64 0, Value.int IntKind.u64 0, Value.int IntKind.u64 0, Value.int IntKind.u64 0, Value.int IntKind.u64 0, Value.int IntKind.u64 0] : Array Value).size = cs.size := by rw [← hcs]; simp [tabV_length]
  have h1 : cs.all (·.oneCell') = true := by rw [← hcs]; simp [tabV]; intros; rfl
  have HCS := Lib.hid hcs
  have HI := Lib.hid hi
  have HCZ := Lib.hid hcz
  have H1 := Lib.hid h1
  have HP := Lib.hid hp
  have HS := Lib.hid hs
  have HR := Lib.hid hr
  have HN := Lib.hid hn
  have H01 := Lib.hid h01
  have HA := Lib.hid hA
  clear hcs hi hcz h1 hp hs hr hn h01 hA
  refine (callsIn_wide (n := 5)).1 ?_
  refine callsIn_of_wp_marks Tryz.func112 rfl trivial ?_ rfl
  simp only [Tryz.ntmps112, List.size_toArray, List.length_cons, List.length_nil, Nat.reduceAdd, Nat.reduceSub, Array.replicate_succ, Array.replicate_zero, List.push_toArray, List.append_toArray, List.nil_append, List.cons_append]
  gi_wp2_with (first
    | (refine ⟨trivial, ?_⟩; gi_at_call 122; refine (callsIn_wide.2 (HT.out _)).mono ?_; rintro e w1 ⟨rfl, hb1⟩; have HB1 := Lib.hid hb1; clear hb1)
    | (with_reducible refine wpListIn_store_row rfl 161 (.tmp 7) (.tmp 13) rfl w1.heap.size cs rfl rfl 161 #[Value.int IntKind.u64 0, Value.int IntKind.u64 0, Value.int IntKind.u64 0, Value.int IntKind.u64 0, Value.int IntKind.u64 0, Value.int IntKind.u64 0, Value.int IntKind.u64 0, Value.int IntKind.u64 0, Value.int IntKind.u64 0, Value.int IntKind.u64 0, Value.int IntKind.u64 0, Value.int IntKind.u64 0, Value.int IntKind.u64 0, Value.int IntKind.u64 0, Value.int IntKind.u64 0, Value.int IntKind.u64 0] (heap_new_at rfl) HI.out HCZ.out H1.out ?_)
    | (refine ⟨trivial, ?_⟩; gi_at_call 113; refine (callsIn_wide.2 (Chunk_any A n c 4 _ (by omega) (by omega))).mono ?_; rintro e _ ⟨rfl, rfl⟩))
  obtain ⟨g, hg⟩ : ∃ g, w.heap.size = g := ⟨_, rfl⟩
  obtain ⟨q, hq⟩ : ∃ q, w1.heap.size = q := ⟨_, rfl⟩
  have HG := Lib.hid hg
  have HQ := Lib.hid hq
  have hgq : g + 1 + 1 < q := by
    have h1 := HB1.out.size
    simp at h1
    omega
  refine name_world (T := fun W0 => W0.heap[g]? = some (.cells #[.int .i64 size, .int .u64 poly, .int .u64 start] 147) ∧ W0.heap[g + 1]? = some (.cells #[.int .u64 sum] 71) ∧ W0.heap[g + 1 + 1]? = some (.cells #[.int .u64 0] 71) ∧ W0.heap[q]? = some (.cells cs 161) ∧
    W0.heap[q + 1]? = some (.cells #[.slice A n c] 22) ∧ W0.heap[q + 1 + 1]? = some (.cells #[.int .i64 4] 3) ∧ W0.heap.size = q + 1 + 1 + 1 ∧ Below g w W0) ?_ ?_
  · have e1 : ((w.alloc (.cells #[.int .i64 size, .int .u64 poly, .int .u64 start] 147)).alloc (.cells #[.int .u64 sum] 71)).heap.size = g + 1 + 1 := by simp [hg]
    have k0 := heap_below HB1.out (heap_push (heap_push (heap_new_at (w := w) (o := .cells #[.int .i64 size, .int .u64 poly, .int .u64 start] 147) hg.symm)))
    have k1 := heap_below HB1.out (heap_push (heap_new_at (g := g + 1) (w := w.alloc (.cells #[.int .i64 size, .int .u64 poly, .int .u64 start] 147)) (o := .cells #[.int .u64 sum] 71) (by simp [hg])))
    have k2 := heap_below HB1.out (heap_new_at (g := g + 1 + 1) (w := (w.alloc (.cells #[.int .i64 size, .int .u64 poly, .int .u64 start] 147)).alloc (.cells #[.int .u64 sum] 71)) (o := .cells #[.int .u64 0] 71) (by rw [e1]))
    refine ⟨?_, ?_, ?_, ?_, ?_, ?_, ?_, ?_⟩
    · refine heap_push (heap_push ?_)
      rw [setRow_other _ _ _ _ (by omega)]
      exact heap_push k0
    · refine heap_push (heap_push ?_)
      rw [setRow_other _ _ _ _ (by omega)]
      exact heap_push k1
    · refine heap_push (heap_push ?_)
      rw [setRow_other _ _ _ _ (by omega)]
      exact heap_push k2
    · refine heap_push (heap_push ?_)
      rw [hq]
      exact setRow_heap _ _ _ _ _ _ (heap_new_at hq.symm)
    · exact heap_push (heap_new_at (by simp [hq]))
    · exact heap_new_at (by simp [hq])
    · simp [hq]
    · have b1 : Below g w w1 := ((((Below.refl g w).alloc (by omega) _).alloc (by simp; omega) _).alloc (by simp; omega) _).trans (HB1.out.mono (by simp; omega))
      exact ((below_setRow (b1.alloc (by omega) _) _ (by omega) _).alloc (by simp; omega) _).alloc (by simp; omega) _
  rw [hg, hq]
  clear hg hq HB1
  rintro W0 ⟨f0, f1, f2, f3, f4, f5, fs, fb⟩
  have F0 := Lib.hid f0
  have F1 := Lib.hid f1
  have F2 := Lib.hid f2
  have F3 := Lib.hid f3
  have FS := Lib.hid fs
  have FB := Lib.hid fb
  refine wpIn_rangeFunc_ownG rfl (by omega) (gf := 125) (lb := #[.pointer (some ⟨q + 1, 0, none⟩), .pointer (some ⟨q + 1 + 1, 0, none⟩)]) rfl trivial (enters_of Tryz.func125 (by kernel_rfl) rfl)
    (chunk_stops (5 - 1) (by omega) (q + 1) (q + 1 + 1) W0.heap.size (g + 1) b off n c 4 A HA.out (by omega) (by omega) hn2 hc1 hc2 (by omega) (by omega) W0 (cell_of_heap f4 0 _ rfl) (cell_of_heap f5 0 _ rfl))
    (fun h k => h.trans k) (fun W j o o' hj ho _ _ => grown_keep (grownBy_putObj' W j o') (by have := heap_lt ho; omega) (fun r e => by cases e; exact hj)) (Below.refl _ _) (fun _ => rfl)
    (fun pre W => Keep W0.heap.size (g + 1) W0 W ∧ W.heap[g + 1]? = some (.cells #[.int .u64 (crcN size poly sum (pre.flatMap (chunkL l 4)) : Nat)] 71))
    (fun cd pre W => (cd = .ret ∧ ∃ ini x, pre = ini ++ [x] ∧ n - 4 * x < 4) ∧ W.heap[g + 1 + 1]? = some (.cells #[.int .u64 (crcN size poly sum (pre.flatMap (chunkL l 4)) : Nat)] 71) ∧ Below g w W)
    (OwnFrom.and (ownFrom_keep (Nat.le_refl _)) (ownFrom_heap _ (by omega)))
    (fun cd => OwnFrom.and (ownFrom_fact _) (OwnFrom.and (ownFrom_heap _ (by omega)) (ownFrom_below (by rw [HG.out]; exact Nat.le_refl _) (by omega))))
    ⟨Keep.refl _ _ _, f1⟩
    (fun x => { tmps := #[kindV size poly start, .int .u64 sum, .slice A n c, .pointer (some ⟨g, 0, none⟩), .pointer (some ⟨g + 1, 0, none⟩), undef, .pointer (some ⟨g + 1 + 1, 0, none⟩), .pointer (some ⟨q, 0, none⟩), chunkV b off n 4 x, undef, undef, undef, .agg #[.int .i64 size, .int .u64 poly, .int .u64 start], .agg cs, .slice A n c,
      .func (.func 125) #[] #[.pointer (some ⟨q + 1, 0, none⟩), .pointer (some ⟨q + 1 + 1, 0, none⟩)], chunkV b off n 4 x, undef, undef, undef, undef, undef, undef, undef, undef, undef, undef, undef, undef, undef, undef, undef, undef, undef, undef, undef, undef, undef, undef, undef, undef, undef, undef, undef, undef, undef, undef, undef, undef], defers := [] }) ?assign ?body ?done ?stop
  case assign =>
    intro j x W K hK
    gi_wp2
    exact hK
  case body =>
    rintro lp pre x W ⟨hKp, hsum⟩ _
    have a0 : W.cell? ⟨g, 0, none⟩ = some (.int .i64 size) := cell_of_heap (hKp.heap F0.out (by omega) (by omega)) 0 _ rfl
    have a1 : W.cell? ⟨g, 1, none⟩ = some (.int .u64 poly) := cell_of_heap (hKp.heap F0.out (by omega) (by omega)) 1 _ rfl
    have a2 : W.cell? ⟨g, 2, none⟩ = some (.int .u64 start) := cell_of_heap (hKp.heap F0.out (by omega) (by omega)) 2 _ rfl
    have hres := hKp.heap F2.out (by omega) (by omega)
    have htab := hKp.heap F3.out (by omega) (by omega)
    have hbel : Below g w W := FB.out.trans (hKp.below (by omega) (by omega))
    have hsz : q + 1 + 1 + 1 ≤ W.heap.size := by rw [← FS.out]; exact hKp.size
    obtain ⟨s, hsv⟩ : ∃ s, crcN size poly sum (pre.flatMap (chunkL l 4)) = s := ⟨_, rfl⟩
    have hslt : s < 2 ^ size := by rw [← hsv]; exact crcN_lt size poly _ HP.out sum HS.out
    have hnext : crcN size poly sum ((pre ++ [x]).flatMap (chunkL l 4)) = crcN size poly s (chunkL l 4 x) := by
      rw [List.flatMap_append, crcN_append, hsv, List.flatMap_singleton]
    rw [hsv] at hsum
    have b0 : W.cell? ⟨g + 1, 0, none⟩ = some (.int .u64 s) := cell_of_heap hsum 0 _ rfl
    have hlenc : (chunkL l 4 x).length = min 4 (n - 4 * x) := by rw [chunkL_length, HN.out]
    have hrd : ∀ W2, Below W.heap.size W W2 → 0 < min 4 (n - 4 * x) → Rd W2 (some ⟨b, off + 4 * x, none⟩) (bys (chunkL l 4 x)) := by
      intro W2 hW2 hpos
      have hA2 : A = some ⟨b, off, none⟩ := by
        rcases HA.out with e | e
        · exact e
        · omega
      have h1 := HR.out.below (w' := W) (by rw [HG.out]; exact hbel)
      rw [hA2] at h1
      exact (chunkL_rd h1 4 x).below hW2
    have h01c : ∀ y ∈ chunkL l 4 x, y ≤ 1 := fun y hy => H01.out y (chunkL_mem l 4 x y hy)
    have HSV := Lib.hid hsv
    have HNX := Lib.hid hnext
    have HKP := Lib.hid hKp
    have HSUM := Lib.hid hsum
    have HRES := Lib.hid hres
    have HTAB := Lib.hid htab
    have HBEL := Lib.hid hbel
    have HLC := Lib.hid hlenc
    have HRD := Lib.hid hrd
    have H01C := Lib.hid h01c
    have HSLT := Lib.hid hslt
    clear hsv hnext hKp hsum hres htab hbel hlenc hrd h01c f1 f2 f3 f4 f5 fs fb f0 hslt
    by_cases hm : n - 4 * x < 4
    · have hmin : min 4 (n - 4 * x) = n - 4 * x := Nat.min_eq_right (by omega)
      have hall : ∀ W2, W2 = W → Calls Tryz.prog 123 #[.int .u64 s, .slice (some ⟨b, off + 4 * x, none⟩) (n - 4 * x) (n - 4 * x), .func (.func 124) #[kindV size poly start] #[]] W2 fun e w' => e = .returned (.int .u64 (crcN size poly s (chunkL l 4 x) : Nat)) ∧ Below W2.heap.size W2 w' := by
        rintro W2 rfl
        by_cases h0 : 0 < n - 4 * x
        · exact all_any size poly start s _ _ _ (chunkL l 4 x) W2 h4 h32 HP.out HSLT.out (HRD.out W2 (Below.refl _ _) (by omega)) (by rw [HLC.out]; omega) (by omega) H01C.out
        · have e0 : chunkL l 4 x = [] := List.eq_nil_of_length_eq_zero (by rw [HLC.out]; omega)
          exact all_any size poly start s _ _ _ (chunkL l 4 x) W2 h4 h32 HP.out HSLT.out (by rw [e0]; exact Rd.nil _ _) (by rw [e0]; simp; omega) (by omega) H01C.out
      have HALL := Lib.hid (hall W rfl)
      have HM := Lib.hid hmin
      have hlt4 : ((n - 4 * x : Nat) : Int) < 4 := by omega
      clear hall hmin
      dsimp only [chunkV]
      rw [HM.out]
      gi_wp2_with (refine ⟨trivial, ?_⟩; gi_at_call 123; refine (CallsIn.inRound lp (callsIn_wide.2 HALL.out)).mono ?_; rintro e w2 ⟨rfl, hb2⟩; have r0 : w2.cell? ⟨g + 1 + 1, 0, none⟩ = some (.int .u64 0) := Below.cell_of hb2 (cell_of_heap HRES.out 0 _ rfl); have z0 : w2.frozen? ⟨g + 1 + 1, 0, none⟩ = false := (by simp [World.frozen?, heap_below hb2 HRES.out]); have HB2 := Lib.hid hb2; clear hb2)
      refine ⟨(keepsFrom_below HB2.out).trans ((KeepsOthers.setCell _ _ _).from _), ⟨rfl, pre, x, rfl, hm⟩, ?_, (HBEL.out.trans (HB2.out.mono (by omega))).setCell (p := ⟨g + 1 + 1, 0, none⟩) (by show g ≤ g + 1 + 1; omega) _⟩
      rw [heap_setCell (heap_below HB2.out HRES.out) 0 _, HNX.out]
      rfl
    · have hmin : min 4 (n - 4 * x) = 4 := Nat.min_eq_left (by omega)
      have hl4 : (chunkL l 4 x).length = 4 := by rw [HLC.out]; exact hmin
      have hget := Get_any W (some ⟨b, off + 4 * x, none⟩) 4 4 (chunkL l 4 x) (HRD.out W (Below.refl _ _) (by omega)) hl4 (by omega) H01C.out
      have hN := numN_lt (chunkL l 4 x) H01C.out
      rw [hl4] at hN
      have hcr := crcN_four size poly s h4 HSLT.out (chunkL l 4 x) hl4 H01C.out
      have hpw := pow32 h32
      have hslt' := HSLT.out
      obtain ⟨p4, hp4⟩ : ∃ p4, size - 4 = p4 := ⟨_, rfl⟩
      have hhi : s / 2 ^ p4 < 16 := by
        refine Nat.div_lt_of_lt_mul ?_
        obtain rfl : size = p4 + 4 := by omega
        rw [Nat.pow_add] at hslt'
        exact hslt'
      have hxlt : (s / 2 ^ p4) ^^^ numN (chunkL l 4 x) < 16 := Nat.xor_lt_two_pow (n := 4) hhi hN
      have hxor1 : bits .xor .u64 ((s : Int) / 2 ^ p4) ((numN (chunkL l 4 x) : Nat) : Int) = (((s / 2 ^ p4) ^^^ numN (chunkL l 4 x) : Nat) : Int) := by
        have e : ((s : Int) / 2 ^ p4) = ((s / 2 ^ p4 : Nat) : Int) := by simp
        rw [e]; exact u64_xor_nat _ _ (by omega) (by omega)
      have hmin64 : min p4 64 = p4 := Nat.min_eq_left (by omega)
      have hs4 : IntKind.i64.wrap ((size : Int) - 4) = (p4 : Int) := by rw [IntWalk.i64_in _ (by omega)]; omega
      have hmask : bits .and .u64 (IntKind.u64.wrap ((s : Int) * 16)) (IntKind.u64.wrap (IntKind.u64.wrap (2 ^ size) - 1)) = ((s * 16 % 2 ^ size : Nat) : Int) := by
        have e : IntKind.u64.wrap ((s : Int) * 16) = ((s * 16 : Nat) : Int) := by rw [IntWalk.u64_in _ ⟨by omega, by omega⟩]; omega
        rw [e, mask_u64 size _ h32 (by omega)]
      have htlt : tabN size poly ((s / 2 ^ p4) ^^^ numN (chunkL l 4 x)) < 2 ^ size := by
        refine crcN_lt size poly _ HP.out _ ?_
        rw [hp4]
        obtain rfl : size = p4 + 4 := by omega
        rw [Nat.pow_add]
        have h0 : 0 < 2 ^ p4 := Nat.two_pow_pos _
        have := Nat.mul_lt_mul_of_pos_right hxlt h0
        omega
      have hmlt : s * 16 % 2 ^ size < 2 ^ size := Nat.mod_lt _ (Nat.two_pow_pos _)
      have hxor2 : bits .xor .u64 ((s * 16 % 2 ^ size : Nat) : Int) ((tabN size poly ((s / 2 ^ p4) ^^^ numN (chunkL l 4 x)) : Nat) : Int) = ((s * 16 % 2 ^ size ^^^ tabN size poly ((s / 2 ^ p4) ^^^ numN (chunkL l 4 x)) : Nat) : Int) := u64_xor_nat _ _ (by omega) (by omega)
      rw [hp4] at hcr
      have hcell : cs[(s / 2 ^ p4) ^^^ numN (chunkL l 4 x)]? = some (.int .u64 (tabN size poly ((s / 2 ^ p4) ^^^ numN (chunkL l 4 x)) : Nat)) := by
        rw [← HCS.out]; simp [tabV, hxlt]
      obtain ⟨N, hNe⟩ : ∃ N, numN (chunkL l 4 x) = N := ⟨_, rfl⟩
      rw [hNe] at hget hN hcr hxlt hxor1 htlt hxor2 hcell
      obtain ⟨hi, hhie⟩ : ∃ hi, (s / 2 ^ p4) ^^^ N = hi := ⟨_, rfl⟩
      rw [hhie] at hcr hxlt hxor1 htlt hxor2 hcell
      obtain ⟨T, hTe⟩ : ∃ T, tabN size poly hi = T := ⟨_, rfl⟩
      rw [hTe] at hcr htlt hxor2 hcell
      obtain ⟨M, hMe⟩ : ∃ M, s * 16 % 2 ^ size = M := ⟨_, rfl⟩
      rw [hMe] at hmask hmlt hcr hxor2
      have HGET := Lib.hid hget
      have HM := Lib.hid hmin
      have HCR := Lib.hid hcr
      have HCELL := Lib.hid hcell
      have HFACT : Hid (hs4 = hs4) := rfl
      clear hget hmin hcr hNe hhie hTe hMe hslt' htlt hmlt hpw hhi hN hl4 hcell hp4 HFACT
      have hi16 : (hi : Int) < 16 := by omega
      have hi0 : (0 : Int) ≤ (hi : Int) := by omega
      have hm4 : ¬ (4 : Int) < 4 := by omega
      dsimp only [chunkV]
      rw [HM.out]
      gi_wp2_with (refine ⟨trivial, ?_⟩; gi_at_call 95; refine (CallsIn.inRound lp (callsIn_wide.2 HGET.out)).mono ?_; rintro e w2 ⟨rfl, hb2⟩; have a0' := Below.cell_of hb2 a0; have b0' := Below.cell_of hb2 b0; have z0 : w2.frozen? ⟨g + 1, 0, none⟩ = false := (by simp [World.frozen?, heap_below hb2 HSUM.out]); have t0 : w2.cell? ⟨q, hi, none⟩ = some (.int .u64 T) := Below.cell_of hb2 (cell_of_heap HTAB.out hi _ HCELL.out); have HB2 := Lib.hid hb2; clear hb2)
      refine wpIn_region_still_tail 11 (by kernel_rfl) (by kernel_rfl) (by kernel_rfl) ?_
      simp only [List.take_succ_cons, List.take_zero, List.drop_succ_cons, List.drop_zero]
      repeat still_step
      refine wpStill_nil ?_
      gi_wp2
      have hk1 : Keep W0.heap.size (g + 1) W ((w2.setCell ⟨g + 1, 0, none⟩ (.int .u64 ((M ^^^ T : Nat) : Int))).drew) := ((Keep.of HB2.out HKP.out.size).setCell (p := ⟨g + 1, 0, none⟩) (.inl rfl) _).drew
      refine ⟨((keepsFrom_below HB2.out).trans ((KeepsOthers.setCell _ _ _).from _)).trans ((KeepsOthers.drew _).from _), hk1, HKP.out.trans hk1, ?_⟩
      rw [HNX.out, HCR.out]
      show (w2.setCell _ _).heap[g + 1]? = _
      rw [heap_setCell (heap_below HB2.out HSUM.out) 0 _]
      rfl
  case done =>
    rintro D ys W hD rfl ⟨hKp, hsum⟩ hKd
    have hall : crcN size poly sum ((List.range (nchN n 4)).flatMap (chunkL l 4)) = crcN size poly sum l := by
      rw [chunkL_all, List.take_of_length_le]
      rw [HN.out]; exact (nchN_spec n 4 (by omega)).2
    rw [hall] at hsum
    have HALL := Lib.hid hall
    obtain ⟨r, hr⟩ : ∃ r, crcN size poly sum l = r := ⟨_, rfl⟩
    rw [hr] at hsum
    have HRV := Lib.hid hr
    have b0 : W.cell? ⟨g + 1, 0, none⟩ = some (.int .u64 r) := cell_of_heap hsum 0 _ rfl
    have hres := hKp.heap F2.out (by omega) (by omega)
    have r0 : W.cell? ⟨g + 1 + 1, 0, none⟩ = some (.int .u64 0) := cell_of_heap hres 0 _ rfl
    have z0 : W.frozen? ⟨g + 1 + 1, 0, none⟩ = false := by simp [World.frozen?, hres]
    have hbel : Below g w W := FB.out.trans (hKp.below (by omega) (by omega))
    have HRES := Lib.hid hres
    have HBEL := Lib.hid hbel
    have HKD := Lib.hid hKd
    clear hall hr hsum hres hbel hKd f0 f1 f2 f3 f4 f5 fs fb
    gi_wp2
    have hK' := (KeepsOthers.setCell W ⟨g + 1 + 1, 0, none⟩ (.int .u64 r)).same D _ HKD.out rfl
    refine ⟨by simp, .inl ⟨_, _, rfl, run_takeDeferred hK', ?_⟩⟩
    have hc5 := cell_kept (World.cell?_setCell_same' W ⟨g + 1 + 1, 0, none⟩ (.int .u64 r) (by rw [r0]; rfl)) (grownBy_putObj' _ D (.deferred none)) (fun r e => by cases e; exact ⟨_, hK', rfl⟩)
    refine ⟨.int .u64 r, by simp [results, Tryz.f112, go_sem, hc5], ⟨by rw [HRV.out], ?_⟩⟩
    rw [HG.out]
    exact (HBEL.out.setCell (p := ⟨g + 1 + 1, 0, none⟩) (by show g ≤ g + 1 + 1; omega) _).trans (belowK_b (w := W0) (by rw [FS.out]; omega) _ D _ _ hD hK' rfl rfl)
  case stop =>
    rintro D cd pre W hD ⟨k, hk, rfl⟩ ⟨⟨rfl, ini, x, e1, e2⟩, hres, hB⟩ hKd
    have hall : crcN size poly sum ((List.range k).flatMap (chunkL l 4)) = crcN size poly sum l := by
      rw [chunkL_all, List.take_of_length_le]
      rw [HN.out]
      cases k with
      | zero => simp at e1
      | succ k =>
        rw [List.range_succ] at e1
        have e3 := List.append_inj_right' e1 rfl
        simp at e3
        omega
    rw [hall] at hres
    obtain ⟨r, hr⟩ : ∃ r, crcN size poly sum l = r := ⟨_, rfl⟩
    rw [hr] at hres
    have HRV := Lib.hid hr
    have r0 : W.cell? ⟨g + 1 + 1, 0, none⟩ = some (.int .u64 r) := cell_of_heap hres 0 _ rfl
    have HBEL := Lib.hid hB
    have HKD := Lib.hid hKd
    clear hall hr hres hB hKd f0 f1 f2 f3 f4 f5 fs fb e1
    gi_wp2
    have hK' := HKD.out
    refine ⟨by simp, .inl ⟨_, _, rfl, run_takeDeferred hK', ?_⟩⟩
    have hc5 := cell_kept r0 (grownBy_putObj' _ D (.deferred none)) (fun r e => by cases e; exact ⟨_, hK', rfl⟩)
    refine ⟨.int .u64 r, by simp [results, Tryz.f112, go_sem, hc5], ⟨by rw [HRV.out], ?_⟩⟩
    rw [HG.out]
    exact HBEL.out.trans (belowK_b (w := W0) (by rw [FS.out]; omega) _ D _ _ hD hK' rfl rfl)
end Go.Proofs.YtlmdkmflbhnlgaaGreat
