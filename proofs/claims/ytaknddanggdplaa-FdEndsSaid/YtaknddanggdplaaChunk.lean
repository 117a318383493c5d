/- slices.Chunk over rows of bytes: its contract as an iterator. No condition. -/
import Derived.Test.YtaknddanggdplaaFence
import Derived.Sort.QuietIn
namespace Go.Proofs.Ytaknddanggdplaa
open Go.RowKit
attribute [local go_sem] Oper.semAt_some
/-- The k-th piece's value. -/
abbrev chunkV (b off len sz k : Nat) : Value := .slice (some ⟨b, off + sz * k, none⟩) (min sz (len - sz * k)) (min sz (len - sz * k))
theorem chunk_lt {sz nch len : Nat} (h1 : sz * nch < len + sz) (h2 : len ≤ sz * nch) (k : Nat) : k < nch ↔ sz * k < len := by
  constructor
  · intro h
    have := Nat.mul_le_mul_left sz (show k + 1 ≤ nch by omega)
    rw [Nat.mul_add] at this
    omega
  · intro h
    refine Nat.lt_of_not_le fun hle => ?_
    have := Nat.mul_le_mul_left sz hle
    omega
set_option maxRecDepth 100000 in
set_option maxHeartbeats 2000000 in
theorem chunk1_in (n : Nat) (hn : 1 ≤ n) (l Bs Bn n₀ b off len cap sz nch : Nat) (hsz : 1 ≤ sz) (hszb : sz ≤ 1000) (hlen : len ≤ 1000000) (hlc : len ≤ cap) (hcap : cap ≤ 9223372036854775807)
    (hn1 : sz * nch < len + sz) (hn2 : len ≤ sz * nch) (x₀ : Nat) (hBsn : Bs < n₀ ∧ Bs ≠ x₀) (hBnn : Bn < n₀ ∧ Bn ≠ x₀) (J Jx : List Nat → World → Prop)
    (hY : ∀ pre x W, J pre W → pre.length < nch → YieldAt Fence.wide (n - 1) Try.prog l #[chunkV b off len sz x] W fun e W' =>
      (e = .returned (.bool true) ∧ J (pre ++ [x]) W' ∧ Keep n₀ x₀ W W') ∨ (e = .returned (.bool false) ∧ Jx (pre ++ [x]) W'))
    (hJd : ∀ pre W k, J pre W → J pre (World.drewN W k)) (W : World) (hBs : W.cell? ⟨Bs, 0, none⟩ = some (.slice (some ⟨b, off, none⟩) len cap)) (hBn : W.cell? ⟨Bn, 0, none⟩ = some (.int .i64 sz)) (h0 : J [] W) :
    CallsIn Fence.wide n Try.prog 125 #[.func (.yield l) #[] #[], .pointer (some ⟨Bs, 0, none⟩), .pointer (some ⟨Bn, 0, none⟩)] W fun e W' => (∃ v, e = .returned v) ∧
      ((∃ ys, ys = List.range nch ∧ J ys W') ∨ (∃ pre, (∃ k, k ≤ nch ∧ pre = List.range k) ∧ Jx pre W')) := by
  refine callsIn_of_wp Try.func125 rfl trivial ?_ rfl
  simp only [Try.ntmps125, List.size_toArray, List.length_cons, List.length_nil, Nat.reduceAdd, Nat.reduceSub, Array.replicate_succ, Array.replicate_zero, List.push_toArray, List.append_toArray, List.nil_append, List.cons_append]
  have HN := Lib.hid (chunk_lt hn1 hn2)
  have H1 := Lib.hid hn1
  have H2 := Lib.hid hn2
  have H0 := Lib.hid h0
  clear hn1 hn2 h0
  gi_wp2
  gi_loopw [4] (fun i wr => ∃ k : Nat, k ≤ nch ∧ i = .int .i64 (sz * k : Nat) ∧ Hid (J (List.range k) wr) ∧ Hid (Keep n₀ x₀ W wr)) (fun i _ => len + sz - (intOf i).toNat)
  case atStart => exact ⟨0, Nat.zero_le _, rfl, H0.out, Keep.refl _ _ _⟩
  case round =>
    obtain ⟨k, hk, rfl, hJs, hnx⟩ := hrel
    have c1 : wr.cell? ⟨Bs, 0, none⟩ = some (.slice (some ⟨b, off, none⟩) len cap) := hnx.out.cell_of hBs hBsn.1 hBsn.2
    have c2 : wr.cell? ⟨Bn, 0, none⟩ = some (.int .i64 sz) := hnx.out.cell_of hBn hBnn.1 hBnn.2
    obtain ⟨q, hq⟩ : ∃ q, sz * k = q := ⟨_, rfl⟩
    rw [hq]
    have HQ := Lib.hid hq
    by_cases hlt : q < len
    · have hkn : k < nch := (HN.out k).2 (by rw [hq]; exact hlt)
      have hqc : (q : Int) ≤ (cap : Int) := by omega
      have hql : (q : Int) ≤ (len : Int) := by omega
      have hlc' : (len : Int) ≤ (cap : Int) := by omega
      clear hq hBs hBn
      by_cases hm : len - q < sz
      · have HM := Lib.hid hm
        gi_wp2
        gi_quiet (fail)
        obtain ⟨fn, tmps, assign, body, hy, hR⟩ := hY _ k (wr.drewN nq) (hJd _ _ _ hJs.out) (by rw [List.length_range]; exact hkn)
        dsimp only [chunkV] at hy
        rw [HQ.out, Nat.min_eq_right (by have := HM.out; omega)] at hy
        gi_wp2
        refine hR.mono ?_
        rintro e W3 (⟨rfl, hJ3, hk3⟩ | ⟨rfl, hJx3⟩)
        · have HJ3 := Lib.hid hJ3
          have HK3 := Lib.hid hk3
          clear hJ3 hk3
          have c2' : W3.cell? ⟨Bn, 0, none⟩ = some (.int .i64 sz) := HK3.out.cell_of (Below.cell_of (below_drewN (Below.refl _ _) _) c2) hBnn.1 hBnn.2
          gi_wp2
          go_roundw
          case rel => exact ⟨k + 1, by omega, by rw [Nat.mul_add, HQ.out]; go_num, by show J _ _; rw [List.range_succ]; exact HJ3.out, hnx.out.trans ((Keep.of (below_drewN (Below.refl n₀ _) nq) (Nat.le_refl _)).trans HK3.out)⟩
          case measure => simp [intOf]; omega
        · have HJX := Lib.hid hJx3
          clear hJx3
          gi_wp2
          refine bodyPost_ret (results_none rfl _ _ _) rfl ?_
          exact ⟨⟨_, rfl⟩, .inr ⟨_, ⟨k + 1, by omega, rfl⟩, by rw [List.range_succ]; exact HJX.out⟩⟩
      · have HM := Lib.hid hm
        gi_wp2
        gi_quiet (fail)
        obtain ⟨fn, tmps, assign, body, hy, hR⟩ := hY _ k (wr.drewN nq) (hJd _ _ _ hJs.out) (by rw [List.length_range]; exact hkn)
        dsimp only [chunkV] at hy
        rw [HQ.out, Nat.min_eq_left (by have := HM.out; omega)] at hy
        gi_wp2
        refine hR.mono ?_
        rintro e W3 (⟨rfl, hJ3, hk3⟩ | ⟨rfl, hJx3⟩)
        · have HJ3 := Lib.hid hJ3
          have HK3 := Lib.hid hk3
          clear hJ3 hk3
          have c2' : W3.cell? ⟨Bn, 0, none⟩ = some (.int .i64 sz) := HK3.out.cell_of (Below.cell_of (below_drewN (Below.refl _ _) _) c2) hBnn.1 hBnn.2
          gi_wp2
          go_roundw
          case rel => exact ⟨k + 1, by omega, by rw [Nat.mul_add, HQ.out]; go_num, by show J _ _; rw [List.range_succ]; exact HJ3.out, hnx.out.trans ((Keep.of (below_drewN (Below.refl n₀ _) nq) (Nat.le_refl _)).trans HK3.out)⟩
          case measure => simp [intOf]; omega
        · have HJX := Lib.hid hJx3
          clear hJx3
          gi_wp2
          refine bodyPost_ret (results_none rfl _ _ _) rfl ?_
          exact ⟨⟨_, rfl⟩, .inr ⟨_, ⟨k + 1, by omega, rfl⟩, by rw [List.range_succ]; exact HJX.out⟩⟩
    · have hkn : k = nch := by
        have h1 : ¬ k < nch := fun h => hlt (by rw [← hq]; exact (HN.out k).1 h)
        omega
      have HK := Lib.hid hkn
      clear hq hBs hBn hkn
      have hle : (len : Int) ≤ (q : Int) := by omega
      gi_wp2
      go_end0
      exact ⟨⟨_, rfl⟩, .inl ⟨_, rfl, by rw [← HK.out]; exact hJs.out⟩⟩
set_option maxRecDepth 100000 in
set_option maxHeartbeats 1000000 in
theorem chunk1_nil_in (n : Nat) (l Bs Bn : Nat) (A : Option Addr) (cap : Nat) (J : List Nat → World → Prop) (W : World) (hBs : W.cell? ⟨Bs, 0, none⟩ = some (.slice A 0 cap)) (h0 : J [] W) :
    CallsIn Fence.wide n Try.prog 125 #[.func (.yield l) #[] #[], .pointer (some ⟨Bs, 0, none⟩), .pointer (some ⟨Bn, 0, none⟩)] W fun e W' => (∃ v, e = .returned v) ∧ J [] W' := by
  refine callsIn_of_wp Try.func125 rfl trivial ?_ rfl
  simp only [Try.ntmps125, List.size_toArray, List.length_cons, List.length_nil, Nat.reduceAdd, Nat.reduceSub, Array.replicate_succ, Array.replicate_zero, List.push_toArray, List.append_toArray, List.nil_append, List.cons_append]
  have H0 := Lib.hid h0
  clear h0
  gi_wp2
  gi_loopw [4] (fun i wr => i = .int .i64 0 ∧ wr = W) (fun _ _ => 0)
  case atStart => exact ⟨rfl, rfl⟩
  case round =>
    obtain ⟨rfl, rfl⟩ := hrel
    gi_wp2
    go_end0
    exact ⟨⟨_, rfl⟩, H0.out⟩
theorem Chunk_any (A : Option Addr) (len cap sz : Nat) (w : World) (hsz : 1 ≤ sz) (hszb : sz ≤ 1000) :
    Calls Try.prog 121 #[.slice A len cap, .int .i64 sz] w fun e w' => e = .returned (.func (.func 125) #[] #[.pointer (some ⟨w.heap.size, 0, none⟩), .pointer (some ⟨w.heap.size + 1, 0, none⟩)]) ∧ (w.alloc (.cells #[.slice A len cap] 23)).alloc (.cells #[.int .i64 sz] 3) = w' := by
  have h1 : ¬ (sz : Int) < 1 := by omega
  go_enter Try.func121, Try.ntmps121
  go_wp2_with fail
  go_ret
  exact ⟨rfl, rfl⟩
/-- How many pieces there are. -/
def nchN (len sz : Nat) : Nat := (len + sz - 1) / sz
theorem nchN_spec (len sz : Nat) (h : 1 ≤ sz) : sz * nchN len sz < len + sz ∧ len ≤ sz * nchN len sz := by
  unfold nchN
  have h1 := Nat.div_add_mod (len + sz - 1) sz
  have h2 := Nat.mod_lt (len + sz - 1) (show sz > 0 by omega)
  omega
theorem abides_drewN {β : Type} {B : Nat} {J : β → World → Prop} (h : AbidesFrom B J) {s : β} {W : World} (k : Nat) (hs : J s W) : J s (W.drewN k) :=
  h s W _ none hs ⟨rfl, rfl, rfl, Nat.le_refl _, fun _ _ _ => rfl⟩ (fun r e => by cases e)
theorem chunk_stops (n : Nat) (hn : 1 ≤ n) (Bs Bn n₀ x₀ b off len cap sz : Nat) (A : Option Addr) (hA : A = some ⟨b, off, none⟩ ∨ len = 0) (hsz : 1 ≤ sz) (hszb : sz ≤ 1000) (hlen : len ≤ 1000000) (hlc : len ≤ cap) (hcap : cap ≤ 9223372036854775807)
    (hBsn : Bs < n₀ ∧ Bs ≠ x₀) (hBnn : Bn < n₀ ∧ Bn ≠ x₀) (w : World) (hBs : w.cell? ⟨Bs, 0, none⟩ = some (.slice A len cap)) (hBn : w.cell? ⟨Bn, 0, none⟩ = some (.int .i64 sz)) :
    SeqStopsK Fence.wide n Try.prog 125 #[.pointer (some ⟨Bs, 0, none⟩), .pointer (some ⟨Bn, 0, none⟩)] (fun x : Nat => #[chunkV b off len sz x]) (Keep n₀ x₀) (fun ys => ys = List.range (nchN len sz))
      (fun pre => ∃ k, k ≤ nchN len sz ∧ pre = List.range k) (nchN len sz) w := fun l J Jx W hW hJ _ hY h0 => by
  have c1 := Below.cell_of hW hBs
  have c2 := Below.cell_of hW hBn
  obtain ⟨s1, s2⟩ := nchN_spec len sz hsz
  rcases hA with rfl | rfl
  · exact chunk1_in n hn l Bs Bn n₀ b off len cap sz (nchN len sz) hsz hszb hlen hlc hcap s1 s2 x₀ hBsn hBnn J Jx hY (fun pre W k h => abides_drewN hJ k h) W c1 c2 h0
  · have h0' : nchN 0 sz = 0 := by unfold nchN; exact Nat.div_eq_of_lt (by omega)
    rw [h0']
    exact (chunk1_nil_in n l Bs Bn A cap J W c1 h0).mono fun e W' ⟨he, hj⟩ => ⟨he, .inl ⟨[], rfl, hj⟩⟩
end Go.Proofs.Ytaknddanggdplaa
