/- container/heap's Push and Remove over the entries of the queue. No condition. -/
import Derived.Test.YtlmdkmflbhnlgaaQueue3
import Derived.Test.YtlmdkmflbhnlgaaQueue2
namespace Go.Proofs.Ytlmdkmflbhnlgaa
open Go.RowKit
/-- What heap.Push leaves. -/
def HPushedQ (w w' : World) (base qb room last : Nat) (A : Option Addr) (l : List QN) (x : QN) : Prop := ∃ A' cap' l', HeapQ w' base qb room last A' cap' l' ∧ HeapTo kyQ l' l'.length ∧ l'.Perm (l ++ [x]) ∧ (∀ a ∈ blkA A', a ∈ blkA A ∨ w.heap.size ≤ a) ∧ Turn (qb :: blkA A) w w'
set_option maxRecDepth 100000 in
set_option maxHeartbeats 4000000 in
theorem qHPush_any (w : World) (base qb room last cap n : Nat) (A : Option Addr) (l : List QN) (x : QN) (h : HeapQ w base qb room last A cap l) (hh : HeapTo kyQ l l.length) (hn : l.length = n) (hc : n < 1000) (hb : base ≤ w.heap.size) :
    Calls Try.prog 64 #[.iface 128 (.pointer (some ⟨qb, 2, none⟩)), .iface 130 (qV x)] w fun e w' => e = .returned (.tuple #[]) ∧ HPushedQ w w' base qb room last A l x := by
  have HP := Lib.hid (qPush_any w base qb room last cap n A l x h hn (by omega) hb)
  have HU := Lib.hid (upg_start hh x)
  have HN := Lib.hid hn
  have mP := methQ_Push (some ⟨qb, 2, none⟩)
  clear h hh hn hb
  go_enter Try.func64, Try.ntmps64
  go_wp2_with fail
  refine HP.out.mono ?_
  rintro y w2 ⟨rfl, A2, cap2, h2, fr2, tu2⟩
  have hl : (l ++ [x]).length = n + 1 := by rw [List.length_append, HN.out]; rfl
  have mL := methQ_Len h2
  rw [hl] at mL
  have HL := Lib.hid (qLen_any A2 (n + 1) cap2 w2)
  have HX := Lib.hid (qUp_any w2 base qb room last cap2 n (n + 1) A2 (l ++ [x]) h2 (by omega) (by rw [hl]; omega) (by rw [hl]; omega) (by have := HU.out; rw [HN.out] at this; exact this))
  have FR := Lib.hid fr2
  have TU := Lib.hid tu2
  clear h2 hl fr2 tu2
  go_wp2_with fail
  refine HL.out.mono ?_
  rintro y _ ⟨rfl, rfl⟩
  go_wp2_with fail
  refine HX.out.mono ?_
  rintro y w3 ⟨rfl, l3, h3, p3, i3, k3, t3⟩
  have HE : Hid (HPushedQ w w3 base qb room last A l x) := by
    refine ⟨A2, cap2, l3, h3, ?_, p3, FR.out, TU.out.trans t3 fun a ha => ?_⟩
    · have : l3.length = n + 1 := by rw [p3.length_eq, List.length_append, HN.out]; rfl
      rw [this]; exact i3
    · rcases FR.out a ha with h | h
      · exact .inl (List.mem_cons_of_mem _ h)
      · exact .inr h
  clear h3 p3 i3 k3 t3
  go_wp2_with fail
  go_end0
  exact ⟨rfl, HE.out⟩
/-- What heap.Remove answers and leaves. -/
def RemovedQ (e : Ending) (w w' : World) (base qb room last : Nat) (A : Option Addr) (cap i : Nat) (l : List QN) : Prop :=
  ∃ l', e = .returned (.iface 130 (qV (ag l i))) ∧ HeapQ w' base qb room last A cap l' ∧ HeapTo kyQ l' l'.length ∧ l.Perm (ag l i :: l') ∧ Turn (qb :: blkA A) w w'
theorem turn_cons {w w' : World} {qb : Nat} {s : List Nat} (h : Turn s w w') : Turn (qb :: s) w w' := h.mono fun x hx => .inl (List.mem_cons_of_mem _ hx)
theorem turn_one {w w' : World} {qb : Nat} {s : List Nat} (h : Turn [qb] w w') : Turn (qb :: s) w w' := h.mono fun x hx => .inl (by simp at hx; subst hx; simp)
set_option maxRecDepth 100000 in
set_option maxHeartbeats 8000000 in
theorem qRemove_any (w : World) (base qb room last cap n i : Nat) (A : Option Addr) (l : List QN) (h : HeapQ w base qb room last A cap l) (hh : HeapTo kyQ l l.length) (hn : l.length = n + 1) (hc : n < 1000) (hi : i ≤ n) :
    Calls Try.prog 88 #[.iface 128 (.pointer (some ⟨qb, 2, none⟩)), .int .i64 i] w fun e w' => RemovedQ e w w' base qb room last A cap i l := by
  have mL := methQ_Len h
  rw [hn] at mL
  have HL := Lib.hid (qLen_any A (n + 1) cap w)
  have mP := methQ_Pop (some ⟨qb, 2, none⟩)
  have HH := Lib.hid hh
  have HN := Lib.hid hn
  by_cases hin : i = n
  · subst hin
    have hne : ((i : Int) != (i : Int)) = false := by simp
    have HP := Lib.hid (qPop_any w base qb room last cap i A l h hn (by omega))
    clear h hh hn
    go_enter Try.func88, Try.ntmps88
    go_wp2_with fail
    refine HL.out.mono ?_
    rintro y _ ⟨rfl, rfl⟩
    go_wp2_with fail
    refine HP.out.mono ?_
    rintro y w2 ⟨rfl, h2, t2⟩
    have HE : Hid (RemovedQ (.returned (.iface 130 (qV (ag l i)))) w w2 base qb room last A cap i l) := by
      refine ⟨l.take i, rfl, h2, ?_, ?_, turn_one t2⟩
      · have h3 : HeapTo kyQ l i := fun k k0 kn => HH.out k k0 (by rw [HN.out]; omega)
        exact heapg_take h3 (by rw [HN.out]; omega)
      · have := ag_last HN.out
        rw (config := {occs := .pos [1]}) [this]
        exact List.perm_append_singleton _ _
    clear h2 t2
    go_wp2_with fail
    go_ret
    exact HE.out
  · have hlt : i < n := by omega
    have hne : ((n : Int) != (i : Int)) = true := by rw [bne_iff_ne]; omega
    have mS := methQ_Swap h
    rw [hn] at mS
    have HS := Lib.hid (qSwap_any w base qb room last cap A l i n h (by omega) (by omega))
    rw [hn] at HS
    have HD := Lib.hid (downg_start hh hn hlt)
    clear h hh hn hin
    go_enter Try.func88, Try.ntmps88
    go_wp2_with fail
    refine HL.out.mono ?_
    rintro y _ ⟨rfl, rfl⟩
    go_wp2_with fail
    refine HS.out.mono ?_
    rintro y w2 ⟨rfl, h2, t2⟩
    have T2 := Lib.hid t2
    have HX := Lib.hid (qDown_any w2 base qb room last cap i n A (sg l i n) h2 (by rw [sg_length, HN.out]; omega) (by rw [sg_length, HN.out]; omega) HD.out (by omega))
    clear h2 t2 mL mS
    go_wp2_with fail
    refine HX.out.mono ?_
    rintro y w3 ⟨mv, l3, rfl, h3, p3, i3, k3, t3⟩
    have hl3 : l3.length = n + 1 := by rw [p3.length_eq, sg_length, HN.out]
    have T3 := Lib.hid (T2.out.tr t3)
    have I3 := Lib.hid i3
    have P3 := Lib.hid p3
    have K3 := Lib.hid k3
    cases mv
    · have HU := Lib.hid (qUp_any w3 base qb room last cap i n A l3 h3 hlt (by omega) (by omega) (i3.2 rfl))
      clear h3 p3 i3 k3 t3 hl3
      go_wp2_with fail
      refine HU.out.mono ?_
      rintro y w4 ⟨rfl, l4, h4, p4, i4, k4, t4⟩
      have hl4 : l4.length = n + 1 := by rw [p4.length_eq, P3.out.length_eq, sg_length, HN.out]
      have HP := Lib.hid (qPop_any w4 base qb room last cap n A l4 h4 hl4 (by omega))
      obtain ⟨q1, q2, q3⟩ := remove_plain (i := i) HN.out (by omega) (p4.trans P3.out) i4 ((k4 n (Nat.le_refl n)).trans (K3.out n (Nat.le_refl n)))
      rw [q2] at HP
      have Q1 := Lib.hid q1
      have Q3 := Lib.hid q3
      have T4 := Lib.hid (T3.out.tr t4)
      clear h4 p4 i4 k4 t4 hl4 q1 q2 q3
      go_wp2_with fail
      refine HP.out.mono ?_
      rintro y w5 ⟨rfl, h5, t5⟩
      have HE : Hid (RemovedQ (.returned (.iface 130 (qV (ag l i)))) w w5 base qb room last A cap i l) := ⟨l4.take n, rfl, h5, Q3.out, Q1.out, (turn_cons T4.out).tr (turn_one t5)⟩
      clear h5 t5
      go_wp2_with fail
      go_ret
      exact HE.out
    · have HP := Lib.hid (qPop_any w3 base qb room last cap n A l3 h3 hl3 (by omega))
      obtain ⟨q1, q2, q3⟩ := remove_plain (i := i) HN.out (by omega) p3 (i3.1 rfl) (k3 n (Nat.le_refl n))
      rw [q2] at HP
      have Q1 := Lib.hid q1
      have Q3 := Lib.hid q3
      clear h3 p3 i3 k3 t3 hl3 q1 q2 q3
      go_wp2_with fail
      refine HP.out.mono ?_
      rintro y w5 ⟨rfl, h5, t5⟩
      have HE : Hid (RemovedQ (.returned (.iface 130 (qV (ag l i)))) w w5 base qb room last A cap i l) := ⟨l3.take n, rfl, h5, Q3.out, Q1.out, (turn_cons T3.out).tr (turn_one t5)⟩
      clear h5 t5
      go_wp2_with fail
      go_ret
      exact HE.out
end Go.Proofs.Ytlmdkmflbhnlgaa
namespace Go.Proofs.Ytlmdkmflbhnlgaa
open Go.RowKit
theorem atNo_any (x : QN) (p : Nat) (no : Int) (w : World) (hp : w.cell? ⟨p, 0, none⟩ = some (.int .i64 no)) :
    Calls Try.prog 87 #[qV x, .pointer (some ⟨p, 0, none⟩)] w fun e w' => e = .returned (.bool (decide (x.no = no))) ∧ Below w.heap.size w w' := by
  have hpl : p < w.heap.size := cell_lt hp
  have hp2 := fun o => Below.cell_of (below_alloc (Below.refl _ w) o) hp
  obtain ⟨v, hv⟩ : ∃ v, decide (x.no = no) = v := ⟨_, rfl⟩
  rw [hv]
  have HV := Lib.hid hv
  clear hv
  dsimp only [qV]
  go_enter Try.func87, Try.ntmps87
  go_wp2
  go_ret
  exact ⟨ret_bool (by rw [← HV.out, Bool.eq_iff_iff]; simp), below_alloc (Below.refl _ _) _⟩
/-- Where the first entry of a number stands. -/
def AtNo (l : List QN) (no : Int) (w : World) (e : Ending) (w' : World) : Prop :=
  ((∃ (k : Nat) (h : k < l.length), e = .returned (.int .i64 k) ∧ l[k].no = no) ∨ (e = .returned (.int .i64 (-1)) ∧ ∀ j (h : j < l.length), l[j].no ≠ no)) ∧ Below w.heap.size w w'
set_option maxRecDepth 100000 in
set_option maxHeartbeats 1000000 in
theorem qIndex_any (w : World) (base qb room last cap n p : Nat) (A : Option Addr) (no : Int) (l : List QN) (h : HeapQ w base qb room last A cap l) (hn : l.length = n) (hc : n ≤ 1000) (hp : w.cell? ⟨p, 0, none⟩ = some (.int .i64 no)) :
    Calls Try.prog 86 #[.slice A n cap, .func (.func 87) #[] #[.pointer (some ⟨p, 0, none⟩)]] w (AtNo l no w) := by
  have HQ := Lib.hid h
  have HN := Lib.hid hn
  clear h hn
  go_enter Try.func86, Try.ntmps86
  go_wp2_with fail
  go_loopw [8] (fun iv wr => ∃ k : Nat, k ≤ n ∧ Hid (∀ j (h : j < l.length), j < k → l[j].no ≠ no) ∧ iv = .int .i64 k ∧ Hid (Below w.heap.size w wr)) (fun iv _ => n - (intOf iv).toNat)
  case atStart => exact ⟨0, by omega, fun j _ h => absurd h (by omega), rfl, Below.refl _ _⟩
  case round =>
    obtain ⟨k, hk, HK, rfl, HB⟩ := hrel
    by_cases hkn : k < n
    · have hkl : k < l.length := by rw [HN.out]; exact hkn
      obtain ⟨g, rfl, ci⟩ := (HQ.out.below HB.out).cells k hkl
      obtain ⟨x, hx⟩ : ∃ x, l[k]'hkl = x := ⟨_, rfl⟩
      rw [hx] at ci
      have a0 : wr.cell? ⟨g, k * 13, none⟩ = some (.int .i64 x.no) := ci 0 _ rfl
      have a1 := ci 1 _ rfl
      have a2 := ci 2 _ rfl
      have a3 := ci 3 _ rfl
      have a4 := ci 4 _ rfl
      have a5 := ci 5 _ rfl
      have a6 := ci 6 _ rfl
      have a7 := ci 7 _ rfl
      have a8 := ci 8 _ rfl
      have a9 := ci 9 _ rfl
      have a10 := ci 10 _ rfl
      have a11 := ci 11 _ rfl
      have a12 := ci 12 _ rfl
      have HA := Lib.hid (atNo_any x p no wr (Below.cell_of HB.out hp))
      obtain ⟨v, hv⟩ : ∃ v, decide (x.no = no) = v := ⟨_, rfl⟩
      rw [hv] at HA
      have HV := Lib.hid hv
      have HX := Lib.hid hx
      clear ci hv hx
      dsimp only [qV] at HA
      cases v
      · go_wp2_with fail
        refine HA.out.mono ?_
        rintro e w1 ⟨rfl, hb⟩
        have HB1 := Lib.hid (below_trans HB.out hb)
        clear hb
        go_wp2_with fail
        go_roundw
        case rel =>
          refine ⟨k + 1, by omega, fun j h hj => ?_, by go_num, HB1⟩
          by_cases hjk : j = k
          · subst hjk; rw [HX.out]; exact of_decide_eq_false HV.out
          · exact HK.out j h (by omega)
        case measure => simp [intOf]; omega
      · go_wp2_with fail
        refine HA.out.mono ?_
        rintro e w1 ⟨rfl, hb⟩
        have HB1 := Lib.hid (below_trans HB.out hb)
        clear hb
        go_wp2_with fail
        go_ret
        exact ⟨.inl ⟨k, hkl, rfl, by rw [HX.out]; exact of_decide_eq_true HV.out⟩, HB1.out⟩
    · obtain rfl : k = n := by omega
      go_wp2_with fail
      go_ret
      exact ⟨.inr ⟨rfl, fun j h => HK.out j h (by rw [← HN.out]; exact h)⟩, HB.out⟩
end Go.Proofs.Ytlmdkmflbhnlgaa
