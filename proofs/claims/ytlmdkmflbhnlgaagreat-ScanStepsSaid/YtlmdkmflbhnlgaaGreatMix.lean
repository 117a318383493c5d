/- A region that draws its order: what only reads goes first, whatever calls or writes goes one behind the other, what waits for all goes last: one walk. No condition. -/
import Derived.Test.YtlmdkmflbhnlgaaGreatBase
import Derived.OrdersHeld
import Derived.Deep.Quiet
import Derived.StillTail
namespace Go.Proofs.YtlmdkmflbhnlgaaGreat
open Go Go.RowKit
/-- An operation that yields a value, if it comes to an end, and calls nothing. -/
def valB : Op → Bool
  | .move _ | .assign _ | .load _ _ | .binOp _ _ _ _ _ | .unOp _ _ _ | .convert _ _ _ | .fieldAddr _ _ _ | .field _ _ _ | .indexAddr _ _ _ | .index _ _ _ | .slice _ _ _ _ _ | .extract _ _ | .makeInterface _ _ | .build _ _ | .pick _ _ _ | .typeAssert _ _ _ _ | .makeFunc _ _ _ => true
  | .call { callee := .builtin .len, .. } | .call { callee := .builtin .cap, .. } => true
  | _ => false
section
variable {P : Program} {ops : Array Oper} {Q : Exit → Act → World → Prop} {md : Region.Mode} {S : World → Prop}
theorem value_only {s : Sem Value} {w w' : World} {n : Next} (h : ((do let x ← s; pure (Next.value x)) : Sem Next).run P w = .ok n w') : ∃ v, n = .value v := by
  rw [Sem.run_bind] at h
  cases hs : s.run P w with
  | ok v w1 => rw [hs] at h; simp [Result.andThen] at h; exact ⟨v, h.1.symm⟩
  | halt x w1 => rw [hs] at h; simp [Result.andThen] at h
theorem val_only {o : Oper} (hp : valB o.op = true) {ρ : Operand → Value} {w w' : World} {n : Next} (h : (execOp ρ o).run P w = .ok n w') : ∃ v, n = .value v := by
  unfold execOp at h
  cases ho : o.op <;> rw [ho] at hp h <;> simp only [valB] at hp <;> first | exact absurd hp (by decide) | skip
  all_goals first
    | exact value_only h
    | (simp at h; exact ⟨_, h.1.symm⟩)
    | skip
  case pick c x y =>
    simp only [Sem.run_bind] at h
    cases hs : (asBool (ρ c)).run P w with
    | ok v w1 => rw [hs] at h; simp [Result.andThen] at h; exact ⟨_, h.1.symm⟩
    | halt x w1 => rw [hs] at h; simp [Result.andThen] at h
  case call c =>
    obtain ⟨callee, args, argTypes⟩ := c
    cases callee with
    | builtin b =>
      cases b <;> simp only at hp <;> first | exact absurd hp (by decide) | skip
      all_goals
        simp only [resolve, invoke, builtin, Sem.run_bind, Sem.run_pure, Result.andThen_ok] at h
        exact value_only (P := P) (w := w) (w' := w') (by rw [Sem.run_bind]; simpa only [Sem.run_pure] using h)
    | value f => simp only at hp; exact absurd hp (by decide)
    | invoke r s => simp only at hp; exact absurd hp (by decide)
theorem yieldsIf_quiet {o : Oper} {a : Act} {K : Act → Prop} (hp : valB o.op = true) (hw : Region.wanted o (yielded ops a.tmps) = true) (h : o.quiet P a S K) : ∃ v, YieldsIf P ops S o v a ∧ K (a.put o.dst v) := by
  obtain ⟨v, h1, h2⟩ := h
  refine ⟨v, .inl ⟨hw, fun w hS => ?_⟩, h2⟩
  have h3 := h1 w hS
  unfold Oper.quietAt at h3
  generalize hr : (execOp a.eval o).run P w = r at *
  cases r with
  | ok n w' =>
    obtain ⟨u, rfl⟩ := val_only hp hr
    simp only [Oper.quietUpon] at h3
    rw [h3.1, h3.2]
  | halt x w' => simp only [Oper.quietUpon] at h3
/-! ### the structure -/
def waits1 (md : Region.Mode) (ops : Array Oper) (j i : Nat) : Bool := Region.waitsFor md ops j i
/-- Each of these is waited for by one behind it, or by t. -/
def sinkL (md : Region.Mode) (ops : Array Oper) (t : Nat) : List Nat → Bool
  | [] => true
  | i :: r => (waits1 md ops t i || r.any fun j => waits1 md ops j i) && sinkL md ops t r
/-- Each waits for one ahead of it. -/
def chainL (md : Region.Mode) (ops : Array Oper) : List Nat → List Nat → Bool
  | _, [] => true
  | p, t :: r => (p.any fun i => waits1 md ops t i) && chainL md ops (t :: p) r
def tailB (md : Region.Mode) (ops : Array Oper) (π : List Nat) : List Nat → Bool
  | [] => true
  | t :: r => sinkL md ops t π && chainL md ops [t] r
def seqI (md : Region.Mode) (ops : Array Oper) : List Nat → Array Bool → Bool
  | [], listed => (Region.ready md ops listed).isEmpty
  | t :: r, listed => decide (Region.ready md ops listed = [t]) && seqI md ops r (listed.setIfInBounds t true)
def mixB (md : Region.Mode) (ops : Array Oper) (τ : List Nat) : List (Bool × Nat) → Array Bool → Bool
  | [], listed => seqI md ops τ listed
  | (true, i) :: r, listed => (Region.ready md ops listed).contains i && Region.free md ops listed i && mixB md ops τ r (listed.setIfInBounds i true)
  | (false, i) :: r, listed => decide (Region.ready md ops listed = [i]) && mixB md ops τ r (listed.setIfInBounds i true)
def disj (π τ : List Nat) : Bool := τ.all fun t => !π.contains t
structure MInv (md : Region.Mode) (ops : Array Oper) (τ : List Nat) (listed : Array Bool) : Prop where
  closed : ∀ j oj, ops[j]? = some oj → listed.getD j false = true → ∀ e ∈ oj.after, Region.binds md e = true → listed.getD e.on false = true
  tail : ∀ t ∈ τ, listed.getD t false = false
theorem MInv.set {τ : List Nat} {i : Nat} {listed : Array Bool} (inv : MInv md ops τ listed) (hi : i ∈ Region.ready md ops listed) (hin : ∀ t ∈ τ, i ≠ t) : MInv md ops τ (listed.setIfInBounds i true) := by
  obtain ⟨_, oi, hoi, hall⟩ := mem_ready.1 hi
  refine ⟨fun j oj hj hl e he hb => ?_, fun t ht => by rw [getD_set_ne false (hin t ht)]; exact inv.tail t ht⟩
  by_cases hij : i = j
  · subst hij
    have : oj = oi := Option.some.inj (hj.symm.trans hoi)
    subst this
    exact getD_set_true (hall e he hb)
  · rw [getD_set_ne false hij] at hl
    exact getD_set_true (inv.closed j oj hj hl e he hb)
theorem closed_waits {τ : List Nat} {listed : Array Bool} {j i : Nat} (inv : MInv md ops τ listed) (h : waits1 md ops j i = true) (hj : listed.getD j false = true) : listed.getD i false = true := by
  obtain ⟨oj, hoj, e, he, hb, hon⟩ := Region.waitsFor_spec h
  rw [← hon]
  exact inv.closed j oj hoj hj e he hb
theorem ready_waits {listed : Array Bool} {j i : Nat} (hr : j ∈ Region.ready md ops listed) (h : waits1 md ops j i = true) : listed.getD i false = true := by
  obtain ⟨oj, hoj, e, he, hb, hon⟩ := Region.waitsFor_spec h
  obtain ⟨_, o, ho, hall⟩ := mem_ready.1 hr
  have : oj = o := Option.some.inj (hoj.symm.trans ho)
  subst this
  rw [← hon]
  exact hall e he hb
theorem sink_all {τ : List Nat} {listed : Array Bool} {t : Nat} (inv : MInv md ops τ listed) (hr : t ∈ Region.ready md ops listed) : ∀ π : List Nat, sinkL md ops t π = true → ∀ i ∈ π, listed.getD i false = true
  | [], _, i, hi => by cases hi
  | k :: r, h, i, hi => by
    simp only [sinkL, Bool.and_eq_true, Bool.or_eq_true] at h
    have ih := sink_all inv hr r h.2
    rcases List.mem_cons.1 hi with rfl | hi
    · rcases h.1 with h1 | h1
      · exact ready_waits hr h1
      · obtain ⟨j, hj, hw⟩ := List.any_eq_true.1 h1
        exact closed_waits inv hw (ih j hj)
    · exact ih i hi
theorem chain_none {τ : List Nat} {listed : Array Bool} (inv : MInv md ops τ listed) : ∀ (r p : List Nat), (∀ i ∈ p, i ∈ τ) → (∀ i ∈ r, i ∈ τ) → chainL md ops p r = true → ∀ t ∈ r, t ∉ Region.ready md ops listed
  | [], _, _, _, _, t, ht => by cases ht
  | k :: r, p, hp, hr, h, t, ht => by
    simp only [chainL, Bool.and_eq_true] at h
    rcases List.mem_cons.1 ht with rfl | ht
    · intro hready
      obtain ⟨i, hi, hw⟩ := List.any_eq_true.1 h.1
      have h1 := ready_waits hready hw
      rw [inv.tail i (hp i hi)] at h1
      cases h1
    · exact chain_none inv r (k :: p) (fun i hi => by rcases List.mem_cons.1 hi with rfl | hi; exact hr _ (by simp); exact hp i hi) (fun i hi => hr i (by simp [hi])) h.2 t ht
theorem tail_wait {π τ : List Nat} {listed : Array Bool} (inv : MInv md ops τ listed) (h : tailB md ops π τ = true) {i : Nat} (hi : i ∈ π) (hun : listed.getD i false = false) : ∀ t ∈ τ, t ∉ Region.ready md ops listed := by
  cases τ with
  | nil => intro t ht; cases ht
  | cons t0 r =>
    simp only [tailB, Bool.and_eq_true] at h
    intro t ht
    rcases List.mem_cons.1 ht with rfl | ht
    · intro hr
      have := sink_all inv hr π h.1 i hi
      rw [hun] at this
      cases this
    · exact chain_none inv r [t0] (by simp) (fun i hi => by simp [hi]) h.2 t ht
/-! ### the walk -/
def wpHL (P : Program) (md : Region.Mode) (ops : Array Oper) (Q : Exit → Act → World → Prop) (S : World → Prop) (τ : List Nat) (L : Array Bool → Act → World → Prop) : Nat → Array Bool → Act → World → Prop
  | 0, listed, a, w => L listed a w
  | f + 1, listed, a, w => Region.ready md ops listed ≠ [] ∧ ∀ i ∈ Region.ready md ops listed, i ∉ τ ∧ wpOp P ops Q i (fun a' w' => S w' ∧ wpHL P md ops Q S τ L f (listed.setIfInBounds i true) a' w') a w
theorem wpAny_of_hl {τ : List Nat} {g : Nat} {L : Array Bool → Act → World → Prop} (hL : ∀ listed a w, L listed a w → wpAny P md ops Q g listed a w) :
    ∀ (f : Nat) (listed : Array Bool) (a : Act) (w : World), wpHL P md ops Q S τ L f listed a w → wpAny P md ops Q (f + g) listed a w
  | 0, listed, a, w, h => by rw [Nat.zero_add]; exact hL _ _ _ h
  | f + 1, listed, a, w, h => by
    rw [show f + 1 + g = (f + g) + 1 by omega]
    exact ⟨fun h0 => absurd h0 h.1, fun i hi => wpOp_mono (fun a' w' h' => wpAny_of_hl hL f _ a' w' h'.2) (h.2 i hi).2⟩
theorem wpHL_first {π τ : List Nat} {i : Nat} {oi : Oper} {v : Value} {L : Array Bool → Act → World → Prop} (hi : ops[i]? = some oi) (hsel : ∀ (j : Nat) (o : Oper) cs b, ops[j]? = some o → o.op ≠ .select cs b)
    (hQ : ∀ c a w, Q (.panic c) (a.put oi.dst v) w → Q (.panic c) a w) (hT : tailB md ops π τ = true) (hiπ : i ∈ π) (hdone : ∀ listed a w, L listed a w → ∀ j ∈ Region.ready md ops listed, j ∈ τ) :
    ∀ (f : Nat) (listed : Array Bool) (a : Act) (w : World), MInv md ops τ listed →
      (∀ j oj, ops[j]? = some oj → j ≠ i → listed.getD j true = false → (∀ e ∈ oj.after, Region.binds md e = true → e.on ≠ i) → oi.apart ops oj = true) →
      i ∈ Region.ready md ops listed → YieldsIf P ops S oi v a → S w →
      wpHL P md ops Q S τ L f (listed.setIfInBounds i true) (a.put oi.dst v) w → wpHL P md ops Q S τ L (f + 1) listed a w := by
  intro f
  induction f with
  | zero =>
    intro listed a w inv _ hr hy hS H
    have hun := getD_both (mem_ready.1 hr).1
    refine ⟨fun h => (by rw [h] at hr; cases hr), fun j hj => ?_⟩
    have hjn : j ∉ τ := fun h => tail_wait inv hT hiπ hun j h hj
    refine ⟨hjn, ?_⟩
    by_cases hji : j = i
    · subst hji; exact hy.wpOp hi hS ⟨hS, H⟩
    · exact absurd (hdone _ _ _ H j (ready_mono hj hji)) hjn
  | succ f ih =>
    intro listed a w inv hfree hr hy hS H
    have hun := getD_both (mem_ready.1 hr).1
    refine ⟨fun h => (by rw [h] at hr; cases hr), fun j hj => ?_⟩
    have hjn : j ∉ τ := fun h => tail_wait inv hT hiπ hun j h hj
    refine ⟨hjn, ?_⟩
    by_cases hji : j = i
    · subst hji; exact hy.wpOp hi hS ⟨hS, H⟩
    · have h1 := (H.2 j (ready_mono hj hji)).2
      obtain ⟨hjun, oj, hoj, hall⟩ := mem_ready.1 hj
      have hnot : ∀ e ∈ oj.after, Region.binds md e = true → e.on ≠ i := fun e he hb heq => by
        have h1 := hall e he hb
        rw [heq, hun] at h1
        cases h1
      have h2 := wpOp_putIf hoj (hfree j oj hoj hji hjun hnot) (fun cs b => hsel i oi cs b hi) (fun cs b => hsel j oj cs b hoj) hQ hy h1
      have hfree' : ∀ k ok, ops[k]? = some ok → k ≠ i → (listed.setIfInBounds j true).getD k true = false →
          (∀ e ∈ ok.after, Region.binds md e = true → e.on ≠ i) → oi.apart ops ok = true := fun k ok hk hki hun hno => by
        refine hfree k ok hk hki ?_ hno
        by_cases hjk : j = k
        · subst hjk; exact hjun
        · rw [getD_set_ne true hjk] at hun; exact hun
      refine wpOp_mono (fun a' w' h3 => ⟨h3.2.1, ih (listed.setIfInBounds j true) a' w' (inv.set hj (fun t ht e => hjn (e ▸ ht))) hfree' (ready_mono hr (Ne.symm hji)) h3.1 h3.2.1 ?_⟩) h2
      rw [Array.setIfInBounds_comm _ _ hji]
      exact h3.2.2
/-- The walk: (true, i): operation i only reads; (false, i): it is carried out. -/
def wpMix (P : Program) (ops : Array Oper) (Q : Exit → Act → World → Prop) (S : World → Prop) (T : Act → World → Prop) : List (Bool × Nat) → Act → World → Prop
  | [], a, w => T a w
  | (true, i) :: r, a, w => ∃ o v, ops[i]? = some o ∧ YieldsIf P ops S o v a ∧ wpMix P ops Q S T r (a.put o.dst v) w
  | (false, i) :: r, a, w => wpOp P ops Q i (fun a' w' => S w' ∧ wpMix P ops Q S T r a' w') a w
theorem wpHL_of_mix {τ πs : List Nat} {T : Act → World → Prop} (hsel : Region.noSelect ops = true) (hQ : ∀ c a d v w, Q (.panic c) (a.put d v) w → Q (.panic c) a w) (hT : tailB md ops πs τ = true) (hD : disj πs τ = true) :
    ∀ (π : List (Bool × Nat)) (listed : Array Bool) (a : Act) (w : World), (∀ x ∈ π, x.2 ∈ πs) → MInv md ops τ listed → mixB md ops τ π listed = true → S w → wpMix P ops Q S T π a w →
      wpHL P md ops Q S τ (fun listed a w => seqI md ops τ listed = true ∧ T a w) π.length listed a w
  | [], listed, a, w, _, _, hB, _, h => ⟨hB, h⟩
  | (true, i) :: r, listed, a, w, hπ, inv, hB, hS, h => by
    obtain ⟨o, v, ho, hy, hn⟩ := h
    simp only [mixB, Bool.and_eq_true] at hB
    obtain ⟨⟨hr, hf⟩, hB'⟩ := hB
    have hr' : i ∈ Region.ready md ops listed := by simpa using hr
    have hiπs : i ∈ πs := hπ (true, i) (by simp)
    have hne : ∀ t ∈ τ, i ≠ t := fun t ht e => by
      have := List.all_eq_true.1 hD t ht
      subst e
      simp [hiπs] at this
    refine wpHL_first ho (Region.noSelect_spec hsel) (fun c a w => hQ c a _ _ w) hT hiπs ?_ r.length listed a w inv (Region.free_spec ho hf) hr' hy hS
      (wpHL_of_mix hsel hQ hT hD r _ _ w (fun x hx => hπ x (by simp [hx])) (inv.set hr' hne) hB' hS hn)
    intro listed a w hL j hj
    cases τ with
    | nil => have := hL.1; simp only [seqI, List.isEmpty_iff] at this; rw [this] at hj; cases hj
    | cons t r => have := hL.1; simp only [seqI, Bool.and_eq_true, decide_eq_true_eq] at this; rw [this.1] at hj; simp at hj; simp [hj]
  | (false, i) :: r, listed, a, w, hπ, inv, hB, hS, h => by
    simp only [mixB, Bool.and_eq_true, decide_eq_true_eq] at hB
    obtain ⟨hr, hB'⟩ := hB
    have hiπs : i ∈ πs := hπ (false, i) (by simp)
    have hne : ∀ t ∈ τ, i ≠ t := fun t ht e => by
      have := List.all_eq_true.1 hD t ht
      subst e
      simp [hiπs] at this
    refine ⟨by rw [hr]; simp, fun j hj => ?_⟩
    have hji : j = i := by rw [hr] at hj; simpa using hj
    subst hji
    exact ⟨fun h => hne j h rfl, wpOp_mono (fun a' w' h' => ⟨h'.1, wpHL_of_mix hsel hQ hT hD r _ a' w' (fun x hx => hπ x (by simp [hx])) (inv.set hj hne) hB' h'.1 h'.2⟩) h⟩
theorem wpAny_of_seqI : ∀ (τ : List Nat) (listed : Array Bool) (a : Act) (w : World), seqI md ops τ listed = true → wpOps P ops Q τ a w → wpAny P md ops Q τ.length listed a w
  | [], _, _, _, hB, h => ⟨by simpa [seqI] using hB, h⟩
  | t :: r, listed, a, w, hB, h => by
    simp only [seqI, Bool.and_eq_true, decide_eq_true_eq] at hB
    refine ⟨fun h1 => (by rw [hB.1] at h1; cases h1), fun i hi => ?_⟩
    rw [hB.1] at hi
    have hit : i = t := by simpa using hi
    subst hit
    rw [wpOps_cons] at h
    exact wpOp_mono (fun a' w' h' => wpAny_of_seqI r _ a' w' hB.2 h') h
/-- The operations of these numbers. -/
def pickL (l : List Oper) : List Nat → List Oper
  | [] => []
  | i :: r => match l.drop i with | o :: _ => o :: pickL l r | [] => pickL l r
theorem wpOps_pick {l : List Oper} : ∀ (τ : List Nat) (a : Act) (w : World), (τ.all fun t => decide (t < l.length)) = true → wpList P l.toArray Q (pickL l τ) a w → wpOps P l.toArray Q τ a w
  | [], a, w, _, h => h
  | t :: r, a, w, ht, h => by
    simp only [List.all_cons, Bool.and_eq_true, decide_eq_true_eq] at ht
    obtain ⟨ht1, ht2⟩ := ht
    rw [wpOps_cons]
    have hd : l.drop t = l[t] :: l.drop (t + 1) := List.drop_eq_getElem_cons ht1
    simp only [pickL, hd] at h
    unfold wpList at h
    unfold wpOp
    have ho : l.toArray[t]? = some l[t] := by simp [ht1]
    rw [ho]
    simp only []
    split
    · rename_i hw
      simp only [hw, if_true] at h
      exact h.imp (Oper.wp_mono fun a w h => wpOps_pick r a w ht2 h) id
    · rename_i hw
      simp only [hw] at h
      exact wpOps_pick r _ w ht2 h
/-- The walk, its operations written out. -/
def wpMixL (P : Program) (ops : Array Oper) (Q : Exit → Act → World → Prop) (S : World → Prop) (T : Act → World → Prop) : List (Bool × Oper) → Act → World → Prop
  | [], a, w => T a w
  | (true, o) :: r, a, w => ∃ v, YieldsIf P ops S o v a ∧ wpMixL P ops Q S T r (a.put o.dst v) w
  | (false, o) :: r, a, w => if Region.wanted o (yielded ops a.tmps) then o.wp P a w (fun a' w' => S w' ∧ wpMixL P ops Q S T r a' w') Q else S w ∧ wpMixL P ops Q S T r (a.put o.dst undef) w
def pickM (l : List Oper) : List (Bool × Nat) → List (Bool × Oper)
  | [] => []
  | (b, i) :: r => match l.drop i with | o :: _ => (b, o) :: pickM l r | [] => pickM l r
theorem mix_pick {T : Act → World → Prop} {l : List Oper} : ∀ (π : List (Bool × Nat)) (a : Act) (w : World), (π.all fun t => decide (t.2 < l.length)) = true → wpMixL P l.toArray Q S T (pickM l π) a w → wpMix P l.toArray Q S T π a w
  | [], a, w, _, h => h
  | (b, t) :: r, a, w, ht, h => by
    simp only [List.all_cons, Bool.and_eq_true, decide_eq_true_eq] at ht
    obtain ⟨ht1, ht2⟩ := ht
    have hd : l.drop t = l[t] :: l.drop (t + 1) := List.drop_eq_getElem_cons ht1
    have ho : l.toArray[t]? = some l[t] := by simp [ht1]
    simp only [pickM, hd] at h
    cases b
    · show wpOp P l.toArray Q t _ a w
      unfold wpMixL at h
      unfold wpOp
      rw [ho]
      simp only []
      split
      · rename_i hw
        simp only [hw, if_true] at h
        exact .inl (Oper.wp_mono (fun a w h => ⟨h.1, mix_pick r a w ht2 h.2⟩) h)
      · rename_i hw
        simp only [hw] at h
        exact ⟨h.1, mix_pick r _ w ht2 h.2⟩
    · obtain ⟨v, hy, hn⟩ := h
      exact ⟨l[t], v, ho, hy, mix_pick r _ w ht2 hn⟩
/-- **One walk serves every order.** -/
theorem wp_region_mix {id : Nat} {a : Act} {w : World} {l : List Oper} (S : World → Prop) (π : List (Bool × Nat)) (τ : List Nat) (hm : P.follows .mixedOrders = true)
    (hB : (Region.noSelect l.toArray && tailB .any l.toArray (π.map (·.2)) τ && disj (π.map (·.2)) τ && mixB .any l.toArray τ π (Array.replicate l.toArray.size false) && decide (π.length + τ.length = l.length) && (τ.all fun t => decide (t < l.length)) && (π.all fun t => decide (t.2 < l.length))) = true)
    (hQ : ∀ c a d v w, Q (.panic c) (a.put d v) w → Q (.panic c) a w) (hS : S w.drew)
    (h : wpMixL P l.toArray Q S (wpList P l.toArray Q (pickL l τ)) (pickM l π) a w.drew) : (Code.region id l.toArray true).wp P Q a w := by
  simp only [Bool.and_eq_true, decide_eq_true_eq] at hB
  obtain ⟨⟨⟨⟨⟨⟨hsel, hT⟩, hD⟩, hM⟩, hlen⟩, hlt⟩, hlt2⟩ := hB
  refine wp_region_any hm ?_
  have inv0 : MInv .any l.toArray τ (Array.replicate l.toArray.size false) := ⟨fun j oj _ hl => (by rw [getD_replicate_false] at hl; cases hl), fun t _ => getD_replicate_false _ _⟩
  have H := wpHL_of_mix (Q := Q) (P := P) (S := S) hsel hQ hT hD π _ a w.drew (fun x hx => List.mem_map_of_mem hx) inv0 hM hS (mix_pick π a _ hlt2 h)
  have := wpAny_of_hl (g := τ.length) (fun listed a w hL => wpAny_of_seqI τ listed a w hL.1 (wpOps_pick τ a w hlt hL.2)) _ _ _ _ H
  rw [hlen] at this
  simpa using this
/-! ### the steps -/
theorem mix_pure {T : Act → World → Prop} {r : List (Bool × Oper)} {a : Act} {w : World} {o : Oper} (hw : Region.wanted o (yielded ops a.tmps) = true) (hp : valB o.op = true)
    (h : ∀ K : Act → Prop, (∀ a, wpMixL P ops Q S T r a w → K a) → o.quiet P a S K) : wpMixL P ops Q S T ((true, o) :: r) a w :=
  yieldsIf_quiet hp hw (h (fun a => wpMixL P ops Q S T r a w) (fun _ h => h))
theorem mix_skip {T : Act → World → Prop} {r : List (Bool × Oper)} {a : Act} {w : World} {o : Oper} (hw : Region.wanted o (yielded ops a.tmps) = false)
    (h : wpMixL P ops Q S T r (a.put o.dst undef) w) : wpMixL P ops Q S T ((true, o) :: r) a w := ⟨undef, .inr ⟨hw, rfl⟩, h⟩
theorem mix_eff {T : Act → World → Prop} {r : List (Bool × Oper)} {a : Act} {w : World} {o : Oper} (hw : Region.wanted o (yielded ops a.tmps) = true)
    (h : ∀ K : Act → World → Prop, (∀ a w, S w → wpMixL P ops Q S T r a w → K a w) → o.wp P a w K Q) : wpMixL P ops Q S T ((false, o) :: r) a w := by
  unfold wpMixL
  rw [if_pos hw]
  exact h _ fun a w h1 h2 => ⟨h1, h2⟩
/-- A pointer that is one, held against nil. -/
theorem mix_nilc {T : Act → World → Prop} {r : List (Bool × Oper)} {a : Act} {w : World} {dst : Option Tmp} {x : Operand} {t : TypeId} {pos : String} {after : Array Edge} {g : Option (Nat × Bool)} (p : Addr) (hw : Region.wanted ⟨dst, .nilCheck x, t, pos, after, g⟩ (yielded ops a.tmps) = true) (hx : a.eval x = .pointer (some p))
    (h : wpMixL P ops Q S T r (a.put dst (.pointer (some p))) w) : wpMixL P ops Q S T ((true, ⟨dst, .nilCheck x, t, pos, after, g⟩) :: r) a w :=
  ⟨.pointer (some p), .inl ⟨hw, fun w _ => by unfold execOp; simp [hx]⟩, h⟩
theorem mix_nil {T : Act → World → Prop} {a : Act} {w : World} (h : T a w) : wpMixL P ops Q S T [] a w := h
/-- The post of a panic does not hang on the slots. -/
theorem panic_then {K : Act → World → Prop} {fn : Func} {R : Ending → World → Prop} (c : List PanicEntry) (a : Act) (d : Option Tmp) (v : Value) (w : World) (h : Exit.then K (bodyPost P fn R) (.panic c) (a.put d v) w) : Exit.then K (bodyPost P fn R) (.panic c) a w := by cases d <;> exact h
end
end Go.Proofs.YtlmdkmflbhnlgaaGreat
