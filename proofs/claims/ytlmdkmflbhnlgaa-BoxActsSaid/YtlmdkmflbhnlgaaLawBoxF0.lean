/- The law BoxFilters: what comes is refused just if the bank doesn't let it in. No condition. -/
import Derived.Test.YtlmdkmflbhnlgaaTo17
import Derived.Test.YtlmdkmflbhnlgaaAlive17
namespace Go.Proofs.Ytlmdkmflbhnlgaa
open Go.RowKit
/-- A slice of frames that reads. -/
def RdSF (w : World) (B : Option Addr) (gs : List SF) : Prop := ∀ j (h : j < gs.length), ∃ ad, B = some ad ∧ ∀ k u, (frL gs[j])[k]? = some u → w.cell? ((ad.add (j * 11)).add k) = some u
/-- A frame of the input. -/
structure SFIn (w : World) (s : SF) : Prop where
  rd : Rd w s.A (bys s.f.data)
  nz : s.A = none → s.c = 0
  wf : FrIn s.f
theorem RdSF.below {w w' : World} {B : Option Addr} {gs : List SF} (h : RdSF w B gs) (hb : Below w.heap.size w w') : RdSF w' B gs := fun j hj =>
  let ⟨ad, e, hc⟩ := h j hj
  ⟨ad, e, fun k u hk => Below.cell_of hb (hc k u hk)⟩
theorem RdSF.at_ {w : World} {B : Option Addr} {gs : List SF} (h : RdSF w B gs) (j : Nat) (hj : j < gs.length) (n : Nat) (hn : n = j * 11) : ∃ ad, B = some ad ∧
    w.cell? (ad.add n) = some (.int .i64 gs[j].f.kind) ∧ w.cell? ⟨(ad.add n).block, (ad.add n).off + 1, none⟩ = some (.int .u32 gs[j].f.id) ∧ w.cell? ⟨(ad.add n).block, (ad.add n).off + 2, none⟩ = some (.bool gs[j].f.ext) ∧ w.cell? ⟨(ad.add n).block, (ad.add n).off + 3, none⟩ = some (.bool gs[j].f.rtr) ∧
    w.cell? ⟨(ad.add n).block, (ad.add n).off + 4, none⟩ = some (.bool gs[j].f.brs) ∧ w.cell? ⟨(ad.add n).block, (ad.add n).off + 5, none⟩ = some (.bool gs[j].f.esi) ∧ w.cell? ⟨(ad.add n).block, (ad.add n).off + 6, none⟩ = some (.bool gs[j].f.sec) ∧ w.cell? ⟨(ad.add n).block, (ad.add n).off + 7, none⟩ = some (.int .u8 gs[j].f.sdt) ∧
    w.cell? ⟨(ad.add n).block, (ad.add n).off + 8, none⟩ = some (.int .u8 gs[j].f.vcid) ∧ w.cell? ⟨(ad.add n).block, (ad.add n).off + 9, none⟩ = some (.int .u32 gs[j].f.af) ∧ w.cell? ⟨(ad.add n).block, (ad.add n).off + 10, none⟩ = some (.slice gs[j].A gs[j].f.data.length gs[j].c) := by
  subst hn
  obtain ⟨ad, e, hc⟩ := h j hj
  have h0 := hc 0 _ rfl
  have e0 : (ad.add (j * 11)).add 0 = ad.add (j * 11) := by simp [Addr.add]
  rw [e0] at h0
  exact ⟨ad, e, h0, hc 1 _ rfl, hc 2 _ rfl, hc 3 _ rfl, hc 4 _ rfl, hc 5 _ rfl, hc 6 _ rfl, hc 7 _ rfl, hc 8 _ rfl, hc 9 _ rfl, hc 10 _ rfl⟩
theorem rdlt {w : World} {A : Option Addr} {vs : List Value} (h : Rd w A vs) : ∀ ad, A = some ad → vs ≠ [] → ad.block < w.heap.size := by
  intro ad e hne
  cases vs with
  | nil => exact absurd rfl hne
  | cons v vs =>
    obtain ⟨ad', e', hc⟩ := h 0 v rfl
    rw [e] at e'
    injection e' with e'
    subst e'
    have := cell_lt hc
    rw [block_of_add] at this
    exact this
/-- The loop's state. -/
structure FI (w wr : World) (cf : Array Value) (rs : List Ru) (els : Bool) (inn : Nat) (ft : List Nat) (b N : Nat) (KA : Option Addr) (kc : Nat) (ks : List SF) (T : BX) : Prop where
  conf : wr.heap[w.heap.size]? = some (.cells cf 26 (0, 0))
  box : BoxA wr (w.heap.size + 1) N ft b T
  own : wr.ownsRow (w.heap.size + 1) 42 11 (.slice KA ks.length kc) ks.length (ks.flatMap frL)
  dis : ∀ k ∈ blkA KA, k ∉ ft
  kin : ∀ s ∈ ks, SFIn w s
  rules : T.rules = rs
  tels : T.els = els
  iroom : T.iroom = inn
  below : Below w.heap.size w wr
theorem own_foot {w : World} {base n c : Nat} {A : Option Addr} {xs : List Value} (h : w.ownsRow base 42 11 (.slice A n c) n xs) : Foot (blkA A) w := fun k hk => by
  rcases h.2 with ⟨hv, -⟩ | ⟨g, cap, cur, hv, hg, hh, -⟩
  · injection hv with hv; subst hv; simp [blkA] at hk
  · injection hv with hv; subst hv; simp [blkA] at hk; subst hk; exact ⟨_, _, _, hh, by decide, by decide⟩
theorem FI.step {w wr wr' : World} {cf : Array Value} {rs : List Ru} {els : Bool} {inn b N kc : Nat} {ft : List Nat} {KA : Option Addr} {ks : List SF} {T : BX} (h : FI w wr cf rs els inn ft b N KA kc ks T) (hb : Below wr.heap.size wr wr') : FI w wr' cf rs els inn ft b N KA kc ks T :=
  ⟨heap_below hb h.conf, h.box.below hb, own_turn h.own (Turn.of (s := []) hb) (fun _ _ => by simp), h.dis, h.kin, h.rules, h.tels, h.iroom, below_trans h.below hb⟩
theorem comeT_rules (T : BX) (f : Fr) : (comeT T f).rules = T.rules ∧ (comeT T f).els = T.els ∧ (comeT T f).iroom = T.iroom := by
  unfold comeT
  (repeat' split) <;> exact ⟨rfl, rfl, rfl⟩
/-- .. behind a frame came that isn't kept here. -/
theorem FI.come {w wr wr' : World} {cf : Array Value} {rs : List Ru} {els : Bool} {inn b N kc : Nat} {ft : List Nat} {KA : Option Addr} {ks : List SF} {T T' : BX} (h : FI w wr cf rs els inn ft b N KA kc ks T) (ha : Acted wr (w.heap.size + 1) (N + 1) ft b T' wr')
    (hr : T'.rules = T.rules ∧ T'.els = T.els ∧ T'.iroom = T.iroom) : ∃ ft', FI w wr' cf rs els inn ft' b (N + 1) KA kc ks T' := by
  obtain ⟨ft', hA, hf, ht⟩ := ha
  obtain ⟨f1, f2, f3, f4⟩ := h.box.foot
  have hlt : ∀ k ∈ blkA KA, k < wr.heap.size := fun k hk => by obtain ⟨cs, u, fr, hh, -⟩ := own_foot h.own k hk; exact heap_lt hh
  refine ⟨ft', ⟨ht.heap h.conf (fun hm => by have := f2 _ hm; omega), hA, own_turn h.own ht (fun k hk => h.dis k hk), fun k hk hm => ?_, h.kin, hr.1.trans h.rules, hr.2.1.trans h.tels, hr.2.2.trans h.iroom, h.below.trans (ht.below (fun k hk => by have := f2 k hk; omega) h.below.size)⟩⟩
  rcases hf k hm with h1 | h1
  · exact h.dis k hk h1
  · have := hlt k hk; omega
/-- .. behind it is kept here, too. -/
theorem FI.keep {w wr wr' : World} {cf : Array Value} {rs : List Ru} {els : Bool} {inn b N kc kc' : Nat} {ft : List Nat} {KA KA' : Option Addr} {ks : List SF} {T : BX} (h : FI w wr cf rs els inn ft b N KA kc ks T) (s : SF) (hs : SFIn w s)
    (ho : wr'.ownsRow (w.heap.size + 1) 42 11 (.slice KA' (ks.length + 1) kc') (ks.length + 1) (ks.flatMap frL ++ frL s)) (ht : Turn (blkA KA) wr wr') (hf : ∀ k ∈ blkA KA', k ∈ blkA KA ∨ wr.heap.size ≤ k) : FI w wr' cf rs els inn ft b N KA' kc' (ks ++ [s]) T := by
  obtain ⟨f1, f2, f3, f4⟩ := h.box.foot
  refine ⟨ht.heap h.conf (fun hm => by have := own_blk h.own _ hm; omega), h.box.turn ht (own_foot h.own) (fun k hk hm => h.dis k hm hk), ?_, fun k hk hm => ?_, fun x hx => ?_, h.rules, h.tels, h.iroom, h.below.trans (ht.below (fun k hk => by have := own_blk h.own k hk; omega) h.below.size)⟩
  · have e1 : (ks ++ [s]).length = ks.length + 1 := by simp
    have e2 : (ks ++ [s]).flatMap frL = ks.flatMap frL ++ frL s := by simp
    rw [e1, e2]; exact ho
  · rcases hf k hk with h1 | h1
    · exact h.dis k h1 hm
    · have := f3 k hm; omega
  · rcases List.mem_append.1 hx with hx | hx
    · exact h.kin x hx
    · rw [List.mem_singleton.1 hx]; exact hs
theorem takeT_rules (T : BX) : (takeT T).rules = T.rules ∧ (takeT T).els = T.els ∧ (takeT T).iroom = T.iroom := by
  unfold takeT
  split <;> exact ⟨rfl, rfl, rfl⟩
theorem sameF_self (f : Fr) : sameF f f = true := by simp [sameF]
theorem own_cells {w : World} {base e n c : Nat} {A : Option Addr} {ks : List SF} (h : w.ownsRow base e 11 (.slice A n c) n (ks.flatMap frL)) (j : Nat) (hj : j < ks.length) : ∃ g, A = some ⟨g, 0, none⟩ ∧ ∀ i u, (frL ks[j])[i]? = some u → w.cell? ⟨g, j * 11 + i, none⟩ = some u := by
  have hlen : ks.length * 11 = n * 11 := by have := h.1; rwa [flat_length frL_length] at this
  rcases h.2 with ⟨hv, h0⟩ | ⟨g, cap, cur, hv, hg, hh, hnc, hm, hs, ht⟩
  · omega
  · refine ⟨g, by injection hv, fun i u hu => ?_⟩
    have hi : i < 11 := by have := (List.getElem?_eq_some_iff.1 hu).1; rwa [frL_length] at this
    have h1 := flat_get frL_length ks j hj i hi
    rw [hu, ← ht] at h1
    have hlt : j * 11 + i < n * 11 := by have := Nat.mul_le_mul_right 11 (show j + 1 ≤ ks.length by omega); omega
    rw [List.getElem?_take_of_lt hlt] at h1
    exact cell_of_heap hh _ _ (by simpa using h1)
theorem own_cap {w : World} {base e size n c : Nat} {A : Option Addr} {xs : List Value} (h : w.ownsRow base e size (.slice A n c) n xs) : n ≤ c ∧ c ≤ 9223372036854775807 := by
  rcases h.2 with ⟨hv, h0⟩ | ⟨g, cap, cur, hv, hg, hh, hnc, hm, -⟩
  · injection hv with _ _ h2; omega
  · injection hv with _ _ h2; subst h2; unfold maxLen at hm; omega
end Go.Proofs.Ytlmdkmflbhnlgaa
