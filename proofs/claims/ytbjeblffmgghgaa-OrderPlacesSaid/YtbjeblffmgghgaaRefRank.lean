/- The document's answer for the places of some frames: the same as the program. No condition. -/
import Derived.Test.YtbjeblffmgghgaaOrderRank
import Derived.Test.YtbjeblffmgghgaaRefKey4
namespace Go.Proofs.Ytbjeblffmgghgaa
open Go.RowKit
def u64s (l : List Int) : List Value := l.map fun x => .int .u64 x
theorem u64s_length (l : List Int) : (u64s l).length = l.length := by simp [u64s]
theorem u64s_append (a b : List Int) : u64s (a ++ b) = u64s a ++ u64s b := by simp [u64s]
theorem Row.form {w : World} {base t c : Nat} {A : Option Addr} {xs : List Value} (h : Row w base t A c xs) (hx : 0 < xs.length) : ∃ g cur, A = some ⟨g, 0, none⟩ ∧ base ≤ g ∧ w.heap[g]? = some (.cells cur t) ∧ xs.length ≤ cur.size ∧ cur.toList.take xs.length = xs := by
  rcases h.2 with ⟨-, h0⟩ | ⟨g, cap, cur, hv, hg, hh, hn, hm, hs, ht⟩
  · omega
  · exact ⟨g, cur, by injection hv, hg, hh, by omega, by simpa using ht⟩
theorem Row.of2 {w : World} {base t n : Nat} {v : Value} {xs : List Value} (h : w.ownsRow base t 1 v n xs) : ∃ A c, v = .slice A n c ∧ Row w base t A c xs := by
  obtain ⟨A, c, rfl, -, hn, -⟩ := own_slice h
  subst hn
  exact ⟨A, c, rfl, h⟩
theorem Row.cell_ {w : World} {base t c g : Nat} {xs : List Value} (h : Row w base t (some ⟨g, 0, none⟩) c xs) (k : Nat) (v : Value) (hk : xs[k]? = some v) : w.cell? ⟨g, k, none⟩ = some v := by
  obtain ⟨ad, e, hc⟩ := h.rd k v hk
  injection e with e
  subst e
  by_cases h0 : k = 0
  · subst h0; simpa [Addr.add] using hc
  · simpa [Addr.add, h0] using hc
theorem Row.frozen_ {w : World} {base t c g : Nat} {xs : List Value} (h : Row w base t (some ⟨g, 0, none⟩) c xs) (hx : 0 < xs.length) (k : Nat) : w.frozen? ⟨g, k, none⟩ = false := by
  obtain ⟨g', cur, e, -, hh, -⟩ := h.form hx
  obtain rfl : g = g' := by injection e with e; injection e
  simp [World.frozen?, hh]
theorem Row.setAt {w : World} {base t c g : Nat} {xs : List Value} (h : Row w base t (some ⟨g, 0, none⟩) c xs) (k : Nat) (v : Value) : Row (w.setCell ⟨g, k, none⟩ v) base t (some ⟨g, 0, none⟩) c (xs.set k v) := by
  obtain ⟨h1, h2⟩ := h
  unfold Row
  rw [List.length_set]
  refine ⟨by simp, ?_⟩
  rcases h2 with ⟨hv, -⟩ | ⟨g', cap, cur, hv, hg, hh, hn, hm, hs, ht⟩
  · cases hv
  · obtain rfl : g = g' := by injection hv with e; injection e with e; injection e
    refine .inr ⟨g, cap, _, hv, hg, heap_setCell hh k v, hn, hm, by simpa using hs, ?_⟩
    rw [Array.toList_setIfInBounds, List.take_set, ht]
theorem Row.setOther {w : World} {base t c g : Nat} {A : Option Addr} {xs : List Value} (h : Row w base t A c xs) (hne : ∀ a, A = some a → a.block ≠ g) (k : Nat) (v : Value) : Row (w.setCell ⟨g, k, none⟩ v) base t A c xs := by
  obtain ⟨h1, h2⟩ := h
  refine ⟨h1, ?_⟩
  rcases h2 with h2 | ⟨g', cap, cur, hv, hg, hh, r⟩
  · exact .inl h2
  · have e : A = some ⟨g', 0, none⟩ := by injection hv
    exact .inr ⟨g', cap, cur, hv, hg, by rw [Below.heap_setCell _ _ _ _ (hne _ e)]; exact hh, r⟩
/-- The state of the document's Rank: the keys so far, and the places. -/
structure RefI (w wr : World) (A : Option Addr) (c : Nat) (B : Option Addr) (d : Nat) (ks out : List Int) : Prop where
  rk : Row wr w.heap.size 27 A c (u64s ks)
  ro : Row wr w.heap.size 3 B d (ins out)
  ap : ∀ a b, A = some a → B = some b → a.block ≠ b.block
  below : Below w.heap.size w wr
theorem RefI.ext {w wr w2 : World} {A B : Option Addr} {c d : Nat} {ks out : List Int} (h : RefI w wr A c B d ks out) (hb : Below wr.heap.size wr w2) : RefI w w2 A c B d ks out :=
  ⟨h.rk.below hb, h.ro.below hb, h.ap, below_trans h.below hb⟩
/-- append to the keys -/
theorem RefI.appK {w wr w3 : World} {A B A3 : Option Addr} {c d c3 : Nat} {ks out : List Int} {x : Int} {N N3 : Nat} (h : RefI w wr A c B d ks out) (hr : Row w3 w.heap.size 27 A3 c3 (u64s (ks ++ [x])))
    (hg : wr.grownBy w3 (Value.slice A N c).ownBlock) (ha : (Value.slice A3 N3 c3).ownBlock = (Value.slice A N c).ownBlock ∨ (Value.slice A3 N3 c3).ownBlock = some wr.heap.size) : RefI w w3 A3 c3 B d (ks ++ [x]) out := by
  have hob : ∀ b, B = some b → some b.block ≠ (Value.slice A N c).ownBlock := fun b hb e => by
    cases A with
    | none => cases e
    | some a => injection e with e; exact h.ap a b rfl hb e.symm
  have hbl : ∀ b, B = some b → b.block < wr.heap.size := fun b hb => by subst hb; exact (World.ownsRow.lt h.ro b.block rfl).2
  have hA : ∀ k, (Value.slice A N c).ownBlock = some k → w.heap.size ≤ k := fun k hk => (World.ownsRow.lt h.rk k (by cases A <;> exact hk)).1
  refine ⟨hr, ?_, fun a b ea eb => ?_, h.below.grown hg h.below.size hA⟩
  · refine World.ownsRow.kept h.ro hg ?_
    cases B with
    | none => exact .inl rfl
    | some b => exact .inr (hob b rfl)
  · subst ea
    rcases ha with ha | ha
    · intro e; exact hob b eb (by rw [← ha, ← e]; rfl)
    · have : a.block = wr.heap.size := by injection ha
      have := hbl b eb; omega
/-- append to the places -/
theorem RefI.appO {w wr w3 : World} {A B B3 : Option Addr} {c d d3 : Nat} {ks out : List Int} {x : Int} {N N3 : Nat} (h : RefI w wr A c B d ks out) (hr : Row w3 w.heap.size 3 B3 d3 (ins (out ++ [x])))
    (hg : wr.grownBy w3 (Value.slice B N d).ownBlock) (ha : (Value.slice B3 N3 d3).ownBlock = (Value.slice B N d).ownBlock ∨ (Value.slice B3 N3 d3).ownBlock = some wr.heap.size) : RefI w w3 A c B3 d3 ks (out ++ [x]) := by
  have hob : ∀ a, A = some a → some a.block ≠ (Value.slice B N d).ownBlock := fun a hb e => by
    cases B with
    | none => cases e
    | some b => injection e with e; exact h.ap a b hb rfl e
  have hbl : ∀ a, A = some a → a.block < wr.heap.size := fun a hb => by subst hb; exact (World.ownsRow.lt h.rk a.block rfl).2
  have hB : ∀ k, (Value.slice B N d).ownBlock = some k → w.heap.size ≤ k := fun k hk => (World.ownsRow.lt h.ro k (by cases B <;> exact hk)).1
  refine ⟨?_, hr, fun a b ea eb => ?_, h.below.grown hg h.below.size hB⟩
  · refine World.ownsRow.kept h.rk hg ?_
    cases A with
    | none => exact .inl rfl
    | some a => exact .inr (hob a rfl)
  · subst eb
    rcases ha with ha | ha
    · intro e; exact hob a ea (by rw [← ha, e]; rfl)
    · have : b.block = wr.heap.size := by injection ha
      have := hbl a ea; omega
/-- one place written -/
theorem RefI.set {w wr : World} {A : Option Addr} {c d g : Nat} {ks out : List Int} (h : RefI w wr A c (some ⟨g, 0, none⟩) d ks out) (k : Nat) (x : Int) : RefI w (wr.setCell ⟨g, k, none⟩ (.int .i64 x)) A c (some ⟨g, 0, none⟩) d ks (out.set k x) := by
  refine ⟨h.rk.setOther (fun a ha => h.ap a _ ha rfl) k _, ?_, h.ap, h.below.setCell (p := ⟨g, k, none⟩) (World.ownsRow.lt h.ro g rfl).1 _⟩
  have := h.ro.setAt k (.int .i64 x)
  have e : (ins out).set k (.int .i64 x) = ins (out.set k x) := by simp [ins, List.map_set]
  rw [e] at this
  exact this
end Go.Proofs.Ytbjeblffmgghgaa
