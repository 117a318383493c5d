/- The document's box (ref17): how it lies. No condition. -/
import Derived.Test.YtlmdkmflbhnlgaaRef16
import Derived.Test.YtlmdkmflbhnlgaaRef15
import Derived.Test.YtlmdkmflbhnlgaaPBoxNext
import Derived.Test.YtlmdkmflbhnlgaaBox5
import Derived.Test.YtlmdkmflbhnlgaaSame05
namespace Go.Proofs.Ytlmdkmflbhnlgaa
open Go.RowKit
theorem RefF.moved {w w' : World} {base mb o room over over' c : Nat} {A : Option Addr} {F : List SF} {cs cs' : Array Value} {ty : TypeId} (h : RefF w base mb o room over A c F cs ty) (ht : Turn [mb] w w') (hb : w'.heap[mb]? = some (.cells cs' ty (0, 0)))
    (c0 : cs'[o]? = some (.int .i64 room)) (c1 : cs'[o + 1]? = some (.int .i64 over')) (c2 : cs'[o + 2]? = some (.slice A F.length c)) : RefF w' base mb o room over' A c F cs' ty := by
  have hne : ∀ k ∈ blkA A, k ∉ [mb] := fun k hk hm => (h.ne_blk k hk).1 (by simpa using hm)
  refine ⟨hb, c0, c1, c2, h.ne, h.rd.turn ht (fun ad e => hne _ (by rw [e]; simp [blkA])), h.nz, h.le, fun k hk => ?_, fun x hx => (h.data x hx).turn_ty ht fun k hk => ?_, h.lo⟩
  · obtain ⟨h1, ds, h2⟩ := h.blk k hk; exact ⟨h1, ds, ht.heap h2 (hne k hk)⟩
  · rw [List.mem_singleton.1 hk]; exact ⟨_, _, _, h.box, h.ne.1⟩
theorem RefQ.ne_blk {w : World} {base qb o room last c : Nat} {A : Option Addr} {L : List QI} {cs : Array Value} {ty : TypeId} (h : RefQ w base qb o room last A c L cs ty) : ∀ k ∈ blkA A, k ≠ qb := fun k hk => by
  rcases h.own.2 with ⟨hv, -⟩ | ⟨g, cap, cur, hv, hg, hh, -⟩
  · injection hv with hv; subst hv; simp [blkA] at hk
  · injection hv with hv; subst hv
    rw [List.mem_singleton.1 hk]
    exact fun e => ne_of_type hh h.box (Ne.symm h.ne.2.1) e
theorem RefQ.moved {w w' : World} {base qb o room last c : Nat} {A : Option Addr} {L : List QI} {cs cs' : Array Value} {ty : TypeId} (h : RefQ w base qb o room last A c L cs ty) (ht : Turn [qb] w w') (hb : w'.heap[qb]? = some (.cells cs' ty (0, 0)))
    (c0 : cs'[o]? = some (.int .i64 room)) (c1 : cs'[o + 1]? = some (.int .i64 last)) (c2 : cs'[o + 2]? = some (.slice A L.length c)) : RefQ w' base qb o room last A c L cs' ty :=
  ⟨hb, c0, c1, c2, h.ne, own_turn h.own ht (fun k hk hm => h.ne_blk k hk (List.mem_singleton.1 hm)), fun x hx => (h.data x hx).turn_ty ht fun k hk => by rw [List.mem_singleton.1 hk]; exact ⟨_, _, _, h.box, h.ne.1⟩, h.lo⟩
/-- The cells of the document's box. -/
def rcs (T : BX) (RA : Option Addr) (rc : Nat) (qA : Option Addr) (n qc fo : Nat) (fA : Option Addr) (k fc : Nat) : Array Value :=
  #[.int .i64 T.oroom, .int .i64 T.iroom, .slice RA T.rules.length rc, .bool T.els, .bool T.xl, .int .i64 T.oroom, .int .i64 T.last, .slice qA n qc, .int .i64 T.iroom, .int .i64 fo, .slice fA k fc, .int .i64 0, .int .i64 0, .int .i64 T.put, .int .i64 T.sent, .int .i64 T.gone, .int .i64 T.came, .int .i64 T.kept, .int .i64 T.refused, .int .i64 T.over, .int .i64 T.taken]
/-- How it lies. -/
structure RBoxI (w : World) (base mb : Nat) (RA : Option Addr) (rc : Nat) (qA : Option Addr) (qc : Nat) (L : List QI) (fo : Nat) (fA : Option Addr) (fc : Nat) (F : List SF) (T : BX) : Prop where
  q : RefQ w base mb 5 T.oroom T.last qA qc L (rcs T RA rc qA L.length qc fo fA F.length fc) 108
  f : RefF w base mb 8 T.iroom fo fA fc F (rcs T RA rc qA L.length qc fo fA F.length fc) 108
  ql : L.map absI = T.q
  fl : F.map (·.f) = T.l
def RBoxA (w : World) (base : Nat) (fr : List Nat) (mb : Nat) (RA : Option Addr) (rc N : Nat) (T : BX) : Prop :=
  ∃ qA qc L fo fA fc F, RBoxI w base mb RA rc qA qc L fo fA fc F T ∧ fo ≤ N ∧ fr = mb :: (blkA qA ++ blkA fA)
theorem RBoxI.turn {w w' : World} {base mb rc qc fo fc : Nat} {RA qA fA : Option Addr} {L : List QI} {F : List SF} {T : BX} {s : List Nat} (h : RBoxI w base mb RA rc qA qc L fo fA fc F T) (ht : Turn s w w') (hf : Foot s w) (hd : ∀ k ∈ mb :: (blkA qA ++ blkA fA), k ∉ s) : RBoxI w' base mb RA rc qA qc L fo fA fc F T :=
  ⟨h.q.turn ht hf (hd mb (by simp)) (fun k hk => hd k (by simp [hk])), h.f.turn ht hf (hd mb (by simp)) (fun k hk => hd k (by simp [hk])), h.ql, h.fl⟩
theorem RBoxI.below {w w' : World} {base mb rc qc fo fc : Nat} {RA qA fA : Option Addr} {L : List QI} {F : List SF} {T : BX} (h : RBoxI w base mb RA rc qA qc L fo fA fc F T) (hb : Below w.heap.size w w') : RBoxI w' base mb RA rc qA qc L fo fA fc F T :=
  h.turn (s := []) (Turn.of hb) (fun k hk => by simp at hk) (fun k _ => by simp)
theorem RBoxA.turn {w w' : World} {base mb rc N : Nat} {RA : Option Addr} {fr s : List Nat} {T : BX} (h : RBoxA w base fr mb RA rc N T) (ht : Turn s w w') (hf : Foot s w) (hd : ∀ k ∈ fr, k ∉ s) : RBoxA w' base fr mb RA rc N T := by
  obtain ⟨qA, qc, L, fo, fA, fc, F, h1, hfo, rfl⟩ := h
  exact ⟨qA, qc, L, fo, fA, fc, F, h1.turn ht hf hd, hfo, rfl⟩
theorem RBoxA.below {w w' : World} {base mb rc N : Nat} {RA : Option Addr} {fr : List Nat} {T : BX} (h : RBoxA w base fr mb RA rc N T) (hb : Below w.heap.size w w') : RBoxA w' base fr mb RA rc N T :=
  h.turn (s := []) (Turn.of hb) (fun k hk => by simp at hk) (fun k _ => by simp)
theorem RBoxA.mono {w : World} {base mb rc N M : Nat} {RA : Option Addr} {fr : List Nat} {T : BX} (h : RBoxA w base fr mb RA rc N T) (hm : N ≤ M) : RBoxA w base fr mb RA rc M T := by
  obtain ⟨qA, qc, L, fo, fA, fc, F, h1, hfo, rfl⟩ := h
  exact ⟨qA, qc, L, fo, fA, fc, F, h1, Nat.le_trans hfo hm, rfl⟩
theorem RBoxA.foot {w : World} {base mb rc N : Nat} {RA : Option Addr} {fr : List Nat} {T : BX} (h : RBoxA w base fr mb RA rc N T) : Foot [mb] w ∧ (∀ k ∈ fr, base ≤ k ∧ k < w.heap.size) ∧ mb ∈ fr := by
  obtain ⟨qA, qc, L, fo, fA, fc, F, h1, hfo, rfl⟩ := h
  refine ⟨h1.q.foot, fun k hk => ?_, by simp⟩
  simp only [List.mem_cons, List.mem_append] at hk
  rcases hk with rfl | hk | hk
  · exact ⟨h1.q.lo, heap_lt h1.q.box⟩
  · refine ⟨?_, h1.q.lt.1 k hk⟩
    rcases h1.q.own.2 with ⟨hv, -⟩ | ⟨g, cap, cur, hv, hg, hh, -⟩
    · injection hv with hv; subst hv; simp [blkA] at hk
    · injection hv with hv; subst hv; rw [List.mem_singleton.1 hk]; exact hg
  · obtain ⟨h2, ds, h3⟩ := h1.f.blk k hk
    exact ⟨h2, heap_lt h3⟩
/-- What an act makes of it. -/
def RActed (w : World) (base : Nat) (fr : List Nat) (mb : Nat) (RA : Option Addr) (rc N : Nat) (T : BX) (w' : World) : Prop := ∃ fr', RBoxA w' base fr' mb RA rc N T ∧ (∀ k ∈ fr', k ∈ fr ∨ w.heap.size ≤ k) ∧ Turn [mb] w w'
/-- The numbers are small. -/
def SmallT (T : BX) : Prop := T.last ≤ 1000000 ∧ T.put ≤ 1000000 ∧ T.sent ≤ 1000000 ∧ T.gone ≤ 1000000 ∧ T.came ≤ 1000000 ∧ T.kept ≤ 1000000 ∧ T.refused ≤ 1000000 ∧ T.over ≤ 1000000 ∧ T.taken ≤ 1000000
/-- What a box's rows are. -/
structure GoodT (T : BX) : Prop where
  inv : InvB T
  srt : T.q.Pairwise leQ
  ok : ∀ y ∈ T.q, okF y.f = true ∧ 0 ≤ y.f.id
  oroom : T.oroom ≤ 64
  iroom : T.iroom ≤ 64
end Go.Proofs.Ytlmdkmflbhnlgaa
namespace Go.Proofs.Ytlmdkmflbhnlgaa
open Go.RowKit
theorem RBoxA.get {w : World} {base mb rc N : Nat} {RA : Option Addr} {fr : List Nat} {T : BX} (h : RBoxA w base fr mb RA rc N T) (i : Nat) (v : Value) (hi : ∀ qA n qc fo fA k fc, (rcs T RA rc qA n qc fo fA k fc)[i]? = some v) : w.cell? ⟨mb, i, none⟩ = some v ∧ ∀ k, w.frozen? ⟨mb, k, none⟩ = false := by
  obtain ⟨qA, qc, L, fo, fA, fc, F, h1, hfo, rfl⟩ := h
  exact ⟨cell_of_heap h1.q.box i _ (hi _ _ _ _ _ _ _), fun k => by simp [World.frozen?, h1.q.box]⟩
theorem RBoxA.set {w : World} {base mb rc N : Nat} {RA : Option Addr} {fr : List Nat} {T : BX} (h : RBoxA w base fr mb RA rc N T) (i : Nat) (v : Value) (T' : BX) (hq : T'.q = T.q ∧ T'.l = T.l ∧ T'.oroom = T.oroom ∧ T'.iroom = T.iroom ∧ T'.last = T.last)
    (hc : ∀ qA n qc fo fA k fc, (rcs T RA rc qA n qc fo fA k fc).setIfInBounds i v = rcs T' RA rc qA n qc fo fA k fc) : RBoxA (w.setCell ⟨mb, i, none⟩ v) base fr mb RA rc N T' ∧ Turn [mb] w (w.setCell ⟨mb, i, none⟩ v) := by
  obtain ⟨qA, qc, L, fo, fA, fc, F, h1, hfo, rfl⟩ := h
  obtain ⟨e1, e2, e3, e4, e5⟩ := hq
  have ht : Turn [mb] w (w.setCell ⟨mb, i, none⟩ v) := (Turn.refl _ _).setCell (.inl (by simp)) _
  have hb : (w.setCell ⟨mb, i, none⟩ v).heap[mb]? = some (.cells (rcs T' RA rc qA L.length qc fo fA F.length fc) 108 (0, 0)) := by
    rw [← hc]; exact heap_setCell h1.q.box i v
  refine ⟨⟨qA, qc, L, fo, fA, fc, F, ⟨?_, ?_, h1.ql.trans e1.symm, h1.fl.trans e2.symm⟩, hfo, rfl⟩, ht⟩
  · rw [e3, e5]; exact h1.q.moved ht hb (by rw [← e3]; rfl) (by rw [← e5]; rfl) rfl
  · rw [e4]; exact h1.f.moved ht hb (by rw [← e4]; rfl) rfl rfl
theorem RActed.of {w w1 w' : World} {base mb rc N : Nat} {RA : Option Addr} {fr : List Nat} {T : BX} (hb : Below w.heap.size w w1) (h : RActed w1 base fr mb RA rc N T w') : RActed w base fr mb RA rc N T w' := by
  obtain ⟨fr', h1, h2, h3⟩ := h
  exact ⟨fr', h1, fun k hk => (h2 k hk).imp id (fun h => Nat.le_trans hb.size h), (Turn.of hb).tr h3⟩
theorem RActed.same {w w' : World} {base mb rc N : Nat} {RA : Option Addr} {fr : List Nat} {T : BX} (h : RBoxA w base fr mb RA rc N T) (hb : Below w.heap.size w w') : RActed w base fr mb RA rc N T w' := ⟨fr, h.below hb, fun _ hk => .inl hk, Turn.of hb⟩
theorem RActed.step {w w1 w' : World} {base mb rc N : Nat} {RA : Option Addr} {fr : List Nat} {T : BX} (h : RActed w base fr mb RA rc N T w1) (hb : Below w1.heap.size w1 w') : RActed w base fr mb RA rc N T w' := by
  obtain ⟨fr', h1, h2, h3⟩ := h
  exact ⟨fr', h1.below hb, h2, h3.tr (Turn.of hb)⟩
theorem RActed.set {w w1 : World} {base mb rc N : Nat} {RA : Option Addr} {fr : List Nat} {T : BX} (h : RActed w base fr mb RA rc N T w1) (i : Nat) (v : Value) (T' : BX) (hq : T'.q = T.q ∧ T'.l = T.l ∧ T'.oroom = T.oroom ∧ T'.iroom = T.iroom ∧ T'.last = T.last)
    (hc : ∀ qA n qc fo fA k fc, (rcs T RA rc qA n qc fo fA k fc).setIfInBounds i v = rcs T' RA rc qA n qc fo fA k fc) : RActed w base fr mb RA rc N T' (w1.setCell ⟨mb, i, none⟩ v) := by
  obtain ⟨fr', h1, h2, h3⟩ := h
  obtain ⟨h4, h5⟩ := h1.set i v T' hq hc
  exact ⟨fr', h4, h2, h3.tr h5⟩
def qT (T : BX) (f : Fr) : BX := if okF f then (if T.q.length < T.oroom then { T with last := T.last + 1, q := insQ ⟨(T.last : Int) + 1, f⟩ T.q } else T) else T
def qK (T : BX) (f : Fr) : Int := if okF f then (if T.q.length < T.oroom then (T.last : Int) + 1 else 0) else 0
def qE (T : BX) (f : Fr) : Int := if okF f then (if T.q.length < T.oroom then 0 else 8) else 2
theorem RBQPut_any (w : World) (base mb rc N d m : Nat) (RA B : Option Addr) (fr : List Nat) (T : BX) (f : Fr) (h : RBoxA w base fr mb RA rc N T) (hg : GoodT T) (hl : T.last ≤ 1000000) (hbase : base ≤ w.heap.size) (hr : Rd w B (bys f.data)) (hz : B = none → d = 0) (hm : f.data.length = m) (hB : ∀ ad, B = some ad → bys f.data ≠ [] → ad.block ≠ mb) (hf0 : 0 ≤ f.id) :
    Calls Try.prog 19 #[.pointer (some ⟨mb, 5, none⟩), frv f (.slice B m d)] w fun e w' => e = .returned (.tuple #[.int .i64 (qK T f), .int .i64 (qE T f)]) ∧ RActed w base fr mb RA rc N (qT T f) w' := by
  have h0 := h
  obtain ⟨qA, qc, L, fo, fA, fc, F, h1, hfo, rfl⟩ := h
  have hlen : L.length = T.q.length := by rw [← h1.ql, List.length_map]
  cases hq : okF f with
  | false =>
    refine (RPut_no w mb 5 d m B f hm hq).mono ?_
    rintro e w' ⟨rfl, hb⟩
    refine ⟨by simp [qK, qE, hq], ?_⟩
    have : qT T f = T := by simp [qT, hq]
    rw [this]; exact .same h0 hb
  | true =>
    by_cases hf : T.q.length < T.oroom
    · have hm2 : m ≤ 1000000 := by have := codeF_kind _ _ ((okF_iff f).1 hq).size; omega
      have hs' : (L.map absI).Pairwise (fun a b => keyF a.f ≤ keyF b.f) := by rw [h1.ql]; exact hg.srt.imp fun {a b} h => by unfold leQ leE at h; dsimp only at h; omega
      have hL' : ∀ x ∈ L, okF x.s.f = true ∧ 0 ≤ x.s.f.id := fun x hx => hg.ok _ (by rw [← h1.ql]; exact List.mem_map_of_mem hx)
      refine (RPut_in w base mb 5 T.oroom T.last qc L.length d m qA B f L _ _ h1.q rfl hm hq (by omega) hg.oroom hl hbase hr hz hm2 hB hf0 hL' hs').mono ?_
      rintro e w' ⟨rfl, g, c', L', k1, k2, k3, k4⟩
      refine ⟨by simp [qK, qE, hq, hf], ?_⟩
      have e1 : qT T f = { T with last := T.last + 1, q := insQ ⟨(T.last : Int) + 1, f⟩ T.q } := by simp [qT, hq, hf]
      rw [e1]
      have hl2 : L'.length = L.length + 1 := by
        have := congrArg List.length k2
        rw [List.length_map, insQ_length, List.length_map] at this
        exact this
      have hcs : csP (rcs T RA rc qA L.length qc fo fA F.length fc) 5 T.last (some ⟨g, 0, none⟩) (L.length + 1) c' = rcs { T with last := T.last + 1, q := insQ ⟨(T.last : Int) + 1, f⟩ T.q } RA rc (some ⟨g, 0, none⟩) L'.length c' fo fA F.length fc := by rw [hl2]; rfl
      rw [hcs] at k1
      refine ⟨_, ⟨some ⟨g, 0, none⟩, c', L', fo, fA, fc, F, ⟨k1, h1.f.moved k3 k1.box rfl rfl rfl, by rw [k2, h1.ql], h1.fl⟩, hfo, rfl⟩, fun k hk => ?_, k3⟩
      simp only [List.mem_cons, List.mem_append] at hk
      rcases hk with rfl | hk | hk
      · exact .inl (by simp)
      · have e : k = g := List.mem_singleton.1 hk
        exact .inr (by omega)
      · exact .inl (by simp [hk])
    · refine (RPut_full w base mb 5 T.oroom T.last qc L.length d m qA B f L _ _ h1.q rfl hm hq (by omega)).mono ?_
      rintro e w' ⟨rfl, hb⟩
      refine ⟨by simp [qK, qE, hq, hf], ?_⟩
      have : qT T f = T := by simp [qT, hq, hf]
      rw [this]; exact .same h0 hb
/-- What letting a frame into the fifo makes of it. -/
def pT (T : BX) (f : Fr) : BX := if T.l.length < T.iroom then { T with l := T.l ++ [f] } else T
theorem RBFPush_any (w : World) (base mb rc N d m : Nat) (RA B : Option Addr) (fr : List Nat) (T : BX) (f : Fr) (h : RBoxA w base fr mb RA rc N T) (hi : T.iroom ≤ 64) (hN : N ≤ 1000000) (hbase : base ≤ w.heap.size) (hr : Rd w B (bys f.data)) (hz : B = none → d = 0) (hm : f.data.length = m) (hq : okF f = true) :
    Calls Try.prog 74 #[.pointer (some ⟨mb, 8, none⟩), frv f (.slice B m d)] w fun e w' => e = .returned (.tuple #[.bool (decide (T.l.length < T.iroom)), .int .i64 0]) ∧ RActed w base fr mb RA rc (N + 1) (pT T f) w' := by
  obtain ⟨qA, qc, L, fo, fA, fc, F, h1, hfo, rfl⟩ := h
  have hlen : F.length = T.l.length := by rw [← h1.fl, List.length_map]
  by_cases hf : T.l.length < T.iroom
  · have hm2 : m ≤ 1000000 := by have := codeF_kind _ _ ((okF_iff f).1 hq).size; omega
    refine (RPush_in w base mb 8 T.iroom fo fc F.length d m fA B f F _ _ h1.f rfl hm hq (by omega) hi hbase hr hz hm2).mono ?_
    rintro e w' ⟨rfl, A', c', s, hs, k1, k3, k4⟩
    refine ⟨by rw [decide_eq_true hf], ?_⟩
    have e1 : pT T f = { T with l := T.l ++ [f] } := by simp [pT, hf]
    rw [e1]
    have hl2 : (F ++ [s]).length = F.length + 1 := by simp
    have hcs : (rcs T RA rc qA L.length qc fo fA F.length fc).setIfInBounds (8 + 2) (.slice A' (F.length + 1) c') = rcs { T with l := T.l ++ [f] } RA rc qA L.length qc fo A' (F ++ [s]).length c' := by rw [hl2]; rfl
    rw [hcs] at k1
    refine ⟨_, ⟨qA, qc, L, fo, A', c', F ++ [s], ⟨h1.q.moved k3 k1.box rfl rfl rfl, k1, h1.ql, by rw [List.map_append, h1.fl, List.map_singleton, hs]⟩, by omega, rfl⟩, fun k hk => ?_, k3⟩
    simp only [List.mem_cons, List.mem_append] at hk
    rcases hk with rfl | hk | hk
    · exact .inl (by simp)
    · exact .inl (by simp [hk])
    · exact .inr (k4 k hk)
  · refine (RPush_full w base mb 8 T.iroom fo fc F.length d m fA B f F _ _ h1.f rfl hm hq (by omega) (by omega)).mono ?_
    rintro e w' ⟨rfl, k1, k3⟩
    refine ⟨by rw [decide_eq_false hf], ?_⟩
    have e1 : pT T f = T := by simp [pT, hf]
    rw [e1]
    have hcs : (rcs T RA rc qA L.length qc fo fA F.length fc).setIfInBounds (8 + 1) (.int .i64 ((fo : Int) + 1)) = rcs T RA rc qA L.length qc (fo + 1) fA F.length fc := rfl
    rw [hcs] at k1
    exact ⟨_, ⟨qA, qc, L, fo + 1, fA, fc, F, ⟨h1.q.moved k3 k1.box rfl rfl rfl, k1, h1.ql, h1.fl⟩, by omega, rfl⟩, fun k hk => .inl hk, k3⟩
/-- What taking one out of the fifo makes of it, and answers. -/
def rT (T : BX) : BX := { T with l := T.l.tail }
def RPopB (w : World) (base : Nat) (fr : List Nat) (mb : Nat) (RA : Option Addr) (rc N : Nat) (T : BX) (e : Ending) (w' : World) : Prop :=
  ((T.l = [] ∧ e = .returned (.tuple #[.agg zfL.toArray, .int .i64 9])) ∨ ∃ (s : SF) (r : List Fr), T.l = s.f :: r ∧ e = .returned (.tuple #[.agg (frL s).toArray, .int .i64 0]) ∧ Row w' base 5 s.A s.c (bys s.f.data)) ∧ RActed w base fr mb RA rc N (rT T) w'
theorem RBFPop_any (w : World) (base mb rc N : Nat) (RA : Option Addr) (fr : List Nat) (T : BX) (h : RBoxA w base fr mb RA rc N T) (hi : T.l.length ≤ 1000) :
    Calls Try.prog 75 #[.pointer (some ⟨mb, 8, none⟩)] w (RPopB w base fr mb RA rc N T) := by
  have h0 := h
  obtain ⟨qA, qc, L, fo, fA, fc, F, h1, hfo, rfl⟩ := h
  have hlen : F.length = T.l.length := by rw [← h1.fl, List.length_map]
  refine (RPop_any w base mb 8 T.iroom fo fc F.length fA F _ _ h1.f rfl (by omega)).mono ?_
  rintro e w' (⟨hF, rfl, hb⟩ | ⟨s, r, A', c', hF, rfl, k1, k3, k4⟩)
  · have hl : T.l = [] := by rw [← h1.fl, hF]; rfl
    have : rT T = T := by unfold rT; rw [hl]; cases T; simp at hl; subst hl; rfl
    exact ⟨.inl ⟨hl, rfl⟩, by rw [this]; exact .same h0 hb⟩
  · have hl : T.l = s.f :: r.map (·.f) := by rw [← h1.fl, hF]; rfl
    have hcs : (rcs T RA rc qA L.length qc fo fA F.length fc).setIfInBounds (8 + 2) (.slice A' r.length c') = rcs (rT T) RA rc qA L.length qc fo A' r.length c' := rfl
    rw [hcs] at k1
    refine ⟨.inr ⟨s, r.map (·.f), hl, rfl, ?_⟩, ⟨_, ⟨qA, qc, L, fo, A', c', r, ⟨h1.q.moved k3 k1.box rfl rfl rfl, k1, h1.ql, by simp [rT, hl]⟩, hfo, rfl⟩, fun k hk => ?_, k3⟩⟩
    · exact (h1.f.data s (by rw [hF]; simp)).turn_ty k3 fun k hk => by rw [List.mem_singleton.1 hk]; exact ⟨_, _, _, h1.f.box, h1.f.ne.1⟩
    · simp only [List.mem_cons, List.mem_append] at hk
      rcases hk with rfl | hk | hk
      · exact .inl (by simp)
      · exact .inl (by simp [hk])
      · exact .inl (by simp [k4 k hk])
def cT (T : BX) (no : Int) : BX := if hasQ no T.q then { T with q := rmQ no T.q } else T
theorem RBQCancel_any (w : World) (base mb rc N : Nat) (RA : Option Addr) (fr : List Nat) (T : BX) (no : Int) (h : RBoxA w base fr mb RA rc N T) (hg : GoodT T) (hbase : base ≤ w.heap.size) :
    Calls Try.prog 72 #[.pointer (some ⟨mb, 5, none⟩), .int .i64 no] w fun e w' => e = .returned (.int .i64 (if hasQ no T.q then 0 else 9)) ∧ RActed w base fr mb RA rc N (cT T no) w' := by
  have h0 := h
  obtain ⟨qA, qc, L, fo, fA, fc, F, h1, hfo, rfl⟩ := h
  have hlen : L.length = T.q.length := by rw [← h1.ql, List.length_map]
  have h64 : L.length ≤ 64 := by have := hg.inv.oroom; have := hg.oroom; omega
  refine (RCancel_any w base mb 5 T.oroom T.last qc L.length qA no L _ _ h1.q rfl h64 hbase (by have := hg.inv.nodup; rwa [← h1.ql] at this)).mono ?_
  rintro e w' (⟨hn, rfl, hb⟩ | ⟨hn, rfl, A', c', L', k1, k2, k3, k4⟩)
  · rw [h1.ql] at hn
    have : cT T no = T := by simp [cT, hn]
    exact ⟨by rw [hn]; rfl, by rw [this]; exact .same h0 hb⟩
  · rw [h1.ql] at hn k2
    have e1 : cT T no = { T with q := rmQ no T.q } := by simp [cT, hn]
    rw [e1]
    have hcs : (rcs T RA rc qA L.length qc fo fA F.length fc).setIfInBounds (5 + 2) (.slice A' L'.length c') = rcs { T with q := rmQ no T.q } RA rc A' L'.length c' fo fA F.length fc := rfl
    rw [hcs] at k1
    refine ⟨by rw [hn]; rfl, ⟨_, ⟨A', c', L', fo, fA, fc, F, ⟨k1, h1.f.moved k3 k1.box rfl rfl rfl, k2, h1.fl⟩, hfo, rfl⟩, fun k hk => ?_, k3⟩⟩
    simp only [List.mem_cons, List.mem_append] at hk
    rcases hk with rfl | hk | hk
    · exact .inl (by simp)
    · exact .inr (k4 k hk)
    · exact .inl (by simp [hk])
theorem putT_qT (T : BX) (f : Fr) (h : alienB T f = false) : putK T f = qK T f ∧ putE T f = qE T f ∧ putT T f = (if qE T f = 0 then { qT T f with put := (qT T f).put + 1 } else qT T f) := by
  unfold putK putE putT qK qE qT
  rw [h]
  simp only [Bool.false_eq_true, if_false]
  refine ⟨trivial, trivial, ?_⟩
  by_cases hq : okF f = true
  · by_cases hl : T.q.length < T.oroom
    · simp [hq, hl]
    · simp [hq, hl]
  · simp [hq]
end Go.Proofs.Ytlmdkmflbhnlgaa
namespace Go.Proofs.Ytlmdkmflbhnlgaa
open Go.RowKit
set_option maxRecDepth 100000 in
set_option maxHeartbeats 4000000 in
theorem RNew17_any (w : World) (base out inn n c : Nat) (A : Option Addr) (els xl : Bool) (rs : List Ru) (hr : RdRu w A rs) (hn : rs.length = n) (hc : n ≤ 9223372036854775807) (ho : out ≤ 64) (hi : inn ≤ 64) (hb : bankOk rs = true) (hbase : base ≤ w.heap.size) :
    Calls Try.prog 25 #[confV out inn A n c els xl] w fun e w' => (∃ mb fr, e = .returned (.tuple #[.pointer (some ⟨mb, 0, none⟩), .bool true]) ∧ RBoxA w' base fr mb A c 0 (newX rs els xl out inn) ∧ ∀ k ∈ fr, w.heap.size ≤ k) ∧ Below w.heap.size w w' := by
  have HC := Lib.hid (fun W hW => RCheck15_any A n c els rs W hW hn hc)
  rw [hb] at HC
  have HR := Lib.hid hr
  have HN := Lib.hid hn
  have ho1 : ¬ (out : Int) < 0 := by omega
  have ho2 : ¬ (64 : Int) < out := by omega
  have hi1 : ¬ (inn : Int) < 0 := by omega
  have hi2 : ¬ (64 : Int) < inn := by omega
  dsimp only [confV] at *
  clear hr hn hb
  go_enter Try.func25, Try.ntmps25
  go_wp2_with fail
  refine calls_blk1 fun W1 q1 hb1 => ?_
  refine (HC.out _ (HR.out.below hb1)).mono ?_
  rintro e w1 ⟨rfl, hb⟩
  have q2 := heap_below hb q1
  have c0 := cell_of_heap q2 0 (.int .i64 out) rfl
  have c1 := cell_of_heap q2 1 (.int .i64 inn) rfl
  have c2 := cell_of_heap q2 2 (.slice A n c) rfl
  have c3 := cell_of_heap q2 3 (.bool els) rfl
  have c4 := cell_of_heap q2 4 (.bool xl) rfl
  have HB := Lib.hid (below_trans hb1 hb)
  clear hb hb1 q1 q2
  simp only [errV, if_true]
  go_wp2_with fail
  go_ret2
  have hbx : (w1.alloc (.cells (rcs (newX rs els xl out inn) A c none 0 0 0 none 0 0) 108)).heap[w1.heap.size]? = some (.cells (rcs (newX rs els xl out inn) A c none 0 0 0 none 0 0) 108 (0, 0)) := heap_new_at rfl
  have hcs : rcs (newX rs els xl out inn) A c none 0 0 0 none 0 0 = #[.int .i64 out, .int .i64 inn, .slice A n c, .bool els, .bool xl, .int .i64 out, .int .i64 0, .slice none 0 0, .int .i64 inn, .int .i64 0, .slice none 0 0, .int .i64 0, .int .i64 0, .int .i64 0, .int .i64 0, .int .i64 0, .int .i64 0, .int .i64 0, .int .i64 0, .int .i64 0, .int .i64 0] := by
    unfold rcs newX; rw [HN.out]; rfl
  have hbb := HB.out.size
  rw [← hcs]
  refine ⟨⟨w1.heap.size, [w1.heap.size], rfl, ⟨none, 0, [], 0, none, 0, [], ⟨⟨hbx, rfl, rfl, rfl, by decide, ⟨by simp, .inl ⟨rfl, rfl⟩⟩, by simp, by omega⟩, ⟨hbx, rfl, rfl, rfl, by decide, Rd.nil _ _, fun _ => rfl, Nat.le_refl _, by simp [blkA], by simp, by omega⟩, rfl, rfl⟩, Nat.le_refl _, rfl⟩, fun k hk => ?_⟩, below_alloc HB.out _⟩
  rw [List.mem_singleton.1 hk]; exact hbb
set_option maxRecDepth 100000 in
set_option maxHeartbeats 4000000 in
theorem RNew17_no (w : World) (out inn : Int) (n c : Nat) (A : Option Addr) (els xl : Bool) (rs : List Ru) (hr : RdRu w A rs) (hn : rs.length = n) (hc : n ≤ 9223372036854775807) (hno : (out < 0 ∨ 64 < out) ∨ (inn < 0 ∨ 64 < inn) ∨ bankOk rs = false) :
    Calls Try.prog 25 #[confV out inn A n c els xl] w fun e w' => e = .returned (.tuple #[.pointer none, .bool false]) ∧ Below w.heap.size w w' := by
  have HC := Lib.hid (fun W hW => RCheck15_any A n c els rs W hW hn hc)
  have HR := Lib.hid hr
  dsimp only [confV] at *
  clear hr hn
  by_cases ho1 : out < 0
  · go_enter Try.func25, Try.ntmps25
    go_wp2_with fail
    go_ret2
    exact ⟨rfl, below_alloc (Below.refl _ _) _⟩
  by_cases ho2 : 64 < out
  · go_enter Try.func25, Try.ntmps25
    go_wp2_with fail
    go_ret2
    exact ⟨rfl, below_alloc (Below.refl _ _) _⟩
  by_cases hi1 : inn < 0
  · go_enter Try.func25, Try.ntmps25
    go_wp2_with fail
    go_ret2
    exact ⟨rfl, below_alloc (Below.refl _ _) _⟩
  by_cases hi2 : 64 < inn
  · go_enter Try.func25, Try.ntmps25
    go_wp2_with fail
    go_ret2
    exact ⟨rfl, below_alloc (Below.refl _ _) _⟩
  have hbk : bankOk rs = false := by
    rcases hno with h | h | h
    · omega
    · omega
    · exact h
  rw [hbk] at HC
  clear hno hbk
  go_enter Try.func25, Try.ntmps25
  go_wp2_with fail
  refine calls_blk1 fun W1 q1 hb1 => ?_
  refine (HC.out _ (HR.out.below hb1)).mono ?_
  rintro e w1 ⟨rfl, hb⟩
  have HB := Lib.hid (below_trans hb1 hb)
  clear hb hb1 q1
  simp only [errV, Bool.false_eq_true, if_false]
  go_wp2_with fail
  go_ret2
  exact ⟨rfl, HB.out⟩
set_option maxRecDepth 100000 in
set_option maxHeartbeats 4000000 in
theorem RBCancel_any (w : World) (base mb rc N : Nat) (RA : Option Addr) (fr : List Nat) (T : BX) (no : Int) (h : RBoxA w base fr mb RA rc N T) (hg : GoodT T) (hs : T.gone ≤ 1000000) (hbase : base ≤ w.heap.size) :
    Calls Try.prog 51 #[.pointer (some ⟨mb, 0, none⟩), .int .i64 no] w fun e w' => e = .returned (.int .i64 (if hasQ no T.q then 0 else 9)) ∧ RActed w base fr mb RA rc N (goneT T no) w' := by
  have HD := Lib.hid (RBQCancel_any w base mb rc N RA fr T no h hg hbase)
  have h1 : goneT T no = if hasQ no T.q then { cT T no with gone := (cT T no).gone + 1 } else cT T no := by
    unfold goneT cT
    cases hasQ no T.q <;> rfl
  have h2 : (cT T no).gone = T.gone := by unfold cT; split <;> rfl
  rw [h1]
  generalize cT T no = T1 at HD h2 ⊢
  obtain ⟨hh, hhe⟩ : ∃ hh, hasQ no T.q = hh := ⟨_, rfl⟩
  rw [hhe] at HD ⊢
  have hs1 : T1.gone ≤ 1000000 := by omega
  clear h1 h2 hhe h
  cases hh
  · simp only [Bool.false_eq_true, if_false] at HD ⊢
    go_enter Try.func51, Try.ntmps51
    go_wp2_with fail
    refine HD.out.mono ?_
    rintro e w1 ⟨rfl, ha⟩
    have HA := Lib.hid ha
    clear ha
    go_wp2_with fail
    go_ret
    exact ⟨rfl, HA.out⟩
  · simp only [if_true] at HD ⊢
    go_enter Try.func51, Try.ntmps51
    go_wp2_with fail
    refine HD.out.mono ?_
    rintro e w1 ⟨rfl, ha⟩
    have HA := Lib.hid ha
    obtain ⟨fr', k1, -, -⟩ := ha
    obtain ⟨x, z⟩ := k1.get 15 (.int .i64 T1.gone) (fun _ _ _ _ _ _ _ => rfl)
    clear k1
    go_wp2_with fail
    go_ret
    exact ⟨rfl, HA.out.set 15 _ { T1 with gone := T1.gone + 1 } ⟨rfl, rfl, rfl, rfl, rfl⟩ (fun _ _ _ _ _ _ _ => rfl)⟩
set_option maxRecDepth 100000 in
set_option maxHeartbeats 4000000 in
theorem RBDone_any (w : World) (base mb rc N : Nat) (RA : Option Addr) (fr : List Nat) (T : BX) (no : Int) (h : RBoxA w base fr mb RA rc N T) (hg : GoodT T) (hs : T.sent ≤ 1000000) (hbase : base ≤ w.heap.size) :
    Calls Try.prog 53 #[.pointer (some ⟨mb, 0, none⟩), .int .i64 no] w fun e w' => e = .returned (.int .i64 (if hasQ no T.q then 0 else 9)) ∧ RActed w base fr mb RA rc N (sentT T no) w' := by
  have HD := Lib.hid (RBQCancel_any w base mb rc N RA fr T no h hg hbase)
  have h1 : sentT T no = if hasQ no T.q then { cT T no with sent := (cT T no).sent + 1 } else cT T no := by
    unfold sentT cT
    cases hasQ no T.q <;> rfl
  have h2 : (cT T no).sent = T.sent := by unfold cT; split <;> rfl
  rw [h1]
  generalize cT T no = T1 at HD h2 ⊢
  obtain ⟨hh, hhe⟩ : ∃ hh, hasQ no T.q = hh := ⟨_, rfl⟩
  rw [hhe] at HD ⊢
  have hs1 : T1.sent ≤ 1000000 := by omega
  clear h1 h2 hhe h
  cases hh
  · simp only [Bool.false_eq_true, if_false] at HD ⊢
    go_enter Try.func53, Try.ntmps53
    go_wp2_with fail
    refine HD.out.mono ?_
    rintro e w1 ⟨rfl, ha⟩
    have HA := Lib.hid ha
    clear ha
    go_wp2_with fail
    go_ret
    exact ⟨rfl, HA.out⟩
  · simp only [if_true] at HD ⊢
    go_enter Try.func53, Try.ntmps53
    go_wp2_with fail
    refine HD.out.mono ?_
    rintro e w1 ⟨rfl, ha⟩
    have HA := Lib.hid ha
    obtain ⟨fr', k1, -, -⟩ := ha
    obtain ⟨x, z⟩ := k1.get 14 (.int .i64 T1.sent) (fun _ _ _ _ _ _ _ => rfl)
    clear k1
    go_wp2_with fail
    go_ret
    exact ⟨rfl, HA.out.set 14 _ { T1 with sent := T1.sent + 1 } ⟨rfl, rfl, rfl, rfl, rfl⟩ (fun _ _ _ _ _ _ _ => rfl)⟩
end Go.Proofs.Ytlmdkmflbhnlgaa
namespace Go.Proofs.Ytlmdkmflbhnlgaa
open Go.RowKit
theorem ext11T {w : World} {g : Nat} {s : List Nat} {v0 v1 v2 v3 v4 v5 v6 v7 v8 v9 v10 : Value} {t : TypeId} {fr : Nat × Nat} (h : w.heap[g]? = some (.cells #[v0, v1, v2, v3, v4, v5, v6, v7, v8, v9, v10] t fr)) (hg : g ∉ s) :
    (∀ e : ExtT s w, e.W.cell? ⟨g, 0, none⟩ = some v0) ∧ (∀ e : ExtT s w, e.W.cell? ⟨g, 1, none⟩ = some v1) ∧ (∀ e : ExtT s w, e.W.cell? ⟨g, 2, none⟩ = some v2) ∧ (∀ e : ExtT s w, e.W.cell? ⟨g, 3, none⟩ = some v3) ∧ (∀ e : ExtT s w, e.W.cell? ⟨g, 4, none⟩ = some v4) ∧ (∀ e : ExtT s w, e.W.cell? ⟨g, 5, none⟩ = some v5) ∧ (∀ e : ExtT s w, e.W.cell? ⟨g, 6, none⟩ = some v6) ∧ (∀ e : ExtT s w, e.W.cell? ⟨g, 7, none⟩ = some v7) ∧ (∀ e : ExtT s w, e.W.cell? ⟨g, 8, none⟩ = some v8) ∧ (∀ e : ExtT s w, e.W.cell? ⟨g, 9, none⟩ = some v9) ∧ (∀ e : ExtT s w, e.W.cell? ⟨g, 10, none⟩ = some v10) :=
  ⟨fun e => extT_cell (cell_of_heap h 0 _ rfl) hg e, fun e => extT_cell (cell_of_heap h 1 _ rfl) hg e, fun e => extT_cell (cell_of_heap h 2 _ rfl) hg e, fun e => extT_cell (cell_of_heap h 3 _ rfl) hg e, fun e => extT_cell (cell_of_heap h 4 _ rfl) hg e, fun e => extT_cell (cell_of_heap h 5 _ rfl) hg e, fun e => extT_cell (cell_of_heap h 6 _ rfl) hg e, fun e => extT_cell (cell_of_heap h 7 _ rfl) hg e, fun e => extT_cell (cell_of_heap h 8 _ rfl) hg e, fun e => extT_cell (cell_of_heap h 9 _ rfl) hg e, fun e => extT_cell (cell_of_heap h 10 _ rfl) hg e⟩
set_option maxRecDepth 100000 in
set_option maxHeartbeats 16000000 in
theorem RBPut_any (w : World) (base mb rc N d m : Nat) (RA B : Option Addr) (fr : List Nat) (T : BX) (f : Fr) (h : RBoxA w base fr mb RA rc N T) (hg : GoodT T) (hs : T.last ≤ 1000000 ∧ T.put ≤ 1000000) (hbase : base ≤ w.heap.size) (hr : Rd w B (bys f.data)) (hz : B = none → d = 0) (hm : f.data.length = m) (hB : ∀ ad, B = some ad → bys f.data ≠ [] → ad.block ≠ mb) (hf0 : 0 ≤ f.id) :
    Calls Try.prog 56 #[.pointer (some ⟨mb, 0, none⟩), frv f (.slice B m d)] w fun e w' => e = .returned (.tuple #[.int .i64 (putK T f), .int .i64 (putE T f)]) ∧ RActed w base fr mb RA rc N (putT T f) w' := by
  have HQP := Lib.hid (fun W (hb : Below w.heap.size w W) => RBQPut_any W base mb rc N d m RA B fr T f (h.below hb) hg hs.1 (Nat.le_trans hbase hb.size) (hr.below hb) hz hm hB hf0)
  have HC := Lib.hid (fun W => CheckR_any f B d W)
  rw [hm] at HC
  obtain ⟨c4, z4⟩ := h.get 4 (.bool T.xl) (fun _ _ _ _ _ _ _ => rfl)
  have hmb := (h.foot.2.1 mb h.foot.2.2).2
  have HPM : Hid (w.heap.size ∉ [mb]) := by
    show ¬ _
    simp; omega
  have HBX := Lib.hid h
  obtain ⟨k3, hk3⟩ : ∃ b, (f.kind == 3) = b := ⟨_, rfl⟩
  obtain ⟨q, hq⟩ : ∃ q, okF f = q := ⟨_, rfl⟩
  obtain ⟨xl, hxl⟩ : ∃ xl, T.xl = xl := ⟨_, rfl⟩
  have hal : alienB T f = (k3 && !xl && q) := by unfold alienB; rw [hk3, hq, hxl]
  have hT := putT_qT T f
  have hA : alienB T f = true → putK T f = 0 ∧ putE T f = 10 ∧ putT T f = T := fun h => by unfold putT putK putE; rw [h]; exact ⟨rfl, rfl, rfl⟩
  rw [hal] at hT hA
  rw [hq] at HC
  rw [hxl] at c4
  have hp3 : (qT T f).put ≤ 1000000 := by unfold qT; have := hs.2; (repeat' split) <;> exact this
  generalize qT T f = T3 at *
  generalize putT T f = T4 at *
  generalize qK T f = kk at *
  generalize qE T f = ke at *
  generalize putK T f = pk at *
  generalize putE T f = pe at *
  clear h hs hr hB hal hq hxl hm
  obtain ⟨fk, fi, fe, fr', f4, f5, f6, f7, f8, f9, data⟩ := f
  dsimp only [frv] at *
  cases k3
  · simp only [Bool.false_and] at hT hA
    obtain ⟨e1, e2, ht4⟩ := hT trivial
    rw [e1, e2]
    clear e1 e2
    have HT4 := Lib.hid ht4
    clear hT hA ht4
    go_enter Try.func56, Try.ntmps56
    go_wp2_with fail
    obtain ⟨W2, q, hw⟩ : ∃ W2, W2.heap[w.heap.size]? = some (.cells #[.int .i64 fk, .int .u32 fi, .bool fe, .bool fr', .bool f4, .bool f5, .bool f6, .int .u8 f7, .int .u8 f8, .int .u32 f9, .slice B m d] 42 (0, 0)) ∧ Below w.heap.size w W2 ∧ W2 = w.alloc (.cells #[.int .i64 fk, .int .u32 fi, .bool fe, .bool fr', .bool f4, .bool f5, .bool f6, .int .u8 f7, .int .u8 f8, .int .u32 f9, .slice B m d] 42) := ⟨_, heap_new_at rfl, below_alloc (Below.refl _ _) _, rfl⟩
    obtain ⟨hw, hW2⟩ := hw
    rw [← hW2]
    clear hW2 c4 z4
    have HW := Lib.hid hw
    have HQ := Lib.hid q
    clear hw q
    obtain ⟨x0, x1, x2, x3, x4, x5, x6, x7, x8, x9, x10⟩ := ext11T HQ.out HPM.out
    refine wp_region_mix (fun w' => ∃ e : ExtT [mb] W2, w' = e.W) [(true, 0), (true, 1), (true, 2), (true, 3), (false, 4), (true, 5), (true, 6), (true, 7), (true, 8), (true, 9)] [] (by kernel_rfl) (by kernel_rfl) (by intro _ _ d _ _ h; cases d <;> exact h) ⟨⟨W2.drew, (Turn.refl _ _).drew⟩, rfl⟩ ?_
    simp only [pickM, pickL, List.drop_succ_cons, List.drop_zero]
    repeat (first | (refine mix_pure (by rfl) (by rfl) ?_; intro K hK; go_big_quiet_op; go_big_quiet_on) | (refine mix_nilc ⟨mb, 0, none⟩ (by rfl) (by kernel_rfl) ?_; go_simp))
    refine mix_eff (by rfl) ?_
    intro K hK
    go_simp
    refine (HQP.out W2.drew (below_trans HW.out (Below.refl _ _).drew)).mono ?_
    rintro e w3 ⟨rfl, ha⟩
    have HA := Lib.hid (RActed.of (below_trans HW.out (Below.refl _ _).drew) ha)
    obtain ⟨fr3, k1, -, k3⟩ := ha
    obtain ⟨x13, z13⟩ := k1.get 13 (.int .i64 T3.put) (fun _ _ _ _ _ _ _ => rfl)
    refine hK _ _ ⟨⟨w3, (Turn.of (Below.refl _ _).drew).tr k3⟩, rfl⟩ ?_
    clear hK K k1 k3 x0 x1 x2 x3 x4 x5 x6 x7 x8 x9 x10
    repeat (refine mix_pure (by rfl) (by rfl) ?_; intro K hK; go_big_quiet_op; go_big_quiet_on)
    refine mix_nil (wpList_nil ?_)
    by_cases he : ke = 0
    · subst he
      go_wp2_with fail
      go_ret2
      refine ⟨rfl, ?_⟩
      rw [HT4.out, if_pos (by trivial)]
      exact HA.out.set 13 _ { T3 with put := T3.put + 1 } ⟨rfl, rfl, rfl, rfl, rfl⟩ (fun _ _ _ _ _ _ _ => rfl)
    · go_wp2_with fail
      go_ret2
      refine ⟨rfl, ?_⟩
      rw [HT4.out, if_neg he]
      exact HA.out
  · have hfk : fk = 3 := by simpa using hk3
    subst hfk
    cases xl
    · cases q
      · simp only [Bool.and_false, Bool.true_and, Bool.not_false] at hT hA
        obtain ⟨e1, e2, ht4⟩ := hT trivial
        rw [e1, e2]
        clear e1 e2
        have HT4 := Lib.hid ht4
        clear hT hA ht4
        go_enter Try.func56, Try.ntmps56
        go_wp2_with fail
        refine calls_blk1 fun W1 q1 hb1 => ?_
        refine (HC.out W1).mono ?_
        rintro e W2 ⟨rfl, hb⟩
        have q := heap_below hb q1
        have hw := below_trans hb1 hb
        clear hb hb1 q1 c4 z4
        simp only [errV, Bool.false_eq_true, if_false]
        go_wp2_with fail
        have HW := Lib.hid hw
        have HQ := Lib.hid q
        clear hw q
        obtain ⟨x0, x1, x2, x3, x4, x5, x6, x7, x8, x9, x10⟩ := ext11T HQ.out HPM.out
        refine wp_region_mix (fun w' => ∃ e : ExtT [mb] W2, w' = e.W) [(true, 0), (true, 1), (true, 2), (true, 3), (false, 4), (true, 5), (true, 6), (true, 7), (true, 8), (true, 9)] [] (by kernel_rfl) (by kernel_rfl) (by intro _ _ d _ _ h; cases d <;> exact h) ⟨⟨W2.drew, (Turn.refl _ _).drew⟩, rfl⟩ ?_
        simp only [pickM, pickL, List.drop_succ_cons, List.drop_zero]
        repeat (first | (refine mix_pure (by rfl) (by rfl) ?_; intro K hK; go_big_quiet_op; go_big_quiet_on) | (refine mix_nilc ⟨mb, 0, none⟩ (by rfl) (by kernel_rfl) ?_; go_simp))
        refine mix_eff (by rfl) ?_
        intro K hK
        go_simp
        refine (HQP.out W2.drew (below_trans HW.out (Below.refl _ _).drew)).mono ?_
        rintro e w3 ⟨rfl, ha⟩
        have HA := Lib.hid (RActed.of (below_trans HW.out (Below.refl _ _).drew) ha)
        obtain ⟨fr3, k1, -, k3⟩ := ha
        obtain ⟨x13, z13⟩ := k1.get 13 (.int .i64 T3.put) (fun _ _ _ _ _ _ _ => rfl)
        refine hK _ _ ⟨⟨w3, (Turn.of (Below.refl _ _).drew).tr k3⟩, rfl⟩ ?_
        clear hK K k1 k3 x0 x1 x2 x3 x4 x5 x6 x7 x8 x9 x10
        repeat (refine mix_pure (by rfl) (by rfl) ?_; intro K hK; go_big_quiet_op; go_big_quiet_on)
        refine mix_nil (wpList_nil ?_)
        by_cases he : ke = 0
        · subst he
          go_wp2_with fail
          go_ret2
          refine ⟨rfl, ?_⟩
          rw [HT4.out, if_pos (by trivial)]
          exact HA.out.set 13 _ { T3 with put := T3.put + 1 } ⟨rfl, rfl, rfl, rfl, rfl⟩ (fun _ _ _ _ _ _ _ => rfl)
        · go_wp2_with fail
          go_ret2
          refine ⟨rfl, ?_⟩
          rw [HT4.out, if_neg he]
          exact HA.out
      · obtain ⟨e1, e2, e3⟩ := hA rfl
        rw [e1, e2, e3]
        clear hT hA e1 e2 e3
        go_enter Try.func56, Try.ntmps56
        go_wp2_with fail
        refine calls_blk1 fun W1 q1 hb1 => ?_
        refine (HC.out W1).mono ?_
        rintro e W2 ⟨rfl, hb⟩
        have q := heap_below hb q1
        have hw := below_trans hb1 hb
        clear hb hb1 q1 c4 z4
        simp only [errV, if_true]
        go_wp2_with fail
        go_ret2
        exact ⟨rfl, .same HBX.out hw⟩
    · simp only [Bool.not_true, Bool.and_false, Bool.false_and] at hT hA
      obtain ⟨e1, e2, ht4⟩ := hT trivial
      rw [e1, e2]
      clear e1 e2
      have HT4 := Lib.hid ht4
      clear hT hA ht4
      go_enter Try.func56, Try.ntmps56
      go_wp2_with fail
      obtain ⟨W2, q, hw⟩ : ∃ W2, W2.heap[w.heap.size]? = some (.cells #[.int .i64 3, .int .u32 fi, .bool fe, .bool fr', .bool f4, .bool f5, .bool f6, .int .u8 f7, .int .u8 f8, .int .u32 f9, .slice B m d] 42 (0, 0)) ∧ Below w.heap.size w W2 ∧ W2 = w.alloc (.cells #[.int .i64 3, .int .u32 fi, .bool fe, .bool fr', .bool f4, .bool f5, .bool f6, .int .u8 f7, .int .u8 f8, .int .u32 f9, .slice B m d] 42) := ⟨_, heap_new_at rfl, below_alloc (Below.refl _ _) _, rfl⟩
      obtain ⟨hw, hW2⟩ := hw
      rw [← hW2]
      clear hW2 c4 z4
      have HW := Lib.hid hw
      have HQ := Lib.hid q
      clear hw q
      obtain ⟨x0, x1, x2, x3, x4, x5, x6, x7, x8, x9, x10⟩ := ext11T HQ.out HPM.out
      refine wp_region_mix (fun w' => ∃ e : ExtT [mb] W2, w' = e.W) [(true, 0), (true, 1), (true, 2), (true, 3), (false, 4), (true, 5), (true, 6), (true, 7), (true, 8), (true, 9)] [] (by kernel_rfl) (by kernel_rfl) (by intro _ _ d _ _ h; cases d <;> exact h) ⟨⟨W2.drew, (Turn.refl _ _).drew⟩, rfl⟩ ?_
      simp only [pickM, pickL, List.drop_succ_cons, List.drop_zero]
      repeat (first | (refine mix_pure (by rfl) (by rfl) ?_; intro K hK; go_big_quiet_op; go_big_quiet_on) | (refine mix_nilc ⟨mb, 0, none⟩ (by rfl) (by kernel_rfl) ?_; go_simp))
      refine mix_eff (by rfl) ?_
      intro K hK
      go_simp
      refine (HQP.out W2.drew (below_trans HW.out (Below.refl _ _).drew)).mono ?_
      rintro e w3 ⟨rfl, ha⟩
      have HA := Lib.hid (RActed.of (below_trans HW.out (Below.refl _ _).drew) ha)
      obtain ⟨fr3, k1, -, k3⟩ := ha
      obtain ⟨x13, z13⟩ := k1.get 13 (.int .i64 T3.put) (fun _ _ _ _ _ _ _ => rfl)
      refine hK _ _ ⟨⟨w3, (Turn.of (Below.refl _ _).drew).tr k3⟩, rfl⟩ ?_
      clear hK K k1 k3 x0 x1 x2 x3 x4 x5 x6 x7 x8 x9 x10
      repeat (refine mix_pure (by rfl) (by rfl) ?_; intro K hK; go_big_quiet_op; go_big_quiet_on)
      refine mix_nil (wpList_nil ?_)
      by_cases he : ke = 0
      · subst he
        go_wp2_with fail
        go_ret2
        refine ⟨rfl, ?_⟩
        rw [HT4.out, if_pos (by trivial)]
        exact HA.out.set 13 _ { T3 with put := T3.put + 1 } ⟨rfl, rfl, rfl, rfl, rfl⟩ (fun _ _ _ _ _ _ _ => rfl)
      · go_wp2_with fail
        go_ret2
        refine ⟨rfl, ?_⟩
        rw [HT4.out, if_neg he]
        exact HA.out
end Go.Proofs.Ytlmdkmflbhnlgaa
namespace Go.Proofs.Ytlmdkmflbhnlgaa
open Go.RowKit
set_option maxRecDepth 100000 in
set_option maxHeartbeats 16000000 in
theorem RBCome_any (w : World) (base mb rc N d m : Nat) (RA B : Option Addr) (fr : List Nat) (T : BX) (f : Fr) (h : RBoxA w base fr mb RA rc N T) (hg : GoodT T) (hs : SmallT T) (hN : N ≤ 1000000) (hbase : base ≤ w.heap.size) (hr : Rd w B (bys f.data)) (hz : B = none → d = 0) (hm : f.data.length = m) (hfi : FrIn f) (hB : ∀ ad, B = some ad → bys f.data ≠ [] → ad.block ≠ mb)
    (hru : RdRu w RA T.rules) (hbk : bankOk T.rules = true) (hwf : ∀ r ∈ T.rules, RuWf r) (hrl : T.rules.length ≤ 9223372036854775807) :
    Calls Try.prog 54 #[.pointer (some ⟨mb, 0, none⟩), frv f (.slice B m d)] w fun e w' => e = .returned (.tuple #[.int .i64 (comeK T f), errV (okF f)]) ∧ RActed w base fr mb RA rc (N + 1) (comeT T f) w' := by
  have HI := Lib.hid (fun W (hb : Below w.heap.size w W) => by
    have := RIn_any RA B T.rules.length rc d m T.els T.rules f W (hru.below hb) rfl hrl hwf hfi hm
    rw [hbk, Bool.true_and] at this
    exact this)
  have HPU := Lib.hid (fun (hq : okF f = true) W fr' T' (h' : RBoxA W base fr' mb RA rc N T') (hi : T'.iroom ≤ 64) (hb : base ≤ W.heap.size) (hr' : Rd W B (bys f.data)) => RBFPush_any W base mb rc N d m RA B fr' T' f h' hi hN hb hr' hz hm hq)
  have HR := Lib.hid hr
  have HBQ := Lib.hid hB
  have HBX := Lib.hid h
  have hmb := (h.foot.2.1 mb h.foot.2.2).2
  have HPM : Hid (w.heap.size ∉ [mb]) := by
    show ¬ _
    simp; omega
  obtain ⟨c2, z2⟩ := h.get 2 (.slice RA T.rules.length rc) (fun _ _ _ _ _ _ _ => rfl)
  obtain ⟨c3, z3⟩ := h.get 3 (.bool T.els) (fun _ _ _ _ _ _ _ => rfl)
  obtain ⟨c16, -⟩ := h.get 16 (.int .i64 T.came) (fun _ _ _ _ _ _ _ => rfl)
  obtain ⟨s1, s2, s3, s4, s5, s6, s7, s8, s9⟩ := hs
  have hir := hg.iroom
  have hcT : comeT T f = if okF f then (if inR T.rules T.els f then (if T.l.length < T.iroom then { T with came := T.came + 1, kept := T.kept + 1, l := T.l ++ [f] } else { T with came := T.came + 1, over := T.over + 1 }) else { T with came := T.came + 1, refused := T.refused + 1 }) else T := rfl
  have hcK : comeK T f = if okF f then (if inR T.rules T.els f then (if T.l.length < T.iroom then 0 else 2) else 1) else 0 := rfl
  generalize comeT T f = T4 at *
  generalize comeK T f = kk at *
  obtain ⟨q, hq⟩ : ∃ q, okF f = q := ⟨_, rfl⟩
  obtain ⟨i, hi⟩ : ∃ i, inR T.rules T.els f = i := ⟨_, rfl⟩
  rw [hq, hi] at HI hcT hcK
  rw [hq]
  have HQ := Lib.hid hq
  have HPT : Hid (∀ T', pT T' f = if T'.l.length < T'.iroom then { T' with l := T'.l ++ [f] } else T') := fun _ => rfl
  have HCT := Lib.hid hcT
  have HCK := Lib.hid hcK
  clear h hg hr hB hq hi hm hru hbk hwf hrl hcT hcK hfi
  obtain ⟨fk, fi, fe, fr', f4, f5, f6, f7, f8, f9, data⟩ := f
  dsimp only [frv] at *
  go_enter Try.func54, Try.ntmps54
  go_wp2_with fail
  obtain ⟨W2, hW2, hw, q2⟩ : ∃ W2, W2 = w.alloc (.cells #[.int .i64 fk, .int .u32 fi, .bool fe, .bool fr', .bool f4, .bool f5, .bool f6, .int .u8 f7, .int .u8 f8, .int .u32 f9, .slice B m d] 42) ∧ Below w.heap.size w W2 ∧ W2.heap[w.heap.size]? = some (.cells #[.int .i64 fk, .int .u32 fi, .bool fe, .bool fr', .bool f4, .bool f5, .bool f6, .int .u8 f7, .int .u8 f8, .int .u32 f9, .slice B m d] 42 (0, 0)) := ⟨_, rfl, below_alloc (Below.refl _ _) _, heap_new_at rfl⟩
  rw [← hW2]
  have HW := Lib.hid hw
  have Q2 := Lib.hid q2
  obtain ⟨x0, x1, x2, x3, x4, x5, x6, x7, x8, x9, x10⟩ := ext11 q2
  have y2 : ∀ e : Ext W2, e.W.cell? ⟨mb, 2, none⟩ = some (.slice RA T.rules.length rc) := fun e => ext_cell (Below.cell_of hw c2) e
  have y3 : ∀ e : Ext W2, e.W.cell? ⟨mb, 3, none⟩ = some (.bool T.els) := fun e => ext_cell (Below.cell_of hw c3) e
  clear hW2 hw q2 c2 c3 z2 z3 c16
  refine wp_region_mix (fun w' => ∃ e : Ext W2, w' = e.W) [(true, 0), (true, 1), (true, 2), (true, 3), (true, 4), (true, 5), (false, 6), (true, 7), (true, 8), (true, 9), (true, 10), (true, 11)] [] (by kernel_rfl) (by kernel_rfl) (by intro _ _ d _ _ h; cases d <;> exact h) ⟨⟨W2.drew, (Below.refl _ _).drew⟩, rfl⟩ ?_
  simp only [pickM, pickL, List.drop_succ_cons, List.drop_zero]
  repeat (first | (refine mix_pure (by rfl) (by rfl) ?_; intro K hK; go_big_quiet_op; go_big_quiet_on) | (refine mix_nilc ⟨mb, 0, none⟩ (by rfl) (by kernel_rfl) ?_; go_simp))
  refine mix_eff (by rfl) ?_
  intro K hK
  go_simp
  refine (HI.out W2.drew (below_trans HW.out (Below.refl _ _).drew)).mono ?_
  rintro e w3 ⟨rfl, hb3⟩
  have hb23 : Below W2.heap.size W2 w3 := below_trans (Below.refl _ _).drew hb3
  refine hK _ _ ⟨⟨w3, hb23⟩, rfl⟩ ?_
  clear hK K
  have HB3 := Lib.hid (below_trans HW.out hb23)
  have Q3 := Lib.hid (heap_below hb23 Q2.out)
  clear hb3 hb23 y2 y3 x0 x1 x2 x3 x4 x5 x6 x7 x8 x9 x10
  repeat (refine mix_pure (by rfl) (by rfl) ?_; intro K hK; go_big_quiet_op; go_big_quiet_on)
  refine mix_nil (wpList_nil ?_)
  cases q
  · simp only [errV, Bool.false_and, Bool.false_eq_true, if_false] at HCT HCK ⊢
    go_wp2_with fail
    go_ret2
    refine ⟨by have e := HCK.out; subst e; rfl, ?_⟩
    rw [HCT.out]
    exact .same (HBX.out.mono (by omega)) HB3.out
  · simp only [errV, Bool.true_and, if_true] at HCT HCK ⊢
    have HBX3 := Lib.hid (HBX.out.below HB3.out)
    obtain ⟨c16, z16⟩ := HBX3.out.get 16 (.int .i64 T.came) (fun _ _ _ _ _ _ _ => rfl)
    have HA1 := Lib.hid ((RActed.same HBX.out HB3.out).set 16 (.int .i64 ((T.came : Int) + 1)) { T with came := T.came + 1 } ⟨rfl, rfl, rfl, rfl, rfl⟩ (fun _ _ _ _ _ _ _ => rfl))
    have HQ1 : Hid ((w3.setCell ⟨mb, 16, none⟩ (.int .i64 ((T.came : Int) + 1))).heap[w.heap.size]? = some (.cells #[.int .i64 fk, .int .u32 fi, .bool fe, .bool fr', .bool f4, .bool f5, .bool f6, .int .u8 f7, .int .u8 f8, .int .u32 f9, .slice B m d] 42 (0, 0))) := (Turn.setCell (p := ⟨mb, 16, none⟩) (Turn.refl [mb] w3) (.inl (by simp)) _).heap Q3.out HPM.out
    cases i
    · simp only [Bool.false_eq_true, if_false] at HCT HCK
      have HBX4 := Lib.hid ((HBX3.out.set 16 (.int .i64 ((T.came : Int) + 1)) { T with came := T.came + 1 } ⟨rfl, rfl, rfl, rfl, rfl⟩ (fun _ _ _ _ _ _ _ => rfl)).1)
      obtain ⟨c18, z18⟩ := HBX3.out.get 18 (.int .i64 T.refused) (fun _ _ _ _ _ _ _ => rfl)
      go_wp2_with fail
      go_ret2
      refine ⟨by have e := HCK.out; subst e; rfl, ?_⟩
      rw [HCT.out]
      obtain ⟨fr2, k1, k2, k3⟩ := HA1.out.set 18 (.int .i64 ((T.refused : Int) + 1)) { T with came := T.came + 1, refused := T.refused + 1 } ⟨rfl, rfl, rfl, rfl, rfl⟩ (fun _ _ _ _ _ _ _ => rfl)
      exact ⟨fr2, k1.mono (by omega), k2, k3⟩
    · simp only [if_true] at HCT HCK
      go_wp2_with fail
      generalize w3.setCell ⟨mb, 16, none⟩ (.int .i64 ((T.came : Int) + 1)) = W5 at HA1 HQ1 ⊢
      clear c16 z16
      obtain ⟨x0, x1, x2, x3, x4, x5, x6, x7, x8, x9, x10⟩ := ext11T HQ1.out HPM.out
      refine wp_region_mix (fun w' => ∃ e : ExtT [mb] W5, w' = e.W) [(true, 0), (true, 1), (true, 2), (true, 3), (false, 4), (true, 5), (true, 6), (true, 7), (true, 8), (true, 9)] [] (by kernel_rfl) (by kernel_rfl) (by intro _ _ d _ _ h; cases d <;> exact h) ⟨⟨W5.drew, (Turn.refl _ _).drew⟩, rfl⟩ ?_
      simp only [pickM, pickL, List.drop_succ_cons, List.drop_zero]
      repeat (first | (refine mix_pure (by rfl) (by rfl) ?_; intro K hK; go_big_quiet_op; go_big_quiet_on) | (refine mix_nilc ⟨mb, 0, none⟩ (by rfl) (by kernel_rfl) ?_; go_simp))
      have HA2 := Lib.hid (HA1.out.step (Below.refl _ W5).drew)
      obtain ⟨fr5, k1, k2, k3⟩ := HA2.out
      have hbw : base ≤ W5.drew.heap.size := Nat.le_trans hbase k3.size
      have hrd5 : Rd W5.drew B (bys data) := HR.out.turnB k3 (fun ad e hne hm => HBQ.out ad e hne (by simpa using hm))
      have HPU5 := Lib.hid (HPU.out HQ.out W5.drew fr5 _ k1 hir hbw hrd5)
      have HPT5 := Lib.hid (HPT.out { T with came := T.came + 1 })
      have K2 := Lib.hid k2
      have K3 := Lib.hid k3
      clear k1 k2 k3 hbw hrd5
      generalize pT { T with came := T.came + 1 } _ = T5 at HPU5 HPT5
      dsimp only at HPU5 HPT5
      refine mix_eff (by rfl) ?_
      intro K hK
      go_simp
      refine HPU5.out.mono ?_
      rintro e w6 ⟨rfl, ha⟩
      obtain ⟨fr6, j1, j2, j3⟩ := ha
      refine hK _ _ ⟨⟨w6, (Turn.refl [mb] W5).drew.tr j3⟩, rfl⟩ ?_
      clear hK K x0 x1 x2 x3 x4 x5 x6 x7 x8 x9 x10
      have HA6 : Hid (RActed w base fr mb RA rc (N + 1) T5 w6) := ⟨fr6, j1, fun k hk => (j2 k hk).elim (K2.out k) (fun h => .inr (Nat.le_trans K3.out.size h)), K3.out.tr j3⟩
      by_cases hl : T.l.length < T.iroom
      · simp only [if_pos hl] at HCT HCK HPT5
        have hp5 := HPT5.out
        subst hp5
        simp only [decide_eq_true hl]
        repeat (refine mix_pure (by rfl) (by rfl) ?_; intro K hK; go_big_quiet_op; go_big_quiet_on)
        refine mix_nil (wpList_nil ?_)
        obtain ⟨c17, z17⟩ := j1.get 17 (.int .i64 T.kept) (fun _ _ _ _ _ _ _ => rfl)
        clear j1 j2 j3
        go_wp2_with fail
        go_ret2
        refine ⟨by have e := HCK.out; subst e; rfl, ?_⟩
        rw [HCT.out]
        exact HA6.out.set 17 _ _ ⟨rfl, rfl, rfl, rfl, rfl⟩ (fun _ _ _ _ _ _ _ => rfl)
      · simp only [if_neg hl] at HCT HCK HPT5
        have hp5 := HPT5.out
        subst hp5
        simp only [decide_eq_false hl]
        repeat (refine mix_pure (by rfl) (by rfl) ?_; intro K hK; go_big_quiet_op; go_big_quiet_on)
        refine mix_nil (wpList_nil ?_)
        obtain ⟨c19, z19⟩ := j1.get 19 (.int .i64 T.over) (fun _ _ _ _ _ _ _ => rfl)
        clear j1 j2 j3
        go_wp2_with fail
        go_ret2
        refine ⟨by have e := HCK.out; subst e; rfl, ?_⟩
        rw [HCT.out]
        exact HA6.out.set 19 _ _ ⟨rfl, rfl, rfl, rfl, rfl⟩ (fun _ _ _ _ _ _ _ => rfl)
end Go.Proofs.Ytlmdkmflbhnlgaa
namespace Go.Proofs.Ytlmdkmflbhnlgaa
open Go.RowKit
/-- While Take fills its result. -/
def TkI (w w1 : World) (base : Nat) (fr : List Nat) (mb : Nat) (RA : Option Addr) (rc N : Nat) (T : BX) (A : Option Addr) (c : Nat) (xs : List Value) : Prop :=
  ∃ fr', RBoxA w1 base fr' mb RA rc N T ∧ (∀ k ∈ fr', k ∈ fr ∨ w.heap.size < k) ∧ Turn [mb] w w1 ∧ (∃ cs, w1.heap[w.heap.size]? = some (.cells cs 42 (0, 0))) ∧ Row w1 base 5 A c xs
theorem TkI.set0 {w w1 : World} {base mb rc N c : Nat} {RA A : Option Addr} {fr : List Nat} {T : BX} {xs : List Value} (h : TkI w w1 base fr mb RA rc N T A c xs) (hfr : ∀ k ∈ fr, k < w.heap.size) (i : Nat) (v : Value) : TkI w (w1.setCell ⟨w.heap.size, i, none⟩ v) base fr mb RA rc N T A c xs := by
  obtain ⟨fr', h1, h2, h3, ⟨cs, h4⟩, h5⟩ := h
  have ht : Turn [w.heap.size] w1 (w1.setCell ⟨w.heap.size, i, none⟩ v) := (Turn.refl _ _).setCell (.inl (by simp)) _
  have hf : Foot [w.heap.size] w1 := fun k hk => by rw [List.mem_singleton.1 hk]; exact ⟨_, _, _, h4, by decide, by decide⟩
  refine ⟨fr', h1.turn ht hf (fun k hk hm => ?_), h2, h3.trans ht (fun x hx => .inr (by rw [List.mem_singleton.1 hx]; exact Nat.le_refl _)), ⟨_, heap_setCell h4 i v⟩, h5.turn_ty ht hf.bytes⟩
  rw [List.mem_singleton.1 hm] at hk
  rcases h2 _ hk with h6 | h6
  · have := hfr _ h6; omega
  · omega
theorem TkI.step {w w1 w2 : World} {base mb rc N c : Nat} {RA A : Option Addr} {fr : List Nat} {T : BX} {xs : List Value} (h : TkI w w1 base fr mb RA rc N T A c xs) (hb : Below w1.heap.size w1 w2) : TkI w w2 base fr mb RA rc N T A c xs := by
  obtain ⟨fr', h1, h2, h3, ⟨cs, h4⟩, h5⟩ := h
  exact ⟨fr', h1.below hb, h2, h3.tr (Turn.of hb), ⟨cs, heap_below hb h4⟩, h5.below hb⟩
theorem TkI.set20 {w w1 : World} {base mb rc N c : Nat} {RA A : Option Addr} {fr : List Nat} {T : BX} {xs : List Value} (h : TkI w w1 base fr mb RA rc N T A c xs) (hmb : mb < w.heap.size) : TkI w (w1.setCell ⟨mb, 20, none⟩ (.int .i64 ((T.taken : Int) + 1))) base fr mb RA rc N { T with taken := T.taken + 1 } A c xs := by
  obtain ⟨fr', h1, h2, h3, ⟨cs, h4⟩, h5⟩ := h
  obtain ⟨k1, k2⟩ := h1.set 20 (.int .i64 ((T.taken : Int) + 1)) { T with taken := T.taken + 1 } ⟨rfl, rfl, rfl, rfl, rfl⟩ (fun _ _ _ _ _ _ _ => rfl)
  exact ⟨fr', k1, h2, h3.tr k2, ⟨cs, k2.heap h4 (by simp; omega)⟩, h5.turn_ty k2 h1.foot.1.bytes⟩
theorem TkI.fin {w w1 : World} {base mb rc N c : Nat} {RA A : Option Addr} {fr : List Nat} {T : BX} {xs : List Value} (h : TkI w w1 base fr mb RA rc N T A c xs) : RActed w base fr mb RA rc N T w1 ∧ Row w1 base 5 A c xs := by
  obtain ⟨fr', h1, h2, h3, _, h5⟩ := h
  exact ⟨⟨fr', h1, fun k hk => (h2 k hk).imp id Nat.le_of_lt, h3⟩, h5⟩
/-- What Take answers and leaves. -/
def RTakeOf (w : World) (base : Nat) (fr : List Nat) (mb : Nat) (RA : Option Addr) (rc N : Nat) (T : BX) (e : Ending) (w' : World) : Prop :=
  RActed w base fr mb RA rc N (takeT T) w' ∧ ((T.l = [] ∧ e = .returned (.tuple #[.agg zfL.toArray, .int .i64 9])) ∨ ∃ (s : SF) (r : List Fr), T.l = s.f :: r ∧ e = .returned (.tuple #[.agg (frL s).toArray, .int .i64 0]) ∧ Row w' base 5 s.A s.c (bys s.f.data))
set_option maxRecDepth 100000 in
set_option maxHeartbeats 16000000 in
theorem RBTake_any (w : World) (base mb rc N : Nat) (RA : Option Addr) (fr : List Nat) (T : BX) (h : RBoxA w base fr mb RA rc N T) (hi : T.l.length ≤ 1000) (hs : T.taken ≤ 1000000) :
    Calls Try.prog 55 #[.pointer (some ⟨mb, 0, none⟩)] w (RTakeOf w base fr mb RA rc N T) := by
  have HP := Lib.hid (fun W (hb : Below w.heap.size w W) => RBFPop_any W base mb rc N RA fr T (h.below hb) hi)
  have hfr := h.foot.2.1
  have hmb := (h.foot.2.1 mb h.foot.2.2).2
  have HFR : Hid (∀ k ∈ fr, k < w.heap.size) := fun k hk => (hfr k hk).2
  clear h hfr
  go_enter Try.func55, Try.ntmps55
  go_wp2_with fail
  refine calls_blk1 fun W1 q1 hb1 => ?_
  have hz1 : W1.heap.size > w.heap.size := heap_lt q1
  refine (HP.out W1 hb1).mono ?_
  rintro e w2 ⟨he, fr2, k1, k2, k3⟩
  have hq2 := k3.heap q1 (by simp; omega)
  have hz2 : w.heap.size < w2.heap.size := heap_lt hq2
  have hmb2 : mb < w2.heap.size := by omega
  obtain ⟨x20, z20⟩ := k1.get 20 (.int .i64 T.taken) (fun _ _ _ _ _ _ _ => rfl)
  have HT0 : ∀ A c xs, Row w2 base 5 A c xs → Hid (TkI w w2 base fr mb RA rc N (rT T) A c xs) := fun A c xs hr => ⟨fr2, k1, fun k hk => (k2 k hk).imp id (fun h => by omega), (Turn.of hb1).tr k3, ⟨_, hq2⟩, hr⟩
  have HQ2 := Lib.hid hq2
  clear q1 hb1 k1 k2 k3 hq2
  rcases he with ⟨hl, rfl⟩ | ⟨s, r, hl, rfl, hrow⟩
  · have HK := HT0 none 0 [] (Row.nil _ _ _)
    have hTT : takeT T = rT T := by
      have h1 : takeT T = T := by unfold takeT; rw [hl]
      have h2 : rT T = T := by unfold rT; rw [hl]; cases T; simp at hl; subst hl; rfl
      rw [h1, h2]
    have HTT := Lib.hid hTT
    have HL := Lib.hid hl
    clear HT0 hTT hl
    unfold zfL
    go_upto_region 4 with (fail)
    obtain ⟨W5, hW5⟩ : ∃ W5, (w2).alloc (.cells #[.int .i64 0, .int .u32 0, .bool false, .bool false, .bool false, .bool false, .bool false, .int .u8 0, .int .u8 0, .int .u32 0, .slice none 0 0] 42) = W5 := ⟨_, rfl⟩
    have HT5 := Lib.hid (TkI.step HK.out (below_alloc (Below.refl _ (w2)) (.cells #[.int .i64 0, .int .u32 0, .bool false, .bool false, .bool false, .bool false, .bool false, .int .u8 0, .int .u8 0, .int .u32 0, .slice none 0 0] 42)))
    have q4 : W5.heap[w2.heap.size]? = some (.cells #[.int .i64 0, .int .u32 0, .bool false, .bool false, .bool false, .bool false, .bool false, .int .u8 0, .int .u8 0, .int .u32 0, .slice none 0 0] 42 (0, 0)) := by rw [← hW5]; exact heap_new_at (by rfl)
    have q5 : W5.heap[w.heap.size]? = some (.cells #[.int .i64 0, .int .u32 0, .bool false, .bool false, .bool false, .bool false, .bool false, .int .u8 0, .int .u8 0, .int .u32 0, .slice none 0 0] 42 (0, 0)) := by rw [← hW5]; exact heap_push (HQ2.out)
    rw [hW5] at HT5 ⊢
    obtain ⟨b0, b1, b2, b3, b4, b5, b6, b7, b8, b9, b10⟩ := cells11 q4
    obtain ⟨a0, a1, a2, a3, a4, a5, a6, a7, a8, a9, a10⟩ := cells11 q5
    have zb : ∀ o, W5.frozen? ⟨w.heap.size, o, none⟩ = false := fun o => by simp [World.frozen?, q5]
    have hz5 : w.heap.size < W5.heap.size := heap_lt q5
    have hne5 : w2.heap.size ≠ w.heap.size := by omega
    clear q4 q5 hW5 x20 z20
    go_wp2_with fail
    refine bodyPost_ret (v := .tuple #[.agg #[.int .i64 0, .int .u32 0, .bool false, .bool false, .bool false, .bool false, .bool false, .int .u8 0, .int .u8 0, .int .u32 0, .slice none 0 0], .int .i64 9]) (by simp [results, Try.results55, go_sem, *]) rfl ⟨?_, .inl ⟨HL.out, rfl⟩⟩
    rw [HTT.out]
    refine (TkI.fin (A := none) (c := 0) (xs := []) ?_).1
    iterate 11 refine TkI.set0 ?_ HFR.out _ _
    exact HT5.out
  · have HK := HT0 s.A s.c _ hrow
    have hTT : takeT T = { rT T with taken := (rT T).taken + 1 } := by unfold takeT rT; rw [hl]; rfl
    have HTT := Lib.hid hTT
    have HL := Lib.hid hl
    clear HT0 hTT hl hrow
    simp only [frL]
    go_upto_region 4 with (fail)
    obtain ⟨W5, hW5⟩ : ∃ W5, (w2.setCell ⟨mb, 20, none⟩ (.int .i64 ((T.taken : Int) + 1))).alloc (.cells #[.int .i64 s.f.kind, .int .u32 s.f.id, .bool s.f.ext, .bool s.f.rtr, .bool s.f.brs, .bool s.f.esi, .bool s.f.sec, .int .u8 s.f.sdt, .int .u8 s.f.vcid, .int .u32 s.f.af, .slice s.A s.f.data.length s.c] 42) = W5 := ⟨_, rfl⟩
    have HT5 := Lib.hid (TkI.step (HK.out.set20 hmb) (below_alloc (Below.refl _ (w2.setCell ⟨mb, 20, none⟩ (.int .i64 ((T.taken : Int) + 1)))) (.cells #[.int .i64 s.f.kind, .int .u32 s.f.id, .bool s.f.ext, .bool s.f.rtr, .bool s.f.brs, .bool s.f.esi, .bool s.f.sec, .int .u8 s.f.sdt, .int .u8 s.f.vcid, .int .u32 s.f.af, .slice s.A s.f.data.length s.c] 42)))
    have q4 : W5.heap[w2.heap.size]? = some (.cells #[.int .i64 s.f.kind, .int .u32 s.f.id, .bool s.f.ext, .bool s.f.rtr, .bool s.f.brs, .bool s.f.esi, .bool s.f.sec, .int .u8 s.f.sdt, .int .u8 s.f.vcid, .int .u32 s.f.af, .slice s.A s.f.data.length s.c] 42 (0, 0)) := by rw [← hW5]; exact heap_new_at (by rw [nblk])
    have q5 : W5.heap[w.heap.size]? = some (.cells #[.int .i64 0, .int .u32 0, .bool false, .bool false, .bool false, .bool false, .bool false, .int .u8 0, .int .u8 0, .int .u32 0, .slice none 0 0] 42 (0, 0)) := by rw [← hW5]; exact heap_push ((Turn.setCell (p := ⟨mb, 20, none⟩) (Turn.refl [mb] w2) (.inl (by simp)) _).heap HQ2.out (by simp; omega))
    rw [hW5] at HT5 ⊢
    obtain ⟨b0, b1, b2, b3, b4, b5, b6, b7, b8, b9, b10⟩ := cells11 q4
    obtain ⟨a0, a1, a2, a3, a4, a5, a6, a7, a8, a9, a10⟩ := cells11 q5
    have zb : ∀ o, W5.frozen? ⟨w.heap.size, o, none⟩ = false := fun o => by simp [World.frozen?, q5]
    have hz5 : w.heap.size < W5.heap.size := heap_lt q5
    have hne5 : w2.heap.size ≠ w.heap.size := by omega
    clear q4 q5 hW5 x20 z20
    go_wp2_with fail
    have hfin : ∀ w', TkI w w' base fr mb RA rc N { rT T with taken := (rT T).taken + 1 } s.A s.c (bys s.f.data) → RTakeOf w base fr mb RA rc N T (.returned (.tuple #[.agg #[.int .i64 s.f.kind, .int .u32 s.f.id, .bool s.f.ext, .bool s.f.rtr, .bool s.f.brs, .bool s.f.esi, .bool s.f.sec, .int .u8 s.f.sdt, .int .u8 s.f.vcid, .int .u32 s.f.af, .slice s.A s.f.data.length s.c], .int .i64 0])) w' := fun w' hk => by
      refine ⟨by rw [HTT.out]; exact hk.fin.1, .inr ⟨s, r, HL.out, rfl, hk.fin.2⟩⟩
    refine bodyPost_ret (v := .tuple #[.agg #[.int .i64 s.f.kind, .int .u32 s.f.id, .bool s.f.ext, .bool s.f.rtr, .bool s.f.brs, .bool s.f.esi, .bool s.f.sec, .int .u8 s.f.sdt, .int .u8 s.f.vcid, .int .u32 s.f.af, .slice s.A s.f.data.length s.c], .int .i64 0]) (by simp [results, Try.results55, go_sem, *]) rfl (hfin _ ?_)
    iterate 11 refine TkI.set0 ?_ HFR.out _ _
    exact HT5.out
end Go.Proofs.Ytlmdkmflbhnlgaa
namespace Go.Proofs.Ytlmdkmflbhnlgaa
open Go.RowKit
theorem cells10n {w : World} {g : Nat} {v0 v1 v2 v3 v4 v5 v6 v7 v8 v9 : Value} {t : TypeId} {fr : Nat × Nat} (h : w.heap[g]? = some (.cells #[v0, v1, v2, v3, v4, v5, v6, v7, v8, v9] t fr)) :
    w.cell? ⟨g, 0, none⟩ = some v0 ∧ w.cell? ⟨g, 1, none⟩ = some v1 ∧ w.cell? ⟨g, 2, none⟩ = some v2 ∧ w.cell? ⟨g, 3, none⟩ = some v3 ∧ w.cell? ⟨g, 4, none⟩ = some v4 ∧ w.cell? ⟨g, 5, none⟩ = some v5 ∧ w.cell? ⟨g, 6, none⟩ = some v6 ∧ w.cell? ⟨g, 7, none⟩ = some v7 ∧ w.cell? ⟨g, 8, none⟩ = some v8 ∧ w.cell? ⟨g, 9, none⟩ = some v9 :=
  ⟨cell_of_heap h 0 _ rfl, cell_of_heap h 1 _ rfl, cell_of_heap h 2 _ rfl, cell_of_heap h 3 _ rfl, cell_of_heap h 4 _ rfl, cell_of_heap h 5 _ rfl, cell_of_heap h 6 _ rfl, cell_of_heap h 7 _ rfl, cell_of_heap h 8 _ rfl, cell_of_heap h 9 _ rfl⟩
set_option maxRecDepth 100000 in
set_option maxHeartbeats 16000000 in
theorem RBReport_any (w : World) (base mb rc N : Nat) (RA : Option Addr) (fr : List Nat) (T : BX) (h : RBoxA w base fr mb RA rc N T) :
    Calls Try.prog 27 #[.pointer (some ⟨mb, 0, none⟩)] w fun e w' => e = .returned (.agg (repL T).toArray) ∧ Below w.heap.size w w' := by
  have hmb := (h.foot.2.1 mb h.foot.2.2).2
  obtain ⟨qA, qc, L, fo, fA, fc, F, h1, hfo, rfl⟩ := h
  have hbx := h1.q.box
  have hL : L.length = T.q.length := by rw [← h1.ql, List.length_map]
  have hF : F.length = T.l.length := by rw [← h1.fl, List.length_map]
  rw [hL, hF] at hbx
  have HBX := Lib.hid hbx
  have c11 := cell_of_heap hbx 11 (.int .i64 0) rfl
  have c12 := cell_of_heap hbx 12 (.int .i64 0) rfl
  have c13 := cell_of_heap hbx 13 (.int .i64 T.put) rfl
  have c14 := cell_of_heap hbx 14 (.int .i64 T.sent) rfl
  have c15 := cell_of_heap hbx 15 (.int .i64 T.gone) rfl
  have c16 := cell_of_heap hbx 16 (.int .i64 T.came) rfl
  have c17 := cell_of_heap hbx 17 (.int .i64 T.kept) rfl
  have c18 := cell_of_heap hbx 18 (.int .i64 T.refused) rfl
  have c19 := cell_of_heap hbx 19 (.int .i64 T.over) rfl
  have c20 := cell_of_heap hbx 20 (.int .i64 T.taken) rfl
  obtain ⟨nq', hnq⟩ : ∃ n, T.q.length = n := ⟨_, rfl⟩
  obtain ⟨nl, hnl⟩ : ∃ n, T.l.length = n := ⟨_, rfl⟩
  rw [hnq, hnl] at HBX
  have hrep : (repL T).toArray = #[.int .i64 nq', .int .i64 nl, .int .i64 T.put, .int .i64 T.sent, .int .i64 T.gone, .int .i64 T.came, .int .i64 T.kept, .int .i64 T.refused, .int .i64 T.over, .int .i64 T.taken] := by unfold repL; rw [hnq, hnl]
  rw [hrep]
  clear h1 hbx hL hF hfo hnq hnl hrep
  go_enter Try.func27, Try.ntmps27
  go_wp2_with fail
  clear c11 c12 c13 c14 c15 c16 c17 c18 c19 c20
  obtain ⟨W2, hW2, q1, q2, hb⟩ : ∃ W2, W2 = (w.alloc (.cells #[.int .i64 0, .int .i64 0, .int .i64 0, .int .i64 0, .int .i64 0, .int .i64 0, .int .i64 0, .int .i64 0, .int .i64 0, .int .i64 0] 75)).alloc (.cells #[.int .i64 0, .int .i64 0, .int .i64 T.put, .int .i64 T.sent, .int .i64 T.gone, .int .i64 T.came, .int .i64 T.kept, .int .i64 T.refused, .int .i64 T.over, .int .i64 T.taken] 75) ∧
      W2.heap[w.heap.size]? = some (.cells #[.int .i64 0, .int .i64 0, .int .i64 0, .int .i64 0, .int .i64 0, .int .i64 0, .int .i64 0, .int .i64 0, .int .i64 0, .int .i64 0] 75 (0, 0)) ∧
      W2.heap[w.heap.size + 1]? = some (.cells #[.int .i64 0, .int .i64 0, .int .i64 T.put, .int .i64 T.sent, .int .i64 T.gone, .int .i64 T.came, .int .i64 T.kept, .int .i64 T.refused, .int .i64 T.over, .int .i64 T.taken] 75 (0, 0)) ∧ Below w.heap.size w W2 :=
    ⟨_, rfl, heap_push (heap_new_at rfl), heap_new_at (by simp), below_alloc (below_alloc (Below.refl _ _) _) _⟩
  rw [← hW2]
  have HB2 := Lib.hid hb
  have Q1 := Lib.hid q1
  have Q2 := Lib.hid q2
  have hB2 := heap_below hb HBX.out
  have hne : mb ∉ [w.heap.size + 1] := by simp; omega
  have x7 : ∀ e : ExtT [w.heap.size + 1] W2, e.W.cell? ⟨mb, 7, none⟩ = some (.slice qA nq' qc) := fun e => extT_cell (cell_of_heap hB2 7 _ rfl) hne e
  have x10 : ∀ e : ExtT [w.heap.size + 1] W2, e.W.cell? ⟨mb, 10, none⟩ = some (.slice fA nl fc) := fun e => extT_cell (cell_of_heap hB2 10 _ rfl) hne e
  have a0 : W2.cell? ⟨w.heap.size + 1, 0, none⟩ = some (.int .i64 0) := cell_of_heap q2 0 _ rfl
  have a1 : W2.cell? ⟨w.heap.size + 1, 1, none⟩ = some (.int .i64 0) := cell_of_heap q2 1 _ rfl
  have z2 : ∀ k, W2.frozen? ⟨w.heap.size + 1, k, none⟩ = false := fun k => by simp [World.frozen?, q2]
  have a0' : W2.drew.cell? ⟨w.heap.size + 1, 0, none⟩ = some (.int .i64 0) := a0
  have a1' : W2.drew.cell? ⟨w.heap.size + 1, 1, none⟩ = some (.int .i64 0) := a1
  have z2' : ∀ k, W2.drew.frozen? ⟨w.heap.size + 1, k, none⟩ = false := z2
  clear hW2 q1 q2 hb hB2
  refine wp_region_mix (fun w' => ∃ e : ExtT [w.heap.size + 1] W2, w' = e.W) [(true, 0), (true, 1), (true, 2), (true, 3), (true, 4), (true, 5), (true, 6), (true, 7), (true, 8), (true, 9), (true, 10), (true, 11), (true, 12), (false, 13), (true, 14)] [15] (by kernel_rfl) (by kernel_rfl) (by intro _ _ d _ _ h; cases d <;> exact h) ⟨⟨W2.drew, (Turn.refl _ _).drew⟩, rfl⟩ ?_
  simp only [pickM, pickL, List.drop_succ_cons, List.drop_zero]
  repeat (first | (refine mix_pure (by rfl) (by rfl) ?_; intro K hK; go_big_quiet_op; go_big_quiet_on) | (refine mix_nilc ⟨mb, 0, none⟩ (by rfl) (by kernel_rfl) ?_; go_simp))
  refine mix_eff (by rfl) ?_
  intro K hK
  go_simp
  refine hK _ _ ⟨⟨_, ((Turn.refl _ _).drew.setCell (.inl (by simp)) _)⟩, rfl⟩ ?_
  clear hK K
  repeat (first | (refine mix_pure (by rfl) (by rfl) ?_; intro K hK; go_big_quiet_op; go_big_quiet_on) | (refine mix_nilc ⟨mb, 0, none⟩ (by rfl) (by kernel_rfl) ?_; go_simp))
  refine mix_nil ?_
  obtain ⟨V3, hV3⟩ : ∃ V3, (W2.setCell ⟨w.heap.size + 1, 0, none⟩ (.int .i64 nq')).drew = V3 := ⟨_, rfl⟩
  have t3 : Turn [w.heap.size + 1] W2 V3 := by rw [← hV3]; exact ((Turn.refl _ _).setCell (.inl (by simp)) _).drew
  have q3 : V3.heap[w.heap.size + 1]? = some (.cells #[.int .i64 nq', .int .i64 0, .int .i64 T.put, .int .i64 T.sent, .int .i64 T.gone, .int .i64 T.came, .int .i64 T.kept, .int .i64 T.refused, .int .i64 T.over, .int .i64 T.taken] 75 (0, 0)) := by rw [← hV3]; exact heap_setCell Q2.out 0 _
  have HT3 := Lib.hid t3
  have Q3 := Lib.hid q3
  rw [hV3]
  have d1 : V3.cell? ⟨w.heap.size + 1, 1, none⟩ = some (.int .i64 0) := cell_of_heap q3 1 _ rfl
  have d2 : ∀ k, V3.frozen? ⟨w.heap.size + 1, k, none⟩ = false := fun k => by simp [World.frozen?, q3]
  clear hV3 t3 q3 a0 a1 z2 a0' a1' z2' x7 x10
  refine wpList_plain rfl fun K hK => ?_
  go_simp
  refine hK _ _ ?_
  clear hK K d1 d2
  obtain ⟨V4, hV4⟩ : ∃ V4, V3.setCell ⟨w.heap.size + 1, 1, none⟩ (.int .i64 nl) = V4 := ⟨_, rfl⟩
  have t4 : Turn [w.heap.size + 1] V3 V4 := by rw [← hV4]; exact (Turn.refl _ _).setCell (.inl (by simp)) _
  have q4 : V4.heap[w.heap.size + 1]? = some (.cells #[.int .i64 nq', .int .i64 nl, .int .i64 T.put, .int .i64 T.sent, .int .i64 T.gone, .int .i64 T.came, .int .i64 T.kept, .int .i64 T.refused, .int .i64 T.over, .int .i64 T.taken] 75 (0, 0)) := by rw [← hV4]; exact heap_setCell Q3.out 1 _
  have q5 := t4.heap (HT3.out.heap Q1.out (by simp)) (by simp)
  have HB4 : Hid (Below w.heap.size w V4) := HB2.out.trans ((HT3.out.tr t4).below (by simp) HB2.out.size)
  rw [hV4]
  obtain ⟨b0, b1, b2, b3, b4, b5, b6, b7, b8, b9⟩ := cells10n q4
  obtain ⟨a0, a1, a2, a3, a4, a5, a6, a7, a8, a9⟩ := cells10n q5
  have zb : ∀ o, V4.frozen? ⟨w.heap.size, o, none⟩ = false := fun o => by simp [World.frozen?, q5]
  clear hV4 t4 q4 q5
  go_wp2_with fail
  refine bodyPost_ret (v := .agg #[.int .i64 nq', .int .i64 nl, .int .i64 T.put, .int .i64 T.sent, .int .i64 T.gone, .int .i64 T.came, .int .i64 T.kept, .int .i64 T.refused, .int .i64 T.over, .int .i64 T.taken]) (by simp [results, Try.results27, go_sem, *]) rfl ⟨rfl, ?_⟩
  iterate 10 refine Below.setCell ?_ (by simp) _
  exact HB4.out
end Go.Proofs.Ytlmdkmflbhnlgaa
namespace Go.Proofs.Ytlmdkmflbhnlgaa
open Go.RowKit
/-- They lie side by side. -/
structure Both (w0 wr : World) (base N : Nat) (ft : List Nat) (b : Nat) (Ta : BX) (M : Nat) (fr : List Nat) (mb : Nat) (RA : Option Addr) (rc : Nat) (Tm : BX) : Prop where
  a : BoxA wr base N ft b Ta
  m : RBoxA wr base fr mb RA rc M Tm
  dis : ∀ k ∈ fr, k ∉ ft
  below : Below w0.heap.size w0 wr
theorem Both.step {w0 wr wr' : World} {base N b M mb rc : Nat} {ft fr : List Nat} {RA : Option Addr} {Ta Tm : BX} (h : Both w0 wr base N ft b Ta M fr mb RA rc Tm) (hb : Below wr.heap.size wr wr') : Both w0 wr' base N ft b Ta M fr mb RA rc Tm :=
  ⟨h.a.below hb, h.m.below hb, h.dis, below_trans h.below hb⟩
theorem Both.actA {w0 wr wr' : World} {base N N' b M mb rc : Nat} {ft fr : List Nat} {RA : Option Addr} {Ta Tm T' : BX} (h : Both w0 wr base N ft b Ta M fr mb RA rc Tm) (hlo : w0.heap.size ≤ base) (ha : Acted wr base N' ft b T' wr') :
    ∃ ft', Both w0 wr' base N' ft' b T' M fr mb RA rc Tm := by
  obtain ⟨ft', h1, h2, h3⟩ := ha
  obtain ⟨f1, f2, f3, f4⟩ := h.a.foot
  obtain ⟨g1, g2, g3⟩ := h.m.foot
  refine ⟨ft', h1, h.m.turn h3 f1 h.dis, fun k hk hm => ?_, h.below.trans (h3.below (fun k hk => Nat.le_trans hlo (f2 k hk)) h.below.size)⟩
  rcases h2 _ hm with h4 | h4
  · exact h.dis k hk h4
  · have := (g2 k hk).2; omega
theorem Both.actM {w0 wr wr' : World} {base N b M M' mb rc : Nat} {ft fr : List Nat} {RA : Option Addr} {Ta Tm T' : BX} (h : Both w0 wr base N ft b Ta M fr mb RA rc Tm) (hlo : w0.heap.size ≤ base) (ha : RActed wr base fr mb RA rc M' T' wr') :
    ∃ fr', Both w0 wr' base N ft b Ta M' fr' mb RA rc T' := by
  obtain ⟨fr', h1, h2, h3⟩ := ha
  obtain ⟨f1, f2, f3, f4⟩ := h.a.foot
  obtain ⟨g1, g2, g3⟩ := h.m.foot
  refine ⟨fr', h.a.turn h3 g1 (fun k hk hm => h.dis mb g3 (by rw [← List.mem_singleton.1 hm]; exact hk)), h1, fun k hk hm => ?_, h.below.trans (h3.below (fun k hk => by rw [List.mem_singleton.1 hk]; exact Nat.le_trans hlo (g2 mb g3).1) h.below.size)⟩
  rcases h2 _ hk with h4 | h4
  · exact h.dis k h4 hm
  · have := f3 k hm; omega
theorem Both.monoM {w0 wr : World} {base N b M M' mb rc : Nat} {ft fr : List Nat} {RA : Option Addr} {Ta Tm : BX} (h : Both w0 wr base N ft b Ta M fr mb RA rc Tm) (hm : M ≤ M') : Both w0 wr base N ft b Ta M' fr mb RA rc Tm := ⟨h.a, h.m.mono hm, h.dis, h.below⟩
theorem BoxA.small {w : World} {base N b : Nat} {ft : List Nat} {T : BX} (h : BoxA w base N ft b T) (hN : N ≤ 1000000) : SmallT T := by
  obtain ⟨qb, fb, RA, rc, QA, cap, ql, fl, first, fov, h1, h2, rfl⟩ := h
  unfold BndB at h2
  unfold SmallT
  omega
theorem GoodT.new (rs : List Ru) (els xl : Bool) (out inn : Nat) (ho : out ≤ 64) (hi : inn ≤ 64) : GoodT (newX rs els xl out inn) := ⟨InvB.new _ _ _ _ _, List.Pairwise.nil, by simp [newX], ho, hi⟩
theorem GoodT.apply {T : BX} (h : GoodT T) (a : Ac) (hf : 0 ≤ a.s.f.id) : GoodT (applyT T a) := by
  obtain ⟨-, -, -, c1, c2⟩ := applyT_conf T a
  have hrm : ∀ no, (rmQ no T.q).Pairwise leQ ∧ ∀ y ∈ rmQ no T.q, okF y.f = true ∧ 0 ≤ y.f.id := fun no => ⟨rmQ_sorted h.srt, fun y hy => h.ok y (List.mem_filter.1 hy).1⟩
  have key : (applyT T a).q.Pairwise leQ ∧ ∀ y ∈ (applyT T a).q, okF y.f = true ∧ 0 ≤ y.f.id := by
    unfold applyT
    split
    · unfold goneT; split
      · exact hrm _
      · exact ⟨h.srt, h.ok⟩
    · split
      · exact ⟨h.srt, h.ok⟩
      · split
        · unfold sentT; split
          · exact hrm _
          · exact ⟨h.srt, h.ok⟩
        · split
          · have e : (comeT T a.s.f).q = T.q := by unfold comeT; (repeat' split) <;> rfl
            rw [e]; exact ⟨h.srt, h.ok⟩
          · split
            · have e : (takeT T).q = T.q := by unfold takeT; split <;> rfl
              rw [e]; exact ⟨h.srt, h.ok⟩
            · unfold putT
              split
              · exact ⟨h.srt, h.ok⟩
              · split
                · rename_i hq
                  split
                  · refine ⟨insQ_sorted h.srt (fun y hy => ?_), fun y hy => ?_⟩
                    · have := h.inv.nos y hy
                      show y.no ≤ (T.last : Int) + 1
                      omega
                    · rcases List.mem_append.1 ((insQ_perm _ _).mem_iff.1 hy) with hy | hy
                      · exact h.ok y hy
                      · rw [List.mem_singleton.1 hy]; exact ⟨hq, hf⟩
                  · exact ⟨h.srt, h.ok⟩
                · exact ⟨h.srt, h.ok⟩
  exact ⟨h.inv.apply a, key.1, key.2, by rw [c1]; exact h.oroom, by rw [c2]; exact h.iroom⟩
end Go.Proofs.Ytlmdkmflbhnlgaa
