/- A row of bytes that grows behind a pointer: block b holds the slice, the row itself lies beyond B. No condition. -/
import Derived.Test.YtlmdkmflbhnlgaaGreatBitsN
import Derived.Test.YtlmdkmflbhnlgaaGreatBlk
import Derived.WalkSmall
import Derived.BigRegion
import Derived.Deep.RegionLaw
import Derived.Handy
namespace Go.Proofs.YtlmdkmflbhnlgaaGreat
open Go.RowKit
/-- Of what lay below B only block b is turned. -/
structure Keep (B b : Nat) (w w' : World) : Prop where
  os : w'.os = w.os
  tape : w'.tape = w.tape
  output : w'.output = w.output
  size : w.heap.size ≤ w'.heap.size
  block : ∀ k, k < B → k ≠ b → w'.heap[k]? = w.heap[k]?
theorem Keep.refl (B b : Nat) (w : World) : Keep B b w w := ⟨rfl, rfl, rfl, Nat.le_refl _, fun _ _ _ => rfl⟩
theorem Keep.trans {B b : Nat} {w w1 w2 : World} (h : Keep B b w w1) (k : Keep B b w1 w2) : Keep B b w w2 :=
  ⟨k.os.trans h.os, k.tape.trans h.tape, k.output.trans h.output, Nat.le_trans h.size k.size, fun i hi h1 => (k.block i hi h1).trans (h.block i hi h1)⟩
theorem Keep.of {B b C : Nat} {w w' : World} (h : Below C w w') (hB : B ≤ C) : Keep B b w w' := ⟨h.os, h.tape, h.output, h.size, fun k hk _ => h.block k (by omega)⟩
theorem Keep.mono {B B' b : Nat} {w w' : World} (h : Keep B b w w') (hB : B' ≤ B) : Keep B' b w w' := ⟨h.os, h.tape, h.output, h.size, fun k hk h1 => h.block k (by omega) h1⟩
theorem Keep.drew {B b : Nat} {w w' : World} (h : Keep B b w w') : Keep B b w w'.drew := ⟨h.os, h.tape, h.output, h.size, h.block⟩
theorem Keep.setCell {B b : Nat} {w w' : World} (h : Keep B b w w') {p : Addr} (hp : p.block = b ∨ B ≤ p.block) (u : Value) : Keep B b w (w'.setCell p u) :=
  ⟨h.os, h.tape, h.output, by simpa [World.setCell] using h.size, fun k hk h1 => by rw [Below.heap_setCell _ _ _ _ (by rcases hp with e | e <;> omega)]; exact h.block k hk h1⟩
theorem Keep.alloc {B b : Nat} {w w' : World} (h : Keep B b w w') (hB : B ≤ w'.heap.size) (o : Obj) : Keep B b w (w'.alloc o) := h.trans (.of (Go.Proofs.YtlmdkmflbhnlgaaGreat.below_alloc (Below.refl _ _) o) hB)
theorem Keep.below {B b C : Nat} {w w' : World} (h : Keep B b w w') (hb : C ≤ b) (hB : C ≤ B) : Below C w w' := ⟨h.os, h.tape, h.output, h.size, fun k hk => h.block k (by omega) (by omega)⟩
theorem Keep.heap {B b k : Nat} {w w' : World} {o : Obj} (h : Keep B b w w') (hk : w.heap[k]? = some o) (h1 : k < B) (h2 : k ≠ b) : w'.heap[k]? = some o := (h.block k h1 h2).trans hk
/-- The row that grows. -/
structure Pot (w : World) (B b t : Nat) (A : Option Addr) (c : Nat) (l : List Nat) : Prop where
  box : w.heap[b]? = some (.cells #[.slice A l.length c] t)
  ne : ∀ ad, A = some ad → ad.block ≠ b
  size : B ≤ w.heap.size
  row : Row w B 5 A c (bys l)
theorem Pot.below {w w' : World} {B b t : Nat} {A : Option Addr} {c : Nat} {l : List Nat} (h : Pot w B b t A c l) (hb : Below w.heap.size w w') : Pot w' B b t A c l :=
  ⟨heap_below hb h.box, h.ne, Nat.le_trans h.size hb.size, h.row.below hb⟩
theorem Pot.alloc {w : World} {B b t : Nat} {A : Option Addr} {c : Nat} {l : List Nat} (h : Pot w B b t A c l) (o : Obj) : Pot (w.alloc o) B b t A c l := h.below (below_alloc (Below.refl _ _) _)
theorem Pot.drew {w : World} {B b t : Nat} {A : Option Addr} {c : Nat} {l : List Nat} (h : Pot w B b t A c l) : Pot w.drew B b t A c l := h.below (Below.refl _ _).drew
theorem Pot.cell {w : World} {B b t : Nat} {A : Option Addr} {c : Nat} {l : List Nat} (h : Pot w B b t A c l) : w.cell? ⟨b, 0, none⟩ = some (.slice A l.length c) := cell_of_heap h.box 0 _ rfl
theorem Pot.frozen {w : World} {B b t : Nat} {A : Option Addr} {c : Nat} {l : List Nat} (h : Pot w B b t A c l) : w.frozen? ⟨b, 0, none⟩ = false := by simp [World.frozen?, h.box]
theorem Pot.rd {w : World} {B b t : Nat} {A : Option Addr} {c : Nat} {l : List Nat} (h : Pot w B b t A c l) : Rd w A (bys l) := h.row.rd
theorem Pot.new (w : World) (t : Nat) : Pot (w.alloc (.cells #[.slice none 0 0] t)) (w.heap.size + 1) w.heap.size t none 0 [] :=
  ⟨heap_new_at rfl, fun _ e => (by cases e), by simp, Row.nil _ _ _⟩
/-- What lies behind append's step, ahead of the store. -/
structure Potd (W w' : World) (B b t : Nat) (v0 : Value) (A : Option Addr) (c : Nat) (l : List Nat) : Prop where
  box : w'.heap[b]? = some (.cells #[v0] t)
  ne : ∀ ad, A = some ad → ad.block ≠ b
  size : B ≤ w'.heap.size
  row : Row w' B 5 A c (bys l)
  keep : Keep B b W w'
theorem Row.setCell {w : World} {base t c b : Nat} {A : Option Addr} {xs : List Value} (h : Row w base t A c xs) (hb : ∀ ad, A = some ad → ad.block ≠ b) (k : Nat) (u : Value) : Row (w.setCell ⟨b, k, none⟩ u) base t A c xs := by
  refine ⟨h.1, h.2.imp id fun ⟨g, cap, cur, hv, hg, hh, r⟩ => ⟨g, cap, cur, hv, hg, ?_, r⟩⟩
  rw [Below.heap_setCell _ _ _ _ (by injection hv with e _ _; exact hb _ e)]; exact hh
theorem Potd.store {W w' : World} {B b t n : Nat} {v0 : Value} {A : Option Addr} {c : Nat} {l : List Nat} (h : Potd W w' B b t v0 A c l) (hn : l.length = n) :
    Pot (w'.setCell ⟨b, 0, none⟩ (.slice A n c)) B b t A c l ∧ Keep B b W (w'.setCell ⟨b, 0, none⟩ (.slice A n c)) := by
  subst hn
  obtain ⟨h1, h2, h3, h4, h5⟩ := h
  exact ⟨⟨heap_setCell h1 0 _, h2, by simpa [World.setCell] using h3, h4.setCell h2 _ _⟩, h5.setCell (p := ⟨b, 0, none⟩) (.inl rfl) _⟩
theorem wp_pot {P : Program} {W0 w : World} {B b t : Nat} {A : Option Addr} {c : Nat} {l : List Nat} (h : Pot w B b t A c l) (hW : Keep B b W0 w) {o : Oper} {a : Act} {K : Act → World → Prop} {Q : Exit → Act → World → Prop} (s x : Operand) (ty : TypeId)
    (ho : o.op = .call { callee := .builtin .append, args := #[s, x], argTypes := #[ty, ty] })
    (i : TypeInfo) (z : Value) (bytes : Nat) (ht : P.underlying ty = some (.slice 5)) (hi : P.info? 5 = some i) (hz : i.zero = some z) (hsize : i.size = 1) (hby : i.bytes = bytes) (hzs : z.cells.size = 1)
    (n : Nat) (hn : l.length = n) (hs : a.eval s = .slice A n c)
    (A2 : Option Addr) (m d : Nat) (news : List Nat) (hx : a.eval x = .slice A2 m d) (hm : news.length = m) (hr : Rd w A2 (bys news)) (hd : news = [] → A2 = none → d = 0)
    (N : Nat) (hN : n + m = N) (h63 : N ≤ maxLen) (hbytes : N * bytes ≤ 140737488355328)
    (hk : ∀ w' A3 c3, Hid (Potd W0 w' B b t (.slice A n c) A3 c3 (l ++ news)) → w'.cell? ⟨b, 0, none⟩ = some (.slice A n c) → w'.frozen? ⟨b, 0, none⟩ = false → K (a.put o.dst (.slice A3 N c3)) w') : o.wp P a w K Q := by
  subst hN hm hn
  have hrow := h.row
  unfold Row at hrow
  rw [bys_length] at hrow
  refine wp_app w s x ty ho B 5 i z bytes ht hi hz hsize hby hzs (.slice A l.length c) l.length (bys l) hs hrow A2 news.length d (bys news) hx (by rw [bys_length]) hr (bys_one _)
    (fun e => hd (by cases news with | nil => rfl | cons x l => simp [bys] at e)) h63 hbytes h.size fun v' w' h2 h3 h5 => ?_
  rw [← bys_append] at h2
  obtain ⟨A3, c3, rfl, hrow3⟩ := Row.of h2 (by simp [bys_length])
  have hsb := heap_lt h.box
  have hbx : w'.heap[b]? = some (.cells #[.slice A l.length c] t) := by
    rw [h3.block b hsb (by intro e; cases hA : A with | none => rw [hA] at e; cases e | some ad => rw [hA] at e; injection e with e; exact h.ne ad hA e.symm)]; exact h.box
  have hkeep : Keep B b W0 w' := hW.trans (.of ((Below.refl B w).grown h3 h.size (fun k hk => (World.ownsRow.lt hrow k hk).1)) (Nat.le_refl _))
  have hne3 : ∀ ad, A3 = some ad → ad.block ≠ b := by
    intro ad e
    subst e
    rcases h5 with h5 | h5
    · cases hA : A with
      | none => rw [hA] at h5; cases h5
      | some ad' => rw [hA] at h5; injection h5 with h5; rw [h5]; exact h.ne ad' hA
    · injection h5 with h5; omega
  have := hk w' A3 c3 ⟨hbx, hne3, Nat.le_trans h.size h3.size, hrow3, hkeep⟩ (cell_of_heap hbx 0 _ rfl) (by simp [World.frozen?, hbx])
  rw [bys_length, List.length_append]
  exact this
theorem step_pot {P : Program} {W0 w : World} {B b t : Nat} {A : Option Addr} {c : Nat} {l : List Nat} (h : Pot w B b t A c l) (hW : Keep B b W0 w) {ops : Array Oper} {o : Oper} {a : Act} {K : Act → World → Prop} {Q : Exit → Act → World → Prop} {E : Prop} (hgd : o.guard = none) (s x : Operand) (ty : TypeId)
    (ho : o.op = .call { callee := .builtin .append, args := #[s, x], argTypes := #[ty, ty] })
    (i : TypeInfo) (z : Value) (bytes : Nat) (ht : P.underlying ty = some (.slice 5)) (hi : P.info? 5 = some i) (hz : i.zero = some z) (hsize : i.size = 1) (hby : i.bytes = bytes) (hzs : z.cells.size = 1)
    (n : Nat) (hn : l.length = n) (hs : a.eval s = .slice A n c)
    (A2 : Option Addr) (m d : Nat) (news : List Nat) (hx : a.eval x = .slice A2 m d) (hm : news.length = m) (hr : Rd w A2 (bys news)) (hd : news = [] → A2 = none → d = 0)
    (N : Nat) (hN : n + m = N) (h63 : N ≤ maxLen) (hbytes : N * bytes ≤ 140737488355328)
    (hk : ∀ w' A3 c3, Hid (Potd W0 w' B b t (.slice A n c) A3 c3 (l ++ news)) → w'.cell? ⟨b, 0, none⟩ = some (.slice A n c) → w'.frozen? ⟨b, 0, none⟩ = false → K (a.put o.dst (.slice A3 N c3)) w') :
    if Region.wanted o (yielded ops a.tmps) = true then Oper.wp P o a w K Q else E := by
  have hw : Region.wanted o (yielded ops a.tmps) = true := by simp [Region.wanted, hgd]
  rw [if_pos hw]
  exact wp_pot h hW s x ty ho i z bytes ht hi hz hsize hby hzs n hn hs A2 m d news hx hm hr hd N hN h63 hbytes hk
theorem wpList_pot {P : Program} {W0 w : World} {B b t : Nat} {A : Option Addr} {c : Nat} {l : List Nat} (h : Pot w B b t A c l) (hW : Keep B b W0 w) {ops : Array Oper} {rest : List Oper} {o : Oper} {a : Act} {Q : Exit → Act → World → Prop} (hgd : o.guard = none) (s x : Operand) (ty : TypeId)
    (ho : o.op = .call { callee := .builtin .append, args := #[s, x], argTypes := #[ty, ty] })
    (i : TypeInfo) (z : Value) (bytes : Nat) (ht : P.underlying ty = some (.slice 5)) (hi : P.info? 5 = some i) (hz : i.zero = some z) (hsize : i.size = 1) (hby : i.bytes = bytes) (hzs : z.cells.size = 1)
    (n : Nat) (hn : l.length = n) (hs : a.eval s = .slice A n c)
    (A2 : Option Addr) (m d : Nat) (news : List Nat) (hx : a.eval x = .slice A2 m d) (hm : news.length = m) (hr : Rd w A2 (bys news)) (hd : news = [] → A2 = none → d = 0)
    (N : Nat) (hN : n + m = N) (h63 : N ≤ maxLen) (hbytes : N * bytes ≤ 140737488355328)
    (hk : ∀ w' A3 c3, Hid (Potd W0 w' B b t (.slice A n c) A3 c3 (l ++ news)) → w'.cell? ⟨b, 0, none⟩ = some (.slice A n c) → w'.frozen? ⟨b, 0, none⟩ = false → wpList P ops Q rest (a.put o.dst (.slice A3 N c3)) w') : wpList P ops Q (o :: rest) a w :=
  wpList_plain hgd fun _ hK => wp_pot h hW s x ty ho i z bytes ht hi hz hsize hby hzs n hn hs A2 m d news hx hm hr hd N hN h63 hbytes fun w' A3 c3 h2 h3 h4 => hK _ _ (hk w' A3 c3 h2 h3 h4)
/-! ### bits.row: its put -/
set_option maxRecDepth 100000 in
set_option maxHeartbeats 1000000 in
theorem rowPut_any (w : World) (B b t : Nat) (A : Option Addr) (c n size : Nat) (l : List Nat) (h : Pot w B b t A c l) (hn : n < 18446744073709551616) (hs : size ≤ 64) (hl : l.length + size ≤ 1000000) :
    Calls Tryz.prog 89 #[.pointer (some ⟨b, 0, none⟩), .int .u64 n, .int .i64 size] w fun e w' => e = .returned (.tuple #[]) ∧ (∃ A' c', Pot w' B b t A' c' (l ++ bitsN n size)) ∧ Keep B b w w' := by
  obtain ⟨i0, hi, hz0, hz1, hz2⟩ := info_parts info_u8
  have HP := Lib.hid h
  clear h
  go_enter Tryz.func89, Tryz.ntmps89
  go_wp2_with fail
  go_loopw [6] (fun iv wr => ∃ (k : Nat) (m : List Nat) (A' : Option Addr) (c' : Nat), k ≤ size ∧ m.length + k ≤ 1000000 ∧ Hid (m ++ bitsN n k = l ++ bitsN n size) ∧ iv = .int .i64 ((k : Int) - 1) ∧ Hid (Pot wr B b t A' c' m) ∧ Hid (Keep B b w wr)) (fun iv _ => (intOf iv + 1).toNat)
  case atStart => exact ⟨size, l, A, c, by omega, hl, rfl, rfl, HP, Keep.refl _ _ _⟩
  case round =>
    obtain ⟨k, m, A', c', hk, hm, HM, rfl, HQ, HK⟩ := hrel
    cases k with
    | zero =>
      go_wp2_with fail
      go_end0
      have := HM.out
      simp only [bitsN, List.append_nil] at this
      exact ⟨rfl, ⟨_, _, this ▸ HQ.out⟩, HK.out⟩
    | succ k =>
      rw [show (((k + 1 : Nat) : Int) - 1) = (k : Int) from by omega]
      obtain ⟨q, hq⟩ : ∃ q, m.length = q := ⟨_, rfl⟩
      have hq2 : q + 1 + k ≤ 1000000 := by omega
      have c0 : wr.cell? ⟨b, 0, none⟩ = some (.slice A' q c') := by rw [← hq]; exact HQ.out.cell
      have z0 : wr.frozen? ⟨b, 0, none⟩ = false := HQ.out.frozen
      have sb : b < wr.heap.size := heap_lt HQ.out.box
      have fz : ∀ o, (wr.alloc o).drew.frozen? ⟨b, 0, none⟩ = false := fun o => (HQ.out.alloc o).drew.frozen
      have HL := Lib.hid hq
      clear hq hm
      obtain ⟨x, hx⟩ : ∃ x, n / 2 ^ k % 2 = x := ⟨_, rfl⟩
      have hx1 : x ≤ 1 := by omega
      have hand : bits .and .u64 ((n : Int) / 2 ^ k) 1 = (x : Int) := by
        have e : ((n : Int) / 2 ^ k) = ((n / 2 ^ k : Nat) : Int) := by simp
        have hle : n / 2 ^ k ≤ n := Nat.div_le_self _ _
        rw [e, and_one_u64 _ (Int.natCast_nonneg _) (by omega), ← hx]; simp
      have hwr : IntKind.u8.wrap (x : Int) = (x : Int) := IntWalk.u8_in _ ⟨by omega, by omega⟩
      have HX := Lib.hid hx
      clear hx
      go_wp2_with fail
      go_region_law (first
        | (refine step_pot (W0 := w) (HQ.out.alloc _).drew ?c1 rfl (.tmp 17) (.tmp 23) 22 rfl i0 _ 1 Tryz.underlying22 hi hz0 hz1 hz2 rfl q HL.out rfl _ 1 1 [x] rfl rfl (Rd.blk (heap_new_at rfl)) (by intro h; cases h) (q + 1) rfl ?c2 ?c3 ?_; (case c1 => exact HK.out.trans (.of (below_alloc (Below.refl _ _) _).drew HQ.out.size)); (case c2 => unfold maxLen; omega); (case c3 => omega); intro w3 A3 c3 HP3 c03 z03))
      all_goals
        go_wp2_with fail
        go_roundw
        case rel =>
          obtain ⟨p1, p2⟩ := HP3.out.store (n := q + 1) (by rw [List.length_append, HL.out]; rfl)
          refine ⟨k, m ++ [x], A3, c3, by omega, by rw [List.length_append, HL.out, List.length_singleton]; omega, ?_, by go_num, p1, p2⟩
          show (m ++ [x]) ++ bitsN n k = l ++ bitsN n size
          rw [← HM.out, ← HX.out, List.append_assoc]; rfl
        case measure => simp [intOf]
set_option maxRecDepth 100000 in
set_option maxHeartbeats 1000000 in
theorem bitsPut_any (w : World) (n size : Nat) (hn : n < 18446744073709551616) (hs : size ≤ 64) (hlt : n < 2 ^ size) :
    Calls Tryz.prog 63 #[.int .u64 n, .int .i64 size] w fun e w' => (∃ A c, e = .returned (.tuple #[.slice A size c, .int .i64 0]) ∧ Row w' w.heap.size 5 A c (bys (bitsN n size))) ∧ Below w.heap.size w w' := by
  have hd : (n : Int) / 2 ^ size = 0 := by
    have e : (n : Int) / 2 ^ size = ((n / 2 ^ size : Nat) : Int) := by simp
    rw [e, Nat.div_eq_of_lt hlt]; rfl
  clear hlt
  have HR := Lib.hid (rowPut_any (w.alloc (.cells #[.slice none 0 0] 107)) (w.heap.size + 1) w.heap.size 107 none 0 n size [] (Pot.new w _) hn hs (by simp; omega))
  go_enter Tryz.func63, Tryz.ntmps63
  go_wp2_with fail
  refine HR.out.mono ?_
  rintro e w' ⟨rfl, ⟨A, c, hp⟩, hk⟩
  have hc := hp.cell
  rw [List.nil_append, bitsN_length] at hc
  have HP := Lib.hid hp
  have HK := Lib.hid hk
  clear hp hk
  go_wp2_with fail
  go_ret2
  exact ⟨⟨A, c, rfl, by have := HP.out.row; rw [List.nil_append] at this; exact this.mono (by omega)⟩, (below_alloc (Below.refl _ _) _).trans (HK.out.below (by omega) (by omega))⟩
end Go.Proofs.YtlmdkmflbhnlgaaGreat
