/- fixed.Put: bits with fixed stuff bits. No condition. -/
import Derived.Test.YtaknddanggdplaaFixed0
import Derived.Test.YtaknddanggdplaaStuffPut
namespace Go.Proofs.Ytaknddanggdplaa
open Go.RowKit
/-- append to a row of the call's own: below the row's base nothing is turned. -/
theorem wpList_appB {P : Program} {W : World} {ops : Array Oper} {rest : List Oper} {o : Oper} {a : Act} {Q : Exit → Act → World → Prop} (hgd : o.guard = none) (s x : Operand) (t : TypeId)
    (ho : o.op = .call { callee := .builtin .append, args := #[s, x], argTypes := #[t, t] })
    (base : Nat) (e : TypeId) (i : TypeInfo) (z : Value) (bytes : Nat) (ht : P.underlying t = some (.slice e)) (hi : P.info? e = some i) (hz : i.zero = some z)
    (hsize : i.size = 1) (hby : i.bytes = bytes) (hzs : z.cells.size = 1)
    (A : Option Addr) (n c : Nat) (xs : List Value) (hs : a.eval s = .slice A n c) (hn : xs.length = n) (hown : Row W base e A c xs)
    (B : Option Addr) (m d : Nat) (news : List Value) (hx : a.eval x = .slice B m d) (hm : news.length = m) (hr : Rd W B news) (h1 : ∀ u ∈ news, u.oneCell' = true) (hd : news = [] → B = none → d = 0)
    (N : Nat) (hN : n + m = N) (h63 : N ≤ maxLen) (hbytes : N * bytes ≤ 140737488355328) (hbase : base ≤ W.heap.size)
    (h : ∀ (w3 : World) (A3 : Option Addr) (c3 : Nat), Hid (Row w3 base e A3 c3 (xs ++ news)) → Hid (Below base W w3) → wpList P ops Q rest (a.put o.dst (.slice A3 N c3)) w3) : wpList P ops Q (o :: rest) a W := by
  subst hN hm hn
  refine wpList_app W hgd s x t ho base e i z bytes ht hi hz hsize hby hzs (.slice A xs.length c) xs.length xs hs hown B news.length d news hx rfl hr h1 hd h63 hbytes hbase fun v' w' h2 h3 _ => ?_
  obtain ⟨A3, c3, rfl, hrow⟩ := Row.of h2 (by simp)
  have := h w' A3 c3 hrow (own_grown hown (Below.refl base W) (Nat.le_refl _) hbase h3)
  simpa using this
theorem below_heap {B g : Nat} {w w' : World} {o : Obj} (h : Below B w w') (hg : g < B) (ho : w.heap[g]? = some o) : w'.heap[g]? = some o := (h.block g hg).trans ho
theorem fixE_step {every last left x : Nat} {l out full : List Nat} (h : out ++ fixE every last left (x :: l) = full) :
    (left = 0 → (out ++ [1 - last] ++ [x]) ++ fixE every x (every - 1) l = full) ∧ (left ≠ 0 → (out ++ [x]) ++ fixE every x (left - 1) l = full) := by
  constructor
  · intro h0
    rw [← h, fixE, if_pos h0]; simp
  · intro h0
    rw [← h, fixE, if_neg h0]; simp
set_option maxRecDepth 100000 in
set_option maxHeartbeats 4000000 in
theorem FixedPut_any (w : World) (A : Option Addr) (prev ev c n N : Nat) (ah : Bool) (l : List Nat) (h1 : 1 ≤ ev) (h2 : ev ≤ 64) (hp : prev ≤ 1) (hr : Rd w A (bys l)) (hn : l.length = n) (hn1 : 1 ≤ n) (hn2 : n ≤ 30000) (h01 : ∀ x ∈ l, x ≤ 1) (hN : (fixN ev ah prev l).length = N) :
    Calls Try.prog 39 #[.int .u8 prev, .slice A n c, wayV ev ah] w fun e w' => (∃ A' c', e = .returned (.tuple #[.slice A' N c', .int .i64 0]) ∧ Row w' w.heap.size 5 A' c' (bys (fixN ev ah prev l))) ∧ Below w.heap.size w w' := by
  obtain ⟨i0, hi, hz0, hz1, hz2⟩ := info_parts info_u8
  have hNf : N = fsize n ev ah := by
    rw [← hN, fixN_length ev ah prev l h1, hn]; rfl
  have hN2 : N ≤ 65536 ∧ 1 ≤ N := by
    rw [hNf]; unfold fsize; rw [if_neg (by omega)]
    have h3 : (n - 1) / ev ≤ n - 1 := Nat.div_le_self _ _
    generalize (n - 1) / ev = q at h3 ⊢
    split <;> omega
  have hS := fun W => FSize_any n ev ah W h1 h2 (by omega)
  rw [← hNf] at hS
  have HS := Lib.hid hS
  have HC := Lib.hid (fun W (hW : Rd W A (bys l)) => fcheck_any prev ev n c ah A l W h1 h2 hp hW hn (by omega) h01)
  have HR := Lib.hid hr
  have HN := Lib.hid hn
  have H01 := Lib.hid h01
  have HNN := Lib.hid hN
  have hN3 : ¬ (65536 : Int) < (N : Int) := by omega
  have hN4 : (0 : Int) ≤ (N : Int) := by omega
  clear hS hr hn h01 hN hNf
  go_enter Try.func39, Try.ntmps39
  go_wp2_with fail
  refine calls_name (T := fun W1 => W1.heap[w.heap.size]? = some (.cells #[.int .i64 ev, .bool ah] 49) ∧ Below w.heap.size w W1) ⟨heap_new_at rfl, below_alloc (Below.refl _ _) _⟩ ?_
  rintro W1 ⟨q1, hb1⟩
  have a0 := fun e : Ext W1 => ext_cell (cell_of_heap q1 0 _ rfl) e
  have a1 : ∀ e : Ext W1, e.W.cell? ⟨w.heap.size, 1, none⟩ = some (.bool ah) := fun e => ext_cell (cell_of_heap q1 1 _ rfl) e
  have hsz := ext_lt q1
  have HB1 := Lib.hid hb1
  clear q1 hb1
  refine (extc_same (HS.out _)).mono ?_
  rintro x _ ⟨e1, rfl, rfl⟩
  go_wp2_with fail
  refine (extc (HC.out e1.W ((HR.out.below HB1.out).ext e1))).mono ?_
  rintro x _ ⟨e2, rfl, rfl⟩
  go_wp2_with fail
  refine (begin_any ev prev ah e2.W).mono ?_
  rintro x W2 ⟨rfl, hline, hsz2, hb2⟩
  obtain ⟨g, hg⟩ : ∃ g, e2.W.heap.size + 1 = g := ⟨_, rfl⟩
  rw [hg] at hline hsz2
  rw [hg]
  have hwg : w.heap.size ≤ g := by have := hsz e2; omega
  have HLINE := Lib.hid hline
  have HB2 := Lib.hid (HB1.out.trans ((e2.below.mono (by exact HB1.out.size)).trans (hb2.mono (by have := hsz e2; omega))))
  clear hline hb2 a0 a1 hsz hg
  go_wp2_with (refine wpList_make_own _ rfl _ (.tmp 33) 23 rfl W2.heap.size 5 i0 (.int .u8 0) 1 Try.underlying23 hi hz0 hz1 .i64 .i64 _ N rfl rfl (by omega) (by rw [hz2]; omega) (by unfold maxLen; omega) (by simp) ?_; intro w3 hown hgr)
  have hb3 := below_of_grown hgr
  have hline3 : w3.heap[g]? = some (lineC ev ah prev (if ah then 0 else ev)) := below_heap hb3 (by omega) HLINE.out
  have hrow3 : Row w3 (g + 1) 5 (some ⟨g + 1, 0, none⟩) N (bys []) := by rw [hsz2] at hown; exact hown
  have hbel3 : Below w.heap.size w w3 := HB2.out.trans (hb3.mono (by omega))
  have HL3 := Lib.hid hline3
  have HR3 := Lib.hid hrow3
  have HB3 := Lib.hid hbel3
  have hleft : (if ah then 0 else ev) ≤ ev := by split <;> omega
  clear hown hgr hb3 hline3 hrow3 hbel3 HB2 HLINE
  go_loopw [11, 37] (fun v iv wr => ∃ (k last left q : Nat) (A' : Option Addr) (c' : Nat) (out : List Nat), k ≤ n ∧ iv = .int .i64 k ∧ v = .slice A' q c' ∧ Hid (out.length = q) ∧ left ≤ ev ∧ last ≤ 1 ∧ q ≤ N ∧ Hid (out ++ fixE ev last left (l.drop k) = fixN ev ah prev l) ∧ Hid (Row wr (g + 1) 5 A' c' (bys out)) ∧ Hid (wr.heap[g]? = some (lineC ev ah last left)) ∧ Hid (Below w.heap.size w wr)) (fun _ iv _ => n - (intOf iv).toNat)
  case atStart => exact ⟨0, prev, (if ah then 0 else ev), 0, _, _, [], by omega, rfl, rfl, rfl, hleft, hp, by omega, rfl, HR3, HL3, HB3⟩
  case round =>
    obtain ⟨k, last, left, q, A', c', out, hk, rfl, rfl, HQL, hlev, hl1, hqN, HM, HQ, HL, HW⟩ := hrel
    by_cases hkn : k < n
    · have hkl : k < l.length := by rw [HN.out]; exact hkn
      obtain ⟨ad, rfl, ca⟩ := (HR.out.below HW.out).at_ k hkl
      have hx := H01.out l[k] (List.getElem_mem hkl)
      have hd : l.drop k = l[k] :: l.drop (k + 1) := List.drop_eq_getElem_cons hkl
      obtain ⟨x, hxe⟩ : ∃ x, l[k] = x := ⟨_, rfl⟩
      rw [hxe] at ca hx hd
      have hm := HM.out
      rw [hd] at hm
      have hstep := fixE_step hm
      have hbnd := congrArg List.length hm
      rw [HNN.out] at hbnd
      have hgw : g < wr.heap.size := heap_lt HL.out
      have hge : ∀ ad, A' = some ad → ad.block ≠ g := fun ad e => by have := HQ.out.ge ad e; omega
      have HST := Lib.hid hstep
      have HDUE := Lib.hid (due_any g ev last left ah wr HL.out)
      clear hd hxe hm hstep
      by_cases h0 : left = 0
      · subst h0
        have hq2 : q + 2 ≤ N := by
          rw [fixE, if_pos rfl, List.length_append, HQL.out] at hbnd
          simp only [List.length_cons] at hbnd
          omega
        have HSTF := Lib.hid (lineStuff_any g ev last 0 ah wr HL.out hl1)
        clear hbnd
        go_wp2_with fail
        refine HDUE.out.mono ?_
        rintro e _ ⟨rfl, rfl⟩
        go_wp2_with fail
        refine HSTF.out.mono ?_
        rintro e w4 ⟨rfl, hl4, ht4⟩
        obtain ⟨y, hy⟩ : ∃ y, 1 - last = y := ⟨_, rfl⟩
        rw [hy] at hl4 HST
        rw [hy]
        have HL4 := Lib.hid hl4
        have HQ4 := Lib.hid (HQ.out.touch ht4 hge)
        have HW4 := Lib.hid (HW.out.trans (ht4.below hwg hwg (by omega)))
        have hgw4 : g < w4.heap.size := heap_lt hl4
        clear hl4 ht4
        go_wp2_with (at_builtin; refine wpList_appB (W := _) rfl (.tmp 43) (.tmp 46) 23 rfl (g + 1) 5 i0 _ 1 Try.underlying23 hi hz0 hz1 hz2 rfl A' q c' (bys out) rfl (by rw [bys_length]; exact HQL.out) (HQ4.out.alloc _) _ 1 1 (bys [y]) rfl rfl (Rd.blk (heap_new_at rfl)) (bys_one _) (by intro h; cases h) (q + 1) (by omega) (by unfold maxLen; omega) (by omega) (by simp; omega) ?_; intro w5 A5 c5 HO5 HB5)
        have hl5 : w5.heap[g]? = some (lineC ev ah y ev) := below_heap HB5.out (by omega) (heap_push HL4.out)
        have HW5 := Lib.hid ((below_alloc HW4.out _).trans (HB5.out.mono (by omega)))
        refine (lineSee_any g ev y ev x ah w5 hl5 h1 (by omega)).mono ?_
        rintro e w6 ⟨rfl, hl6, ht6⟩
        have ho5 := HO5.out
        rw [← bys_append] at ho5
        have HL6 := Lib.hid hl6
        have HQ6 := Lib.hid (ho5.touch ht6 (fun ad e => by have := ho5.ge ad e; omega))
        have HW6 := Lib.hid (HW5.out.trans (ht6.below hwg hwg (by have := heap_lt hl5; omega)))
        have hgw6 : g < w6.heap.size := heap_lt hl6
        clear hl6 ht6 hl5 ho5
        go_wp2_with (at_builtin; refine wpList_appB (W := _) rfl (.tmp 51) (.tmp 53) 23 rfl (g + 1) 5 i0 _ 1 Try.underlying23 hi hz0 hz1 hz2 rfl A5 (q + 1) c5 (bys (out ++ [y])) rfl (by rw [bys_length, List.length_append, HQL.out]; rfl) (HQ6.out.alloc _) _ 1 1 (bys [x]) rfl rfl (Rd.blk (heap_new_at rfl)) (bys_one _) (by intro h; cases h) (q + 1 + 1) (by omega) (by unfold maxLen; omega) (by omega) (by simp; omega) ?_; intro w7 A7 c7 HO7 HB7)
        go_roundw
        case rel =>
          have ho7 := HO7.out
          rw [← bys_append] at ho7
          refine ⟨k + 1, x, ev - 1, q + 1 + 1, A7, c7, out ++ [y] ++ [x], by omega, by go_num, rfl, by show _ = _; rw [List.length_append, List.length_append, HQL.out]; rfl, by omega, hx, by omega, HST.out.1 (by first | trivial | rfl), ho7, below_heap HB7.out (by omega) (heap_push HL6.out), (below_alloc HW6.out _).trans (HB7.out.mono (by omega))⟩
        case measure => simp [intOf]; omega
      · have hq2 : q + 1 ≤ N := by
          rw [fixE, if_neg h0, List.length_append, HQL.out] at hbnd
          simp only [List.length_cons] at hbnd
          omega
        have HSEE := Lib.hid (lineSee_any g ev last left x ah wr HL.out (by omega) (by omega))
        have hdue := HDUE.out
        rw [decide_eq_false h0] at hdue
        have HDU2 := Lib.hid hdue
        clear hbnd hdue
        go_wp2_with fail
        refine HDU2.out.mono ?_
        rintro e _ ⟨rfl, rfl⟩
        go_wp2_with fail
        refine HSEE.out.mono ?_
        rintro e w6 ⟨rfl, hl6, ht6⟩
        have HL6 := Lib.hid hl6
        have HQ6 := Lib.hid (HQ.out.touch ht6 hge)
        have HW6 := Lib.hid (HW.out.trans (ht6.below hwg hwg (by omega)))
        have hgw6 : g < w6.heap.size := heap_lt hl6
        clear hl6 ht6
        go_wp2_with (at_builtin; refine wpList_appB (W := _) rfl (.tmp 51) (.tmp 53) 23 rfl (g + 1) 5 i0 _ 1 Try.underlying23 hi hz0 hz1 hz2 rfl A' q c' (bys out) rfl (by rw [bys_length]; exact HQL.out) (HQ6.out.alloc _) _ 1 1 (bys [x]) rfl rfl (Rd.blk (heap_new_at rfl)) (bys_one _) (by intro h; cases h) (q + 1) (by omega) (by unfold maxLen; omega) (by omega) (by simp; omega) ?_; intro w7 A7 c7 HO7 HB7)
        go_roundw
        case rel =>
          have ho7 := HO7.out
          rw [← bys_append] at ho7
          refine ⟨k + 1, x, left - 1, q + 1, A7, c7, out ++ [x], by omega, by go_num, rfl, by show _ = _; rw [List.length_append, HQL.out]; rfl, by omega, hx, by omega, HST.out.2 h0, ho7, below_heap HB7.out (by omega) (heap_push HL6.out), (below_alloc HW6.out _).trans (HB7.out.mono (by omega))⟩
        case measure => simp [intOf]; omega
    · obtain rfl : n = k := by omega
      have hm := HM.out
      rw [← HN.out, List.drop_length, fixE, List.append_nil] at hm
      go_wp2_with fail
      go_ret2
      have hq := HQ.out
      rw [hm] at hq
      have hqn : q = N := by rw [← HQL.out, hm]; exact HNN.out
      subst hqn
      exact ⟨⟨A', c', rfl, hq.mono (by omega)⟩, HW.out⟩
end Go.Proofs.Ytaknddanggdplaa
