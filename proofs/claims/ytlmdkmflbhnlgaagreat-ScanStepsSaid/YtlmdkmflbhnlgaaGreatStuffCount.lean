/- stuff.split, stuff.Count: how many of a row's bits are stuff bits. No condition. -/
import Derived.Test.YtlmdkmflbhnlgaaGreatStuffPut
import Derived.Test.YtlmdkmflbhnlgaaGreatBitsCheck
import Derived.Test.YtlmdkmflbhnlgaaGreatOwn
import Derived.Test.YtlmdkmflbhnlgaaGreatMix
namespace Go.Proofs.YtlmdkmflbhnlgaaGreat
open Go.RowKit
/-- What read tells, bit by bit: whether all is well, how many were stuff bits, and the others. -/
def splE : Nat → Nat → Nat → List Nat → List Nat → Bool × Nat × List Nat
  | _, _, n, out, [] => (true, n, out)
  | last, run, n, out, b :: r => if run = 5 ∧ b = last then (false, n, out) else splE b (seeN last run b) (if run = 5 then n + 1 else n) (if run = 5 then out else out ++ [b]) r
/-- What split's closure works on. -/
structure Spl (w : World) (B pl pn po : Nat) (A : Option Addr) (c n : Nat) (out : List Nat) : Prop where
  last : ∃ v, w.heap[pl]? = some (.cells #[.bool v] 4 (0, 0))
  num : w.heap[pn]? = some (.cells #[.int .i64 n] 3 (0, 0))
  box : w.heap[po]? = some (.cells #[.slice A out.length c] 22 (0, 0))
  row : w.ownsRow B 5 1 (.slice A out.length c) out.length (bys out)
  lt : pl < B ∧ pn < B ∧ po < B
  size : B ≤ w.heap.size
theorem Spl.ne {w : World} {B pl pn po c n : Nat} {A : Option Addr} {out : List Nat} (h : Spl w B pl pn po A c n out) : pl ≠ pn ∧ pl ≠ po ∧ pn ≠ po ∧ (∀ k ∈ blkA A, B ≤ k) := by
  obtain ⟨v, h1⟩ := h.last
  exact ⟨ne_of_type h1 h.num (by decide), ne_of_type h1 h.box (by decide), ne_of_type h.num h.box (by decide), own_blk h.row⟩
theorem Spl.below {w w' : World} {B pl pn po c n : Nat} {A : Option Addr} {out : List Nat} (h : Spl w B pl pn po A c n out) (hb : Below w.heap.size w w') : Spl w' B pl pn po A c n out := by
  obtain ⟨v, h1⟩ := h.last
  exact ⟨⟨v, heap_below hb h1⟩, heap_below hb h.num, heap_below hb h.box, own_turn h.row (Turn.of (s := []) hb) (fun _ _ => by simp), h.lt, Nat.le_trans h.size hb.size⟩
theorem Spl.turn {w w' : World} {B pl pn po c n : Nat} {A : Option Addr} {out : List Nat} {s : List Nat} (h : Spl w B pl pn po A c n out) (ht : Turn s w w') (hs : pl ∉ s ∧ pn ∉ s ∧ po ∉ s ∧ ∀ k ∈ blkA A, k ∉ s) : Spl w' B pl pn po A c n out := by
  obtain ⟨v, h1⟩ := h.last
  exact ⟨⟨v, ht.heap h1 hs.1⟩, ht.heap h.num hs.2.1, ht.heap h.box hs.2.2.1, own_turn h.row ht hs.2.2.2, h.lt, Nat.le_trans h.size ht.size⟩
/-- What the closure leaves. -/
def SplOf (w : World) (B pl pn po : Nat) (A : Option Addr) (n : Nat) (out : List Nat) (w' : World) : Prop :=
  ∃ A' c', Spl w' B pl pn po A' c' n out ∧ Turn (pl :: pn :: po :: blkA A) w w' ∧ ∀ k ∈ blkA A', k ∈ blkA A ∨ w.heap.size ≤ k
set_option maxRecDepth 100000 in
set_option maxHeartbeats 4000000 in
theorem split1_any (w : World) (B pl pn po c n b : Nat) (i : Int) (st : Bool) (A : Option Addr) (out : List Nat) (h : Spl w B pl pn po A c n out) (hn : n ≤ 1000000) (hl : out.length ≤ 1000000) :
    Calls Tryz.prog 138 #[.int .i64 i, .int .u8 b, .bool st, .pointer (some ⟨pl, 0, none⟩), .pointer (some ⟨pn, 0, none⟩), .pointer (some ⟨po, 0, none⟩)] w fun e w' => e = .returned (.bool true) ∧ SplOf w B pl pn po A (if st then n + 1 else n) (if st then out else out ++ [b]) w' := by
  obtain ⟨i0, hi, hz0, hz1, hz2⟩ := info_parts info_u8
  obtain ⟨v, h1⟩ := h.last
  obtain ⟨n1, n2, n3, n4⟩ := h.ne
  have HH := Lib.hid h
  have HN4 := Lib.hid n4
  obtain ⟨q, hq⟩ : ∃ q, out.length = q := ⟨_, rfl⟩
  rw [hq] at hl
  have HQ := Lib.hid hq
  have cl : w.cell? ⟨pl, 0, none⟩ = some (.bool v) := cell_of_heap h1 0 _ rfl
  have zl : w.frozen? ⟨pl, 0, none⟩ = false := by simp [World.frozen?, h1]
  have cn : w.cell? ⟨pn, 0, none⟩ = some (.int .i64 n) := cell_of_heap h.num 0 _ rfl
  have zn : w.frozen? ⟨pn, 0, none⟩ = false := by simp [World.frozen?, h.num]
  have co : w.cell? ⟨po, 0, none⟩ = some (.slice A q c) := by rw [← hq]; exact cell_of_heap h.box 0 _ rfl
  have zo : w.frozen? ⟨po, 0, none⟩ = false := by simp [World.frozen?, h.box]
  have sl := heap_lt h1
  have sn := heap_lt h.num
  have so := heap_lt h.box
  have H1 := Lib.hid h1
  clear h h1 hq n4
  cases st
  · have t1 : Turn (pl :: pn :: po :: blkA A) w (w.setCell ⟨pl, 0, none⟩ (.bool false)) := (Turn.refl _ _).setCell (.inl (by simp)) _
    have ho1 : (w.setCell ⟨pl, 0, none⟩ (.bool false)).ownsRow B 5 1 (.slice A q c) q (bys out) := by
      have h2 := own_turn HH.out.row ((Turn.refl [pl] w).setCell (p := ⟨pl, 0, none⟩) (.inl (by simp)) (.bool false)) (fun k hk hm => by have := HN4.out k hk; have := HH.out.lt.1; simp at hm; omega)
      rwa [HQ.out] at h2
    have T1 := Lib.hid t1
    have HO1 := Lib.hid ho1
    have HBS : Hid (B ≤ ((w.setCell ⟨pl, 0, none⟩ (.bool false)).alloc (.cells #[.int .u8 b] 5)).heap.size) := by show _ ≤ _; have := HH.out.size; simp; omega
    have HP1 : Hid ((w.setCell ⟨pl, 0, none⟩ (.bool false)).heap[po]? = some (.cells #[.slice A q c] 22 (0, 0))) := by
      rw [← HQ.out]; exact ((Turn.refl [pl] w).setCell (p := ⟨pl, 0, none⟩) (.inl (by simp)) (.bool false)).heap HH.out.box (by simp; omega)
    have HPA : Hid (∀ k, k < B → k ∉ blkA A) := fun k hk hm => by have := HN4.out k hm; omega
    clear t1 ho1
    go_enter Tryz.func138, Tryz.ntmps138
    go_wp2_with (at_builtin; refine wpList_appN rfl (.tmp 14) (.tmp 16) 22 rfl B 5 i0 _ 1 1 Tryz.underlying22 hi hz0 hz1 hz2 rfl (by omega) A q c (bys out) (by kernel_rfl) (HO1.out.alloc _) (some ⟨w.heap.size, 0, none⟩) 1 1 (bys [b]) (by kernel_rfl) (Rd.blk (heap_new_at (by simp))) rfl (bys_one _) (fun h => by cases h) (by unfold maxLen; omega) (by omega) HBS.out ?_; intro w3 A3 c3 HO3 HT3 HF3; have q3 := HT3.out.heap (heap_push HP1.out) (HPA.out po HH.out.lt.2.2); have c3' := cell_of_heap q3 0 _ rfl; have z3 : w3.frozen? ⟨po, 0, none⟩ = false := by simp [World.frozen?, q3])
    go_ret
    have hlt := HH.out.lt
    have tA : Turn (pl :: pn :: po :: blkA A) w w3 := (T1.out.alloc _).tr (HT3.out.mono (fun x hx => .inl (by simp [hx])))
    have tB : Turn [po] w3 (w3.setCell ⟨po, 0, none⟩ (.slice A3 (q + 1 : Nat) c3)) := (Turn.refl _ _).setCell (.inl (by simp)) _
    have hsz3 := tA.size
    refine ⟨by first | rfl | simp, A3, c3, ⟨⟨false, ?_⟩, ?_, ?_, ?_, hlt, ?_⟩, tA.tr (tB.mono (fun x hx => .inl (by rw [List.mem_singleton.1 hx]; simp))), fun k hk => ?_⟩
    · have h2 := heap_setCell H1.out 0 (.bool false)
      exact tB.heap (HT3.out.heap (heap_push h2) (HPA.out pl hlt.1)) (by simp; omega)
    · exact tB.heap (HT3.out.heap (heap_push (((Turn.refl [pl] w).setCell (p := ⟨pl, 0, none⟩) (.inl (by simp)) (.bool false)).heap HH.out.num (by simp; omega))) (HPA.out pn hlt.2.1)) (by simp; omega)
    · have e : (out ++ [b]).length = q + 1 := by simp [HQ.out]
      rw [e]; exact heap_setCell q3 0 _
    · have e : (out ++ [b]).length = q + 1 := by simp [HQ.out]
      rw [e]
      have e2 : bys (out ++ [b]) = bys out ++ bys [b] := bys_append _ _
      rw [e2]
      exact own_turn HO3.out tB (fun k hk hm => by have := own_blk HO3.out k hk; simp at hm; omega)
    · have := HH.out.size; simp; omega
    · rcases HF3.out k hk with h3 | h3
      · exact .inl h3
      · exact .inr (by simp at h3; omega)
  · go_enter Tryz.func138, Tryz.ntmps138
    go_wp2_with fail
    go_ret
    have hlt := HH.out.lt
    have tL : Turn [pl] w (w.setCell ⟨pl, 0, none⟩ (.bool true)) := (Turn.refl _ _).setCell (.inl (by simp)) _
    have tN : Turn [pn] (w.setCell ⟨pl, 0, none⟩ (.bool true)) ((w.setCell ⟨pl, 0, none⟩ (.bool true)).setCell ⟨pn, 0, none⟩ (.int .i64 ((n : Int) + 1))) := (Turn.refl _ _).setCell (.inl (by simp)) _
    have tt : Turn [pl, pn] w ((w.setCell ⟨pl, 0, none⟩ (.bool true)).setCell ⟨pn, 0, none⟩ (.int .i64 ((n : Int) + 1))) := (tL.mono (fun x hx => .inl (by rw [List.mem_singleton.1 hx]; simp))).tr (tN.mono (fun x hx => .inl (by rw [List.mem_singleton.1 hx]; simp)))
    refine ⟨by first | rfl | simp, A, c, ⟨⟨true, tN.heap (heap_setCell H1.out 0 (.bool true)) (by simp; omega)⟩, heap_setCell (tL.heap HH.out.num (by simp; omega)) 0 _, tt.heap HH.out.box (by simp; omega), own_turn HH.out.row tt (fun k hk hm => by have := HN4.out k hk; simp at hm; omega), hlt, Nat.le_trans HH.out.size tt.size⟩, tt.mono (fun x hx => .inl (by simp at hx; rcases hx with h | h <;> simp [h])), fun k hk => .inl hk⟩
theorem turn_of_touch {b : Nat} {w w' : World} (h : Touch b b w w') : Turn [b] w w' := ⟨h.os, h.tape, h.output, h.size, fun k hk hm => h.block k hk (fun e => hm (by rw [e]; simp)) (fun e => hm (by rw [e]; simp))⟩
/-- What read answers and leaves. -/
def ReadOf (w : World) (B pl pn po : Nat) (F : Bool × Nat × List Nat) (e : Ending) (w' : World) : Prop :=
  e = .returned (.int .i64 (if F.1 then 0 else 4)) ∧ (∃ A' c', Spl w' B pl pn po A' c' F.2.1 F.2.2) ∧ Below (min pl (min pn po)) w w'
set_option maxRecDepth 100000 in
set_option maxHeartbeats 4000000 in
theorem read_any (w : World) (B pl pn po c0 n : Nat) (A0 A : Option Addr) (c : Nat) (l : List Nat) (h : Spl w B pl pn po A0 c0 0 []) (hr : Rd w A (bys l)) (hn : l.length = n) (hn2 : n ≤ 65536) (h01 : ∀ x ∈ l, x ≤ 1) (hA : ∀ ad, A = some ad → bys l ≠ [] → ad.block < B ∧ ad.block ≠ pl ∧ ad.block ≠ pn ∧ ad.block ≠ po) :
    Calls Tryz.prog 137 #[.slice A n c, .func (.func 138) #[] #[.pointer (some ⟨pl, 0, none⟩), .pointer (some ⟨pn, 0, none⟩), .pointer (some ⟨po, 0, none⟩)]] w (ReadOf w B pl pn po (splE 0 0 0 [] l)) := by
  have HH := Lib.hid h
  have HR := Lib.hid hr
  have HN := Lib.hid hn
  have H01 := Lib.hid h01
  have HA := Lib.hid hA
  obtain ⟨F, hF⟩ : ∃ F, splE 0 0 0 [] l = F := ⟨_, rfl⟩
  rw [hF]
  have HF := Lib.hid hF
  clear h hr hn h01 hA hF
  go_enter Tryz.func137, Tryz.ntmps137
  go_wp2_with fail
  have hlt := HH.out.lt
  have hsB := HH.out.size
  have HI0 : Hid (Spl (w.alloc (.cells #[.int .u8 0, .int .i64 0] 75)) B pl pn po A0 c0 0 []) := HH.out.below (below_alloc (Below.refl _ _) _)
  have HR0 : Hid (Rd (w.alloc (.cells #[.int .u8 0, .int .i64 0] 75)) A (bys l)) := HR.out.alloc _
  have HP0 : Hid ((w.alloc (.cells #[.int .u8 0, .int .i64 0] 75)).heap[w.heap.size]? = some (.cells #[.int .u8 ((0 : Nat) : Int), .int .i64 ((0 : Nat) : Int)] 75)) := heap_new_at rfl
  have HB0 : Hid (Below (min pl (min pn po)) w (w.alloc (.cells #[.int .u8 0, .int .i64 0] 75))) := (Below.refl _ _).alloc (by omega) _
  go_loopw [11] (fun iv wr => ∃ (k last run m : Nat) (A' : Option Addr) (c' : Nat) (out : List Nat), k ≤ n ∧ iv = .int .i64 k ∧ run ≤ 5 ∧ last ≤ 1 ∧ m ≤ k ∧ out.length ≤ k ∧ Hid (splE last run m out (l.drop k) = F) ∧ Hid (Spl wr B pl pn po A' c' m out) ∧ Hid (Rd wr A (bys l)) ∧ Hid (wr.heap[w.heap.size]? = some (.cells #[.int .u8 last, .int .i64 run] 75)) ∧ Hid (Below (min pl (min pn po)) w wr)) (fun iv _ => n - (intOf iv).toNat)
  case atStart => exact ⟨0, 0, 0, 0, A0, c0, [], by omega, rfl, by omega, by omega, by omega, by simp, HF, HI0, HR0, HP0, HB0⟩
  case round =>
    obtain ⟨k, last, run, m, A', c', out, hk, rfl, hrun, hlast, hmk, hok, HM, HI, HRD, HP, HB⟩ := hrel
    clear HI0 HR0 HP0 HB0
    by_cases hkn : k < n
    · have hkl : k < l.length := by rw [HN.out]; exact hkn
      obtain ⟨ad, hA', ca⟩ := HRD.out.at_ k hkl
      have hx := H01.out l[k] (List.getElem_mem hkl)
      have hd : l.drop k = l[k] :: l.drop (k + 1) := List.drop_eq_getElem_cons hkl
      have hne : bys l ≠ [] := fun e => by
        have h1 : (bys l).length = 0 := by rw [e]; rfl
        rw [bys_length] at h1; omega
      obtain ⟨x, hxe⟩ : ∃ x, l[k] = x := ⟨_, rfl⟩
      rw [hxe] at ca hx hd
      have hm := HM.out
      rw [hd, splE] at hm
      subst hA'
      have had := HA.out ad rfl hne
      have HFU := Lib.hid (full_any w.heap.size last run 75 wr HP.out)
      have c0 : wr.cell? ⟨w.heap.size, 0, none⟩ = some (.int .u8 last) := cell_of_heap HP.out 0 _ rfl
      obtain ⟨fu, hfu⟩ : ∃ fu, decide (run = 5) = fu := ⟨_, rfl⟩
      rw [hfu] at HFU
      have HFD := Lib.hid hfu
      have hpsw : w.heap.size < wr.heap.size := heap_lt HP.out
      clear hd hxe hfu
      by_cases hbad : run = 5 ∧ x = last
      · rw [if_pos hbad] at hm
        obtain ⟨h5, rfl⟩ := hbad
        have hfu : fu = true := by rw [← HFD.out, decide_eq_true h5]
        subst hfu
        have HM2 := Lib.hid hm
        clear hm
        go_wp2_with fail
        refine HFU.out.mono ?_
        rintro e _ ⟨rfl, rfl⟩
        go_wp2_with fail
        go_ret
        rw [← HM2.out]
        exact ⟨by first | rfl | simp, ⟨A', c', HI.out⟩, HB.out⟩
      · rw [if_neg hbad] at hm
        have HSE := Lib.hid (see_any w.heap.size last run x 75 wr HP.out (by omega))
        have hsl : seeL last run x = x := by unfold seeL; split <;> omega
        rw [hsl] at HSE
        have hrun2 : seeN last run x ≤ 5 := by unfold seeN; split <;> omega
        have hnx : fu = true → ¬ (x : Int) = (last : Int) := fun h => by rw [← HFD.out] at h; have := of_decide_eq_true h; omega
        have HM2 := Lib.hid hm
        clear hm hbad hsl
        have hcommon : ∀ w4, Touch w.heap.size w.heap.size wr w4 → Hid (Spl w4 B pl pn po A' c' m out) ∧ Hid (Rd w4 (some ad) (bys l)) ∧ Hid (Below (min pl (min pn po)) w w4) := fun w4 ht => by
          have t := turn_of_touch ht
          have hneA : ∀ j ∈ blkA A', j ≠ w.heap.size := fun j hj e => by
            rcases HI.out.row.2 with ⟨hv, -⟩ | ⟨g, cap, cur, hv, hg, hh, -⟩
            · injection hv with hv; subst hv; simp [blkA] at hj
            · injection hv with hv; subst hv
              rw [List.mem_singleton.1 hj] at e
              dsimp only at e
              exact ne_of_type hh HP.out (by decide) e
          refine ⟨HI.out.turn t ⟨by simp; omega, by simp; omega, by simp; omega, fun j hj hm => hneA j hj (by simpa using hm)⟩, HRD.out.turn t (fun a e hm => by injection e with e; subst e; simp at hm; omega), HB.out.trans (t.below (fun j hj => by simp at hj; omega) (by omega))⟩
        cases fu
        · have hr5 : ¬ run = 5 := of_decide_eq_false HFD.out
          have hm3 := HM2.out
          rw [if_neg hr5, if_neg hr5] at hm3
          have HM3 := Lib.hid hm3
          clear hm3 hnx
          go_wp2_with fail
          refine HFU.out.mono ?_
          rintro e _ ⟨rfl, rfl⟩
          go_wp2_with fail
          refine HSE.out.mono ?_
          rintro e w4 ⟨rfl, hp4, ht4⟩
          obtain ⟨HI4, HR4, HB4⟩ := hcommon w4 ht4
          have HP4 := Lib.hid hp4
          clear hcommon hp4 ht4
          go_wp2_with fail
          refine (split1_any w4 B pl pn po c' m x k false A' out HI4.out (by omega) (by omega)).mono ?_
          rintro e w5 ⟨rfl, A5, c5, h5, t5, hf5⟩
          have hsz4 : w.heap.size < w4.heap.size := heap_lt HP4.out
          have hnp : w.heap.size ∉ pl :: pn :: po :: blkA A' := fun hm => by
            simp only [List.mem_cons] at hm
            rcases hm with h1 | h1 | h1 | h1
            · omega
            · omega
            · omega
            · rcases HI4.out.row.2 with ⟨hv, -⟩ | ⟨g, cap, cur, hv, hg, hh, -⟩
              · injection hv with hv; subst hv; simp [blkA] at h1
              · injection hv with hv; subst hv
                have e1 := List.mem_singleton.1 h1
                dsimp only at e1
                rw [← e1] at hh
                exact ne_of_type hh HP4.out (by decide) rfl
          have HI5 := Lib.hid h5
          have HP5 := Lib.hid (t5.heap HP4.out hnp)
          have HR5 : Hid (Rd w5 (some ad) (bys l)) := HR4.out.turn t5 (fun a e hm => by
            injection e with e; subst e
            simp only [List.mem_cons] at hm
            rcases hm with h1 | h1 | h1 | h1
            · omega
            · omega
            · omega
            · have := own_blk HI4.out.row _ h1; omega)
          have HB5 : Hid (Below (min pl (min pn po)) w w5) := HB4.out.trans (t5.below (fun j hj => by
            simp only [List.mem_cons] at hj
            rcases hj with h1 | h1 | h1 | h1
            · omega
            · omega
            · omega
            · have := own_blk HI4.out.row _ h1; omega) (by omega))
          clear h5 t5 hf5 hnp
          go_wp2_with fail
          go_roundw
          case rel => exact ⟨k + 1, x, seeN last run x, m, A5, c5, out ++ [x], by omega, by go_num, hrun2, hx, by omega, by rw [List.length_append, List.length_singleton]; omega, HM3, HI5, HR5, HP5, HB5⟩
          case measure => simp [intOf]; omega
        · have hr5 : run = 5 := of_decide_eq_true HFD.out
          have hm3 := HM2.out
          rw [if_pos hr5, if_pos hr5] at hm3
          have HM3 := Lib.hid hm3
          have hnx2 := hnx rfl
          clear hm3 hnx
          go_wp2_with fail
          refine HFU.out.mono ?_
          rintro e _ ⟨rfl, rfl⟩
          go_wp2_with fail
          refine HSE.out.mono ?_
          rintro e w4 ⟨rfl, hp4, ht4⟩
          obtain ⟨HI4, HR4, HB4⟩ := hcommon w4 ht4
          have HP4 := Lib.hid hp4
          clear hcommon hp4 ht4
          go_wp2_with fail
          refine (split1_any w4 B pl pn po c' m x k true A' out HI4.out (by omega) (by omega)).mono ?_
          rintro e w5 ⟨rfl, A5, c5, h5, t5, hf5⟩
          have hsz4 : w.heap.size < w4.heap.size := heap_lt HP4.out
          have hnp : w.heap.size ∉ pl :: pn :: po :: blkA A' := fun hm => by
            simp only [List.mem_cons] at hm
            rcases hm with h1 | h1 | h1 | h1
            · omega
            · omega
            · omega
            · rcases HI4.out.row.2 with ⟨hv, -⟩ | ⟨g, cap, cur, hv, hg, hh, -⟩
              · injection hv with hv; subst hv; simp [blkA] at h1
              · injection hv with hv; subst hv
                have e1 := List.mem_singleton.1 h1
                dsimp only at e1
                rw [← e1] at hh
                exact ne_of_type hh HP4.out (by decide) rfl
          have HI5 := Lib.hid h5
          have HP5 := Lib.hid (t5.heap HP4.out hnp)
          have HR5 : Hid (Rd w5 (some ad) (bys l)) := HR4.out.turn t5 (fun a e hm => by
            injection e with e; subst e
            simp only [List.mem_cons] at hm
            rcases hm with h1 | h1 | h1 | h1
            · omega
            · omega
            · omega
            · have := own_blk HI4.out.row _ h1; omega)
          have HB5 : Hid (Below (min pl (min pn po)) w w5) := HB4.out.trans (t5.below (fun j hj => by
            simp only [List.mem_cons] at hj
            rcases hj with h1 | h1 | h1 | h1
            · omega
            · omega
            · omega
            · have := own_blk HI4.out.row _ h1; omega) (by omega))
          clear h5 t5 hf5 hnp
          go_wp2_with fail
          go_roundw
          case rel => exact ⟨k + 1, x, seeN last run x, m + 1, A5, c5, out, by omega, by go_num, hrun2, hx, by omega, by omega, HM3, HI5, HR5, HP5, HB5⟩
          case measure => simp [intOf]; omega
    · obtain rfl : n = k := by omega
      have hm := HM.out
      rw [← HN.out, List.drop_length, splE] at hm
      have HM2 := Lib.hid hm
      clear hm
      go_wp2_with fail
      go_ret
      rw [← HM2.out]
      exact ⟨by first | rfl | simp, ⟨A', c', HI.out⟩, HB.out⟩
/-- The three variables that split answers from. -/
structure SplW (w W : World) (u v x : Value) : Prop where
  h0 : W.heap[w.heap.size]? = some (.cells #[u] 22 (0, 0))
  h1 : W.heap[w.heap.size + 1]? = some (.cells #[v] 3 (0, 0))
  h2 : W.heap[w.heap.size + 1 + 1]? = some (.cells #[x] 4 (0, 0))
  below : Below w.heap.size w W
theorem SplW.set0 {w W : World} {u v x : Value} (h : SplW w W u v x) : SplW w (W.setCell ⟨w.heap.size, 0, none⟩ u) u v x := by
  have t : Turn [w.heap.size] W (W.setCell ⟨w.heap.size, 0, none⟩ u) := (Turn.refl _ _).setCell (.inl (by simp)) _
  exact ⟨heap_setCell h.h0 0 u, t.heap h.h1 (by simp), t.heap h.h2 (by simp; omega), h.below.setCell (by simp) _⟩
theorem SplW.set1 {w W : World} {u v x : Value} (h : SplW w W u v x) : SplW w (W.setCell ⟨w.heap.size + 1, 0, none⟩ v) u v x := by
  have t : Turn [w.heap.size + 1] W (W.setCell ⟨w.heap.size + 1, 0, none⟩ v) := (Turn.refl _ _).setCell (.inl (by simp)) _
  exact ⟨t.heap h.h0 (by simp), heap_setCell h.h1 0 v, t.heap h.h2 (by simp), h.below.setCell (by simp) _⟩
theorem SplW.set2 {w W : World} {u v x : Value} (h : SplW w W u v x) : SplW w (W.setCell ⟨w.heap.size + 1 + 1, 0, none⟩ x) u v x := by
  have t : Turn [w.heap.size + 1 + 1] W (W.setCell ⟨w.heap.size + 1 + 1, 0, none⟩ x) := (Turn.refl _ _).setCell (.inl (by simp)) _
  exact ⟨t.heap h.h0 (by simp; omega), t.heap h.h1 (by simp), heap_setCell h.h2 0 x, h.below.setCell (by simp; omega) _⟩
theorem SplW.drew {w W : World} {u v x : Value} (h : SplW w W u v x) : SplW w W.drew u v x := ⟨h.h0, h.h1, h.h2, h.below.drew⟩
structure ExtC (w : World) (u v x : Value) where
  W : World
  h : SplW w W u v x
/-- What split answers. -/
def SplitOf (w : World) (F : Bool × Nat × List Nat) (e : Ending) (w' : World) : Prop := (∃ (A : Option Addr) (k c : Nat) (v : Bool), e = .returned (.tuple #[.slice A k c, .int .i64 F.2.1, .bool v, .int .i64 (if F.1 then 0 else 4)])) ∧ Below w.heap.size w w'
set_option maxRecDepth 100000 in
set_option maxHeartbeats 4000000 in
theorem split_any (w : World) (A : Option Addr) (c n : Nat) (l : List Nat) (hr : Rd w A (bys l)) (hn : l.length = n) (hn2 : n ≤ 65536) (h01 : ∀ x ∈ l, x ≤ 1) :
    Calls Tryz.prog 135 #[.slice A n c] w (SplitOf w (splE 0 0 0 [] l)) := by
  have hok : bitsOk l = true := by unfold bitsOk; rw [decide_eq_true (by omega : l.length ≤ 65536), decide_eq_true h01]; rfl
  have HC := Lib.hid (fun W hW => BitsCheck_any A n c l W hW hn (by omega))
  rw [hok] at HC
  have HR := Lib.hid hr
  have HRE := Lib.hid (fun W B pl pn po h hW hA => read_any W B pl pn po 0 n none A c l h hW hn hn2 h01 hA)
  generalize splE 0 0 0 [] l = F at *
  obtain ⟨ok, m, out⟩ := F
  clear hok hr hn h01
  go_enter Tryz.func135, Tryz.ntmps135
  go_wp2_with fail
  refine calls_blk3 fun W1 q1 q2 q3 hb1 => ?_
  refine (HC.out W1 (HR.out.below hb1)).mono ?_
  rintro e _ ⟨rfl, rfl⟩
  simp only [if_true]
  have hs1 : w.heap.size + 2 < W1.heap.size := heap_lt q3
  have hSP : Spl W1 (w.heap.size + 3) (w.heap.size + 2) (w.heap.size + 1) w.heap.size none 0 0 [] := ⟨⟨false, q3⟩, q2, q1, ⟨by simp [bys], .inl ⟨rfl, rfl⟩⟩, by omega, by omega⟩
  have HSP := Lib.hid hSP
  have HB1 := Lib.hid hb1
  have HR1 := Lib.hid (HR.out.below hb1)
  have HAA : Hid (∀ ad, A = some ad → bys l ≠ [] → ad.block < w.heap.size + 3 ∧ ad.block ≠ w.heap.size + 2 ∧ ad.block ≠ w.heap.size + 1 ∧ ad.block ≠ w.heap.size) := fun ad e hne => by
    obtain ⟨v, vs, hv⟩ : ∃ v vs, bys l = v :: vs := by cases h : bys l with | nil => exact absurd h hne | cons v vs => exact ⟨v, vs, rfl⟩
    obtain ⟨ad', e', hc⟩ := HR.out 0 v (by rw [hv]; rfl)
    rw [e] at e'; injection e' with e'; subst e'
    have := cell_lt hc
    rw [block_of_add] at this
    omega
  clear hSP hb1 q1 q2 q3
  go_wp2_with fail
  refine (HRE.out W1 (w.heap.size + 3) (w.heap.size + 1 + 1) (w.heap.size + 1) w.heap.size HSP.out HR1.out HAA.out).mono ?_
  rintro e w2 ⟨rfl, ⟨A2, c2, h2⟩, hb2⟩
  have hb2' : Below w.heap.size W1 w2 := hb2.mono (by omega)
  have HB2 := Lib.hid (HB1.out.trans hb2')
  obtain ⟨v, hv⟩ := h2.last
  obtain ⟨ec, hec⟩ : ∃ ec : Int, (if ok = true then 0 else 4) = ec := ⟨_, rfl⟩
  dsimp only at h2
  have q1 := h2.box
  have q2 := h2.num
  obtain ⟨k, hk⟩ : ∃ k, out.length = k := ⟨_, rfl⟩
  rw [hk] at q1
  have HS2 : Hid (SplW w w2 (.slice A2 k c2) (.int .i64 m) (.bool v)) := ⟨q1, q2, hv, HB2.out⟩
  rw [hec]
  clear q1 q2 h2 hv hb2 hb2' hk hs1
  have b1 : ∀ e : ExtC w (.slice A2 k c2) (.int .i64 m) (.bool v), e.W.cell? ⟨w.heap.size, 0, none⟩ = some (.slice A2 k c2) := fun e => cell_of_heap e.h.h0 0 _ rfl
  have b2 : ∀ e : ExtC w (.slice A2 k c2) (.int .i64 m) (.bool v), e.W.cell? ⟨w.heap.size + 1, 0, none⟩ = some (.int .i64 m) := fun e => cell_of_heap e.h.h1 0 _ rfl
  have b3 : ∀ e : ExtC w (.slice A2 k c2) (.int .i64 m) (.bool v), e.W.cell? ⟨w.heap.size + 1 + 1, 0, none⟩ = some (.bool v) := fun e => cell_of_heap e.h.h2 0 _ rfl
  haveI : Nonempty (ExtC w (.slice A2 k c2) (.int .i64 m) (.bool v)) := ⟨⟨w2, HS2.out⟩⟩
  go_wp2_with fail
  refine wp_region_mix (fun w' => ∃ e : ExtC w (.slice A2 k c2) (.int .i64 m) (.bool v), w' = e.W) [(true, 0), (true, 1), (true, 2), (true, 3), (false, 4), (false, 5), (false, 6), (true, 7)] [] (by kernel_rfl) (by kernel_rfl) (by intro _ _ d _ _ h; cases d <;> exact h) ⟨⟨w2.drew, HS2.out.drew⟩, rfl⟩ ?_
  simp only [pickM, pickL, List.drop_succ_cons, List.drop_zero]
  repeat (refine mix_pure (by rfl) (by rfl) ?_; intro K hK; go_big_quiet_op; go_big_quiet_on)
  obtain ⟨V, hV⟩ : ∃ V, w2.drew = V := ⟨_, rfl⟩
  have HV : Hid (SplW w V (.slice A2 k c2) (.int .i64 m) (.bool v)) := by rw [← hV]; exact HS2.out.drew
  rw [hV]
  have c0 : V.cell? ⟨w.heap.size, 0, none⟩ = some (.slice A2 k c2) := cell_of_heap HV.out.h0 0 _ rfl
  have z0 : V.frozen? ⟨w.heap.size, 0, none⟩ = false := by simp [World.frozen?, HV.out.h0]
  clear hV
  refine mix_eff (by rfl) ?_
  intro K hK
  go_simp
  refine hK _ _ ⟨⟨_, HV.out.set0⟩, rfl⟩ ?_
  clear hK K c0 z0
  obtain ⟨V1, hV1⟩ : ∃ V1, V.setCell ⟨w.heap.size, 0, none⟩ (.slice A2 k c2) = V1 := ⟨_, rfl⟩
  have HV1 : Hid (SplW w V1 (.slice A2 k c2) (.int .i64 m) (.bool v)) := by rw [← hV1]; exact HV.out.set0
  rw [hV1]
  have c0 : V1.cell? ⟨w.heap.size + 1, 0, none⟩ = some (.int .i64 m) := cell_of_heap HV1.out.h1 0 _ rfl
  have z0 : V1.frozen? ⟨w.heap.size + 1, 0, none⟩ = false := by simp [World.frozen?, HV1.out.h1]
  clear hV1
  refine mix_eff (by rfl) ?_
  intro K hK
  go_simp
  refine hK _ _ ⟨⟨_, HV1.out.set1⟩, rfl⟩ ?_
  clear hK K c0 z0
  obtain ⟨V2, hV2⟩ : ∃ V2, V1.setCell ⟨w.heap.size + 1, 0, none⟩ (.int .i64 m) = V2 := ⟨_, rfl⟩
  have HV2 : Hid (SplW w V2 (.slice A2 k c2) (.int .i64 m) (.bool v)) := by rw [← hV2]; exact HV1.out.set1
  rw [hV2]
  have c0 : V2.cell? ⟨w.heap.size + 1 + 1, 0, none⟩ = some (.bool v) := cell_of_heap HV2.out.h2 0 _ rfl
  have z0 : V2.frozen? ⟨w.heap.size + 1 + 1, 0, none⟩ = false := by simp [World.frozen?, HV2.out.h2]
  clear hV2
  refine mix_eff (by rfl) ?_
  intro K hK
  go_simp
  refine hK _ _ ⟨⟨_, HV2.out.set2⟩, rfl⟩ ?_
  clear hK K c0 z0
  repeat (refine mix_pure (by rfl) (by rfl) ?_; intro K hK; go_big_quiet_op; go_big_quiet_on)
  refine mix_nil (wpList_nil ?_)
  obtain ⟨V3, hV3⟩ : ∃ V3, V2.setCell ⟨w.heap.size + 1 + 1, 0, none⟩ (.bool v) = V3 := ⟨_, rfl⟩
  have HV3 : Hid (SplW w V3 (.slice A2 k c2) (.int .i64 m) (.bool v)) := by rw [← hV3]; exact HV2.out.set2
  rw [hV3]
  have d0 : V3.cell? ⟨w.heap.size, 0, none⟩ = some (.slice A2 k c2) := cell_of_heap HV3.out.h0 0 _ rfl
  have d1 : V3.cell? ⟨w.heap.size + 1, 0, none⟩ = some (.int .i64 m) := cell_of_heap HV3.out.h1 0 _ rfl
  have d2 : V3.cell? ⟨w.heap.size + 1 + 1, 0, none⟩ = some (.bool v) := cell_of_heap HV3.out.h2 0 _ rfl
  clear hV3 b1 b2 b3
  go_wp2_with fail
  refine bodyPost_ret (v := .tuple #[.slice A2 k c2, .int .i64 m, .bool v, .int .i64 ec]) (by simp [results, Tryz.results135, go_sem, *]) rfl ⟨⟨A2, k, c2, v, by rw [← hec]⟩, HV3.out.below⟩
set_option maxHeartbeats 4000000 in
theorem Count_any (w : World) (A : Option Addr) (c n : Nat) (l : List Nat) (hr : Rd w A (bys l)) (hn : l.length = n) (hn2 : n ≤ 65536) (h01 : ∀ x ∈ l, x ≤ 1) :
    Calls Tryz.prog 130 #[.slice A n c] w fun e w' => e = .returned (.tuple #[.int .i64 (if (splE 0 0 0 [] l).1 then (splE 0 0 0 [] l).2.1 else 0 : Nat), .int .i64 (if (splE 0 0 0 [] l).1 then 0 else 4)]) ∧ Below w.heap.size w w' := by
  have HS := Lib.hid (split_any w A c n l hr hn hn2 h01)
  generalize splE 0 0 0 [] l = F at *
  obtain ⟨ok, m, out⟩ := F
  clear hr hn h01
  cases ok
  all_goals
    go_enter Tryz.func130, Tryz.ntmps130
    go_wp2_with fail
    refine HS.out.mono ?_
    rintro e w1 ⟨⟨A2, k, c2, v, rfl⟩, hb⟩
    have HB := Lib.hid hb
    clear hb
    simp only [Bool.false_eq_true, if_false, if_true]
    go_wp2_with fail
    go_ret2
    exact ⟨by first | rfl | simp, HB.out⟩
end Go.Proofs.YtlmdkmflbhnlgaaGreat
