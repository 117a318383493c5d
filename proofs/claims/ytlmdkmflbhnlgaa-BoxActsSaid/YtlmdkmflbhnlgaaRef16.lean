/- append to a row of the call's own, as one step of a region that draws. No condition. -/
import Derived.Test.YtlmdkmflbhnlgaaAppK
import Derived.Test.YtlmdkmflbhnlgaaRef14g
import Derived.Test.YtlmdkmflbhnlgaaPBoxInv
namespace Go.Proofs.Ytlmdkmflbhnlgaa
open Go.RowKit
theorem wp_appN {P : Program} {W : World} {o : Oper} {a : Act} {K : Act → World → Prop} {Q : Exit → Act → World → Prop} (s x : Operand) (t : TypeId)
    (ho : o.op = .call { callee := .builtin .append, args := #[s, x], argTypes := #[t, t] })
    (base : Nat) (e : TypeId) (i : TypeInfo) (z : Value) (size bytes : Nat) (ht : P.underlying t = some (.slice e)) (hi : P.info? e = some i) (hz : i.zero = some z) (hsize : i.size = size) (hby : i.bytes = bytes) (hzs : z.cells.size = size) (hsz : 0 < size)
    (A : Option Addr) (n c : Nat) (xs : List Value) (hs : a.eval s = .slice A n c) (hown : W.ownsRow base e size (.slice A n c) n xs)
    (B : Option Addr) (m d : Nat) (news : List Value) (hx : a.eval x = .slice B m d) (hr : Rd W B news) (hnl : news.length = m * size) (h1 : ∀ u ∈ news, u.oneCell' = true) (hd : B = none → d = 0)
    (h63 : n + m ≤ maxLen) (hbytes : (n + m) * bytes ≤ 140737488355328) (hbase : base ≤ W.heap.size)
    (h : ∀ (w3 : World) (A3 : Option Addr) (c3 : Nat), Hid (w3.ownsRow base e size (.slice A3 (n + m) c3) (n + m) (xs ++ news)) → Hid (Turn (blkA A) W w3) → Hid (∀ k ∈ blkA A3, k ∈ blkA A ∨ W.heap.size ≤ k) → K (a.put o.dst (.slice A3 (n + m : Nat) c3)) w3) : o.wp P a W K Q := by
    have key : ∃ v' w', (Builtin.append_ #[t, t] o.type #[.slice A n c, .slice B m d]).run P W = .ok v' w' ∧ w'.ownsRow base e size v' (n + m) (xs ++ news) ∧ W.grownBy w' (Value.slice A n c).ownBlock ∧
        (v'.ownBlock = (Value.slice A n c).ownBlock ∨ v'.ownBlock = some W.heap.size) := by
      cases B with
      | none =>
        have hn0 : news = [] := by
          cases news with
          | nil => rfl
          | cons u us => obtain ⟨ad, he, _⟩ := hr 0 u rfl; cases he
        subst hn0
        have hm0 : m = 0 := by
          rcases Nat.eq_zero_or_pos m with h0 | h0
          · exact h0
          · have := Nat.mul_pos h0 hsz; simp at hnl; omega
        subst hm0
        have hd0 := hd rfl
        subst hd0
        exact ⟨_, W, run_append_owned_none W base t o.type e i size ht hi _ n xs hown, by simpa using hown, World.grownBy.refl W _, .inl rfl⟩
      | some ad =>
        obtain ⟨v', w', hrun, h2, h3, _, h5⟩ := run_append_own_at (P := P) W base t o.type e i z size bytes ht hi hz hsize hby hzs hsz (.slice A n c) n xs hown ad m d news hnl
          (fun j u hj => by obtain ⟨ad', he, hcell⟩ := hr j u hj; injection he with he; subst he; exact hcell) h1 h63 hbytes hbase
        exact ⟨v', w', hrun, h2, h3, h5⟩
    obtain ⟨v', w', hrun, h2, h3, h5⟩ := key
    unfold Oper.wp execOp
    simp only [ho, resolve, invoke, builtin, Sem.run_bind, Sem.run_pure, Result.andThen_ok, List.map_toArray, List.map_cons, List.map_nil, hs, hx, hrun]
    have hv : ∃ A3 c3, v' = .slice A3 (n + m : Nat) c3 := by
      rcases h2.2 with ⟨hv, hl0⟩ | ⟨g', cap', cur, hv, hg, -⟩
      · exact ⟨none, 0, by rw [hv, hl0]⟩
      · exact ⟨_, _, hv⟩
    obtain ⟨A3, c3, rfl⟩ := hv
    refine h w' A3 c3 h2 (grown_turn h3) ?_
    intro k hk
    cases A3 with
    | none => simp [blkA] at hk
    | some ad =>
      simp [blkA] at hk
      subst hk
      rcases h5 with h5 | h5
      · left
        cases A with
        | none => cases h5
        | some ad' => injection h5 with h5; simp [blkA, h5]
      · injection h5 with h5
        right
        omega
theorem step_appN {P : Program} {W : World} {ops : Array Oper} {o : Oper} {a : Act} {K : Act → World → Prop} {Q : Exit → Act → World → Prop} {E : Prop} (hgd : o.guard = none) (s x : Operand) (t : TypeId)
    (ho : o.op = .call { callee := .builtin .append, args := #[s, x], argTypes := #[t, t] })
    (base : Nat) (e : TypeId) (i : TypeInfo) (z : Value) (size bytes : Nat) (ht : P.underlying t = some (.slice e)) (hi : P.info? e = some i) (hz : i.zero = some z) (hsize : i.size = size) (hby : i.bytes = bytes) (hzs : z.cells.size = size) (hsz : 0 < size)
    (A : Option Addr) (n c : Nat) (xs : List Value) (hs : a.eval s = .slice A n c) (hown : W.ownsRow base e size (.slice A n c) n xs)
    (B : Option Addr) (m d : Nat) (news : List Value) (hx : a.eval x = .slice B m d) (hr : Rd W B news) (hnl : news.length = m * size) (h1 : ∀ u ∈ news, u.oneCell' = true) (hd : B = none → d = 0)
    (h63 : n + m ≤ maxLen) (hbytes : (n + m) * bytes ≤ 140737488355328) (hbase : base ≤ W.heap.size)
    (h : ∀ (w3 : World) (A3 : Option Addr) (c3 : Nat), Hid (w3.ownsRow base e size (.slice A3 (n + m) c3) (n + m) (xs ++ news)) → Hid (Turn (blkA A) W w3) → Hid (∀ k ∈ blkA A3, k ∈ blkA A ∨ W.heap.size ≤ k) → K (a.put o.dst (.slice A3 (n + m : Nat) c3)) w3) : if Region.wanted o (yielded ops a.tmps) = true then Oper.wp P o a W K Q else E := by
  have hw : Region.wanted o (yielded ops a.tmps) = true := by simp [Region.wanted, hgd]
  rw [if_pos hw]
  exact wp_appN s x t ho base e i z size bytes ht hi hz hsize hby hzs hsz A n c xs hs hown B m d news hx hr hnl h1 hd h63 hbytes hbase h
end Go.Proofs.Ytlmdkmflbhnlgaa
namespace Go.Proofs.Ytlmdkmflbhnlgaa
open Go.RowKit
/-- What Cancel does. -/
def RCancelOf (w : World) (base qb o room last : Nat) (L : List QI) (no : Int) (cs : Array Value) (ty : TypeId) (e : Ending) (w' : World) : Prop :=
  (hasQ no (L.map absI) = false ∧ e = .returned (.int .i64 9) ∧ Below w.heap.size w w') ∨
    (hasQ no (L.map absI) = true ∧ e = .returned (.int .i64 0) ∧ ∃ (A' : Option Addr) (c' : Nat) (L' : List QI), RefQ w' base qb o room last A' c' L' (cs.setIfInBounds (o + 2) (.slice A' L'.length c')) ty ∧ L'.map absI = rmQ no (L.map absI) ∧ Turn [qb] w w' ∧ ∀ k ∈ blkA A', w.heap.size ≤ k)
theorem rm_at {q : List QE} {k : Nat} (hk : k < q.length) (hnd : (q.map (·.no)).Nodup) : rmQ q[k].no q = q.take k ++ q.drop (k + 1) := by
  have e : q = q.take k ++ q[k] :: q.drop (k + 1) := by rw [← List.drop_eq_getElem_cons hk, List.take_append_drop]
  obtain ⟨x, hx⟩ : ∃ x, q[k] = x := ⟨_, rfl⟩
  rw [hx] at e ⊢
  have hnd2 : ((q.take k ++ x :: q.drop (k + 1)).map (·.no)).Nodup := by rw [← e]; exact hnd
  rw [List.map_append, List.map_cons, List.nodup_append] at hnd2
  obtain ⟨_, n2, n3⟩ := hnd2
  rw [List.nodup_cons] at n2
  have h1 : rmQ x.no (q.take k) = q.take k := rmQ_none fun y hy e => n3 _ (List.mem_map_of_mem hy) _ List.mem_cons_self e
  have h2 : rmQ x.no (q.drop (k + 1)) = q.drop (k + 1) := rmQ_none fun y hy e => n2.1 (by rw [← e]; exact List.mem_map_of_mem hy)
  have h3 : rmQ x.no q = rmQ x.no (q.take k ++ x :: q.drop (k + 1)) := by rw [← e]
  rw [h3]
  unfold rmQ at h1 h2 ⊢
  rw [List.filter_append, h1, List.filter_cons, if_neg (by simp), h2]
theorem RefQ.cut {w X w9 : World} {base qb o room last c k c8 : Nat} {A A8 : Option Addr} {L : List QI} {cs : Array Value} {ty : TypeId} {no : Int} (h : RefQ X base qb o room last A c L cs ty) (hwX : Below w.heap.size w X) (hbase : base ≤ w.heap.size) (hk : k < L.length) (hno : L[k].no = no) (hnd : ((L.map absI).map (·.no)).Nodup)
    (hb : Below X.heap.size X w9) (hA : ∀ j ∈ blkA A8, X.heap.size ≤ j) (N : Nat) (hN : N = L.length - 1) (ho : w9.ownsRow X.heap.size 60 12 (.slice A8 N c8) N ((L.take k).flatMap qiL ++ (L.drop (k + 1)).flatMap qiL)) :
    RCancelOf w base qb o room last L no cs ty (.returned (.int .i64 0)) (w9.setCell ⟨qb, o + 2, none⟩ (.slice A8 N c8)) := by
  have h9 := h.below hb
  have h1 := (Array.getElem?_eq_some_iff.1 h.c2).1
  have ht : Turn [qb] w9 (w9.setCell ⟨qb, o + 2, none⟩ (.slice A8 N c8)) := (Turn.refl _ _).setCell (.inl (by simp)) _
  have hqb : qb < X.heap.size := heap_lt h.box
  have hne : ∀ j ∈ blkA A8, j ∉ [qb] := fun j hj hm => by have := hA j hj; simp at hm; omega
  have hl : (L.take k ++ L.drop (k + 1)).length = N := by rw [List.length_append, List.length_take, List.length_drop]; omega
  have hkm : k < (L.map absI).length := by rw [List.length_map]; exact hk
  have hr := rm_at hkm hnd
  have hxe : (L.map absI)[k] = absI L[k] := by simp
  rw [hxe] at hr
  have hno2 : (absI L[k]).no = no := hno
  rw [hno2] at hr
  refine .inr ⟨?_, rfl, A8, c8, L.take k ++ L.drop (k + 1), ⟨?_, ?_, ?_, ?_, h.ne, ?_, fun x hx => ?_, h.lo⟩, ?_, ((Turn.of hwX).tr ((Turn.of hb).tr (Turn.refl _ _))).tr ht, fun j hj => Nat.le_trans hwX.size (hA j hj)⟩
  · unfold hasQ
    rw [List.any_eq_true]
    exact ⟨absI L[k], List.mem_map_of_mem (List.getElem_mem hk), decide_eq_true hno2⟩
  · rw [hl]; exact heap_setCell h9.box (o + 2) _
  · rw [Array.getElem?_setIfInBounds_ne (by omega)]; exact h9.c0
  · rw [Array.getElem?_setIfInBounds_ne (by omega)]; exact h9.c1
  · rw [Array.getElem?_setIfInBounds_self_of_lt (by omega)]
  · rw [hl, List.flatMap_append]
    exact own_mono12 (own_turn ho ht hne) (by have := hwX.size; omega)
  · have hf : ∀ j ∈ [qb], ∃ cs u fr, w9.heap[j]? = some (.cells cs u fr) ∧ u ≠ 5 := fun j hj => by
      rw [List.mem_singleton.1 hj]
      exact ⟨_, _, _, h9.box, h9.ne.1⟩
    refine (h9.data x ?_).turn_ty ht hf
    rcases List.mem_append.1 hx with hx | hx
    · exact List.mem_of_mem_take hx
    · exact List.mem_of_mem_drop hx
  · rw [hr, List.map_append, List.map_take, List.map_drop]
set_option maxRecDepth 100000 in
set_option maxHeartbeats 16000000 in
theorem RCancel_any (w : World) (base qb o room last c n : Nat) (A : Option Addr) (no : Int) (L : List QI) (cs : Array Value) (ty : TypeId) (h : RefQ w base qb o room last A c L cs ty) (hn : L.length = n) (hn2 : n ≤ 64) (hbase : base ≤ w.heap.size) (hnd : ((L.map absI).map (·.no)).Nodup) :
    Calls Try.prog 72 #[.pointer (some ⟨qb, o, none⟩), .int .i64 no] w (RCancelOf w base qb o room last L no cs ty) := by
  have HREF := Lib.hid h
  have HN := Lib.hid hn
  have HND := Lib.hid hnd
  have c2 : w.cell? ⟨qb, o + 2, none⟩ = some (.slice A n c) := by rw [← hn]; exact cell_of_heap h.box (o + 2) _ h.c2
  obtain ⟨i0, hi, hz0, hz1, hz2⟩ := info_itemR
  clear h hn hnd
  go_enter Try.func72, Try.ntmps72
  go_wp2_with fail
  clear c2
  go_loopw [12] (fun v wr => ∃ k : Nat, k ≤ n ∧ v = .int .i64 k ∧ Hid (∀ j (h : j < L.length), j < k → L[j].no ≠ no) ∧ Hid (Below w.heap.size w wr)) (fun v _ => n - (intOf v).toNat)
  case atStart => exact ⟨0, by omega, rfl, fun j h hj => by omega, Below.refl _ _⟩
  case round =>
    obtain ⟨k, hk, rfl, HK, HB⟩ := hrel
    by_cases hkn : k < n
    · have hkl : k < L.length := by rw [HN.out]; exact hkn
      have HR1 := Lib.hid (HREF.out.below HB.out)
      obtain ⟨g, rfl, hc⟩ := own_cells12 HR1.out.own k hkl
      obtain ⟨x, hx⟩ : ∃ x, L[k]'hkl = x := ⟨_, rfl⟩
      rw [hx] at hc
      have HX := Lib.hid hx
      have a0 : wr.cell? ⟨g, k * 12, none⟩ = some (.int .i64 x.no) := hc 0 _ rfl
      have a1 := hc 1 _ rfl
      have a2 := hc 2 _ rfl
      have a3 := hc 3 _ rfl
      have a4 := hc 4 _ rfl
      have a5 := hc 5 _ rfl
      have a6 := hc 6 _ rfl
      have a7 := hc 7 _ rfl
      have a8 := hc 8 _ rfl
      have a9 := hc 9 _ rfl
      have a10 := hc 10 _ rfl
      have a11 := hc 11 _ rfl
      clear hc hx
      by_cases hno : x.no = no
      · have HKL := Lib.hid hkl
        have HNO : Hid ((L[k]'hkl).no = no) := by show _ = _; rw [HX.out]; exact hno
        go_wp2_with fail
        obtain ⟨W3, hW3⟩ : ∃ W3, wr.alloc (.cells #[.int .i64 no, .int .i64 x.s.f.kind, .int .u32 x.s.f.id, .bool x.s.f.ext, .bool x.s.f.rtr, .bool x.s.f.brs, .bool x.s.f.esi, .bool x.s.f.sec, .int .u8 x.s.f.sdt, .int .u8 x.s.f.vcid, .int .u32 x.s.f.af, .slice x.s.A x.s.f.data.length x.s.c] 60) = W3 := ⟨_, rfl⟩
        have hb3 : Below wr.heap.size wr W3 := by rw [← hW3]; exact below_alloc (Below.refl _ _) _
        rw [hW3]
        have HB3 := Lib.hid (below_trans HB.out hb3)
        have HR3 := Lib.hid (HR1.out.below hb3)
        have y2 : ∀ e : Ext W3, e.W.cell? ⟨qb, o + 2, none⟩ = some (.slice (some ⟨g, 0, none⟩) n c) := fun e => by rw [← HN.out]; exact ext_cell (cell_of_heap HR3.out.box (o + 2) _ HR3.out.c2) e
        have hnc : n ≤ c := by have := (own_cap HR3.out.own).1; rw [HN.out] at this; exact this
        have hc63 : c ≤ 9223372036854775807 := (own_cap HR3.out.own).2
        clear hb3 hW3 a0 a1 a2 a3 a4 a5 a6 a7 a8 a9 a10 a11
        have HRD1 : Hid (∀ W, Below W3.heap.size W3 W → Rd W (some ⟨g, 0, none⟩) ((L.take k).flatMap qiL)) := fun W hb j u hj => by
          have hr := (Rd.own HR3.out.own).below hb
          have e : L.flatMap qiL = (L.take k).flatMap qiL ++ (L.drop k).flatMap qiL := by rw [← List.flatMap_append, List.take_append_drop]
          exact hr j u (by rw [e, List.getElem?_append_left (List.getElem?_eq_some_iff.1 hj).1]; exact hj)
        have HFL1 : Hid (((L.take k).flatMap qiL).length = k * 12) := by show _ = _; rw [flat_len, List.length_take, Nat.min_eq_left (Nat.le_of_lt HKL.out)]
        by_cases hck : c = k + 1
        · subst hck
          refine wp_region_mix (fun w' => ∃ e : Ext W3, w' = e.W) [(true, 0), (true, 2), (true, 3), (true, 4), (true, 5), (true, 6), (true, 7), (true, 9), (true, 10), (true, 11), (true, 12), (true, 13), (true, 14), (true, 15), (false, 1), (false, 8), (false, 16), (true, 17), (true, 18)] [19] (by kernel_rfl) (by kernel_rfl) (by intro _ _ d _ _ h; cases d <;> exact h) ⟨⟨W3.drew, (Below.refl _ _).drew⟩, rfl⟩ ?_
          simp only [pickM, pickL, List.drop_succ_cons, List.drop_zero]
          repeat (first | (refine mix_pure (by rfl) (by rfl) ?_; intro K hK; go_big_quiet_op; go_big_quiet_on) | (refine mix_nilc ⟨qb, o, none⟩ (by rfl) (by kernel_rfl) ?_; go_simp))
          have HFL2 : Hid (((L.drop (k + 1)).flatMap qiL).length = 0 * 12) := by show _ = _; rw [flat_len, List.length_drop, HN.out]; omega
          have HRD2 : ∀ W, Hid (Rd W (some ⟨g, 0, none⟩) ((L.drop (k + 1)).flatMap qiL)) := fun W => by
            have e : L.drop (k + 1) = [] := List.drop_eq_nil_of_le (by have := HN.out; omega)
            show Rd _ _ _
            rw [e]; exact Rd.nil _ _
          refine mix_eff (by rfl) ?_
          intro K hK
          go_simp
          refine hK _ _ ⟨⟨W3.drew.alloc (.cells #[] 60), below_alloc (Below.refl _ W3).drew _⟩, rfl⟩ ?_
          clear hK K
          have HO0 : Hid ((W3.drew.alloc (.cells #[] 60)).ownsRow W3.heap.size 60 12 (.slice (some ⟨W3.heap.size, 0, none⟩) 0 0) 0 []) := own_lit0 (w := W3.drew) (Nat.le_refl _)
          have HB0 : Hid (Below W3.heap.size W3 (W3.drew.alloc (.cells #[] 60))) := below_alloc (Below.refl _ W3).drew _
          have HA0 : Hid (∀ j ∈ blkA (some (⟨W3.heap.size, 0, none⟩ : Addr)), W3.heap.size ≤ j) := fun j hj => Nat.le_of_eq (List.mem_singleton.1 hj).symm
          refine mix_eff (by rfl) ?_
          intro K hK
          refine wp_appN (.tmp 22) (.tmp 28) 56 rfl W3.heap.size 60 i0 _ 12 56 Try.underlying56 hi hz0 hz1 hz2 rfl (by omega) (some ⟨W3.heap.size, 0, none⟩) 0 0 [] (by kernel_rfl) HO0.out (some ⟨g, 0, none⟩) k (k + 1) ((L.take k).flatMap qiL) (by kernel_rfl) (HRD1.out _ HB0.out) HFL1.out (qiL_one _) (fun h => by cases h) (by unfold maxLen; omega) (by omega) HB0.out.size ?_
          intro w4 A4 c4 HO4 HT4 HF4
          simp only [Nat.zero_add, List.nil_append] at HO4 ⊢
          have HB4 : Hid (Below W3.heap.size W3 w4) := HB0.out.trans (HT4.out.below HA0.out HB0.out.size)
          have HA4 : Hid (∀ j ∈ blkA A4, W3.heap.size ≤ j) := fun j hj => (HF4.out j hj).elim (HA0.out j) (fun h => Nat.le_trans HB0.out.size h)
          refine hK _ _ ⟨⟨w4, HB4.out⟩, rfl⟩ ?_
          clear hK K
          refine mix_eff (by rfl) ?_
          intro K hK
          refine wp_appN (.tmp 29) (.tmp 36) 56 rfl W3.heap.size 60 i0 _ 12 56 Try.underlying56 hi hz0 hz1 hz2 rfl (by omega) A4 k c4 ((L.take k).flatMap qiL) (by kernel_rfl) HO4.out (some ⟨g, 0, none⟩) 0 0 ((L.drop (k + 1)).flatMap qiL) (by kernel_rfl) (HRD2 _).out HFL2.out (qiL_one _) (fun h => by cases h) (by unfold maxLen; omega) (by omega) HB4.out.size ?_
          intro w6 A6 c6 HO6 HT6 HF6
          have HB6 : Hid (Below W3.heap.size W3 w6) := HB4.out.trans (HT6.out.below HA4.out HB4.out.size)
          have HA6 : Hid (∀ j ∈ blkA A6, W3.heap.size ≤ j) := fun j hj => (HF6.out j hj).elim (HA4.out j) (fun h => Nat.le_trans HB4.out.size h)
          refine hK _ _ ⟨⟨w6, HB6.out⟩, rfl⟩ ?_
          clear hK K
          repeat (first | (refine mix_pure (by rfl) (by rfl) ?_; intro K hK; go_big_quiet_op; go_big_quiet_on) | (refine mix_nilc ⟨qb, o, none⟩ (by rfl) (by kernel_rfl) ?_; go_simp))
          refine mix_nil ?_
          have q6 := heap_below HB6.out HR3.out.box
          have y6 := cell_of_heap q6 (o + 2) _ HR3.out.c2
          have z6 : w6.frozen? ⟨qb, o + 2, none⟩ = false := by simp [World.frozen?, q6]
          have HE := Lib.hid (HR3.out.cut HB3.out hbase HKL.out HNO.out HND.out HB6.out HA6.out (k + 0) (by have := HN.out; omega) HO6.out)
          go_wp2_with fail
          go_ret
          exact HE.out
        · refine wp_region_mix (fun w' => ∃ e : Ext W3, w' = e.W) [(true, 0), (true, 2), (true, 3), (true, 4), (true, 5), (true, 6), (true, 7), (true, 9), (true, 10), (true, 11), (true, 12), (true, 13), (true, 14), (true, 15), (false, 1), (false, 8), (false, 16), (true, 17), (true, 18)] [19] (by kernel_rfl) (by kernel_rfl) (by intro _ _ d _ _ h; cases d <;> exact h) ⟨⟨W3.drew, (Below.refl _ _).drew⟩, rfl⟩ ?_
          simp only [pickM, pickL, List.drop_succ_cons, List.drop_zero]
          repeat (first | (refine mix_pure (by rfl) (by rfl) ?_; intro K hK; go_big_quiet_op; go_big_quiet_on) | (refine mix_nilc ⟨qb, o, none⟩ (by rfl) (by kernel_rfl) ?_; go_simp))
          have HFL2 : Hid (((L.drop (k + 1)).flatMap qiL).length = (n - (k + 1)) * 12) := by show _ = _; rw [flat_len, List.length_drop, HN.out]
          have HRD2 : Hid (∀ W, Below W3.heap.size W3 W → Rd W (some ⟨g, (k + 1) * 12, none⟩) ((L.drop (k + 1)).flatMap qiL)) := fun W hb j u hj => by
            have hr := (Rd.own HR3.out.own).below hb
            have e : L.flatMap qiL = (L.take (k + 1)).flatMap qiL ++ (L.drop (k + 1)).flatMap qiL := by rw [← List.flatMap_append, List.take_append_drop]
            have hl : ((L.take (k + 1)).flatMap qiL).length = (k + 1) * 12 := by rw [flat_len, List.length_take, Nat.min_eq_left HKL.out]
            obtain ⟨ad, e1, hc⟩ := hr ((k + 1) * 12 + j) u (by rw [e, List.getElem?_append_right (by rw [hl]; omega), hl, Nat.add_sub_cancel_left]; exact hj)
            injection e1 with e1
            subst e1
            refine ⟨_, rfl, ?_⟩
            have e3 : (⟨g, (k + 1) * 12, none⟩ : Addr) = (⟨g, 0, none⟩ : Addr).add ((k + 1) * 12) := by simp [Addr.add]
            rw [e3, add_of_add]; exact hc
          refine mix_eff (by rfl) ?_
          intro K hK
          go_simp
          refine hK _ _ ⟨⟨W3.drew.alloc (.cells #[] 60), below_alloc (Below.refl _ W3).drew _⟩, rfl⟩ ?_
          clear hK K
          have HO0 : Hid ((W3.drew.alloc (.cells #[] 60)).ownsRow W3.heap.size 60 12 (.slice (some ⟨W3.heap.size, 0, none⟩) 0 0) 0 []) := own_lit0 (w := W3.drew) (Nat.le_refl _)
          have HB0 : Hid (Below W3.heap.size W3 (W3.drew.alloc (.cells #[] 60))) := below_alloc (Below.refl _ W3).drew _
          have HA0 : Hid (∀ j ∈ blkA (some (⟨W3.heap.size, 0, none⟩ : Addr)), W3.heap.size ≤ j) := fun j hj => Nat.le_of_eq (List.mem_singleton.1 hj).symm
          refine mix_eff (by rfl) ?_
          intro K hK
          refine wp_appN (.tmp 22) (.tmp 28) 56 rfl W3.heap.size 60 i0 _ 12 56 Try.underlying56 hi hz0 hz1 hz2 rfl (by omega) (some ⟨W3.heap.size, 0, none⟩) 0 0 [] (by kernel_rfl) HO0.out (some ⟨g, 0, none⟩) k c ((L.take k).flatMap qiL) (by kernel_rfl) (HRD1.out _ HB0.out) HFL1.out (qiL_one _) (fun h => by cases h) (by unfold maxLen; omega) (by omega) HB0.out.size ?_
          intro w4 A4 c4 HO4 HT4 HF4
          simp only [Nat.zero_add, List.nil_append] at HO4 ⊢
          have HB4 : Hid (Below W3.heap.size W3 w4) := HB0.out.trans (HT4.out.below HA0.out HB0.out.size)
          have HA4 : Hid (∀ j ∈ blkA A4, W3.heap.size ≤ j) := fun j hj => (HF4.out j hj).elim (HA0.out j) (fun h => Nat.le_trans HB0.out.size h)
          refine hK _ _ ⟨⟨w4, HB4.out⟩, rfl⟩ ?_
          clear hK K
          refine mix_eff (by rfl) ?_
          intro K hK
          refine wp_appN (.tmp 29) (.tmp 36) 56 rfl W3.heap.size 60 i0 _ 12 56 Try.underlying56 hi hz0 hz1 hz2 rfl (by omega) A4 k c4 ((L.take k).flatMap qiL) (by kernel_rfl) HO4.out (some ⟨g, (k + 1) * 12, none⟩) (n - (k + 1)) (c - (k + 1)) ((L.drop (k + 1)).flatMap qiL) (by kernel_rfl) (HRD2.out _ HB4.out) HFL2.out (qiL_one _) (fun h => by cases h) (by unfold maxLen; omega) (by omega) HB4.out.size ?_
          intro w6 A6 c6 HO6 HT6 HF6
          have HB6 : Hid (Below W3.heap.size W3 w6) := HB4.out.trans (HT6.out.below HA4.out HB4.out.size)
          have HA6 : Hid (∀ j ∈ blkA A6, W3.heap.size ≤ j) := fun j hj => (HF6.out j hj).elim (HA4.out j) (fun h => Nat.le_trans HB4.out.size h)
          refine hK _ _ ⟨⟨w6, HB6.out⟩, rfl⟩ ?_
          clear hK K
          repeat (first | (refine mix_pure (by rfl) (by rfl) ?_; intro K hK; go_big_quiet_op; go_big_quiet_on) | (refine mix_nilc ⟨qb, o, none⟩ (by rfl) (by kernel_rfl) ?_; go_simp))
          refine mix_nil ?_
          have q6 := heap_below HB6.out HR3.out.box
          have y6 := cell_of_heap q6 (o + 2) _ HR3.out.c2
          have z6 : w6.frozen? ⟨qb, o + 2, none⟩ = false := by simp [World.frozen?, q6]
          have HE := Lib.hid (HR3.out.cut HB3.out hbase HKL.out HNO.out HND.out HB6.out HA6.out (k + (n - (k + 1))) (by have := HN.out; omega) HO6.out)
          go_wp2_with fail
          go_ret
          exact HE.out
      · go_wp2_with fail
        go_roundw
        case rel =>
          refine ⟨k + 1, by omega, by go_num, fun j h hj => ?_, below_alloc HB.out _⟩
          by_cases hjk : j = k
          · subst hjk; rw [HX.out]; exact hno
          · exact HK.out j h (by omega)
        case measure => simp [intOf]; omega
    · obtain rfl : k = n := by omega
      go_wp2_with fail
      go_ret
      refine .inl ⟨?_, rfl, HB.out⟩
      unfold hasQ
      rw [List.any_eq_false]
      intro y hy
      obtain ⟨z, hz, rfl⟩ := List.mem_map.1 hy
      obtain ⟨j, hj, rfl⟩ := List.getElem_of_mem hz
      intro h
      exact HK.out j hj (by rw [← HN.out]; exact hj) (of_decide_eq_true h)
end Go.Proofs.Ytlmdkmflbhnlgaa
namespace Go.Proofs.Ytlmdkmflbhnlgaa
open Go.RowKit
/-- How the document's fifo lies: at some offset of a block. -/
structure RefF (w : World) (base mb o room over : Nat) (A : Option Addr) (c : Nat) (F : List SF) (cs : Array Value) (ty : TypeId) : Prop where
  box : w.heap[mb]? = some (.cells cs ty (0, 0))
  c0 : cs[o]? = some (.int .i64 room)
  c1 : cs[o + 1]? = some (.int .i64 over)
  c2 : cs[o + 2]? = some (.slice A F.length c)
  ne : ty ≠ 5 ∧ ty ≠ 42 ∧ ty ≠ 91
  rd : Rd w A (F.flatMap frL)
  nz : A = none → c = 0
  le : F.length ≤ c
  blk : ∀ k ∈ blkA A, base ≤ k ∧ ∃ ds, w.heap[k]? = some (.cells ds 42 (0, 0))
  data : ∀ s ∈ F, Row w base 5 s.A s.c (bys s.f.data)
  lo : base ≤ mb
theorem RefF.turn {w w' : World} {base mb o room over c : Nat} {A : Option Addr} {F : List SF} {cs : Array Value} {ty : TypeId} {s : List Nat} (h : RefF w base mb o room over A c F cs ty) (ht : Turn s w w') (hf : Foot s w) (hq : mb ∉ s) (hA : ∀ k ∈ blkA A, k ∉ s) : RefF w' base mb o room over A c F cs ty :=
  ⟨ht.heap h.box hq, h.c0, h.c1, h.c2, h.ne, h.rd.turn ht (fun ad e => hA _ (by rw [e]; simp [blkA])), h.nz, h.le, fun k hk => by obtain ⟨h1, ds, h2⟩ := h.blk k hk; exact ⟨h1, ds, ht.heap h2 (hA k hk)⟩, fun x hx => (h.data x hx).turn_ty ht hf.bytes, h.lo⟩
theorem RefF.below {w w' : World} {base mb o room over c : Nat} {A : Option Addr} {F : List SF} {cs : Array Value} {ty : TypeId} (h : RefF w base mb o room over A c F cs ty) (hb : Below w.heap.size w w') : RefF w' base mb o room over A c F cs ty :=
  h.turn (s := []) (Turn.of hb) (fun k hk => by simp at hk) (by simp) (fun k _ => by simp)
theorem RefF.ne_blk {w : World} {base mb o room over c : Nat} {A : Option Addr} {F : List SF} {cs : Array Value} {ty : TypeId} (h : RefF w base mb o room over A c F cs ty) : ∀ k ∈ blkA A, k ≠ mb ∧ k < w.heap.size := fun k hk => by
  obtain ⟨h1, ds, h2⟩ := h.blk k hk
  exact ⟨fun e => ne_of_type h2 h.box (Ne.symm h.ne.2.1) e, heap_lt h2⟩
set_option maxRecDepth 100000 in
set_option maxHeartbeats 4000000 in
theorem RPush_no (w : World) (mb o d m : Nat) (B : Option Addr) (f : Fr) (hm : f.data.length = m) (hq : okF f = false) :
    Calls Try.prog 74 #[.pointer (some ⟨mb, o, none⟩), frv f (.slice B m d)] w fun e w' => e = .returned (.tuple #[.bool false, .int .i64 2]) ∧ Below w.heap.size w w' := by
  subst hm
  have HC := Lib.hid (fun W => CheckR_any f B d W)
  rw [hq] at HC
  clear hq
  obtain ⟨fk, fi, fe, fr, f4, f5, f6, f7, f8, f9, data⟩ := f
  dsimp only [frv] at *
  go_enter Try.func74, Try.ntmps74
  go_wp2_with fail
  refine (HC.out _).mono ?_
  rintro e w1 ⟨rfl, hb⟩
  have HB := Lib.hid (below_trans (below_alloc (Below.refl _ _) _) hb)
  clear hb
  simp only [errV, Bool.false_eq_true, if_false]
  go_wp2_with fail
  go_ret2
  exact ⟨by first | rfl | simp, HB.out⟩
set_option maxRecDepth 100000 in
set_option maxHeartbeats 4000000 in
theorem RPush_full (w : World) (base mb o room over c n d m : Nat) (A B : Option Addr) (f : Fr) (F : List SF) (cs : Array Value) (ty : TypeId) (h : RefF w base mb o room over A c F cs ty) (hn : F.length = n) (hm : f.data.length = m) (hq : okF f = true) (hf : room ≤ n) (ho : over ≤ 1000000) :
    Calls Try.prog 74 #[.pointer (some ⟨mb, o, none⟩), frv f (.slice B m d)] w fun e w' => e = .returned (.tuple #[.bool false, .int .i64 0]) ∧ RefF w' base mb o room (over + 1) A c F (cs.setIfInBounds (o + 1) (.int .i64 ((over : Int) + 1))) ty ∧ Turn [mb] w w' := by
  subst hm
  have HC := Lib.hid (fun W => CheckR_any f B d W)
  rw [hq] at HC
  clear hq
  have HREF := Lib.hid h
  have HN := Lib.hid hn
  clear h hn
  obtain ⟨fk, fi, fe, fr, f4, f5, f6, f7, f8, f9, data⟩ := f
  dsimp only [frv] at *
  go_enter Try.func74, Try.ntmps74
  go_wp2_with fail
  refine calls_blk1 fun W1 q1 hb1 => ?_
  refine (HC.out _).mono ?_
  rintro e w1 ⟨rfl, hb⟩
  have HB := Lib.hid (below_trans hb1 hb)
  have HR1 := Lib.hid (HREF.out.below HB.out)
  have x0 : w1.cell? ⟨mb, o, none⟩ = some (.int .i64 room) := cell_of_heap HR1.out.box o _ HR1.out.c0
  have x1 : w1.cell? ⟨mb, o + 1, none⟩ = some (.int .i64 over) := cell_of_heap HR1.out.box (o + 1) _ HR1.out.c1
  have x2 : w1.cell? ⟨mb, o + 2, none⟩ = some (.slice A n c) := by rw [← HN.out]; exact cell_of_heap HR1.out.box (o + 2) _ HR1.out.c2
  have zf : ∀ k, w1.frozen? ⟨mb, k, none⟩ = false := fun k => by simp [World.frozen?, HR1.out.box]
  clear hb hb1 q1
  simp only [errV, if_true]
  go_wp2_with fail
  go_quiet (fail)
  go_wp2_with fail
  go_ret2
  have hd : Below w1.heap.size w1 (w1.drewN nq) := below_drewN (Below.refl _ _) _
  have hr2 := HR1.out.below hd
  have h1 := (Array.getElem?_eq_some_iff.1 hr2.c1).1
  have ht : Turn [mb] (w1.drewN nq) ((w1.drewN nq).setCell ⟨mb, o + 1, none⟩ (.int .i64 ((over : Int) + 1))) := (Turn.refl _ _).setCell (.inl (by simp)) _
  refine ⟨by first | rfl | simp, ⟨heap_setCell hr2.box (o + 1) _, ?_, ?_, ?_, hr2.ne, ?_, hr2.nz, hr2.le, fun k hk => ?_, fun x hx => ?_, hr2.lo⟩, (Turn.of (below_trans HB.out hd)).tr ht⟩
  · rw [Array.getElem?_setIfInBounds_ne (by omega)]; exact hr2.c0
  · rw [Array.getElem?_setIfInBounds_self_of_lt (by omega)]; simp
  · rw [Array.getElem?_setIfInBounds_ne (by omega)]; exact hr2.c2
  · exact hr2.rd.turn ht (fun ad e hm => (hr2.ne_blk ad.block (by rw [e]; simp [blkA])).1 (by simpa using hm))
  · obtain ⟨h2, ds, h3⟩ := hr2.blk k hk
    exact ⟨h2, ds, ht.heap h3 (fun hm => (hr2.ne_blk k hk).1 (by simpa using hm))⟩
  · exact (hr2.data x hx).turn_ty ht fun k hk => by
      simp at hk
      subst hk
      exact ⟨_, _, _, hr2.box, hr2.ne.1⟩
theorem flatF_len : ∀ (L : List SF), (L.flatMap frL).length = L.length * 11
  | [] => rfl
  | x :: r => by rw [List.flatMap_cons, List.length_append, flatF_len r, List.length_cons]; show 11 + _ = _; omega
theorem frL_flat_one (L : List SF) : ∀ u ∈ L.flatMap frL, u.oneCell' = true := by
  intro u hu
  obtain ⟨x, _, hu⟩ := List.mem_flatMap.1 hu
  exact frL_one x u hu
/-- What Pop does. -/
def RPopOf (w : World) (base mb o room over : Nat) (A : Option Addr) (F : List SF) (cs : Array Value) (ty : TypeId) (e : Ending) (w' : World) : Prop :=
  (F = [] ∧ e = .returned (.tuple #[.agg zfL.toArray, .int .i64 9]) ∧ Below w.heap.size w w') ∨
    ∃ (s : SF) (r : List SF) (A' : Option Addr) (c' : Nat), F = s :: r ∧ e = .returned (.tuple #[.agg (frL s).toArray, .int .i64 0]) ∧ RefF w' base mb o room over A' c' r (cs.setIfInBounds (o + 2) (.slice A' r.length c')) ty ∧ Turn [mb] w w' ∧ ∀ k ∈ blkA A', k ∈ blkA A
theorem bel_turn {X Y w6 : World} {A : Option Addr} (h : Below X.heap.size X Y) (ht : Turn (blkA A) Y w6) (hA : ∀ k ∈ blkA A, X.heap.size ≤ k) : Below X.heap.size X w6 := h.trans (ht.below hA h.size)
theorem blk_ge {A A' : Option Addr} {a b : Nat} (hF : ∀ k ∈ blkA A', k ∈ blkA A ∨ b ≤ k) (hA : ∀ k ∈ blkA A, a ≤ k) (hb : a ≤ b) : ∀ k ∈ blkA A', a ≤ k := fun k hk => (hF k hk).elim (hA k) (fun h => Nat.le_trans hb h)
theorem info_frame16 : ∃ i : TypeInfo, Try.prog.info? 42 = some i ∧ i.zero = some (.agg #[.int .i64 0, .int .u32 0, .bool false, .bool false, .bool false, .bool false, .bool false, .int .u8 0, .int .u8 0, .int .u32 0, .slice none 0 0]) ∧ i.size = 11 ∧ i.bytes = 48 := by
  have h : (Try.prog.info? 42).isSome = true ∧ (∀ i, Try.prog.info? 42 = some i → i.zero = some (.agg #[.int .i64 0, .int .u32 0, .bool false, .bool false, .bool false, .bool false, .bool false, .int .u8 0, .int .u8 0, .int .u32 0, .slice none 0 0]) ∧ i.size = 11 ∧ i.bytes = 48) := by
    refine ⟨by kernel_rfl, fun i hi => ?_⟩
    have h2 : (Try.prog.info? 42).map (fun i => (i.size, i.bytes)) = some (11, 48) := by kernel_rfl
    have h3 : (Try.prog.info? 42).bind (fun i => i.zero) = some (.agg #[.int .i64 0, .int .u32 0, .bool false, .bool false, .bool false, .bool false, .bool false, .int .u8 0, .int .u8 0, .int .u32 0, .slice none 0 0]) := by kernel_rfl
    rw [hi] at h2 h3
    simp at h2 h3
    exact ⟨h3, h2⟩
  obtain ⟨i, hi⟩ := Option.isSome_iff_exists.1 h.1
  exact ⟨i, hi, h.2 i hi⟩
/-- What Push does where it lets in. -/
def RPushIn (w : World) (base mb o room over : Nat) (F : List SF) (f : Fr) (cs : Array Value) (ty : TypeId) (e : Ending) (w' : World) : Prop :=
  e = .returned (.tuple #[.bool true, .int .i64 0]) ∧ ∃ (A' : Option Addr) (c' : Nat) (s : SF), s.f = f ∧ RefF w' base mb o room over A' c' (F ++ [s]) (cs.setIfInBounds (o + 2) (.slice A' (F.length + 1) c')) ty ∧ Turn [mb] w w' ∧ ∀ k ∈ blkA A', w.heap.size ≤ k
theorem RefF.pushed {w X w9 : World} {base mb o room over c n c8 c9 : Nat} {A A8 A9 : Option Addr} {F : List SF} {cs : Array Value} {ty : TypeId} {f : Fr} (h : RefF X base mb o room over A c F cs ty) (hn : F.length = n) (hwX : Below w.heap.size w X) (hbase : base ≤ w.heap.size) (hrow : Row X (w.heap.size + 1) 5 A9 c9 (bys f.data))
    (hb : Below X.heap.size X w9) (hA : ∀ k ∈ blkA A8, X.heap.size ≤ k) (ho : w9.ownsRow X.heap.size 42 11 (.slice A8 (n + 1) c8) (n + 1) (F.flatMap frL ++ frL ⟨f, A9, c9⟩)) :
    RPushIn w base mb o room over F f cs ty (.returned (.tuple #[.bool true, .int .i64 0])) (w9.setCell ⟨mb, o + 2, none⟩ (.slice A8 (n + 1 : Nat) c8)) := by
  subst hn
  have h9 := h.below hb
  have h1 := (Array.getElem?_eq_some_iff.1 h.c2).1
  have ht : Turn [mb] w9 (w9.setCell ⟨mb, o + 2, none⟩ (.slice A8 (F.length + 1 : Nat) c8)) := (Turn.refl _ _).setCell (.inl (by simp)) _
  have hmb : mb < X.heap.size := heap_lt h.box
  have hne : ∀ k ∈ blkA A8, k ∉ [mb] := fun k hk hm => by have := hA k hk; simp at hm; omega
  have hl : (F ++ [(⟨f, A9, c9⟩ : SF)]).length = F.length + 1 := by simp
  refine ⟨rfl, A8, c8, ⟨f, A9, c9⟩, rfl, ⟨heap_setCell h9.box (o + 2) _, ?_, ?_, ?_, h.ne, ?_, fun e => ?_, ?_, fun k hk => ?_, fun x hx => ?_, h.lo⟩, ((Turn.of hwX).tr ((Turn.of hb).tr (Turn.refl _ _))).tr ht, fun k hk => Nat.le_trans hwX.size (hA k hk)⟩
  · rw [Array.getElem?_setIfInBounds_ne (by omega)]; exact h9.c0
  · rw [Array.getElem?_setIfInBounds_ne (by omega)]; exact h9.c1
  · rw [Array.getElem?_setIfInBounds_self_of_lt (by omega), hl]
  · have h2 := Rd.own ho
    have e2 : (F ++ [(⟨f, A9, c9⟩ : SF)]).flatMap frL = F.flatMap frL ++ frL ⟨f, A9, c9⟩ := by simp
    rw [e2]
    exact h2.turn ht (fun ad e => hne _ (by rw [e]; simp [blkA]))
  · rcases ho.2 with ⟨hv, _⟩ | ⟨g, cap, cur, hv, _⟩
    · injection hv
    · injection hv with hv; rw [e] at hv; cases hv
  · rw [hl]; exact (own_cap ho).1
  · refine ⟨by have := hA k hk; have := hwX.size; omega, ?_⟩
    rcases ho.2 with ⟨hv, _⟩ | ⟨g, cap, cur, hv, hg, hh, _⟩
    · injection hv with hv; subst hv; simp [blkA] at hk
    · injection hv with hv; subst hv
      have e : k = g := List.mem_singleton.1 hk
      subst e
      exact ⟨_, ht.heap hh (hne _ (by simp [blkA]))⟩
  · have hf : ∀ k ∈ [mb], ∃ cs u fr, w9.heap[k]? = some (.cells cs u fr) ∧ u ≠ 5 := fun k hk => by
      simp at hk
      subst hk
      exact ⟨_, _, _, h9.box, h9.ne.1⟩
    rcases List.mem_append.1 hx with hx | hx
    · exact (h9.data x hx).turn_ty ht hf
    · rw [List.mem_singleton.1 hx]
      exact ((hrow.below hb).mono (by omega)).turn_ty ht hf
set_option maxRecDepth 100000 in
set_option maxHeartbeats 16000000 in
theorem RPush_in (w : World) (base mb o room over c n d m : Nat) (A B : Option Addr) (f : Fr) (F : List SF) (cs : Array Value) (ty : TypeId) (h : RefF w base mb o room over A c F cs ty) (hn : F.length = n) (hm : f.data.length = m) (hq : okF f = true) (hf : n < room)
    (hroom : room ≤ 64) (hbase : base ≤ w.heap.size) (hr : Rd w B (bys f.data)) (hz : B = none → d = 0) (hm2 : m ≤ 1000000) :
    Calls Try.prog 74 #[.pointer (some ⟨mb, o, none⟩), frv f (.slice B m d)] w (RPushIn w base mb o room over F f cs ty) := by
  have HC := Lib.hid (fun W => CheckR_any f B d W)
  rw [hq, hm] at HC
  have HM := Lib.hid hm
  have HN := Lib.hid hn
  have HR := Lib.hid hr
  have HREF := Lib.hid h
  obtain ⟨i0, hi, hz0, hz1, hz2⟩ := info_frame16
  obtain ⟨i1, hi1, hy0, hy1, hy2⟩ := info_parts info_u8c
  clear h hn hq hm hr
  obtain ⟨fk, fi, fe, fr, f4, f5, f6, f7, f8, f9, data⟩ := f
  dsimp only [frv] at *
  go_enter Try.func74, Try.ntmps74
  go_wp2_with fail
  refine calls_blk1 fun W1 q1 hb1 => ?_
  refine (HC.out _).mono ?_
  rintro e w1 ⟨rfl, hb⟩
  have HB1 := Lib.hid (below_trans hb1 hb)
  have Q1 := Lib.hid (heap_below hb q1)
  have HR1 := Lib.hid (HREF.out.below HB1.out)
  have x0 : w1.cell? ⟨mb, o, none⟩ = some (.int .i64 room) := cell_of_heap HR1.out.box o _ HR1.out.c0
  have x2 : w1.cell? ⟨mb, o + 2, none⟩ = some (.slice A n c) := by rw [← HN.out]; exact cell_of_heap HR1.out.box (o + 2) _ HR1.out.c2
  clear hb hb1 q1
  simp only [errV, if_true]
  go_wp2_with fail
  go_quiet (fail)
  clear x0 x2
  obtain ⟨W3, hW3⟩ : ∃ W3, w1.drewN nq = W3 := ⟨_, rfl⟩
  have hb3 : Below w1.heap.size w1 W3 := by rw [← hW3]; exact below_drewN (Below.refl _ _) _
  rw [hW3]
  have HB3 := Lib.hid (below_trans HB1.out hb3)
  have Q3 := Lib.hid (heap_below hb3 Q1.out)
  clear hb3 hW3 HR1 Q1 HB1
  have f10 : W3.cell? ⟨w.heap.size, 10, none⟩ = some (.slice B m d) := cell_of_heap Q3.out 10 _ rfl
  have z10 : ∀ k, W3.frozen? ⟨w.heap.size, k, none⟩ = false := fun k => by simp [World.frozen?, Q3.out]
  have hwl : w.heap.size < W3.heap.size := heap_lt Q3.out
  have HRB : Hid (Rd (W3.alloc (.cells #[] 5)) B (bys data)) := (HR.out.below HB3.out).alloc _
  have HOB : Hid (Row (W3.alloc (.cells #[] 5)) W3.heap.size 5 (some ⟨W3.heap.size, 0, none⟩) 0 (bys [])) := own_lit (cs := []) (Nat.le_refl _) rfl (by decide)
  have HLB : Hid ((bys data).length = m) := by show _ = _; rw [bys_length]; exact HM.out
  have HZB : Hid (bys data = [] → B = none → d = 0) := fun _ => hz
  have HSB : Hid (W3.heap.size ≤ (W3.alloc (.cells #[] 5)).heap.size) := (below_alloc (Below.refl _ _) _).size
  go_wp2_with (at_builtin; refine wpList_appB rfl (.tmp 26) (.tmp 28) 40 rfl W3.heap.size 5 i1 _ 1 Try.underlying40 hi1 hy0 hy1 hy2 rfl (some ⟨W3.heap.size, 0, none⟩) 0 0 (bys []) (by kernel_rfl) rfl HOB.out B m d (bys data) (by kernel_rfl) HLB.out HRB.out (bys_one _) HZB.out m (by omega) (by unfold maxLen; omega) (by omega) HSB.out ?_; intro w9 A9 c9 HROW9 HB9; have q9 := heap_belowB HB9.out hwl (heap_push Q3.out); have f11 := cell_of_heap q9 10 _ rfl; have z11 : w9.frozen? ⟨w.heap.size, 10, none⟩ = false := by simp [World.frozen?, q9])
  have hb9 : Below W3.heap.size W3 w9 := (below_alloc (Below.refl _ W3) _).trans HB9.out
  have t9 : Turn [w.heap.size] w9 (w9.setCell ⟨w.heap.size, 10, none⟩ (.slice A9 m c9)) := (Turn.refl _ _).setCell (.inl (by simp)) _
  have Q10 : Hid ((w9.setCell ⟨w.heap.size, 10, none⟩ (.slice A9 m c9)).heap[w.heap.size]? = some (.cells #[.int .i64 fk, .int .u32 fi, .bool fe, .bool fr, .bool f4, .bool f5, .bool f6, .int .u8 f7, .int .u8 f8, .int .u32 f9, .slice A9 m c9] 42)) := heap_setCell (heap_below hb9 Q3.out) 10 _
  have HW10 : Hid (Below w.heap.size w (w9.setCell ⟨w.heap.size, 10, none⟩ (.slice A9 m c9))) := (below_trans HB3.out hb9).setCell (Nat.le_refl _) _
  have HROW10 : Hid (Row (w9.setCell ⟨w.heap.size, 10, none⟩ (.slice A9 m c9)) (w.heap.size + 1) 5 A9 c9 (bys data)) := by
    have h1 := HROW9.out
    simp only [bys, List.map_nil, List.nil_append] at h1
    exact (h1.mono (Nat.succ_le_of_lt hwl)).turn_ty t9 fun k hk => by
      simp at hk
      subst hk
      exact ⟨_, _, _, heap_below hb9 Q3.out, by decide⟩
  clear f10 z10 HRB HOB HLB HZB HSB q9 f11 z11 hb9 t9 HROW9 HB9 hwl HB3 Q3
  generalize w9.setCell ⟨w.heap.size, 10, none⟩ (.slice A9 m c9) = W10 at HW10 Q10 HROW10 ⊢
  have HREF10 := Lib.hid (HREF.out.below HW10.out)
  have HM10 : Hid (W10.drew.heap[mb]? = some (.cells cs ty (0, 0))) := HREF10.out.box
  have HQ10 : Hid (W10.drew.heap[w.heap.size]? = some (.cells #[.int .i64 fk, .int .u32 fi, .bool fe, .bool fr, .bool f4, .bool f5, .bool f6, .int .u8 f7, .int .u8 f8, .int .u32 f9, .slice A9 m c9] 42)) := Q10.out
  have HCC : Hid (cs[o + 2]? = some (.slice A n c)) := by show _ = _; rw [← HN.out]; exact HREF10.out.c2
  obtain ⟨x0, x1, x2, x3, x4, x5, x6, x7, x8, x9, x10⟩ := cells11 Q10.out
  have y2 : W10.cell? ⟨mb, o + 2, none⟩ = some (.slice A n c) := cell_of_heap HREF10.out.box (o + 2) _ HCC.out
  have hmb : mb < W10.heap.size := heap_lt HREF10.out.box
  have hp10 : w.heap.size < W10.heap.size := heap_lt Q10.out
  have HFL : Hid ((F.flatMap frL).length = n * 11) := by show _ = _; rw [flatF_len, HN.out]
  have HONE := Lib.hid (frL_flat_one F)
  have HZA := Lib.hid HREF10.out.nz
  have h63 : n + 1 ≤ 64 := by omega
  have HN1 : Hid (∀ u ∈ ([.int .i64 fk, .int .u32 fi, .bool fe, .bool fr, .bool f4, .bool f5, .bool f6, .int .u8 f7, .int .u8 f8, .int .u32 f9, .slice A9 m c9] : List Value), u.oneCell' = true) := (by intro u hu; simp at hu; rcases hu with h | h | h | h | h | h | h | h | h | h | h <;> (rw [h]; rfl))
  have HO1 : Hid ((W10.drew.alloc (.cells #[] 42)).ownsRow W10.heap.size 42 11 (.slice (some ⟨W10.heap.size, 0, none⟩) 0 0) 0 []) := own_lit0 (w := W10.drew) (Nat.le_refl _)
  have HO2 : Hid (((W10.drew.alloc (.cells #[] 42)).alloc (.cells #[.int .i64 fk, .int .u32 fi, .bool fe, .bool fr, .bool f4, .bool f5, .bool f6, .int .u8 f7, .int .u8 f8, .int .u32 f9, .slice A9 m c9] 42)).ownsRow W10.heap.size 42 11 (.slice (some ⟨W10.heap.size, 0, none⟩) 0 0) 0 []) := HO1.out.alloc _
  have HO3 : Hid (((W10.drew.alloc (.cells #[.int .i64 fk, .int .u32 fi, .bool fe, .bool fr, .bool f4, .bool f5, .bool f6, .int .u8 f7, .int .u8 f8, .int .u32 f9, .slice A9 m c9] 42)).alloc (.cells #[] 42)).ownsRow W10.heap.size 42 11 (.slice (some ⟨W10.heap.size + 1, 0, none⟩) 0 0) 0 []) := by
    have h1 := own_lit0 (w := W10.drew.alloc (.cells #[.int .i64 fk, .int .u32 fi, .bool fe, .bool fr, .bool f4, .bool f5, .bool f6, .int .u8 f7, .int .u8 f8, .int .u32 f9, .slice A9 m c9] 42)) (base := W10.heap.size) (e := 42) (size := 11) (below_alloc (Below.refl _ W10.drew) _).size
    have e : (W10.drew.alloc (.cells #[.int .i64 fk, .int .u32 fi, .bool fe, .bool fr, .bool f4, .bool f5, .bool f6, .int .u8 f7, .int .u8 f8, .int .u32 f9, .slice A9 m c9] 42)).heap.size = W10.heap.size + 1 := by simp [World.alloc]
    rw [e] at h1
    exact h1
  have HRD : Hid (Rd W10.drew A (F.flatMap frL)) := HREF10.out.rd
  have HRR1 : Hid (Rd (W10.drew.alloc (.cells #[] 42)) A (F.flatMap frL)) := HRD.out.alloc _
  have HRR2 : Hid (Rd ((W10.drew.alloc (.cells #[] 42)).alloc (.cells #[.int .i64 fk, .int .u32 fi, .bool fe, .bool fr, .bool f4, .bool f5, .bool f6, .int .u8 f7, .int .u8 f8, .int .u32 f9, .slice A9 m c9] 42)) A (F.flatMap frL)) := (HRD.out.alloc _).alloc _
  have HRR3 : Hid (Rd ((W10.drew.alloc (.cells #[.int .i64 fk, .int .u32 fi, .bool fe, .bool fr, .bool f4, .bool f5, .bool f6, .int .u8 f7, .int .u8 f8, .int .u32 f9, .slice A9 m c9] 42)).alloc (.cells #[] 42)) A (F.flatMap frL)) := (HRD.out.alloc _).alloc _
  have HBB1 : Hid (Below W10.drew.heap.size W10.drew (W10.drew.alloc (.cells #[] 42))) := below_alloc (Below.refl _ _) _
  have HBB2 : Hid (Below W10.drew.heap.size W10.drew ((W10.drew.alloc (.cells #[] 42)).alloc (.cells #[.int .i64 fk, .int .u32 fi, .bool fe, .bool fr, .bool f4, .bool f5, .bool f6, .int .u8 f7, .int .u8 f8, .int .u32 f9, .slice A9 m c9] 42))) := below_alloc (below_alloc (Below.refl _ _) _) _
  have HBB3 : Hid (Below W10.drew.heap.size W10.drew ((W10.drew.alloc (.cells #[.int .i64 fk, .int .u32 fi, .bool fe, .bool fr, .bool f4, .bool f5, .bool f6, .int .u8 f7, .int .u8 f8, .int .u32 f9, .slice A9 m c9] 42)).alloc (.cells #[] 42))) := below_alloc (below_alloc (Below.refl _ _) _) _
  have HS1 := Lib.hid HBB1.out.size
  have HS2 := Lib.hid HBB2.out.size
  have HS3 := Lib.hid HBB3.out.size
  have HAA1 : Hid (∀ k ∈ blkA (some (⟨W10.heap.size, 0, none⟩ : Addr)), W10.drew.heap.size ≤ k) := fun k hk => by have e : k = W10.heap.size := List.mem_singleton.1 hk; exact Nat.le_of_eq e.symm
  have HAA2 := HAA1
  have HAA3 : Hid (∀ k ∈ blkA (some (⟨W10.heap.size + 1, 0, none⟩ : Addr)), W10.drew.heap.size ≤ k) := fun k hk => by have e : k = W10.heap.size + 1 := List.mem_singleton.1 hk; rw [e]; exact Nat.le_succ _
  have HE2 : Hid (((W10.drew.alloc (.cells #[] 42)).alloc (.cells #[.int .i64 fk, .int .u32 fi, .bool fe, .bool fr, .bool f4, .bool f5, .bool f6, .int .u8 f7, .int .u8 f8, .int .u32 f9, .slice A9 m c9] 42)).heap[W10.heap.size + 1]? = some (.cells #[.int .i64 fk, .int .u32 fi, .bool fe, .bool fr, .bool f4, .bool f5, .bool f6, .int .u8 f7, .int .u8 f8, .int .u32 f9, .slice A9 m c9] 42)) := heap_new_at (by simp [World.alloc])
  have HE3 : Hid (((W10.drew.alloc (.cells #[.int .i64 fk, .int .u32 fi, .bool fe, .bool fr, .bool f4, .bool f5, .bool f6, .int .u8 f7, .int .u8 f8, .int .u32 f9, .slice A9 m c9] 42)).alloc (.cells #[] 42)).heap[W10.heap.size]? = some (.cells #[.int .i64 fk, .int .u32 fi, .bool fe, .bool fr, .bool f4, .bool f5, .bool f6, .int .u8 f7, .int .u8 f8, .int .u32 f9, .slice A9 m c9] 42)) := heap_push (heap_new_at rfl)
  have HX2 : Hid (W10.heap.size + 1 ∉ blkA (some (⟨W10.heap.size, 0, none⟩ : Addr))) := fun hm => by have e := List.mem_singleton.1 hm; dsimp only at e; omega
  have HX3 : Hid (W10.heap.size ∉ blkA (some (⟨W10.heap.size + 1, 0, none⟩ : Addr))) := fun hm => by have e := List.mem_singleton.1 hm; dsimp only at e; omega
  have HZB : Hid (∀ W : World, Rd (W.alloc (.cells #[.int .i64 fk, .int .u32 fi, .bool fe, .bool fr, .bool f4, .bool f5, .bool f6, .int .u8 f7, .int .u8 f8, .int .u32 f9, .slice A9 m c9] 42)) (some ⟨W.heap.size, 0, none⟩) [.int .i64 fk, .int .u32 fi, .bool fe, .bool fr, .bool f4, .bool f5, .bool f6, .int .u8 f7, .int .u8 f8, .int .u32 f9, .slice A9 m c9]) := fun W => Rd.blk (heap_new_at rfl)
  go_region_law (first
    | (refine step_appN rfl (.tmp 32) (.tmp 36) 27 rfl W10.heap.size 42 i0 _ 11 48 Try.underlying27 hi hz0 hz1 hz2 rfl (by omega) (some ⟨W10.heap.size, 0, none⟩) 0 0 [] (by kernel_rfl) HO1.out A n c (F.flatMap frL) (by kernel_rfl) HRR1.out HFL.out HONE.out HZA.out (by unfold maxLen; omega) (by omega) HS1.out ?_; intro w6 A6 c6 HO6 HT6 HF6; simp only [Nat.zero_add, List.nil_append] at HO6 ⊢; have HB6 := Lib.hid (bel_turn HBB1.out HT6.out HAA1.out); have HA6 := Lib.hid (blk_ge HF6.out HAA1.out HBB1.out.size); obtain ⟨b0, b1, b2, b3, b4, b5, b6, b7, b8, b9, b10⟩ := cells11 (heap_below HB6.out HQ10.out))
    | (refine step_appN rfl (.tmp 32) (.tmp 36) 27 rfl W10.heap.size 42 i0 _ 11 48 Try.underlying27 hi hz0 hz1 hz2 rfl (by omega) (some ⟨W10.heap.size, 0, none⟩) 0 0 [] (by kernel_rfl) HO2.out A n c (F.flatMap frL) (by kernel_rfl) HRR2.out HFL.out HONE.out HZA.out (by unfold maxLen; omega) (by omega) HS2.out ?_; intro w6 A6 c6 HO6 HT6 HF6; simp only [Nat.zero_add, List.nil_append] at HO6 ⊢; have HB6 := Lib.hid (bel_turn HBB2.out HT6.out HAA2.out); have HA6 := Lib.hid (blk_ge HF6.out HAA2.out HBB2.out.size); have HE6 := Lib.hid (HT6.out.heap HE2.out HX2.out))
    | (refine step_appN rfl (.tmp 32) (.tmp 36) 27 rfl W10.heap.size 42 i0 _ 11 48 Try.underlying27 hi hz0 hz1 hz2 rfl (by omega) (some ⟨W10.heap.size + 1, 0, none⟩) 0 0 [] (by kernel_rfl) HO3.out A n c (F.flatMap frL) (by kernel_rfl) HRR3.out HFL.out HONE.out HZA.out (by unfold maxLen; omega) (by omega) HS3.out ?_; intro w6 A6 c6 HO6 HT6 HF6; simp only [Nat.zero_add, List.nil_append] at HO6 ⊢; have HB6 := Lib.hid (bel_turn HBB3.out HT6.out HAA3.out); have HA6 := Lib.hid (blk_ge HF6.out HAA3.out HBB3.out.size); have HE6 := Lib.hid (HT6.out.heap HE3.out HX3.out))
    | (refine step_appN rfl (.tmp 37) (.tmp 39) 27 rfl W10.heap.size 42 i0 _ 11 48 Try.underlying27 hi hz0 hz1 hz2 rfl (by omega) A6 n c6 (F.flatMap frL) (by kernel_rfl) (HO6.out.alloc _) (some ⟨w6.heap.size, 0, none⟩) 1 1 [.int .i64 fk, .int .u32 fi, .bool fe, .bool fr, .bool f4, .bool f5, .bool f6, .int .u8 f7, .int .u8 f8, .int .u32 f9, .slice A9 m c9] (by kernel_rfl) (HZB.out w6) rfl HN1.out (fun h => by cases h) (by unfold maxLen; omega) (by omega) (Nat.le_trans HB6.out.size (below_alloc (Below.refl _ _) _).size) ?_; intro w9 A8 c8 HO9 HT9 HF9; have HB9 := Lib.hid (bel_turn (below_alloc HB6.out _) HT9.out HA6.out); have HA9 := Lib.hid (blk_ge HF9.out HA6.out ((below_alloc HB6.out _)).size); have q9 := heap_below HB9.out HM10.out; have y9 := cell_of_heap q9 (o + 2) _ HCC.out; have z9 : w9.frozen? ⟨mb, o + 2, none⟩ = false := by simp [World.frozen?, q9])
    | (refine step_appN rfl (.tmp 37) (.tmp 39) 27 rfl W10.heap.size 42 i0 _ 11 48 Try.underlying27 hi hz0 hz1 hz2 rfl (by omega) A6 n c6 (F.flatMap frL) (by kernel_rfl) HO6.out (some ⟨W10.heap.size + 1, 0, none⟩) 1 1 [.int .i64 fk, .int .u32 fi, .bool fe, .bool fr, .bool f4, .bool f5, .bool f6, .int .u8 f7, .int .u8 f8, .int .u32 f9, .slice A9 m c9] (by kernel_rfl) (Rd.blk HE6.out) rfl HN1.out (fun h => by cases h) (by unfold maxLen; omega) (by omega) HB6.out.size ?_; intro w9 A8 c8 HO9 HT9 HF9; have HB9 := Lib.hid (bel_turn HB6.out HT9.out HA6.out); have HA9 := Lib.hid (blk_ge HF9.out HA6.out (HB6.out).size); have q9 := heap_below HB9.out HM10.out; have y9 := cell_of_heap q9 (o + 2) _ HCC.out; have z9 : w9.frozen? ⟨mb, o + 2, none⟩ = false := by simp [World.frozen?, q9])
    | (refine step_appN rfl (.tmp 37) (.tmp 39) 27 rfl W10.heap.size 42 i0 _ 11 48 Try.underlying27 hi hz0 hz1 hz2 rfl (by omega) A6 n c6 (F.flatMap frL) (by kernel_rfl) HO6.out (some ⟨W10.heap.size, 0, none⟩) 1 1 [.int .i64 fk, .int .u32 fi, .bool fe, .bool fr, .bool f4, .bool f5, .bool f6, .int .u8 f7, .int .u8 f8, .int .u32 f9, .slice A9 m c9] (by kernel_rfl) (Rd.blk HE6.out) rfl HN1.out (fun h => by cases h) (by unfold maxLen; omega) (by omega) HB6.out.size ?_; intro w9 A8 c8 HO9 HT9 HF9; have HB9 := Lib.hid (bel_turn HB6.out HT9.out HA6.out); have HA9 := Lib.hid (blk_ge HF9.out HA6.out (HB6.out).size); have q9 := heap_below HB9.out HM10.out; have y9 := cell_of_heap q9 (o + 2) _ HCC.out; have z9 : w9.frozen? ⟨mb, o + 2, none⟩ = false := by simp [World.frozen?, q9]))
  all_goals
    go_wp2_with fail
    go_ret2
    have hX : Below W10.heap.size W10 W10.drew := (Below.refl _ _).drew
    exact (HREF10.out.below hX).pushed HN.out (below_trans HW10.out hX) hbase (HROW10.out.below hX) HB9.out HA9.out (by have := HO9.out; rw [show frL (⟨⟨fk, fi, fe, fr, f4, f5, f6, f7, f8, f9, data⟩, A9, c9⟩ : SF) = [.int .i64 fk, .int .u32 fi, .bool fe, .bool fr, .bool f4, .bool f5, .bool f6, .int .u8 f7, .int .u8 f8, .int .u32 f9, .slice A9 m c9] by simp only [frL]; rw [HM.out]]; exact this)
theorem RefF.popped {w w1 : World} {base mb o room over c : Nat} {A A' : Option Addr} {F r : List SF} {s : SF} {cs : Array Value} {ty : TypeId} (h : RefF w base mb o room over A c F cs ty) (hF : F = s :: r) (hb : Below w.heap.size w w1) (N c' : Nat) (hN : N = r.length) (hle : r.length ≤ c')
    (hA : (A' = A ∧ r = []) ∨ (∃ ad, A = some ad ∧ A' = some (ad.add 11))) :
    RefF (w1.setCell ⟨mb, o + 2, none⟩ (.slice A' N c')) base mb o room over A' c' r (cs.setIfInBounds (o + 2) (.slice A' N c')) ty ∧ Turn [mb] w (w1.setCell ⟨mb, o + 2, none⟩ (.slice A' N c')) ∧ ∀ k ∈ blkA A', k ∈ blkA A := by
  subst hF
  subst hN
  have h9 := h.below hb
  have h1 := (Array.getElem?_eq_some_iff.1 h.c2).1
  have ht : Turn [mb] w1 (w1.setCell ⟨mb, o + 2, none⟩ (.slice A' r.length c')) := (Turn.refl _ _).setCell (.inl (by simp)) _
  have hsome : ∃ ad, A = some ad := by
    obtain ⟨ad, e, _⟩ := h.rd 0 (.int .i64 s.f.kind) rfl
    exact ⟨ad, e⟩
  have hbl : ∀ k ∈ blkA A', k ∈ blkA A := fun k hk => by
    rcases hA with ⟨e, _⟩ | ⟨ad, e1, e2⟩
    · rwa [e] at hk
    · rw [e2] at hk
      have e3 : k = (ad.add 11).block := List.mem_singleton.1 hk
      rw [block_of_add] at e3
      rw [e1, e3]; simp [blkA]
  have hne : ∀ k ∈ blkA A', k ∉ [mb] := fun k hk hm => (h.ne_blk k (hbl k hk)).1 (by simpa using hm)
  refine ⟨⟨heap_setCell h9.box (o + 2) _, ?_, ?_, ?_, h.ne, ?_, fun e => ?_, hle, fun k hk => ?_, fun x hx => ?_, h.lo⟩, (Turn.of hb).tr ht, hbl⟩
  · rw [Array.getElem?_setIfInBounds_ne (by omega)]; exact h9.c0
  · rw [Array.getElem?_setIfInBounds_ne (by omega)]; exact h9.c1
  · rw [Array.getElem?_setIfInBounds_self_of_lt (by omega)]
  · have h2 : Rd w1 A' (r.flatMap frL) := by
      rcases hA with ⟨_, e⟩ | ⟨ad, e1, e2⟩
      · rw [e]; exact Rd.nil _ _
      · intro j u hj
        obtain ⟨ad', e3, hc⟩ := h9.rd (11 + j) u (by rw [List.flatMap_cons, List.getElem?_append_right (by show 11 ≤ _; omega)]; show (r.flatMap frL)[11 + j - 11]? = _; rw [Nat.add_sub_cancel_left]; exact hj)
        rw [e1] at e3
        injection e3 with e3
        subst e3
        exact ⟨_, e2, by rw [add_of_add]; exact hc⟩
    exact h2.turn ht (fun ad e => hne _ (by rw [e]; simp [blkA]))
  · exfalso
    obtain ⟨ad, e3⟩ := hsome
    rcases hA with ⟨e1, _⟩ | ⟨ad', e1, e2⟩
    · rw [e1, e3] at e; cases e
    · rw [e2] at e; cases e
  · obtain ⟨h2, ds, h3⟩ := h9.blk k (hbl k hk)
    exact ⟨h2, ds, ht.heap h3 (hne k hk)⟩
  · exact (h9.data x (List.mem_cons_of_mem _ hx)).turn_ty ht fun k hk => by rw [List.mem_singleton.1 hk]; exact ⟨_, _, _, h9.box, h9.ne.1⟩
set_option maxRecDepth 100000 in
set_option maxHeartbeats 16000000 in
theorem RPop_any (w : World) (base mb o room over c n : Nat) (A : Option Addr) (F : List SF) (cs : Array Value) (ty : TypeId) (h : RefF w base mb o room over A c F cs ty) (hn : F.length = n) (hn2 : n ≤ 1000) :
    Calls Try.prog 75 #[.pointer (some ⟨mb, o, none⟩)] w (RPopOf w base mb o room over A F cs ty) := by
  have HREF := Lib.hid h
  have hmb : mb < w.heap.size := heap_lt h.box
  have x2 : w.cell? ⟨mb, o + 2, none⟩ = some (.slice A n c) := by rw [← hn]; exact cell_of_heap h.box (o + 2) _ h.c2
  have z2 : ∀ k, w.frozen? ⟨mb, k, none⟩ = false := fun k => by simp [World.frozen?, h.box]
  cases F with
  | nil =>
    obtain rfl : n = 0 := by rw [← hn]; rfl
    clear h
    go_enter Try.func75, Try.ntmps75
    go_wp2_with fail
    refine bodyPost_ret (v := .tuple #[.agg #[.int .i64 0, .int .u32 0, .bool false, .bool false, .bool false, .bool false, .bool false, .int .u8 0, .int .u8 0, .int .u32 0, .slice none 0 0], .int .i64 9]) (by simp [results, Try.results75, go_sem, *]) rfl (.inl ⟨rfl, rfl, ?_⟩)
    repeat (refine Below.setCell ?_ (by simp) _)
    exact below_alloc (Below.refl _ _) _
  | cons s r =>
    obtain ⟨ad, rfl, hc⟩ : ∃ ad, A = some ad ∧ ∀ k u, (frL s)[k]? = some u → w.cell? (ad.add k) = some u := by
      obtain ⟨ad, e, _⟩ := h.rd 0 (.int .i64 s.f.kind) rfl
      refine ⟨ad, e, fun k u hk => ?_⟩
      have hk11 : k < 11 := (List.getElem?_eq_some_iff.1 hk).1
      obtain ⟨ad', e2, hc⟩ := h.rd k u (by rw [List.flatMap_cons, List.getElem?_append_left hk11]; exact hk)
      rw [e] at e2
      injection e2 with e2
      rw [e2]; exact hc
    have a0 : w.cell? ad = some (.int .i64 s.f.kind) := by have := hc 0 _ rfl; simpa [Addr.add] using this
    have a1 : w.cell? ⟨ad.block, ad.off + 1, none⟩ = some (.int .u32 s.f.id) := hc 1 _ rfl
    have a2 : w.cell? ⟨ad.block, ad.off + 2, none⟩ = some (.bool s.f.ext) := hc 2 _ rfl
    have a3 : w.cell? ⟨ad.block, ad.off + 3, none⟩ = some (.bool s.f.rtr) := hc 3 _ rfl
    have a4 : w.cell? ⟨ad.block, ad.off + 4, none⟩ = some (.bool s.f.brs) := hc 4 _ rfl
    have a5 : w.cell? ⟨ad.block, ad.off + 5, none⟩ = some (.bool s.f.esi) := hc 5 _ rfl
    have a6 : w.cell? ⟨ad.block, ad.off + 6, none⟩ = some (.bool s.f.sec) := hc 6 _ rfl
    have a7 : w.cell? ⟨ad.block, ad.off + 7, none⟩ = some (.int .u8 s.f.sdt) := hc 7 _ rfl
    have a8 : w.cell? ⟨ad.block, ad.off + 8, none⟩ = some (.int .u8 s.f.vcid) := hc 8 _ rfl
    have a9 : w.cell? ⟨ad.block, ad.off + 9, none⟩ = some (.int .u32 s.f.af) := hc 9 _ rfl
    have a10 : w.cell? ⟨ad.block, ad.off + 10, none⟩ = some (.slice s.A s.f.data.length s.c) := hc 10 _ rfl
    have adl : ad.block < w.heap.size := cell_lt a0
    have hadn : ad.block ≠ mb := (h.ne_blk ad.block (by simp [blkA])).1
    have hn0 : 0 < n := by rw [← hn]; simp
    have hn1 : ¬ n = 0 := by omega
    have hle : n ≤ c := by rw [← hn]; exact h.le
    have hrl : r.length + 1 = n := by rw [← hn]; rfl
    clear h hc hn
    by_cases hc1 : c = 1
    · subst hc1
      obtain rfl : n = 1 := by omega
      have hr0 : r = [] := List.eq_nil_of_length_eq_zero (by omega)
      go_enter Try.func75, Try.ntmps75
      go_wp2_with fail
      all_goals
        have hP := HREF.out.popped (w1 := w) rfl (Below.refl _ _) (A' := some ad) 0 0 (by omega) (by omega) (.inl ⟨rfl, hr0⟩)
        refine bodyPost_ret (v := .tuple #[.agg #[.int .i64 s.f.kind, .int .u32 s.f.id, .bool s.f.ext, .bool s.f.rtr, .bool s.f.brs, .bool s.f.esi, .bool s.f.sec, .int .u8 s.f.sdt, .int .u8 s.f.vcid, .int .u32 s.f.af, .slice s.A s.f.data.length s.c], .int .i64 0]) (by simp [results, Try.results75, go_sem, *]) rfl (.inr ⟨s, r, some ad, 0, rfl, rfl, ?_⟩)
        have hb := below_alloc (below_alloc (Below.refl _ (w.setCell ⟨mb, o + 2, none⟩ (.slice (some ad) 0 (0)))) (.cells #[.int .i64 s.f.kind, .int .u32 s.f.id, .bool s.f.ext, .bool s.f.rtr, .bool s.f.brs, .bool s.f.esi, .bool s.f.sec, .int .u8 s.f.sdt, .int .u8 s.f.vcid, .int .u32 s.f.af, .slice s.A s.f.data.length s.c] 42)) (.cells #[.int .i64 s.f.kind, .int .u32 s.f.id, .bool s.f.ext, .bool s.f.rtr, .bool s.f.brs, .bool s.f.esi, .bool s.f.sec, .int .u8 s.f.sdt, .int .u8 s.f.vcid, .int .u32 s.f.af, .slice s.A s.f.data.length s.c] 42)
        have hr := hP.1.below hb
        have e : r.length = 0 := by omega
        rw [e]
        exact ⟨hr, hP.2.1.tr (Turn.of hb), hP.2.2⟩
    · have hc2 : 1 < c := by omega
      go_enter Try.func75, Try.ntmps75
      go_wp2_with fail
      all_goals
        have hP := HREF.out.popped (w1 := w) rfl (Below.refl _ _) (A' := some ⟨ad.block, ad.off + 11, none⟩) (n - 1) (c - 1) (by omega) (by omega) (.inr ⟨ad, rfl, by simp [Addr.add]⟩)
        refine bodyPost_ret (v := .tuple #[.agg #[.int .i64 s.f.kind, .int .u32 s.f.id, .bool s.f.ext, .bool s.f.rtr, .bool s.f.brs, .bool s.f.esi, .bool s.f.sec, .int .u8 s.f.sdt, .int .u8 s.f.vcid, .int .u32 s.f.af, .slice s.A s.f.data.length s.c], .int .i64 0]) (by simp [results, Try.results75, go_sem, *]) rfl (.inr ⟨s, r, some ⟨ad.block, ad.off + 11, none⟩, (c - 1), rfl, rfl, ?_⟩)
        have hb := below_alloc (below_alloc (Below.refl _ (w.setCell ⟨mb, o + 2, none⟩ (.slice (some ⟨ad.block, ad.off + 11, none⟩) (n - 1) ((c - 1))))) (.cells #[.int .i64 s.f.kind, .int .u32 s.f.id, .bool s.f.ext, .bool s.f.rtr, .bool s.f.brs, .bool s.f.esi, .bool s.f.sec, .int .u8 s.f.sdt, .int .u8 s.f.vcid, .int .u32 s.f.af, .slice s.A s.f.data.length s.c] 42)) (.cells #[.int .i64 s.f.kind, .int .u32 s.f.id, .bool s.f.ext, .bool s.f.rtr, .bool s.f.brs, .bool s.f.esi, .bool s.f.sec, .int .u8 s.f.sdt, .int .u8 s.f.vcid, .int .u32 s.f.af, .slice s.A s.f.data.length s.c] 42)
        have hr := hP.1.below hb
        have e : r.length = (n - 1) := by omega
        rw [e]
        exact ⟨hr, hP.2.1.tr (Turn.of hb), hP.2.2⟩
end Go.Proofs.Ytlmdkmflbhnlgaa
