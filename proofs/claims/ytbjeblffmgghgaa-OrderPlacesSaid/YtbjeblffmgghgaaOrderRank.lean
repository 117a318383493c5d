/- order.Rank, order.First: the places of some frames, as they win one after the other. No condition. -/
import Derived.Test.YtbjeblffmgghgaaOrderAll
namespace Go.Proofs.Ytbjeblffmgghgaa
open Go.RowKit
def insE (x : En) : List En → List En
  | [] => [x]
  | y :: l => if ltE x y then x :: y :: l else y :: insE x l
def sortE : List En → List En
  | [] => []
  | x :: l => insE x (sortE l)
theorem insE_perm (x : En) (l : List En) : (insE x l).Perm (x :: l) := by
  induction l with
  | nil => exact List.Perm.refl _
  | cons y l ih =>
    unfold insE
    split
    · exact List.Perm.refl _
    · exact (List.Perm.cons y ih).trans (List.Perm.swap x y l)
theorem insE_sorted (x : En) {l : List En} (h : l.Pairwise leE) : (insE x l).Pairwise leE := by
  induction l with
  | nil => exact List.pairwise_singleton _ _
  | cons y l ih =>
    obtain ⟨h1, h2⟩ := List.pairwise_cons.1 h
    unfold insE
    split
    · rename_i hlt
      refine List.pairwise_cons.2 ⟨fun z hz => ?_, h⟩
      rcases List.mem_cons.1 hz with rfl | hz
      · exact leE_of_lt hlt
      · exact leE_trans (leE_of_lt hlt) (h1 z hz)
    · rename_i hlt
      refine List.pairwise_cons.2 ⟨fun z hz => ?_, ih h2⟩
      rcases List.mem_cons.1 ((insE_perm x l).mem_iff.1 hz) with rfl | hz
      · exact leE_of_not (by simpa using hlt)
      · exact h1 z hz
theorem sortE_perm (l : List En) : (sortE l).Perm l := by
  induction l with
  | nil => exact List.Perm.refl _
  | cons x l ih => exact (insE_perm x _).trans (List.Perm.cons x ih)
theorem sortE_sorted (l : List En) : (sortE l).Pairwise leE := by
  induction l with
  | nil => exact List.Pairwise.nil
  | cons x l ih => exact insE_sorted x ih
def rkE (fs : List Fr) : List En := sortE (ents (keysOf fs) fs.length)
theorem rkE_ranked (fs : List Fr) : Ranked (keysOf fs) fs.length (rkE fs) := ⟨sortE_perm _, sortE_sorted _⟩
/-- The places of frames, by rising keys. -/
def outR (fs : List Fr) : List Int := if fs.all okF then (rkE fs).map (·.2) else []
/-- Which one is first. -/
def firstR (fs : List Fr) : Int := if fs.all okF then (at_ (rkE fs) 0).2 else 0
def firstN (fs : List Fr) : Int := if fs.all okF then (if fs.length = 0 then 9 else 0) else 2
theorem rkE_length (fs : List Fr) : (rkE fs).length = fs.length := (rkE_ranked fs).length
theorem own_touch {b g : Nat} {w w' : World} {base t c : Nat} {A : Option Addr} {xs : List Value} (h : Row w base t A c xs) (hb : Touch b g w w') (h1 : b < base) (h2 : g < base) : Row w' base t A c xs := by
  obtain ⟨k1, k2⟩ := h
  refine ⟨k1, ?_⟩
  rcases k2 with k2 | ⟨q, cap, cur, hv, hq, hh, r⟩
  · exact .inl k2
  · exact .inr ⟨q, cap, cur, hv, hq, by rw [hb.block q (heap_lt hh) (by omega) (by omega)]; exact hh, r⟩
/-- What order.Rank answers and leaves. -/
def RankOf (e : Ending) (w w' : World) (fs : List Fr) : Prop :=
  Below w.heap.size w w' ∧ ∃ A c, e = .returned (.tuple #[.slice A (outR fs).length c, errV (fs.all okF)]) ∧ Row w' w.heap.size 3 A c (ins (outR fs))
/-- The loop's state: what was taken, what waits. -/
structure RankI (W1 wr : World) (base b g cap : Nat) (E done l : List En) (A : Option Addr) (c : Nat) : Prop where
  heap : HeapS wr base b g cap l
  ish : IsHeapTo l l.length
  perm : (done ++ l).Perm E
  sorted : done.Pairwise leE
  le : ∀ x ∈ done, ∀ y ∈ l, leE x y
  row : Row wr W1.heap.size 3 A c (ins (done.map (·.2)))
  touch : Touch b g W1 wr
theorem HeapS.grown {w w' : World} {base b g cap : Nat} {l : List En} {row : Option Nat} (h : HeapS w base b g cap l) (hg : w.grownBy w' row) (h1 : some b ≠ row) (h2 : some g ≠ row) : HeapS w' base b g cap l := by
  obtain ⟨k1, k2, k3, k4, k5, k6⟩ := h
  refine ⟨by rw [hg.block b (heap_lt k1) h1]; exact k1, k2, k3, k4, k5, ?_⟩
  rcases k6 with k6 | ⟨q, cap', cur, hv, hq, hh, r⟩
  · exact .inl k6
  · have e : q = g := by injection hv with e; injection e with e; injection e with e; exact e.symm
    exact .inr ⟨q, cap', cur, hv, hq, by rw [hg.block q (heap_lt hh) (by rw [e]; exact h2)]; exact hh, r⟩
theorem RankI.app {W1 wr w2 w3 : World} {base b g cap : Nat} {E done l l' : List En} {A A2 : Option Addr} {c c2 : Nat} {o : Obj} (h : RankI W1 wr base b g cap E done l A c) (hb : b < W1.heap.size) (hg : g < W1.heap.size)
    (h2 : HeapS w2 base b g cap l') (hh : IsHeapTo l' l'.length) (hp : l.Perm (at_ l 0 :: l')) (hm : ∀ y ∈ l', leE (at_ l 0) y) (ht : Touch b g wr w2)
    (hgr : (w2.alloc o).grownBy w3 (Value.slice A (ins (done.map (·.2))).length c).ownBlock) (hrow : Row w3 W1.heap.size 3 A2 c2 (ins ((done ++ [at_ l 0]).map (·.2)))) : RankI W1 w3 base b g cap E (done ++ [at_ l 0]) l' A2 c2 := by
  have hr2 : Row w2 W1.heap.size 3 A c (ins (done.map (·.2))) := own_touch h.row ht hb hg
  have hne : ∀ k, k < W1.heap.size → some k ≠ (Value.slice A (ins (done.map (·.2))).length c).ownBlock := fun k hk e => by
    have := (World.ownsRow.lt hr2 k e.symm).1; omega
  have h0 : at_ l 0 ∈ l := hp.mem_iff.2 List.mem_cons_self
  refine ⟨(h2.below (below_alloc (Below.refl _ _) o)).grown hgr (hne b hb) (hne g hg), hh, ?_, ?_, ?_, hrow, ?_⟩
  · rw [List.append_assoc]
    exact (List.Perm.append_left done hp.symm).trans h.perm
  · refine List.pairwise_append.2 ⟨h.sorted, List.pairwise_singleton _ _, fun x hx y hy => ?_⟩
    rw [List.mem_singleton.1 hy]
    exact h.le x hx _ h0
  · intro x hx y hy
    rcases List.mem_append.1 hx with hx | hx
    · exact h.le x hx y (hp.mem_iff.2 (List.mem_cons_of_mem _ hy))
    · rw [List.mem_singleton.1 hx]; exact hm y hy
  · have t2 := (h.touch.trans ht).alloc o
    exact ⟨hgr.os.trans t2.os, hgr.tape.trans t2.tape, hgr.output.trans t2.output, Nat.le_trans t2.size hgr.size, fun k hk k1 k2 => by rw [hgr.block k (Nat.lt_of_lt_of_le hk t2.size) (hne k hk)]; exact t2.block k hk k1 k2⟩
theorem info_int : (Try.prog.info? 3).map (fun i => (i.zero, i.size, i.bytes)) = some (some (.int .i64 0), 1, 8) := by kernel_rfl
set_option maxRecDepth 100000 in
set_option maxHeartbeats 4000000 in
theorem Rank_any (w : World) (A : Option Addr) (n c : Nat) (fs : List Fr) (hr : RdFs w A fs) (hw : FsIn fs) (hn : fs.length = n) (hc : n ≤ 900) :
    Calls Try.prog 21 #[.slice A n c] w fun e w' => RankOf e w w' fs := by
  have HA := Lib.hid (all_any w A n c fs hr hw hn hc)
  obtain ⟨i0, hi, hz0, hz1, hz2⟩ := info_parts info_int
  have TA : ∀ (x1 x2 : Int) W, Sem.run Try.prog (Instr.typeAssert (.iface 90 (.agg #[.int .u64 x1, .int .i64 x2])) 20 90 false) W = .ok (.agg #[.int .u64 x1, .int .i64 x2]) W := fun _ _ _ => by kernel_rfl
  have TF : ∀ (x1 x2 : Int) W, Sem.run Try.prog (Instr.field 90 (.agg #[.int .u64 x1, .int .i64 x2]) 1) W = .ok (.int .i64 x2) W := fun _ _ _ => by kernel_rfl
  have HN := Lib.hid hn
  clear hr hw hn
  go_enter Try.func21, Try.ntmps21
  go_wp2_with fail
  refine HA.out.mono ?_
  rintro x W1 ⟨hb1, ⟨hall, rfl⟩ | ⟨hall, b, l0, rfl, ⟨⟨g, cap, h1⟩, hh1⟩, hp1⟩⟩
  · have HB1 := Lib.hid hb1
    have HALL := Lib.hid hall
    clear hb1 hall
    go_wp2_with fail
    go_ret2
    refine ⟨HB1.out, none, 0, ?_, ?_⟩
    · simp [outR, HALL.out, errV]
    · have : outR fs = [] := by simp [outR, HALL.out]
      rw [this]; exact Row.nil _ _ _
  · have HB1 := Lib.hid hb1
    have HALL := Lib.hid hall
    have HI : Hid (RankI W1 W1 w.heap.size b g cap (ents (keysOf fs) fs.length) [] l0 none 0) := ⟨h1, hh1, hp1, List.Pairwise.nil, fun x hx => by simp at hx, Row.nil _ _ _, Touch.refl _ _ _⟩
    have HBL : Hid (b < W1.heap.size) := heap_lt h1.box
    have HGL : Hid (g < W1.heap.size) := by
      rcases h1.row.2 with ⟨hv, -⟩ | ⟨q, cap', cur, hv, hq, hh, r⟩
      · cases hv
      · obtain rfl : g = q := by injection hv with e; injection e with e; injection e
        exact heap_lt hh
    clear hb1 hall h1 hh1 hp1
    go_wp2_with fail
    go_loopw [6] (fun v wr => ∃ (N M : Nat) (done l : List En) (A : Option Addr) (c : Nat), N + M = n ∧ v = .slice A N c ∧ Hid (done.length = N) ∧ Hid (l.length = M) ∧ Hid (RankI W1 wr w.heap.size b g cap (ents (keysOf fs) fs.length) done l A c)) (fun v _ => n - lenV v)
    case atStart => exact ⟨0, n, [], l0, none, 0, by omega, rfl, rfl, by show l0.length = n; have hp := HI.out.perm.length_eq; rw [ents_length] at hp; exact hp.trans HN.out, HI⟩
    case round =>
      obtain ⟨N, M, done, l, A, c, hNM, rfl, HD, HM, HR⟩ := hrel
      have hbx := HR.out.heap.box
      rw [HM.out] at hbx
      have c0 : wr.cell? ⟨b, 0, none⟩ = some (.slice (some ⟨g, 0, none⟩) M cap) := cell_of_heap hbx 0 _ rfl
      have HL := Lib.hid (Len_any (some ⟨g, 0, none⟩) M cap wr)
      clear hbx
      by_cases hM : M = 0
      · subst hM
        go_wp2_with fail
        refine HL.out.mono ?_
        rintro x _ ⟨rfl, rfl⟩
        go_wp2_with fail
        go_ret2
        have hl : l = [] := List.eq_nil_of_length_eq_zero HM.out
        have hp := HR.out.perm
        rw [hl, List.append_nil] at hp
        have hd : done = rkE fs := Ranked.unique ⟨hp, HR.out.sorted⟩ (rkE_ranked fs)
        have ho : outR fs = done.map (·.2) := by unfold outR; rw [HALL.out, if_pos rfl, hd]
        have hN : (outR fs).length = N := by rw [ho, List.length_map]; exact HD.out
        refine ⟨HB1.out.trans (HR.out.touch.below HR.out.heap.lob HR.out.heap.log HB1.out.size), A, c, ?_, ?_⟩
        · rw [hN, HALL.out]; rfl
        · rw [ho]; exact HR.out.row.mono HB1.out.size
      · obtain ⟨m, rfl⟩ : ∃ m, M = m + 1 := ⟨M - 1, by omega⟩
        have HP := Lib.hid (HPop_any wr w.heap.size b g cap m l HR.out.heap HR.out.ish HM.out (by omega))
        go_wp2_with fail
        refine HL.out.mono ?_
        rintro x _ ⟨rfl, rfl⟩
        go_wp2_with fail
        refine HP.out.mono ?_
        rintro x w2 ⟨l', rfl, h2, hh2, p2, m2, t2⟩
        have HX := Lib.hid (And.intro h2 (And.intro hh2 (And.intro p2 (And.intro m2 t2))))
        have hr2 := own_touch HR.out.row t2 HBL.out HGL.out
        have HR2 := Lib.hid hr2
        clear h2 hh2 p2 m2 t2 hr2
        obtain ⟨x2, hx2⟩ : ∃ x2, (at_ l 0).2 = x2 := ⟨_, rfl⟩
        rw [hx2]
        have HX2 := Lib.hid hx2
        clear hx2
        generalize (at_ l 0).1 = x1 at *
        have hlen : (ins (done.map (·.2))).length = N := by rw [ins_length, List.length_map]; exact HD.out
        have HO : Hid (w2.ownsRow W1.heap.size 3 1 (.slice A N c) N (ins (done.map (·.2)))) := by
          have := HR2.out
          unfold Row at this
          rw [hlen] at this
          exact this
        have HLEN := Lib.hid hlen
        clear hlen
        have HSZ : Hid (W1.heap.size ≤ w2.heap.size) := Nat.le_trans HR.out.touch.size HX.out.2.2.2.2.size
        go_wp2_with (at_builtin; refine wpList_app _ rfl (.tmp 20) (.tmp 26) 37 rfl W1.heap.size 3 i0 _ 8 Try.underlying37 hi hz0 hz1 hz2 rfl (.slice A N c) N (ins (done.map (·.2))) rfl (World.ownsRow.alloc HO.out _) _ 1 1 [.int .i64 x2] rfl rfl (Rd.blk (heap_new_at rfl)) (by intro u hu; rw [List.mem_singleton.1 hu]; rfl) (by intro h; cases h) (by unfold maxLen; omega) (by omega) (Nat.le_trans HSZ.out (below_alloc (Below.refl _ _) _).size) ?_; intro v3 w3 ho3 hg3 _; obtain ⟨A3, c3, rfl, hrow3⟩ := Row.of ho3 (by rw [List.length_append, HLEN.out]; rfl))
        rw [← HLEN.out] at hg3
        have hrow : Row w3 W1.heap.size 3 A3 c3 (ins ((done ++ [at_ l 0]).map (·.2))) := by
          rw [List.map_append, ins_append, List.map_singleton, HX2.out]; exact hrow3
        have HR' : Hid (RankI W1 w3 w.heap.size b g cap (ents (keysOf fs) fs.length) (done ++ [at_ l 0]) l' A3 c3) := RankI.app HR.out HBL.out HGL.out HX.out.1 HX.out.2.1 HX.out.2.2.1 HX.out.2.2.2.1 HX.out.2.2.2.2 hg3 hrow
        clear ho3 hg3 hrow3 hrow
        go_wp2_with fail
        go_roundw
        case rel =>
          refine ⟨N + 1, m, done ++ [at_ l 0], l', A3, c3, by omega, ?_, ?_, ?_, HR'⟩
          · rw [HLEN.out]
          · show (done ++ [at_ l 0]).length = N + 1; rw [List.length_append, HD.out]; rfl
          · show l'.length = m; have := HX.out.2.2.1.length_eq; rw [HM.out, List.length_cons] at this; omega
        case measure => simp [lenV, HLEN.out]; omega
set_option maxRecDepth 100000 in
set_option maxHeartbeats 4000000 in
theorem First_any (w : World) (A : Option Addr) (n c : Nat) (fs : List Fr) (hr : RdFs w A fs) (hw : FsIn fs) (hn : fs.length = n) (hc : n ≤ 900) :
    Calls Try.prog 23 #[.slice A n c] w fun e w' => e = .returned (.tuple #[.int .i64 (firstR fs), .int .i64 (firstN fs)]) ∧ Below w.heap.size w w' := by
  have HA := Lib.hid (all_any w A n c fs hr hw hn hc)
  have HN := Lib.hid hn
  clear hr hw hn
  go_enter Try.func23, Try.ntmps23
  go_wp2_with fail
  refine HA.out.mono ?_
  rintro x W1 ⟨hb1, ⟨hall, rfl⟩ | ⟨hall, b, l0, rfl, ⟨⟨g, cap, h1⟩, hh1⟩, hp1⟩⟩
  · have HB1 := Lib.hid hb1
    have HALL := Lib.hid hall
    clear hb1 hall
    go_wp2_with fail
    go_ret2
    exact ⟨by simp [firstR, firstN, HALL.out], HB1.out⟩
  · have hln : l0.length = n := by rw [hp1.length_eq, ents_length]; exact HN.out
    have hbx := h1.box
    rw [hln] at hbx
    have c0 : W1.cell? ⟨b, 0, none⟩ = some (.slice (some ⟨g, 0, none⟩) n cap) := cell_of_heap hbx 0 _ rfl
    have HL := Lib.hid (Len_any (some ⟨g, 0, none⟩) n cap W1)
    have HB1 := Lib.hid hb1
    have HALL := Lib.hid hall
    by_cases h0 : n = 0
    · subst h0
      have hf : firstR fs = 0 ∧ firstN fs = 9 := by
        have : fs = [] := List.eq_nil_of_length_eq_zero HN.out
        subst this
        exact ⟨rfl, rfl⟩
      have HF := Lib.hid hf
      clear h1 hh1 hp1 hb1 hall hbx hf
      go_wp2_with fail
      refine HL.out.mono ?_
      rintro x _ ⟨rfl, rfl⟩
      go_wp2_with fail
      go_ret2
      exact ⟨by rw [HF.out.1, HF.out.2] <;> rfl, HB1.out⟩
    · obtain ⟨d0, d1⟩ := h1.cells 0 (by omega)
      have hf : firstR fs = (at_ l0 0).2 ∧ firstN fs = 0 := by
        have ht := Ranked.top (rkE_ranked fs) hp1 hh1 (by rw [HN.out]; omega)
        unfold firstR firstN
        rw [hall, if_pos rfl, if_pos rfl, if_neg (by rw [HN.out]; exact h0), ht]
        exact ⟨rfl, rfl⟩
      have d2 : W1.cell? ⟨g, 1, none⟩ = some (.int .i64 (at_ l0 0).2) := by simpa using d1
      generalize (at_ l0 0).2 = x2 at *
      have HF := Lib.hid hf
      clear h1 hh1 hp1 hb1 hall hbx hf d0 d1
      go_wp2_with fail
      refine HL.out.mono ?_
      rintro x _ ⟨rfl, rfl⟩
      go_wp2_with fail
      go_ret2
      exact ⟨by rw [HF.out.1, HF.out.2] <;> rfl, HB1.out⟩
end Go.Proofs.Ytbjeblffmgghgaa
