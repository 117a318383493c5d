/- queue: New, Len, Head, Cancel. No condition. -/
import Derived.Test.YtlmdkmflbhnlgaaQueue5
import Derived.Test.YtlmdkmflbhnlgaaFilter2
namespace Go.Proofs.Ytlmdkmflbhnlgaa
open Go.RowKit
/-- The queue, with what is in it. -/
structure QueueI (w : World) (base qb room last : Nat) (A : Option Addr) (cap : Nat) (l : List QN) : Prop where
  heap : HeapQ w base qb room last A cap l
  ord : HeapTo kyQ l l.length
  data : ∀ e ∈ l, Row w base 5 e.A e.c (bys e.f.data)
  len : l.length ≤ room
  room : room ≤ 64
  ok : ∀ e ∈ l, okF e.f = true ∧ e.key = keyF e.f ∧ FrIn e.f
  nos : ∀ e ∈ l, 1 ≤ e.no ∧ e.no ≤ (last : Int)
  nodup : (l.map (·.no)).Nodup
theorem qNew_any (room : Nat) (w : World) (h : room ≤ 64) : Calls Try.prog 29 #[.int .i64 room] w fun e w' => e = .returned (.tuple #[.pointer (some ⟨w.heap.size, 0, none⟩), .int .i64 0]) ∧ w' = w.alloc (.cells #[.int .i64 room, .int .i64 0, .slice none 0 0] 114) := by
  have h0 : (room : Int) ≤ 64 := by omega
  go_enter Try.func29, Try.ntmps29
  go_wp2
  go_ret2
  exact ⟨rfl, rfl⟩
theorem qNew_no (room : Int) (w : World) (h : room < 0 ∨ 64 < room) : Calls Try.prog 29 #[.int .i64 room] w fun e w' => e = .returned (.tuple #[.pointer none, .int .i64 2]) ∧ w = w' := by
  rcases h with h | h
  · go_enter Try.func29, Try.ntmps29
    go_wp2
    go_ret2
    exact ⟨rfl, rfl⟩
  · have h' : ¬ room < 0 := by omega
    go_enter Try.func29, Try.ntmps29
    go_wp2
    go_ret2
    exact ⟨rfl, rfl⟩
theorem QueueI.new {w : World} {base qb room : Nat} (hr : room ≤ 64) (h : w.heap[qb]? = some (.cells #[.int .i64 room, .int .i64 0, .slice none 0 0] 114)) : QueueI w base qb room 0 none 0 [] :=
  ⟨⟨h, .inl ⟨rfl, rfl, rfl⟩⟩, fun k _ hk => by simp at hk, by simp, by simp, hr, by simp, by simp, by simp⟩
theorem qQLen_any (w : World) (base qb room last cap : Nat) (A : Option Addr) (l : List QN) (h : HeapQ w base qb room last A cap l) :
    Calls Try.prog 41 #[.pointer (some ⟨qb, 0, none⟩)] w fun e w' => e = .returned (.int .i64 l.length) ∧ w = w' := by
  have c2 : w.cell? ⟨qb, 2, none⟩ = some (.slice A l.length cap) := cell_of_heap h.box 2 _ rfl
  clear h
  go_enter Try.func41, Try.ntmps41
  go_wp2_with fail
  go_ret
  exact ⟨rfl, rfl⟩
def itL (no : Int) (f : Fr) (A : Option Addr) (c : Nat) : List Value := [.int .i64 no, .int .i64 f.kind, .int .u32 f.id, .bool f.ext, .bool f.rtr, .bool f.brs, .bool f.esi, .bool f.sec, .int .u8 f.sdt, .int .u8 f.vcid, .int .u32 f.af, .slice A f.data.length c]
theorem itL_arr (no : Int) (A : Option Addr) (n c : Nat) (fk fi : Int) (fe fr f4 f5 f6 : Bool) (f7 f8 f9 : Int) : (#[.int .i64 no, .int .i64 fk, .int .u32 fi, .bool fe, .bool fr, .bool f4, .bool f5, .bool f6, .int .u8 f7, .int .u8 f8, .int .u32 f9, .slice A n c] : Array Value).all (·.oneCell') = true := by simp [Value.oneCell']
theorem info_item : (Try.prog.info? 61).map (·.size) = some 12 := by kernel_rfl
/-- An item in memory of its own. -/
def OwnOf (w : World) (no : Int) (f : Fr) (e : Ending) (w' : World) : Prop := (∃ A c, e = .returned (.agg (itL no f A c).toArray) ∧ Row w' w.heap.size 5 A c (bys f.data)) ∧ Below w.heap.size w w'
set_option maxRecDepth 100000 in
set_option maxHeartbeats 4000000 in
theorem own_any (w : World) (x : QN) (hr : Rd w x.A (bys x.f.data)) (hn : x.f.data.length ≤ 1000000) (hz : x.A = none → x.c = 0) : Calls Try.prog 69 #[qV x] w (OwnOf w x.no x.f) := by
  have HC := Lib.hid (fun W hW => Copy_any W x.f x.A x.c hW hn hz)
  have HR := Lib.hid hr
  obtain ⟨xn, f, xA, xc, xk⟩ := x
  obtain ⟨m, hm⟩ : ∃ m, f.data.length = m := ⟨_, rfl⟩
  have HM := Lib.hid hm
  dsimp only [qV, frv] at *
  rw [hm] at HC ⊢
  clear hr hm hn hz
  go_enter Try.func69, Try.ntmps69
  go_wp2_with fail
  obtain ⟨W0, hW0, q1, q2, hb⟩ : ∃ W0, W0 = (w.alloc (.cells #[.int .i64 xn, .int .i64 f.kind, .int .u32 f.id, .bool f.ext, .bool f.rtr, .bool f.brs, .bool f.esi, .bool f.sec, .int .u8 f.sdt, .int .u8 f.vcid, .int .u32 f.af, .slice xA m xc, .int .u64 xk] 130)).alloc (.cells #[.int .i64 0, .int .i64 0, .int .u32 0, .bool false, .bool false, .bool false, .bool false, .bool false, .int .u8 0, .int .u8 0, .int .u32 0, .slice none 0 0] 61) ∧
      W0.heap[w.heap.size]? = some (.cells #[.int .i64 xn, .int .i64 f.kind, .int .u32 f.id, .bool f.ext, .bool f.rtr, .bool f.brs, .bool f.esi, .bool f.sec, .int .u8 f.sdt, .int .u8 f.vcid, .int .u32 f.af, .slice xA m xc, .int .u64 xk] 130 (0, 0)) ∧
      W0.heap[w.heap.size + 1]? = some (.cells #[.int .i64 0, .int .i64 0, .int .u32 0, .bool false, .bool false, .bool false, .bool false, .bool false, .int .u8 0, .int .u8 0, .int .u32 0, .slice none 0 0] 61 (0, 0)) ∧ Below w.heap.size w W0 :=
    ⟨_, rfl, heap_push (heap_new_at rfl), heap_new_at (by simp), below_alloc (below_alloc (Below.refl _ _) _) _⟩
  rw [← hW0]
  have x0 : ∀ e : Ext W0, e.W.cell? ⟨w.heap.size, 0, none⟩ = some (.int .i64 xn) := fun e => ext_cell (cell_of_heap q1 0 _ rfl) e
  have x1 : ∀ e : Ext W0, e.W.cell? ⟨w.heap.size, 1, none⟩ = some (.int .i64 f.kind) := fun e => ext_cell (cell_of_heap q1 1 _ rfl) e
  have x2 : ∀ e : Ext W0, e.W.cell? ⟨w.heap.size, 2, none⟩ = some (.int .u32 f.id) := fun e => ext_cell (cell_of_heap q1 2 _ rfl) e
  have x3 : ∀ e : Ext W0, e.W.cell? ⟨w.heap.size, 3, none⟩ = some (.bool f.ext) := fun e => ext_cell (cell_of_heap q1 3 _ rfl) e
  have x4 : ∀ e : Ext W0, e.W.cell? ⟨w.heap.size, 4, none⟩ = some (.bool f.rtr) := fun e => ext_cell (cell_of_heap q1 4 _ rfl) e
  have x5 : ∀ e : Ext W0, e.W.cell? ⟨w.heap.size, 5, none⟩ = some (.bool f.brs) := fun e => ext_cell (cell_of_heap q1 5 _ rfl) e
  have x6 : ∀ e : Ext W0, e.W.cell? ⟨w.heap.size, 6, none⟩ = some (.bool f.esi) := fun e => ext_cell (cell_of_heap q1 6 _ rfl) e
  have x7 : ∀ e : Ext W0, e.W.cell? ⟨w.heap.size, 7, none⟩ = some (.bool f.sec) := fun e => ext_cell (cell_of_heap q1 7 _ rfl) e
  have x8 : ∀ e : Ext W0, e.W.cell? ⟨w.heap.size, 8, none⟩ = some (.int .u8 f.sdt) := fun e => ext_cell (cell_of_heap q1 8 _ rfl) e
  have x9 : ∀ e : Ext W0, e.W.cell? ⟨w.heap.size, 9, none⟩ = some (.int .u8 f.vcid) := fun e => ext_cell (cell_of_heap q1 9 _ rfl) e
  have x10 : ∀ e : Ext W0, e.W.cell? ⟨w.heap.size, 10, none⟩ = some (.int .u32 f.af) := fun e => ext_cell (cell_of_heap q1 10 _ rfl) e
  have x11 : ∀ e : Ext W0, e.W.cell? ⟨w.heap.size, 11, none⟩ = some (.slice xA m xc) := fun e => ext_cell (cell_of_heap q1 11 _ rfl) e
  have HB := Lib.hid hb
  have Q2 := Lib.hid q2
  have hsz : w.heap.size + 1 < W0.heap.size := heap_lt q2
  clear q1 q2 hb hW0
  refine wp_region_mix (fun w' => ∃ e : Ext W0, w' = e.W) [(true, 0), (true, 1), (true, 2), (true, 3), (true, 4), (true, 5), (false, 6), (true, 7)] [8] (by kernel_rfl) (by kernel_rfl) (by intro _ _ d _ _ h; cases d <;> exact h) ⟨⟨W0.drew, (Below.refl _ _).drew⟩, rfl⟩ ?_
  simp only [pickM, pickL, List.drop_succ_cons, List.drop_zero]
  repeat (refine mix_pure (by rfl) (by rfl) ?_; intro K hK; go_big_quiet_op; go_big_quiet_on)
  refine mix_eff (by rfl) ?_
  intro K hK
  go_simp
  refine (HC.out _ (HR.out.below (below_trans HB.out (Below.refl _ _).drew))).mono ?_
  rintro e w1 ⟨⟨A', c', rfl, hrow⟩, hb1⟩
  have hb01 : Below W0.heap.size W0 w1 := below_trans (Below.refl _ _).drew hb1
  refine hK _ _ ⟨⟨w1, hb01⟩, rfl⟩ ?_
  clear hK K
  repeat (refine mix_pure (by rfl) (by rfl) ?_; intro K hK; go_big_quiet_op; go_big_quiet_on)
  refine mix_nil ?_
  have HH := Lib.hid (heap_below hb01 Q2.out)
  have HROW := Lib.hid (hrow.mono (show W0.heap.size ≤ W0.drew.heap.size from Nat.le_refl _))
  have HB1 := Lib.hid (below_trans HB.out hb01)
  have HT : Hid (w1.there (w.heap.size + 1) 0 12) := there_of HH.out _ _ (by simp)
  have HSC := Lib.hid (heap_setCells [.int .i64 xn, .int .i64 f.kind, .int .u32 f.id, .bool f.ext, .bool f.rtr, .bool f.brs, .bool f.esi, .bool f.sec, .int .u8 f.sdt, .int .u8 f.vcid, .int .u32 f.af, .slice A' m c'] 0 HH.out)
  have H1 := Lib.hid (itL_arr xn A' m c' f.kind f.id f.ext f.rtr f.brs f.esi f.sec f.sdt f.vcid f.af)
  clear hrow hb1 hb01 x0 x1 x2 x3 x4 x5 x6 x7 x8 x9 x10 x11
  refine wpList_plain rfl fun K hK => ?_
  refine wp_store_mid 61 (.tmp 2) (.tmp 10) rfl (w.heap.size + 1) 0 #[.int .i64 xn, .int .i64 f.kind, .int .u32 f.id, .bool f.ext, .bool f.rtr, .bool f.brs, .bool f.esi, .bool f.sec, .int .u8 f.sdt, .int .u8 f.vcid, .int .u32 f.af, .slice A' m c'] ?_ ?_ HT.out info_item H1.out (hK _ _ ?_)
  · go_simp
  · go_simp
  simp only [Act.put]
  generalize hW5 : w1.setCells (w.heap.size + 1) 0 _ = W5
  have HSC5 : Hid (∃ ds : Array Value, W5.heap[w.heap.size + 1]? = some (.cells ds 61 (0, 0)) ∧ ∀ j, j < 12 → ds[j]? = [Value.int .i64 xn, .int .i64 f.kind, .int .u32 f.id, .bool f.ext, .bool f.rtr, .bool f.brs, .bool f.esi, .bool f.sec, .int .u8 f.sdt, .int .u8 f.vcid, .int .u32 f.af, .slice A' m c'][j]?) := by
    obtain ⟨ds, d1, d2, d3⟩ := HSC.out
    refine ⟨ds, by rw [← hW5]; exact d1, fun j hj => ?_⟩
    rw [d3 j, if_pos (by simp; omega), Nat.sub_zero]
  have HTU : Hid (Turn [w.heap.size + 1] w1 W5) := by rw [← hW5]; exact Turn.setCells (.inl (by simp)) _ _ (Turn.refl _ _)
  clear hW5
  obtain ⟨ds, d1, d3⟩ := HSC5.out
  have b0 : W5.cell? ⟨w.heap.size + 1, 0, none⟩ = some (.int .i64 xn) := cell_of_heap d1 0 _ (d3 0 (by omega))
  have b1 : W5.cell? ⟨w.heap.size + 1, 1, none⟩ = some (.int .i64 f.kind) := cell_of_heap d1 1 _ (d3 1 (by omega))
  have b2 : W5.cell? ⟨w.heap.size + 1, 2, none⟩ = some (.int .u32 f.id) := cell_of_heap d1 2 _ (d3 2 (by omega))
  have b3 : W5.cell? ⟨w.heap.size + 1, 3, none⟩ = some (.bool f.ext) := cell_of_heap d1 3 _ (d3 3 (by omega))
  have b4 : W5.cell? ⟨w.heap.size + 1, 4, none⟩ = some (.bool f.rtr) := cell_of_heap d1 4 _ (d3 4 (by omega))
  have b5 : W5.cell? ⟨w.heap.size + 1, 5, none⟩ = some (.bool f.brs) := cell_of_heap d1 5 _ (d3 5 (by omega))
  have b6 : W5.cell? ⟨w.heap.size + 1, 6, none⟩ = some (.bool f.esi) := cell_of_heap d1 6 _ (d3 6 (by omega))
  have b7 : W5.cell? ⟨w.heap.size + 1, 7, none⟩ = some (.bool f.sec) := cell_of_heap d1 7 _ (d3 7 (by omega))
  have b8 : W5.cell? ⟨w.heap.size + 1, 8, none⟩ = some (.int .u8 f.sdt) := cell_of_heap d1 8 _ (d3 8 (by omega))
  have b9 : W5.cell? ⟨w.heap.size + 1, 9, none⟩ = some (.int .u8 f.vcid) := cell_of_heap d1 9 _ (d3 9 (by omega))
  have b10 : W5.cell? ⟨w.heap.size + 1, 10, none⟩ = some (.int .u32 f.af) := cell_of_heap d1 10 _ (d3 10 (by omega))
  have b11 : W5.cell? ⟨w.heap.size + 1, 11, none⟩ = some (.slice A' m c') := cell_of_heap d1 11 _ (d3 11 (by omega))
  clear d1 d3
  go_wp2_with fail
  refine bodyPost_ret (v := .agg #[.int .i64 xn, .int .i64 f.kind, .int .u32 f.id, .bool f.ext, .bool f.rtr, .bool f.brs, .bool f.esi, .bool f.sec, .int .u8 f.sdt, .int .u8 f.vcid, .int .u32 f.af, .slice A' m c']) (by simp [results, Try.results69, go_sem, *]) rfl ⟨⟨A', c', by simp only [itL]; rw [HM.out], ?_⟩, ?_⟩
  · refine Row.mono (Row.turn HROW.out HTU.out (fun ad e hm => ?_)) (by omega)
    have := HROW.out.geq ad e
    simp at hm
    omega
  · exact HB1.out.trans (HTU.out.below (by simp) (by have := HB1.out.size; omega))
/-- What Head answers. -/
def HeadOf (w : World) (l : List QN) (e : Ending) (w' : World) : Prop :=
  ((l = [] ∧ e = .returned (.tuple #[.agg #[.int .i64 0, .int .i64 0, .int .u32 0, .bool false, .bool false, .bool false, .bool false, .bool false, .int .u8 0, .int .u8 0, .int .u32 0, .slice none 0 0], .int .i64 9])) ∨
    (0 < l.length ∧ ∃ A c, e = .returned (.tuple #[.agg (itL (ag l 0).no (ag l 0).f A c).toArray, .int .i64 0]) ∧ Row w' w.heap.size 5 A c (bys (ag l 0).f.data))) ∧ Below w.heap.size w w'
end Go.Proofs.Ytlmdkmflbhnlgaa
namespace Go.Proofs.Ytlmdkmflbhnlgaa
open Go.RowKit
set_option maxRecDepth 100000 in
set_option maxHeartbeats 4000000 in
theorem Head_any (w : World) (base qb room last cap : Nat) (A : Option Addr) (l : List QN) (h : QueueI w base qb room last A cap l) :
    Calls Try.prog 45 #[.pointer (some ⟨qb, 0, none⟩)] w (HeadOf w l) := by
  have hqb : qb < w.heap.size := heap_lt h.heap.box
  have c2 : w.cell? ⟨qb, 2, none⟩ = some (.slice A l.length cap) := cell_of_heap h.heap.box 2 _ rfl
  have hcap := h.heap.capm
  cases l with
  | nil =>
    clear h hcap
    go_enter Try.func45, Try.ntmps45
    go_wp2
    refine bodyPost_ret (v := .tuple #[.agg #[.int .i64 0, .int .i64 0, .int .u32 0, .bool false, .bool false, .bool false, .bool false, .bool false, .int .u8 0, .int .u8 0, .int .u32 0, .slice none 0 0], .int .i64 9]) (by simp [results, Try.results45, go_sem]) rfl ⟨.inl ⟨rfl, rfl⟩, ?_⟩
    repeat (first | exact below_alloc (Below.refl _ _) _ | refine Below.setCell ?_ (by simp) _)
  | cons x l =>
    obtain ⟨g, rfl, ci⟩ := h.heap.cells 0 (by simp)
    have hx : (x :: l)[0] = x := rfl
    rw [hx] at ci
    have hmem : x ∈ x :: l := List.mem_cons_self
    have hdat := h.data x hmem
    have hlen : x.f.data.length ≤ 2048 := by have := codeF_kind _ _ ((okF_iff x.f).1 (h.ok x hmem).1).size; omega
    have HO := Lib.hid (fun W hW => own_any W x hW (by omega) (fun e => hdat.none_ e))
    have HD := Lib.hid hdat
    obtain ⟨n, hn⟩ : ∃ n, l.length = n := ⟨_, rfl⟩
    have hnz : 0 < n + 1 := by omega
    rw [List.length_cons, hn] at c2 hcap
    obtain ⟨hcap, hm⟩ := hcap
    have hcm : (cap : Int) ≤ 9223372036854775807 := by unfold maxLen at hm; omega
    have hn63 : (n : Int) + 1 ≤ 64 := by have := h.len; have := h.room; simp only [List.length_cons] at *; omega
    have hne : (((n + 1 : Nat) : Int) == 0) = false := by rw [beq_eq_false_iff_ne]; omega
    have hag : ag (x :: l) 0 = x := rfl
    have a0 : w.cell? ⟨g, 0, none⟩ = some (.int .i64 x.no) := by have := ci 0 _ rfl; simpa using this
    have a1 : w.cell? ⟨g, 1, none⟩ = some (.int .i64 x.f.kind) := by have := ci 1 _ rfl; simpa using this
    have a2 : w.cell? ⟨g, 2, none⟩ = some (.int .u32 x.f.id) := by have := ci 2 _ rfl; simpa using this
    have a3 : w.cell? ⟨g, 3, none⟩ = some (.bool x.f.ext) := by have := ci 3 _ rfl; simpa using this
    have a4 : w.cell? ⟨g, 4, none⟩ = some (.bool x.f.rtr) := by have := ci 4 _ rfl; simpa using this
    have a5 : w.cell? ⟨g, 5, none⟩ = some (.bool x.f.brs) := by have := ci 5 _ rfl; simpa using this
    have a6 : w.cell? ⟨g, 6, none⟩ = some (.bool x.f.esi) := by have := ci 6 _ rfl; simpa using this
    have a7 : w.cell? ⟨g, 7, none⟩ = some (.bool x.f.sec) := by have := ci 7 _ rfl; simpa using this
    have a8 : w.cell? ⟨g, 8, none⟩ = some (.int .u8 x.f.sdt) := by have := ci 8 _ rfl; simpa using this
    have a9 : w.cell? ⟨g, 9, none⟩ = some (.int .u8 x.f.vcid) := by have := ci 9 _ rfl; simpa using this
    have a10 : w.cell? ⟨g, 10, none⟩ = some (.int .u32 x.f.af) := by have := ci 10 _ rfl; simpa using this
    have a11 : w.cell? ⟨g, 11, none⟩ = some (.slice x.A x.f.data.length x.c) := by have := ci 11 _ rfl; simpa using this
    have a12 : w.cell? ⟨g, 12, none⟩ = some (.int .u64 x.key) := by have := ci 12 _ rfl; simpa using this
    have hgl : g < w.heap.size := cell_lt a0
    have HAG := Lib.hid hag
    clear h hdat hm ci hx hmem hn hag
    dsimp only [qV] at HO
    go_enter Try.func45, Try.ntmps45
    go_wp2_with fail
    refine calls_blk1 fun W1 q1 hb1 => ?_
    refine (HO.out _ (HD.out.rd.below hb1)).mono ?_
    rintro e w1 ⟨⟨A', c', rfl, hrow⟩, hb⟩
    have Q1 := heap_below hb q1
    have zb : ∀ o, w1.frozen? ⟨w.heap.size, o, none⟩ = false := fun o => by simp [World.frozen?, Q1]
    have b0 : w1.cell? ⟨w.heap.size, 0, none⟩ = some (.int .i64 0) := cell_of_heap Q1 0 _ rfl
    have b1 : w1.cell? ⟨w.heap.size, 1, none⟩ = some (.int .i64 0) := cell_of_heap Q1 1 _ rfl
    have b2 : w1.cell? ⟨w.heap.size, 2, none⟩ = some (.int .u32 0) := cell_of_heap Q1 2 _ rfl
    have b3 : w1.cell? ⟨w.heap.size, 3, none⟩ = some (.bool false) := cell_of_heap Q1 3 _ rfl
    have b4 : w1.cell? ⟨w.heap.size, 4, none⟩ = some (.bool false) := cell_of_heap Q1 4 _ rfl
    have b5 : w1.cell? ⟨w.heap.size, 5, none⟩ = some (.bool false) := cell_of_heap Q1 5 _ rfl
    have b6 : w1.cell? ⟨w.heap.size, 6, none⟩ = some (.bool false) := cell_of_heap Q1 6 _ rfl
    have b7 : w1.cell? ⟨w.heap.size, 7, none⟩ = some (.bool false) := cell_of_heap Q1 7 _ rfl
    have b8 : w1.cell? ⟨w.heap.size, 8, none⟩ = some (.int .u8 0) := cell_of_heap Q1 8 _ rfl
    have b9 : w1.cell? ⟨w.heap.size, 9, none⟩ = some (.int .u8 0) := cell_of_heap Q1 9 _ rfl
    have b10 : w1.cell? ⟨w.heap.size, 10, none⟩ = some (.int .u32 0) := cell_of_heap Q1 10 _ rfl
    have b11 : w1.cell? ⟨w.heap.size, 11, none⟩ = some (.slice none 0 0) := cell_of_heap Q1 11 _ rfl
    have HB := Lib.hid (below_trans hb1 hb)
    have HROW := Lib.hid (hrow.mono (show w.heap.size + 1 ≤ W1.heap.size from heap_lt q1))
    clear hb hb1 hrow q1 Q1
    simp only [itL]
    go_wp2_with fail
    refine bodyPost_ret (v := .tuple #[.agg (itL x.no x.f A' c').toArray, .int .i64 0]) (by simp [results, Try.results45, go_sem, itL, *]) rfl ⟨.inr ⟨by simp, A', c', by rw [HAG.out], ?_⟩, ?_⟩
    · rw [HAG.out]
      repeat (refine Row.turn (s := [w.heap.size]) ?_ ((Turn.refl _ _).setCell (by simp) _) (fun ad e hm => by have := HROW.out.geq ad e; simp at hm; omega))
      exact HROW.out.mono (by omega)
    · repeat (refine Below.setCell ?_ (by simp) _)
      exact HB.out
/-- What Cancel answers and leaves. -/
def CancelQ (w : World) (base qb room last : Nat) (A : Option Addr) (cap : Nat) (l : List QN) (no : Int) (e : Ending) (w' : World) : Prop :=
  ((∀ x ∈ l, x.no ≠ no) ∧ e = .returned (.int .i64 9) ∧ Below w.heap.size w w') ∨
    (∃ x l', x ∈ l ∧ x.no = no ∧ e = .returned (.int .i64 0) ∧ HeapQ w' base qb room last A cap l' ∧ HeapTo kyQ l' l'.length ∧ l.Perm (x :: l') ∧ Turn (qb :: blkA A) w w')
set_option maxRecDepth 100000 in
set_option maxHeartbeats 4000000 in
theorem qCancel_any (w : World) (base qb room last cap : Nat) (A : Option Addr) (l : List QN) (no : Int) (h : HeapQ w base qb room last A cap l) (hh : HeapTo kyQ l l.length) (h64 : l.length ≤ 64) :
    Calls Try.prog 71 #[.pointer (some ⟨qb, 0, none⟩), .int .i64 no] w (CancelQ w base qb room last A cap l no) := by
  have hqb : qb < w.heap.size := heap_lt h.box
  have c2 : w.cell? ⟨qb, 2, none⟩ = some (.slice A l.length cap) := cell_of_heap h.box 2 _ rfl
  have HQ := Lib.hid h
  have HH := Lib.hid hh
  obtain ⟨n, hn⟩ : ∃ n, l.length = n := ⟨_, rfl⟩
  rw [hn] at c2 h64
  have HN := Lib.hid hn
  clear h hh hn
  go_enter Try.func71, Try.ntmps71
  go_wp2_with fail
  refine calls_blk1 fun W1 q1 hb1 => ?_
  refine (qIndex_any W1 base qb room last cap n w.heap.size A no l (HQ.out.below hb1) HN.out (by omega) (cell_of_heap q1 0 _ rfl)).mono ?_
  rintro e w1 ⟨he, hb⟩
  have HB := Lib.hid (below_trans hb1 hb)
  clear hb hb1 q1 c2
  rcases he with ⟨k, hk, rfl, hno⟩ | ⟨rfl, hno⟩
  · have hk2 : k < n := by rw [← HN.out]; exact hk
    obtain ⟨m, rfl⟩ : ∃ m, n = m + 1 := ⟨n - 1, by omega⟩
    have HR := Lib.hid (qRemove_any w1 base qb room last cap m k A l (HQ.out.below HB.out) HH.out HN.out (by omega) (by omega))
    have HNO := Lib.hid hno
    have HAG : Hid (ag l k = l[k]'hk) := ag_get hk
    have HMEM : Hid (l[k]'hk ∈ l) := List.getElem_mem hk
    have hnn : ¬ (k : Int) < 0 := by omega
    clear hno
    go_wp2_with fail
    refine HR.out.mono ?_
    rintro e w2 ⟨l', rfl, h2, hh2, hp2, t2⟩
    have HE : Hid (CancelQ w base qb room last A cap l no (.returned (.int .i64 0)) w2) := by
      refine .inr ⟨l[k]'hk, l', HMEM.out, HNO.out, rfl, h2, hh2, ?_, (Turn.of HB.out).tr t2⟩
      rw [← HAG.out]; exact hp2
    clear h2 hh2 hp2 t2
    go_wp2_with fail
    go_ret
    exact HE.out
  · have HNO := Lib.hid hno
    clear hno
    go_wp2_with fail
    go_ret
    refine .inl ⟨fun x hx => ?_, rfl, HB.out⟩
    obtain ⟨j, hj, rfl⟩ := List.getElem_of_mem hx
    exact HNO.out j hj
end Go.Proofs.Ytlmdkmflbhnlgaa
