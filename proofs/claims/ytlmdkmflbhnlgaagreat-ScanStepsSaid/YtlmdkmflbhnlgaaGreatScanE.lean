/- scan's Status and Seen: what the machine tells. No condition. -/
import Derived.Test.YtlmdkmflbhnlgaaGreatScanA
import Derived.Test.YtlmdkmflbhnlgaaGreatTells
namespace Go.Proofs.YtlmdkmflbhnlgaaGreat
open Go.RowKit
variable {w : World} {s : List Nat} {mp : Nat} {S : MS} {a : MA}
/-- A struct's store into a block. -/
theorem wpList_bputs {P : Program} {ops : Array Oper} {rest : List Oper} {op : Oper} {f : Act} {Q : Exit → Act → World → Prop} {g : Nat} {cs : Array Value} {t : TypeId} (hg : w.heap[g]? = some (.cells cs t (0, 0))) (hgd : op.guard = none) (ty : TypeId) (x y : Operand) (ho : op.op = .store ty x y)
    (i n : Nat) (vs : List Value) (hn : vs.length = n) (hx : f.eval x = .pointer (some ⟨g, i, none⟩)) (hy : f.eval y = .agg vs.toArray) (hi : (P.info? ty).map (·.size) = some n) (h1 : vs.toArray.all (·.oneCell') = true) (hin : i + n ≤ cs.size)
    (ds : Array Value) (hd : setAll vs i cs = ds)
    (K : ∀ W', Hid (W'.heap[g]? = some (.cells ds t (0, 0))) → Hid (Turn [g] w W') → wpList P ops Q rest (f.put op.dst undef) W') : wpList P ops Q (op :: rest) f w := by
  subst hn hd
  refine wpList_store_mid hgd ty x y ho g i vs.toArray hx hy (there_at hg _ _ (by simpa using hin)) (by simpa using hi) h1 (K _ (heap_setAll vs i hg) (Turn.setCells (.inl (by simp)) _ _ (Turn.refl _ _)))
theorem cells13 {w : World} {g : Nat} {v0 v1 v2 v3 v4 v5 v6 v7 v8 v9 v10 v11 v12 : Value} {t : TypeId} {fr : Nat × Nat} (h : w.heap[g]? = some (.cells #[v0, v1, v2, v3, v4, v5, v6, v7, v8, v9, v10, v11, v12] t fr)) :
    w.cell? ⟨g, 0, none⟩ = some v0 ∧ w.cell? ⟨g, 1, none⟩ = some v1 ∧ w.cell? ⟨g, 2, none⟩ = some v2 ∧ w.cell? ⟨g, 3, none⟩ = some v3 ∧ w.cell? ⟨g, 4, none⟩ = some v4 ∧ w.cell? ⟨g, 5, none⟩ = some v5 ∧ w.cell? ⟨g, 6, none⟩ = some v6 ∧ w.cell? ⟨g, 7, none⟩ = some v7 ∧ w.cell? ⟨g, 8, none⟩ = some v8 ∧ w.cell? ⟨g, 9, none⟩ = some v9 ∧ w.cell? ⟨g, 10, none⟩ = some v10 ∧ w.cell? ⟨g, 11, none⟩ = some v11 ∧ w.cell? ⟨g, 12, none⟩ = some v12 :=
  ⟨cell_of_heap h 0 _ rfl, cell_of_heap h 1 _ rfl, cell_of_heap h 2 _ rfl, cell_of_heap h 3 _ rfl, cell_of_heap h 4 _ rfl, cell_of_heap h 5 _ rfl, cell_of_heap h 6 _ rfl, cell_of_heap h 7 _ rfl, cell_of_heap h 8 _ rfl, cell_of_heap h 9 _ rfl, cell_of_heap h 10 _ rfl, cell_of_heap h 11 _ rfl, cell_of_heap h 12 _ rfl⟩
/-- What a row is, as a value: the kind, the error, the frame. -/
def stL (k e : Nat) (f : Fr) (A : Option Addr) (c : Nat) : List Value := [.int .i64 k, .int .i64 e, .int .i64 f.kind, .int .u32 f.id, .bool f.ext, .bool f.rtr, .bool f.brs, .bool f.esi, .bool f.sec, .int .u8 f.sdt, .int .u8 f.vcid, .int .u32 f.af, .slice A f.data.length c]
/-- What Status answers. -/
def StatOf (w : World) (k e : Nat) (f : Fr) (x : Ending) (w' : World) : Prop := ∃ A c, x = .returned (.tuple #[.agg (stL k e f A c).toArray, .int .i64 0]) ∧ Row w' w.heap.size 5 A c (bys f.data) ∧ Below w.heap.size w w'
theorem info_statusE : (Tryz.prog.info? 30).map (·.size) = some 13 := by kernel_rfl
set_option maxRecDepth 100000 in
set_option maxHeartbeats 8000000 in
theorem mStatus (h : MR w s mp S a) (hn : S.sf.data.length ≤ 1000000) :
    Calls Tryz.prog 15 #[.pointer (some ⟨mp, 0, none⟩)] w (StatOf w S.kind S.err S.sf) := by
  have HC := Lib.hid (fun W (hW : Rd W a.sA (bys S.sf.data)) => Copy_any W S.sf a.sA a.sc hW hn h.rest.sf.2.2)
  have HR := Lib.hid h.rest.sf.1
  have c1 : w.cell? ⟨mp, 1, none⟩ = some (.int .i64 S.kind) := h.cell 1 _ rfl
  have c2 : w.cell? ⟨mp, 2, none⟩ = some (.int .i64 S.err) := h.cell 2 _ rfl
  have c3 : w.cell? ⟨mp, 3, none⟩ = some (.int .i64 S.sf.kind) := h.cell 3 _ rfl
  have c4 : w.cell? ⟨mp, 4, none⟩ = some (.int .u32 S.sf.id) := h.cell 4 _ rfl
  have c5 : w.cell? ⟨mp, 5, none⟩ = some (.bool S.sf.ext) := h.cell 5 _ rfl
  have c6 : w.cell? ⟨mp, 6, none⟩ = some (.bool S.sf.rtr) := h.cell 6 _ rfl
  have c7 : w.cell? ⟨mp, 7, none⟩ = some (.bool S.sf.brs) := h.cell 7 _ rfl
  have c8 : w.cell? ⟨mp, 8, none⟩ = some (.bool S.sf.esi) := h.cell 8 _ rfl
  have c9 : w.cell? ⟨mp, 9, none⟩ = some (.bool S.sf.sec) := h.cell 9 _ rfl
  have c10 : w.cell? ⟨mp, 10, none⟩ = some (.int .u8 S.sf.sdt) := h.cell 10 _ rfl
  have c11 : w.cell? ⟨mp, 11, none⟩ = some (.int .u8 S.sf.vcid) := h.cell 11 _ rfl
  have c12 : w.cell? ⟨mp, 12, none⟩ = some (.int .u32 S.sf.af) := h.cell 12 _ rfl
  have c13 : w.cell? ⟨mp, 13, none⟩ = some (.slice a.sA S.sf.data.length a.sc) := h.cell 13 _ rfl
  have hlt := h.lt
  unfold StatOf
  generalize S.kind = k at *
  generalize S.err = er at *
  generalize S.sf = f at *
  generalize a.sA = A at *
  generalize a.sc = c at *
  clear h hn
  obtain ⟨fk, fi, fe, fr, f4, f5, f6, f7, f8, f9, l⟩ := f
  dsimp only [frv] at *
  obtain ⟨n, hn⟩ : ∃ n, l.length = n := ⟨_, rfl⟩
  rw [hn] at HC c13
  have HN := Lib.hid hn
  clear hn
  go_enter Tryz.func15, Tryz.ntmps15
  go_wp2_with fail
  refine calls_blk2 fun W1 q1 q2 hb1 => ?_
  have HB1 := Lib.hid hb1
  have hz := heap_lt q2
  refine (HC.out _ (HR.out.below hb1)).mono ?_
  rintro e w6 ⟨⟨A', c', rfl, hrow⟩, hb⟩
  have HROW := Lib.hid hrow
  have HB6 := Lib.hid (below_trans HB1.out hb)
  have Q1 := Lib.hid (heap_below hb q1)
  have Q2 := Lib.hid (heap_below hb q2)
  clear hb hb1 hrow c1 c2 c3 c4 c5 c6 c7 c8 c9 c10 c11 c12 c13 q1 q2
  go_wp2_with (first
    | (refine wpList_bputs (g := w.heap.size + 1) Q2.out rfl 28 (.tmp 15) (.tmp 14) rfl 2 11 [.int .i64 fk, .int .u32 fi, .bool fe, .bool fr, .bool f4, .bool f5, .bool f6, .int .u8 f7, .int .u8 f8, .int .u32 f9, .slice A' n c'] rfl (by kernel_rfl) (by kernel_rfl) info_frameS (by simp [Value.oneCell']) (by simp) #[.int .i64 k, .int .i64 er, .int .i64 fk, .int .u32 fi, .bool fe, .bool fr, .bool f4, .bool f5, .bool f6, .int .u8 f7, .int .u8 f8, .int .u32 f9, .slice A' n c'] (by kernel_rfl) ?_; intro W7 H7 T7; obtain ⟨b0, b1, b2, b3, b4, b5, b6, b7, b8, b9, b10, b11, b12⟩ := cells13 H7.out)
    | (refine wpList_bputs (g := w.heap.size) (T7.out.heap Q1.out (by simp)) rfl 30 (.tmp 2) (.tmp 16) rfl 0 13 [.int .i64 k, .int .i64 er, .int .i64 fk, .int .u32 fi, .bool fe, .bool fr, .bool f4, .bool f5, .bool f6, .int .u8 f7, .int .u8 f8, .int .u32 f9, .slice A' n c'] rfl (by kernel_rfl) (by kernel_rfl) info_statusE (by simp [Value.oneCell']) (by simp) #[.int .i64 k, .int .i64 er, .int .i64 fk, .int .u32 fi, .bool fe, .bool fr, .bool f4, .bool f5, .bool f6, .int .u8 f7, .int .u8 f8, .int .u32 f9, .slice A' n c'] (by kernel_rfl) ?_; intro W8 H8 T8; clear b0 b1 b2 b3 b4 b5 b6 b7 b8 b9 b10 b11 b12; obtain ⟨d0, d1, d2, d3, d4, d5, d6, d7, d8, d9, d10, d11, d12⟩ := cells13 H8.out))
  have T := (T7.out.mono (s' := [w.heap.size, w.heap.size + 1]) (fun x hx => .inl (by simp at hx; simp [hx]))).tr (T8.out.mono (fun x hx => .inl (by simp at hx; simp [hx])))
  refine bodyPost_ret (v := .tuple #[.agg #[.int .i64 k, .int .i64 er, .int .i64 fk, .int .u32 fi, .bool fe, .bool fr, .bool f4, .bool f5, .bool f6, .int .u8 f7, .int .u8 f8, .int .u32 f9, .slice A' n c'], .int .i64 0]) (by simp [results, Tryz.results15, go_sem, *]) rfl ⟨A', c', by rw [← HN.out]; rfl, ?_, ?_⟩
  · refine Row.turn (HROW.out.mono (by omega)) T (fun ad e hm => ?_)
    have := HROW.out.geq ad e
    simp at hm
    omega
  · exact Below.trans HB6.out (T.below (fun x hx => by simp at hx; omega) (by have := HB6.out.size; omega))
theorem mSeen (h : MR w s mp S a) : Calls Tryz.prog 14 #[.pointer (some ⟨mp, 0, none⟩)] w fun e w' => e = .returned (.int .i64 S.seen) ∧ w = w' := by
  have c14 : w.cell? ⟨mp, 14, none⟩ = some (.int .i64 S.seen) := h.cell 14 _ rfl
  clear h
  go_enter Tryz.func14, Tryz.ntmps14
  go_wp2
  go_ret
  exact ⟨rfl, rfl⟩
theorem RowU.nil (w : World) (s : List Nat) : RowU w s none 0 [] := ⟨Row.nil _ _ _, fun k hk => by simp [blkA] at hk⟩
theorem fr_eta (f : Fr) (w : World) (s : List Nat) (h : f = zFr) : DatU w s none 0 f.data := by subst h; exact DatU.nil _ _
set_option maxRecDepth 100000 in
set_option maxHeartbeats 4000000 in
theorem mNew (xl : Bool) (w : World) :
    Calls Tryz.prog 12 #[.bool xl] w fun e w' => e = .returned (.pointer (some ⟨w.heap.size, 0, none⟩)) ∧ (∃ s a, MR w' s w.heap.size (newM xl) a ∧ ∀ k ∈ s, w.heap.size ≤ k) ∧ Below w.heap.size w w' := by
  go_enter Tryz.func12, Tryz.ntmps12
  go_wp2_with fail
  obtain ⟨W1, hW1⟩ : ∃ W1, w.alloc (.cells (mca { newM xl with need := 0, next := .nil } ⟨none, 0, .func (.func 25) #[ptr w.heap.size] #[], .nilFunc, none, 0, none, 0, none, 0, none, 0⟩) 59) = W1 := ⟨_, rfl⟩
  have h1 : MR W1 [w.heap.size] w.heap.size { newM xl with need := 0, next := .nil } ⟨none, 0, .func (.func 25) #[ptr w.heap.size] #[], .nilFunc, none, 0, none, 0, none, 0, none, 0⟩ :=
    ⟨by rw [← hW1]; exact heap_new_at rfl, ⟨⟨by simp, fun k hk => by simp at hk; rw [← hW1]; simp; omega⟩, RowU.nil _ _, RowU.nil _ _, RowU.nil _ _, fun k hk => by simp [blkA] at hk, fun k hk => by simp [blkA] at hk, fun k hk => by simp [blkA] at hk, DatU.nil _ _, DatU.nil _ _, rfl, rfl, ⟨RowU.nil _ _, fun k hk => by simp [blkA, newM] at hk, fun k hk => by simp [blkA, newM] at hk, fun k hk => by simp [blkA, newM] at hk⟩⟩⟩
  have hb1 : Below w.heap.size w W1 := by rw [← hW1]; exact below_alloc (Below.refl _ _) _
  refine calls_name (T := fun W => W = W1) hW1 ?_
  rintro _ rfl
  refine (mAsk h1 1 .start _ rfl).mono ?_
  rintro e w2 ⟨rfl, s2, a2, h2, n2, t2⟩
  go_wp2_with fail
  go_ret
  exact ⟨rfl, ⟨s2, a2, h2, fun k hk => (n2 k hk).elim (fun h => by simp at h; omega) (fun h => by have := hb1.size; omega)⟩, hb1.trans (t2.below (fun x hx => by simp at hx; omega) hb1.size)⟩
end Go.Proofs.YtlmdkmflbhnlgaaGreat
namespace Go.Proofs.YtlmdkmflbhnlgaaGreat
open Go.RowKit
variable {w : World} {s : List Nat} {mp : Nat} {S : MS} {a : MA}
theorem info_funcB : (Tryz.prog.info? 57).map (·.size) = some 1 := by kernel_rfl
theorem BoxV.new {w W : World} {s : List Nat} {p : Nat} {cs : Array Value} {t : TypeId} (h : W.heap[p]? = some (.cells cs t (0, 0))) (hs : ∀ k ∈ s, k < w.heap.size) (hp : w.heap.size ≤ p) : BoxV W s p cs t := ⟨h, fun hm => by have := hs p hm; omega⟩
set_option maxHeartbeats 2000000 in
theorem mMark (h : MR w s mp S a) (A : Option Addr) (c n : Nat) (l : List Nat) (hn : l.length = n) (hd : DatU w s A c l) (x : Aft) (f0 : Fn) (hv : AftOk mp x (.func f0 #[ptr mp] #[])) :
    Calls Tryz.prog 120 #[.pointer (some ⟨mp, 0, none⟩), .slice A n c, .func f0 #[.pointer (some ⟨mp, 0, none⟩)] #[]] w (MDone w s mp (markM S l x)) := by
  have HH := Lib.hid h
  have HD := Lib.hid hd
  have HV := Lib.hid hv
  have HS : Hid (∀ k ∈ s, k < w.heap.size) := h.rest.mem.2
  have HN := Lib.hid hn
  clear h hd hv hn
  go_enter Tryz.func120, Tryz.ntmps120
  go_upto_region 1 with (fail)
  obtain ⟨W1, hW1, q1, q2, q3, hb1⟩ : ∃ W1, ((w.alloc (.cells #[.pointer (some ⟨mp, 0, none⟩)] 36)).alloc (.cells #[.slice A n c] 22)).alloc (.cells #[.func f0 #[.pointer (some ⟨mp, 0, none⟩)] #[]] 1) = W1 ∧ W1.heap[w.heap.size]? = some (.cells #[.pointer (some ⟨mp, 0, none⟩)] 36 (0, 0)) ∧ W1.heap[w.heap.size + 1]? = some (.cells #[.slice A n c] 22 (0, 0)) ∧ W1.heap[w.heap.size + 1 + 1]? = some (.cells #[.func f0 #[.pointer (some ⟨mp, 0, none⟩)] #[]] 1 (0, 0)) ∧ Below w.heap.size w W1 :=
    ⟨_, rfl, heap_push (heap_push (heap_new_at rfl)), heap_push (heap_new_at (by simp)), heap_new_at (by simp), below_alloc (below_alloc (below_alloc (Below.refl _ _) _) _) _⟩
  rw [hW1]
  have c0 := cell_of_heap q1 0 _ rfl
  have H1 := Lib.hid (HH.out.below hb1)
  have B1 := Lib.hid (BoxV.new q1 HS.out (Nat.le_refl _))
  have B2 := Lib.hid (BoxV.new q2 HS.out (by omega))
  have B3 := Lib.hid (BoxV.new q3 HS.out (by omega))
  have D1 := Lib.hid (HD.out.turn (Turn.of hb1) (fun k hk => .inl hk))
  have HB := Lib.hid hb1
  have hmpl := HH.out.lt
  have hne : w.heap.size ≠ mp := by omega
  have Q1 := Lib.hid q1
  clear hW1 q1 q2 q3 hb1
  go_wp2_with (first
    | (refine wpList_mput H1.out rfl 3 (.tmp 8) (.const (.int .i64 0)) rfl 33 (.int .i64 0) (by kernel_rfl) (by kernel_rfl) rfl info_intS (by decide) { S with at_ := 0 } a (by kernel_rfl) (fun _ _ h => h) ?_; intro W2 H2 T2; have c0 := cell_of_heap (T2.out.heap Q1.out B1.out.2) 0 _ rfl)
    | (refine wpList_mput H2.out rfl 57 (.tmp 12) (.tmp 10) rfl 15 (.func (.func 131) #[] #[.pointer (some ⟨w.heap.size, 0, none⟩), .pointer (some ⟨w.heap.size + 1, 0, none⟩), .pointer (some ⟨w.heap.size + 1 + 1, 0, none⟩)]) (by kernel_rfl) (by kernel_rfl) rfl info_funcB (by decide) (markM S l x) { a with sv := .func (.func 131) #[] #[.pointer (some ⟨w.heap.size, 0, none⟩), .pointer (some ⟨w.heap.size + 1, 0, none⟩), .pointer (some ⟨w.heap.size + 1 + 1, 0, none⟩)] } (by kernel_rfl) (fun w' ht h => ⟨h.mem, h.raw, h.l, h.own, h.rl, h.ro, h.lo, h.sf, h.f, ⟨_, _, _, A, c, .func f0 #[ptr mp] #[], rfl, (B1.out.turn T2.out (fun k hk => .inl hk)).turn ht (fun k hk => .inl hk), by rw [HN.out]; exact (B2.out.turn T2.out (fun k hk => .inl hk)).turn ht (fun k hk => .inl hk), (B3.out.turn T2.out (fun k hk => .inl hk)).turn ht (fun k hk => .inl hk), (D1.out.turn T2.out (fun k hk => .inl hk)).turn ht (fun k hk => .inl hk), HV.out⟩, h.next, h.gho⟩) ?_; intro W3 H3 T3))
  go_end0
  exact ⟨rfl, (MAct.same H3.out (T2.out.tr T3.out)).pre HB.out⟩
set_option maxHeartbeats 2000000 in
theorem mXlHead (h : MR w s mp S a) (hl : 16 < S.l.length) :
    Calls Tryz.prog 110 #[.pointer (some ⟨mp, 0, none⟩)] w (MDone w s mp (xlHeadM S)) := by
  have HF := Lib.hid (mFlag h 16 hl)
  have HH := Lib.hid h
  have hs : xlHeadM S = if flagM S 16 then badM S 5 else markM S [1, 0, 0, 1] .xlCode := rfl
  rw [hs]
  generalize flagM S 16 = q at *
  clear h hs hl
  cases q
  · go_enter Tryz.func110, Tryz.ntmps110
    go_wp2_with fail
    refine HF.out.mono ?_
    rintro e w1 ⟨rfl, hb⟩
    go_wp2_with fail
    refine (mMust (HH.out.below hb) _).mono ?_
    rintro e w2 ⟨rfl, hA⟩
    obtain ⟨s2, a2, h2, n2, t2⟩ := hA.pre hb
    go_wp2_with fail
    have hb3 := below_alloc (Below.refl w2.heap.size w2) (.cells #[.int .u8 1, .int .u8 0, .int .u8 0, .int .u8 1] 5)
    have hd : DatU (w2.alloc (.cells #[.int .u8 1, .int .u8 0, .int .u8 0, .int .u8 1] 5)) s2 (some ⟨w2.heap.size, 0, none⟩) 4 [1, 0, 0, 1] :=
      ⟨Rd.blk (heap_new_at rfl), fun k hk => by simp [blkA] at hk; subst hk; exact ⟨fun hm => by have := h2.rest.mem.2 _ hm; omega, by simp, _, _, heap_new_at rfl⟩, fun e => by cases e⟩
    refine (mMark (h2.below hb3) _ 4 4 [1, 0, 0, 1] rfl hd .xlCode _ rfl).mono ?_
    rintro e w3 ⟨rfl, hA3⟩
    go_wp2_with fail
    go_end0
    exact ⟨rfl, (hA3.pre hb3).after n2 t2⟩
  · go_enter Tryz.func110, Tryz.ntmps110
    go_wp2_with fail
    refine HF.out.mono ?_
    rintro e w1 ⟨rfl, hb⟩
    go_wp2_with fail
    refine (mMust (HH.out.below hb) _).mono ?_
    rintro e w2 ⟨rfl, hA⟩
    have hA2 := hA.pre hb
    go_wp2_with fail
    go_end0
    exact ⟨rfl, hA2⟩
set_option maxHeartbeats 2000000 in
theorem mTells (h : MR w s mp S a) (A : Option Addr) (c : Nat) (l : List Nat) (hr : Rd w A (bys l)) (hl : l.length = 4) (h01 : ∀ x ∈ l, x ≤ 1) (hraw : S.raw.length ≤ 65536) (hraw1 : ∀ x ∈ S.raw, x ≤ 1) :
    Calls Tryz.prog 119 #[.pointer (some ⟨mp, 0, none⟩), .slice A 4 c] w fun e w' => e = .returned (.bool (tellsM S.raw l)) ∧ Below w.heap.size w w' := by
  have HT := Lib.hid (Tells_any A c l w hr hl h01)
  obtain ⟨n, hn⟩ : ∃ n, S.raw.length = n := ⟨_, rfl⟩
  rw [hn] at hraw
  have HC := Lib.hid (fun W (hW : MR W s mp S a) => Count_any W a.rA a.rc n S.raw hW.rest.raw.1.rd hn hraw hraw1)
  have HH := Lib.hid h
  have HN := Lib.hid hn
  have ht : tellsM S.raw l = (tellsOk (numN l) && decide (tellsG (numN l) = (if (splE 0 0 0 [] S.raw).1 then (splE 0 0 0 [] S.raw).2.1 else 0) % 8)) := rfl
  obtain ⟨T, hT⟩ : ∃ T, tellsM S.raw l = T := ⟨_, rfl⟩
  rw [hT] at ht ⊢
  generalize (if (splE 0 0 0 [] S.raw).1 = true then (splE 0 0 0 [] S.raw).2.1 else 0) = k at *
  generalize (if (splE 0 0 0 [] S.raw).1 = true then (0 : Int) else 4) = ke at *
  generalize tellsG (numN l) = g at *
  generalize tellsOk (numN l) = q at *
  have HTT := Lib.hid ht
  clear h hr hl h01 hraw1 hn ht hT
  have hrem : ((k : Int)).tmod 8 = ((k % 8 : Nat) : Int) := by rw [Int.tmod_eq_emod_of_nonneg (by omega)]; omega
  cases q
  · simp only [Bool.false_eq_true, if_false, Bool.false_and] at HT HTT
    go_enter Tryz.func119, Tryz.ntmps119
    go_wp2_with fail
    refine HT.out.mono ?_
    rintro e w1 ⟨rfl, hb⟩
    have H1 := Lib.hid (HH.out.below hb)
    have c17 : w1.cell? ⟨mp, 17, none⟩ = some (.slice a.rA n a.rc) := H1.out.cell 17 _ (by show some (Value.slice a.rA S.raw.length a.rc) = _; rw [HN.out])
    have HB := Lib.hid hb
    clear hb
    go_wp2_with fail
    refine (HC.out _ H1.out).mono ?_
    rintro e w2 ⟨rfl, hb⟩
    have HB2 := Lib.hid (below_trans HB.out hb)
    clear hb
    go_wp2_with fail
    go_ret
    exact ⟨by rw [HTT.out]; rfl, HB2.out⟩
  · simp only [if_true, Bool.true_and] at HT HTT
    go_enter Tryz.func119, Tryz.ntmps119
    go_wp2_with fail
    refine HT.out.mono ?_
    rintro e w1 ⟨rfl, hb⟩
    have H1 := Lib.hid (HH.out.below hb)
    have c17 : w1.cell? ⟨mp, 17, none⟩ = some (.slice a.rA n a.rc) := H1.out.cell 17 _ (by show some (Value.slice a.rA S.raw.length a.rc) = _; rw [HN.out])
    have HB := Lib.hid hb
    clear hb
    go_wp2_with fail
    refine (HC.out _ H1.out).mono ?_
    rintro e w2 ⟨rfl, hb⟩
    have HB2 := Lib.hid (below_trans HB.out hb)
    clear hb
    go_wp2_with fail
    go_ret
    exact ⟨ret_bool (by rw [HTT.out, Bool.eq_iff_iff]; simp only [beq_iff_eq, decide_eq_true_eq]; omega), HB2.out⟩
end Go.Proofs.YtlmdkmflbhnlgaaGreat
