/- fifo: a ring of places, how it lies, and where its places are. No condition. -/
import Derived.Test.YtlmdkmflbhnlgaaClone
import Derived.Test.YtlmdkmflbhnlgaaPOk
import Derived.Test.YtlmdkmflbhnlgaaMix
namespace Go.Proofs.Ytlmdkmflbhnlgaa
open Go.RowKit
/-- A frame as it lies: where its bytes are. -/
structure SF where
  f : Fr
  A : Option Addr
  c : Nat
def frL (s : SF) : List Value := [.int .i64 s.f.kind, .int .u32 s.f.id, .bool s.f.ext, .bool s.f.rtr, .bool s.f.brs, .bool s.f.esi, .bool s.f.sec, .int .u8 s.f.sdt, .int .u8 s.f.vcid, .int .u32 s.f.af, .slice s.A s.f.data.length s.c]
def zfL : List Value := [.int .i64 0, .int .u32 0, .bool false, .bool false, .bool false, .bool false, .bool false, .int .u8 0, .int .u8 0, .int .u32 0, .slice none 0 0]
/-- How a ring lies, with what is in it. -/
structure FifoC (cs : Array Value) (room first over : Nat) (l : List SF) : Prop where
  size : cs.size = 708
  c0 : cs[704]? = some (.int .i64 room)
  c1 : cs[705]? = some (.int .i64 first)
  c2 : cs[706]? = some (.int .i64 l.length)
  c3 : cs[707]? = some (.int .i64 over)
  at_ : ∀ i (h : i < l.length) k u, (frL l[i])[k]? = some u → cs[((first + i) % 64) * 11 + k]? = some u
  len : l.length ≤ room
  room : room ≤ 64
  first : first < 64
def FifoI (w : World) (fb room first over : Nat) (l : List SF) : Prop := ∃ cs, w.heap[fb]? = some (.cells cs 117 (0, 0)) ∧ FifoC cs room first over l
theorem fz_C (room : Nat) (h : room ≤ 64) : FifoC (Try.zeroCells117.setIfInBounds 704 (.int .i64 room)) room 0 0 [] := by
  have z : Try.zeroCells117.size = 708 := by kernel_rfl
  have z1 : Try.zeroCells117[705]? = some (.int .i64 0) := by kernel_rfl
  have z2 : Try.zeroCells117[706]? = some (.int .i64 0) := by kernel_rfl
  have z3 : Try.zeroCells117[707]? = some (.int .i64 0) := by kernel_rfl
  refine ⟨by simp [z], ?_, ?_, ?_, ?_, fun i h => by simp at h, by simp, h, by omega⟩
  · rw [Array.getElem?_setIfInBounds]; simp [z]
  · rw [Array.getElem?_setIfInBounds, if_neg (by omega)]; exact z1
  · rw [Array.getElem?_setIfInBounds, if_neg (by omega)]; exact z2
  · rw [Array.getElem?_setIfInBounds, if_neg (by omega)]; exact z3
set_option maxRecDepth 100000 in
set_option maxHeartbeats 1000000 in
theorem fifoNew_any (room : Nat) (w : World) (h : room ≤ 64) : Calls Try.prog 30 #[.int .i64 room] w fun e w' => e = .returned (.tuple #[.pointer (some ⟨w.heap.size, 0, none⟩), .int .i64 0]) ∧ w' = w.alloc (.cells (Try.zeroCells117.setIfInBounds 704 (.int .i64 room)) 117) := by
  have h0 : (room : Int) ≤ 64 := by omega
  go_enter Try.func30, Try.ntmps30
  go_wp2
  go_ret2
  exact ⟨rfl, rfl⟩
theorem fifoNew_no (room : Int) (w : World) (h : room < 0 ∨ 64 < room) : Calls Try.prog 30 #[.int .i64 room] w fun e w' => e = .returned (.tuple #[.pointer none, .int .i64 2]) ∧ w = w' := by
  rcases h with h | h
  · go_enter Try.func30, Try.ntmps30
    go_wp2
    go_ret2
    exact ⟨rfl, rfl⟩
  · have h' : ¬ room < 0 := by omega
    go_enter Try.func30, Try.ntmps30
    go_wp2
    go_ret2
    exact ⟨rfl, rfl⟩
set_option maxRecDepth 100000 in
set_option maxHeartbeats 1000000 in
theorem fifoAt_any (w : World) (fb first i : Nat) (c1 : w.cell? ⟨fb, 705, none⟩ = some (.int .i64 first)) (hf : first < 64) (hi : i ≤ 64) :
    Calls Try.prog 61 #[.pointer (some ⟨fb, 0, none⟩), .int .i64 i] w fun e w' => e = .returned (.pointer (some ⟨fb, ((first + i) % 64) * 11, none⟩)) ∧ Below w.heap.size w w' := by
  go_enter Try.func61, Try.ntmps61
  go_wp2_with fail
  go_quiet (fail)
  go_wp2_with fail
  go_ret
  exact ⟨rfl, below_drewN (Below.refl _ _) _⟩
theorem fifoLen_any (w : World) (fb room first over : Nat) (l : List SF) (h : FifoI w fb room first over l) :
    Calls Try.prog 42 #[.pointer (some ⟨fb, 0, none⟩)] w fun e w' => e = .returned (.int .i64 l.length) ∧ w = w' := by
  obtain ⟨cs, hh, hc⟩ := h
  have c1 : w.cell? ⟨fb, 706, none⟩ = some (.int .i64 l.length) := cell_of_heap hh 706 _ hc.c2
  clear hh hc
  go_enter Try.func42, Try.ntmps42
  go_wp2_with fail
  go_ret
  exact ⟨rfl, rfl⟩
theorem FifoI.below {w w' : World} {fb room first over : Nat} {l : List SF} (h : FifoI w fb room first over l) (hb : Below w.heap.size w w') : FifoI w' fb room first over l := by
  obtain ⟨cs, hh, hc⟩ := h
  exact ⟨cs, heap_below hb hh, hc⟩
theorem FifoI.turn {w w' : World} {s : List Nat} {fb room first over : Nat} {l : List SF} (h : FifoI w fb room first over l) (hb : Turn s w w') (hs : fb ∉ s) : FifoI w' fb room first over l := by
  obtain ⟨cs, hh, hc⟩ := h
  exact ⟨cs, hb.heap hh hs, hc⟩
theorem frL_length (s : SF) : (frL s).length = 11 := rfl
theorem FifoC.over {cs : Array Value} {room first over : Nat} {l : List SF} (h : FifoC cs room first over l) : FifoC (cs.setIfInBounds 707 (.int .i64 ((over : Int) + 1))) room first (over + 1) l := by
  have hs := h.size
  refine ⟨by simpa using hs, ?_, ?_, ?_, ?_, fun i hi k u hu => ?_, h.len, h.room, h.first⟩
  · simpa [Array.getElem?_setIfInBounds] using h.c0
  · simpa [Array.getElem?_setIfInBounds] using h.c1
  · simpa [Array.getElem?_setIfInBounds] using h.c2
  · simp [hs]
  · have hk : k < 11 := by have := (List.getElem?_eq_some_iff.1 hu).1; rwa [frL_length] at this
    rw [Array.getElem?_setIfInBounds, if_neg (by omega)]
    exact h.at_ i hi k u hu
theorem FifoC.push {cs ds : Array Value} {room first over : Nat} {l : List SF} {s : SF} (h : FifoC cs room first over l) (hl : l.length < room) (hd : ds.size = cs.size)
    (hj : ∀ j, ds[j]? = if (first + l.length) % 64 * 11 ≤ j ∧ j < (first + l.length) % 64 * 11 + (frL s).length ∧ j < cs.size then (frL s)[j - (first + l.length) % 64 * 11]? else cs[j]?) :
    FifoC (ds.setIfInBounds 706 (.int .i64 ((l.length : Int) + 1))) room first over (l ++ [s]) := by
  have hs := h.size
  have hr := h.room
  have hf := h.first
  have hlt : (first + l.length) % 64 < 64 := Nat.mod_lt _ (by omega)
  have out : ∀ j, 704 ≤ j → ds[j]? = cs[j]? := fun j hj2 => by rw [hj j, frL_length, if_neg (by omega)]
  refine ⟨by simp [hd, hs], ?_, ?_, ?_, ?_, fun i hi k u hu => ?_, by simp; omega, h.room, h.first⟩
  · rw [Array.getElem?_setIfInBounds, if_neg (by omega), out _ (by omega)]; exact h.c0
  · rw [Array.getElem?_setIfInBounds, if_neg (by omega), out _ (by omega)]; exact h.c1
  · rw [Array.getElem?_setIfInBounds, if_pos rfl, if_pos (by omega)]; simp
  · rw [Array.getElem?_setIfInBounds, if_neg (by omega), out _ (by omega)]; exact h.c3
  · have hk : k < 11 := by have := (List.getElem?_eq_some_iff.1 hu).1; rwa [frL_length] at this
    rw [Array.getElem?_setIfInBounds, if_neg (by omega), hj, frL_length, hs]
    simp at hi
    by_cases e : i = l.length
    · subst e
      simp at hu
      rw [if_pos (by omega), ← hu]
      congr 1
      omega
    · have hil : i < l.length := by omega
      rw [List.getElem_append_left hil] at hu
      have := h.at_ i hil k u hu
      rw [if_neg ?_]
      · exact this
      · have : (first + i) % 64 ≠ (first + l.length) % 64 := by omega
        omega
theorem FifoC.pop {cs ds : Array Value} {room first over : Nat} {l : List SF} {s : SF} (h : FifoC cs room first over (s :: l)) (hd : ds.size = cs.size)
    (hj : ∀ j, ds[j]? = if (first + 0) % 64 * 11 ≤ j ∧ j < (first + 0) % 64 * 11 + 11 ∧ j < cs.size then zfL[j - (first + 0) % 64 * 11]? else cs[j]?) :
    FifoC ((ds.setIfInBounds 705 (.int .i64 (((first + 1) % 64 : Nat) : Int))).setIfInBounds 706 (.int .i64 l.length)) room ((first + 1) % 64) over l := by
  have hs := h.size
  have hr := h.room
  have hf := h.first
  have hl := h.len
  simp at hl
  have hlt : (first + 0) % 64 < 64 := Nat.mod_lt _ (by omega)
  have out : ∀ j, 704 ≤ j → ds[j]? = cs[j]? := fun j hj2 => by rw [hj j, if_neg (by omega)]
  refine ⟨by simp [hd, hs], ?_, ?_, ?_, ?_, fun i hi k u hu => ?_, by omega, h.room, Nat.mod_lt _ (by omega)⟩
  · rw [Array.getElem?_setIfInBounds, if_neg (by omega), Array.getElem?_setIfInBounds, if_neg (by omega), out _ (by omega)]; exact h.c0
  · rw [Array.getElem?_setIfInBounds, if_neg (by omega), Array.getElem?_setIfInBounds, if_pos rfl, if_pos (by omega)]
  · rw [Array.getElem?_setIfInBounds, if_pos rfl, if_pos (by simp; omega)]
  · rw [Array.getElem?_setIfInBounds, if_neg (by omega), Array.getElem?_setIfInBounds, if_neg (by omega), out _ (by omega)]; exact h.c3
  · have hk : k < 11 := by have := (List.getElem?_eq_some_iff.1 hu).1; rwa [frL_length] at this
    have h2 := h.at_ (i + 1) (by simp; omega) k u (by simpa using hu)
    have hlt2 : ((first + 1) % 64 + i) % 64 < 64 := Nat.mod_lt _ (by omega)
    have e1 : ((first + 1) % 64 + i) % 64 = (first + (i + 1)) % 64 := by omega
    rw [Array.getElem?_setIfInBounds, if_neg (by omega), Array.getElem?_setIfInBounds, if_neg (by omega), hj, hs, e1, if_neg ?_]
    · exact h2
    · have : (first + (i + 1)) % 64 ≠ (first + 0) % 64 := by omega
      omega
end Go.Proofs.Ytlmdkmflbhnlgaa
namespace Go.Proofs.Ytlmdkmflbhnlgaa
open Go.RowKit
/-- What fifo.Push answers and leaves. -/
def PushF (w : World) (fb room first over : Nat) (l : List SF) (f : Fr) (e : Ending) (w' : World) : Prop :=
  (okF f = false ∧ e = .returned (.tuple #[.bool false, .int .i64 2]) ∧ Below w.heap.size w w') ∨
  (okF f = true ∧ room ≤ l.length ∧ e = .returned (.tuple #[.bool false, .int .i64 0]) ∧ FifoI w' fb room first (over + 1) l ∧ Turn [fb] w w') ∨
  (okF f = true ∧ l.length < room ∧ e = .returned (.tuple #[.bool true, .int .i64 0]) ∧ ∃ A c, Row w' w.heap.size 5 A c (bys f.data) ∧ FifoI w' fb room first over (l ++ [⟨f, A, c⟩]) ∧ Turn [fb] w w')
theorem frL_one (s : SF) : ∀ v ∈ frL s, v.oneCell' = true := by
  intro v hv; simp [frL] at hv; rcases hv with rfl | rfl | rfl | rfl | rfl | rfl | rfl | rfl | rfl | rfl | rfl <;> rfl
theorem frL_arr (A : Option Addr) (n c : Nat) (fk fi : Int) (fe fr f4 f5 f6 : Bool) (f7 f8 f9 : Int) : (#[.int .i64 fk, .int .u32 fi, .bool fe, .bool fr, .bool f4, .bool f5, .bool f6, .int .u8 f7, .int .u8 f8, .int .u32 f9, .slice A n c] : Array Value).all (·.oneCell') = true := by simp [Value.oneCell']
theorem info_frame : (Try.prog.info? 42).map (·.size) = some 11 := by kernel_rfl
theorem there_of {w : World} {b : Nat} {cs : Array Value} {t : TypeId} (h : w.heap[b]? = some (.cells cs t (0, 0))) (o n : Nat) (hn : o + n ≤ cs.size) : w.there b o n := fun j hj => by
  have hlt : o + j < cs.size := by omega
  refine ⟨?_, by simp [World.frozen?, h]⟩
  rw [cell_of_heap h (o + j) cs[o + j] (by simp [hlt])]; rfl
set_option maxRecDepth 100000 in
set_option maxHeartbeats 4000000 in
theorem fifoPush_any (w : World) (fb room first over d m : Nat) (B : Option Addr) (l : List SF) (f : Fr) (h : FifoI w fb room first over l) (hr : Rd w B (bys f.data)) (hz : B = none → d = 0) (hm : f.data.length = m) (hlen : m ≤ 9223372036854775807) (hov : over ≤ 1000000) :
    Calls Try.prog 33 #[.pointer (some ⟨fb, 0, none⟩), frv f (.slice B m d)] w (PushF w fb room first over l f) := by
  have HF := Lib.hid (fun W => Check_any f B d W (by rw [hm]; exact hlen))
  have HCP := Lib.hid (fun (ho : okF f = true) W hW => Copy_any W f B d hW (by have := codeF_kind _ _ ((okF_iff f).1 ho).size; omega) hz)
  have HFI := Lib.hid h
  have HR := Lib.hid hr
  have hfb : fb < w.heap.size := by obtain ⟨cs, hh, -⟩ := h; exact heap_lt hh
  obtain ⟨n, hn⟩ : ∃ n, l.length = n := ⟨_, rfl⟩
  have HN := Lib.hid hn
  have hnr : n ≤ room ∧ room ≤ 64 ∧ first < 64 := by obtain ⟨cs, hh, hc⟩ := h; rw [← hn]; exact ⟨hc.len, hc.room, hc.first⟩
  obtain ⟨q, hq⟩ : ∃ q, okF f = q := ⟨_, rfl⟩
  rw [hq, hm] at HF
  rw [hq, hm] at HCP
  have HQ := Lib.hid hq
  obtain ⟨fk, fi, fe, fr, f4, f5, f6, f7, f8, f9, data⟩ := f
  obtain ⟨hnr1, hnr2, hnr3⟩ := hnr
  dsimp only [frv] at *
  have HM := Lib.hid hm
  clear h hr hq hn hm
  cases q
  · go_enter Try.func33, Try.ntmps33
    go_wp2_with fail
    refine (HF.out _).mono ?_
    rintro e w1 ⟨rfl, hb⟩
    have HB1 := Lib.hid (below_trans (below_alloc (Below.refl _ _) _) hb)
    clear hb
    simp only [errV]
    go_wp2_with fail
    go_ret2
    exact .inl ⟨HQ.out, rfl, HB1.out⟩
  · go_enter Try.func33, Try.ntmps33
    go_wp2_with fail
    refine calls_blk1 fun W1 q1 hb1 => ?_
    refine (HF.out _).mono ?_
    rintro e w1 ⟨rfl, hb⟩
    have HB1 := Lib.hid (below_trans hb1 hb)
    have Q1 := Lib.hid (heap_below hb q1)
    have HR1 := Lib.hid (HR.out.below HB1.out)
    obtain ⟨cs, hh, hc⟩ := HFI.out.below HB1.out
    have c704 : w1.cell? ⟨fb, 704, none⟩ = some (.int .i64 room) := cell_of_heap hh 704 _ hc.c0
    have c705 : w1.cell? ⟨fb, 705, none⟩ = some (.int .i64 first) := cell_of_heap hh 705 _ hc.c1
    have c706 : w1.cell? ⟨fb, 706, none⟩ = some (.int .i64 n) := by have := hc.c2; rw [HN.out] at this; exact cell_of_heap hh 706 _ this
    have c707 : w1.cell? ⟨fb, 707, none⟩ = some (.int .i64 over) := cell_of_heap hh 707 _ hc.c3
    have zf : ∀ o, w1.frozen? ⟨fb, o, none⟩ = false := fun o => by simp [World.frozen?, hh]
    have HHC := Lib.hid hc
    have HH := Lib.hid hh
    clear hb hb1 q1 hc hh
    simp only [errV]
    by_cases hlt : n < room
    · go_wp2_with fail
      go_quiet (fail)
      go_wp2_with fail
      obtain ⟨W3, hW3⟩ : ∃ W3, w1.drewN nq = W3 := ⟨_, rfl⟩
      have hb3 : Below w1.heap.size w1 W3 := by rw [← hW3]; exact below_drewN (Below.refl _ _) _
      rw [hW3]
      have HB3 := Lib.hid (below_trans HB1.out hb3)
      have HH3 := Lib.hid (heap_below hb3 HH.out)
      have HR3 := Lib.hid (HR1.out.below hb3)
      have HW3 := Lib.hid hW3
      obtain ⟨y0, y1, y2, y3, y4, y5, y6, y7, y8, y9, y10⟩ := ext11 (heap_below hb3 Q1.out)
      have x706 : ∀ e : Ext W3, e.W.cell? ⟨fb, 706, none⟩ = some (.int .i64 n) := fun e => ext_cell (cell_of_heap HH3.out 706 _ (by have := HHC.out.c2; rw [HN.out] at this; exact this)) e
      have X705 := Lib.hid (fun e : Ext W3 => ext_cell (cell_of_heap HH3.out 705 _ HHC.out.c1) e)
      clear hW3 hb3 c704 c705 c706 c707 zf
      refine wp_region_mix (fun w' => ∃ e : Ext W3, w' = e.W) [(true, 0), (true, 1), (true, 6), (false, 2), (true, 3), (true, 4), (false, 5), (false, 7)] [8, 9] (by kernel_rfl) (by kernel_rfl) (by intro _ _ d _ _ h; cases d <;> exact h) ⟨⟨W3.drew, (Below.refl _ _).drew⟩, rfl⟩ ?_
      simp only [pickM, pickL, List.drop_succ_cons, List.drop_zero]
      repeat (refine mix_pure (by rfl) (by rfl) ?_; intro K hK; go_big_quiet_op; go_big_quiet_on)
      refine mix_eff (by rfl) ?_
      intro K hK
      go_simp
      refine hK _ _ ⟨⟨W3.drew, (Below.refl _ _).drew⟩, rfl⟩ ?_
      clear hK K
      repeat (refine mix_pure (by rfl) (by rfl) ?_; intro K hK; go_big_quiet_op; go_big_quiet_on)
      refine mix_eff (by rfl) ?_
      intro K hK
      go_simp
      refine (fifoAt_any _ fb first n (X705.out ⟨W3.drew, (Below.refl _ _).drew⟩) hnr3 (by omega)).mono ?_
      rintro x w4 ⟨rfl, hb4⟩
      have hb34 : Below W3.heap.size W3 w4 := below_trans (Below.refl _ _).drew hb4
      have HB34 := Lib.hid hb34
      refine hK _ _ ⟨⟨w4, hb34⟩, rfl⟩ ?_
      clear hK K hb4 hb34
      refine mix_eff (by rfl) ?_
      intro K hK
      go_simp
      refine (HCP.out trivial w4 (HR3.out.below HB34.out)).mono ?_
      rintro x w5 ⟨⟨A', c', rfl, hrow⟩, hb5⟩
      have hb35 : Below W3.heap.size W3 w5 := below_trans HB34.out hb5
      refine hK _ _ ⟨⟨w5, hb35⟩, rfl⟩ ?_
      clear hK K
      refine mix_nil ?_
      have HROW := Lib.hid (hrow.mono (Nat.le_trans HB3.out.size HB34.out.size))
      have HB5 := Lib.hid (below_trans HB3.out hb35)
      have HH5 := Lib.hid (heap_below hb35 HH3.out)
      have hmod : (first + n) % 64 < 64 := Nat.mod_lt _ (by omega)
      have ht : w5.there fb ((first + n) % 64 * 11) 11 := there_of HH5.out _ _ (by rw [HHC.out.size]; omega)
      have hs := heap_setCells (frL ⟨⟨fk, fi, fe, fr, f4, f5, f6, f7, f8, f9, data⟩, A', c'⟩) ((first + n) % 64 * 11) HH5.out
      have hcl : frL ⟨⟨fk, fi, fe, fr, f4, f5, f6, f7, f8, f9, data⟩, A', c'⟩ = [.int .i64 fk, .int .u32 fi, .bool fe, .bool fr, .bool f4, .bool f5, .bool f6, .int .u8 f7, .int .u8 f8, .int .u32 f9, .slice A' m c'] := by simp [frL, HM.out]
      have HSC := Lib.hid hs
      have HCL := Lib.hid hcl
      have HT := Lib.hid ht
      clear hs hcl ht hrow hb5 hb35 y0 y1 y2 y3 y4 y5 y6 y7 y8 y9 y10 x706
      have H1 := Lib.hid (frL_arr A' m c' fk fi fe fr f4 f5 f6 f7 f8 f9)
      refine wpList_plain rfl fun K hK => ?_
      go_simp
      refine hK _ _ ?_
      clear hK K
      refine wpList_plain rfl fun K hK => ?_
      have hx := HT.out
      refine wp_store_mid 42 (.tmp 38) (.tmp 37) rfl fb ((first + n) % 64 * 11) #[.int .i64 fk, .int .u32 fi, .bool fe, .bool fr, .bool f4, .bool f5, .bool f6, .int .u8 f7, .int .u8 f8, .int .u32 f9, .slice A' m c'] ?_ ?_ HT.out info_frame H1.out (hK _ _ ?_)
      · go_simp
      · go_simp
      simp only [Act.put]
      generalize hW5 : w5.setCells fb ((first + n) % 64 * 11) _ = W5
      have HSC5 : Hid (∃ ds : Array Value, W5.heap[fb]? = some (.cells ds 117 (0, 0)) ∧ ds.size = cs.size ∧ ∀ j, ds[j]? = if (first + n) % 64 * 11 ≤ j ∧ j < (first + n) % 64 * 11 + (frL ⟨⟨fk, fi, fe, fr, f4, f5, f6, f7, f8, f9, data⟩, A', c'⟩).length ∧ j < cs.size then (frL ⟨⟨fk, fi, fe, fr, f4, f5, f6, f7, f8, f9, data⟩, A', c'⟩)[j - (first + n) % 64 * 11]? else cs[j]?) := by
        have := HSC.out
        rw [HCL.out] at this ⊢
        rw [← hW5]; exact this
      have HTU : Hid (Turn [fb] w5 W5) := by rw [← hW5]; exact Turn.setCells (.inl (by simp)) _ _ (Turn.refl _ _)
      clear hW5 hx
      obtain ⟨ds, d1, d2, d3⟩ := HSC5.out
      have c706 : W5.cell? ⟨fb, 706, none⟩ = some (.int .i64 n) := cell_of_heap d1 706 _ (by rw [d3, if_neg (by rw [frL_length]; omega)]; have := HHC.out.c2; rw [HN.out] at this; exact this)
      have z706 : W5.frozen? ⟨fb, 706, none⟩ = false := by simp [World.frozen?, d1]
      have D1 := Lib.hid d1
      have D2 := Lib.hid d2
      have D3 := Lib.hid d3
      clear d1 d2 d3
      go_wp2_with fail
      go_ret2
      refine .inr (.inr ⟨HQ.out, by rw [HN.out]; exact hlt, rfl, A', c', ?_, ⟨_, heap_setCell D1.out 706 _, ?_⟩, ?_⟩)
      · refine Row.turn (s := [fb]) HROW.out (HTU.out.setCell (p := ⟨fb, 706, none⟩) (.inl (by simp)) _) (fun ad e hm => ?_)
        have := HROW.out.geq ad e
        simp at hm
        omega
      · have h2 := FifoC.push HHC.out (by rw [HN.out]; exact hlt) D2.out (by rw [HN.out]; exact D3.out)
        rw [HN.out] at h2
        exact h2
      · exact ((Turn.of HB5.out).tr HTU.out).setCell (p := ⟨fb, 706, none⟩) (.inl (by simp)) _
    · have hge : room ≤ n := by omega
      go_wp2_with fail
      go_quiet (fail)
      go_wp2_with fail
      go_ret2
      refine .inr (.inl ⟨HQ.out, by rw [HN.out]; exact hge, rfl, ⟨_, heap_setCell HH.out 707 _, HHC.out.over⟩, ?_⟩)
      exact ((Turn.of HB1.out).drewN _).setCell (p := ⟨fb, 707, none⟩) (.inl (by simp)) _
end Go.Proofs.Ytlmdkmflbhnlgaa
namespace Go.Proofs.Ytlmdkmflbhnlgaa
open Go.RowKit
theorem fifoAt0_any (w : World) (fb first : Nat) (c1 : w.cell? ⟨fb, 705, none⟩ = some (.int .i64 first)) (hf : first < 64) :
    Calls Try.prog 61 #[.pointer (some ⟨fb, 0, none⟩), .int .i64 0] w fun e w' => e = .returned (.pointer (some ⟨fb, first * 11, none⟩)) ∧ Below w.heap.size w w' := by
  have h := fifoAt_any w fb first 0 c1 hf (by omega)
  have e : (first + 0) % 64 = first := by omega
  rw [e] at h
  exact h
theorem FifoI.cells {w : World} {fb room first over : Nat} {s : SF} {l : List SF} (h : FifoI w fb room first over (s :: l)) : ∀ k u, (frL s)[k]? = some u → w.cell? ⟨fb, first * 11 + k, none⟩ = some u := fun k u hk => by
  obtain ⟨cs, hh, hc⟩ := h
  have hf := hc.first
  have := hc.at_ 0 (by simp) k u hk
  have e : (first + 0) % 64 = first := by omega
  rw [e] at this
  exact cell_of_heap hh _ _ this
/-- What fifo.Pop answers and leaves. -/
def PopF (w : World) (fb room first over : Nat) (l : List SF) (e : Ending) (w' : World) : Prop :=
  (l = [] ∧ e = .returned (.tuple #[.agg zfL.toArray, .int .i64 9]) ∧ Below w.heap.size w w') ∨
  (∃ s r, l = s :: r ∧ e = .returned (.tuple #[.agg (frL s).toArray, .int .i64 0]) ∧ FifoI w' fb room ((first + 1) % 64) over r ∧ Turn [fb] w w')
theorem zfL_arr : (zfL.toArray : Array Value).all (·.oneCell') = true := by simp [zfL, Value.oneCell']
set_option maxRecDepth 100000 in
set_option maxHeartbeats 4000000 in
theorem fifoPop_any (w : World) (fb room first over : Nat) (l : List SF) (h : FifoI w fb room first over l) :
    Calls Try.prog 35 #[.pointer (some ⟨fb, 0, none⟩)] w (PopF w fb room first over l) := by
  cases l with
  | nil =>
    obtain ⟨cs, hh, hc⟩ := h
    have c706 : w.cell? ⟨fb, 706, none⟩ = some (.int .i64 0) := cell_of_heap hh 706 _ hc.c2
    have hfb := heap_lt hh
    clear hc hh
    go_enter Try.func35, Try.ntmps35
    go_wp2
    refine bodyPost_ret (v := .tuple #[.agg zfL.toArray, .int .i64 9]) (by simp [results, Try.results35, go_sem, zfL]) rfl (.inl ⟨rfl, rfl, ?_⟩)
    repeat (first | exact below_alloc (Below.refl _ _) _ | refine Below.setCell ?_ (by simp) _)
  | cons s l =>
    have HC := Lib.hid h
    have hcell := h.cells
    obtain ⟨cs, hh, hc⟩ := h
    have hf := hc.first
    have c705 : w.cell? ⟨fb, 705, none⟩ = some (.int .i64 first) := cell_of_heap hh 705 _ hc.c1
    have c706 : w.cell? ⟨fb, 706, none⟩ = some (.int .i64 ((l.length + 1 : Nat) : Int)) := cell_of_heap hh 706 _ hc.c2
    have hfb := heap_lt hh
    have hnr : l.length + 1 ≤ 64 := by have := hc.len; have := hc.room; simp at *; omega
    obtain ⟨n, hn⟩ : ∃ n, l.length = n := ⟨_, rfl⟩
    rw [hn] at c706 hnr
    have HN := Lib.hid hn
    have hne : (((n + 1 : Nat) : Int) == 0) = false := by rw [beq_eq_false_iff_ne]; omega
    have HHC := Lib.hid hc
    have HH := Lib.hid hh
    have a0 : w.cell? ⟨fb, first * 11, none⟩ = some (.int .i64 s.f.kind) := hcell 0 _ rfl
    have a1 := hcell 1 _ rfl
    have a2 := hcell 2 _ rfl
    have a3 := hcell 3 _ rfl
    have a4 := hcell 4 _ rfl
    have a5 := hcell 5 _ rfl
    have a6 := hcell 6 _ rfl
    have a7 := hcell 7 _ rfl
    have a8 := hcell 8 _ rfl
    have a9 := hcell 9 _ rfl
    have a10 := hcell 10 _ rfl
    clear hcell hc hh hn
    go_enter Try.func35, Try.ntmps35
    go_wp2_with fail
    refine calls_blk1 fun W1 q1 hb1 => ?_
    refine (fifoAt0_any W1 fb first (Below.cell_of hb1 c705) hf).mono ?_
    rintro e w1 ⟨rfl, hb⟩
    have hb2 := below_trans hb1 hb
    have Q1 := Lib.hid (heap_below hb q1)
    replace a0 := Below.cell_of hb2 a0
    replace a1 := Below.cell_of hb2 a1
    replace a2 := Below.cell_of hb2 a2
    replace a3 := Below.cell_of hb2 a3
    replace a4 := Below.cell_of hb2 a4
    replace a5 := Below.cell_of hb2 a5
    replace a6 := Below.cell_of hb2 a6
    replace a7 := Below.cell_of hb2 a7
    replace a8 := Below.cell_of hb2 a8
    replace a9 := Below.cell_of hb2 a9
    replace a10 := Below.cell_of hb2 a10
    have hfb1 : fb < w1.heap.size := Nat.lt_of_lt_of_le hfb hb2.size
    have HB1 := Lib.hid hb2
    have HH1 := Lib.hid (heap_below hb2 HH.out)
    clear hb hb1 q1 hb2 c705 c706
    go_wp2_with fail
    refine calls_blk1 fun W2 q2 hb2 => ?_
    refine (fifoAt0_any W2 fb first (Below.cell_of hb2 (cell_of_heap HH1.out 705 _ HHC.out.c1)) hf).mono ?_
    rintro e w2 ⟨rfl, hb⟩
    have hb3 := below_trans hb2 hb
    have R2 := Lib.hid (heap_below hb3 Q1.out)
    have F2 := Lib.hid (heap_below hb q2)
    have hne1 : w1.heap.size ≠ fb := by omega
    have hne0 : w.heap.size ≠ fb := by omega
    have hne2 : w.heap.size < w1.heap.size := heap_lt Q1.out
    have HB2 := Lib.hid (below_trans HB1.out hb3)
    have HH2 := Lib.hid (heap_below hb3 HH1.out)
    clear hb hb2 hb3 q2 a0 a1 a2 a3 a4 a5 a6 a7 a8 a9 a10
    have HT : Hid (w2.there fb (first * 11) 11) := there_of HH2.out _ _ (by rw [HHC.out.size]; omega)
    have HSC := Lib.hid (heap_setCells zfL (first * 11) HH2.out)
    have H1 := Lib.hid zfL_arr
    rename_i K0 hK0
    refine hK0 _ _ ?_
    refine wpList_plain rfl fun K hK => ?_
    go_simp
    refine hK _ _ ?_
    clear hK K
    refine wpList_plain rfl fun K hK => ?_
    go_simp
    refine hK _ _ ?_
    clear hK K
    refine wpList_plain rfl fun K hK => ?_
    refine wp_store_mid 42 (.tmp 23) (.tmp 22) rfl fb (first * 11) #[.int .i64 0, .int .u32 0, .bool false, .bool false, .bool false, .bool false, .bool false, .int .u8 0, .int .u8 0, .int .u32 0, .slice none 0 0] ?_ ?_ HT.out info_frame H1.out (hK _ _ ?_)
    · go_simp
    · go_simp
    simp only [Act.put]
    generalize hW5 : w2.setCells fb (first * 11) _ = W5
    have HSC5 : Hid (∃ ds : Array Value, W5.heap[fb]? = some (.cells ds 117 (0, 0)) ∧ ds.size = cs.size ∧ ∀ j, ds[j]? = if (first + 0) % 64 * 11 ≤ j ∧ j < (first + 0) % 64 * 11 + 11 ∧ j < cs.size then zfL[j - (first + 0) % 64 * 11]? else cs[j]?) := by
      have e : (first + 0) % 64 = first := by omega
      have := HSC.out
      rw [e]
      rw [← hW5]; exact this
    have HTU : Hid (Turn [fb] w2 W5) := by rw [← hW5]; exact Turn.setCells (.inl (by simp)) _ _ (Turn.refl _ _)
    clear hW5
    obtain ⟨ds, d1, d2, d3⟩ := HSC5.out
    have hm : (first + 0) % 64 < 64 := Nat.mod_lt _ (by omega)
    have c705 : W5.cell? ⟨fb, 705, none⟩ = some (.int .i64 first) := cell_of_heap d1 705 _ (by rw [d3, if_neg (by omega)]; exact HHC.out.c1)
    have c706 : W5.cell? ⟨fb, 706, none⟩ = some (.int .i64 ((n + 1 : Nat) : Int)) := cell_of_heap d1 706 _ (by rw [d3, if_neg (by omega)]; have := HHC.out.c2; simp only [List.length_cons] at this; rw [HN.out] at this; exact this)
    have zf : ∀ o, W5.frozen? ⟨fb, o, none⟩ = false := fun o => by simp [World.frozen?, d1]
    have r5 := HTU.out.heap R2.out (by simp; omega)
    have f5 := HTU.out.heap F2.out (by simp; omega)
    obtain ⟨r0, r1, r2, r3, r4, r5', r6, r7, r8, r9, r10⟩ := cells11 r5
    obtain ⟨f0, f1, f2, f3, f4, f5', f6, f7, f8, f9, f10⟩ := cells11 f5
    have zr : ∀ o, W5.frozen? ⟨w.heap.size, o, none⟩ = false := fun o => by simp [World.frozen?, r5]
    have D1 := Lib.hid d1
    have D2 := Lib.hid d2
    have D3 := Lib.hid d3
    clear d1 d2 d3 r5 f5 hm
    go_wp2_with fail
    refine bodyPost_ret (v := .tuple #[.agg (frL s).toArray, .int .i64 0]) (by simp [results, Try.results35, go_sem, frL, *]) rfl (.inr ⟨s, l, rfl, rfl, ⟨(ds.setIfInBounds 705 (.int .i64 (((first + 1) % 64 : Nat) : Int))).setIfInBounds 706 (.int .i64 l.length), ?_, FifoC.pop HHC.out D2.out D3.out⟩, ?_⟩)
    · repeat rw [Below.heap_setCell _ _ _ _ (show fb ≠ w.heap.size from Ne.symm hne0)]
      have h1 := heap_setCell (heap_setCell D1.out 705 (.int .i64 (((first + 1) % 64 : Nat) : Int))) 706 (.int .i64 n)
      rw [HN.out]
      simpa using h1
    · repeat (refine Turn.setCell ?_ (by simp) _)
      exact (Turn.of HB2.out).tr HTU.out
end Go.Proofs.Ytlmdkmflbhnlgaa
