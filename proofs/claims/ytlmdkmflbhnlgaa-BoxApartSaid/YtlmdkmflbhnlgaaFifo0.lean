/- fifo: a ring of places, how it lies, and where its places are. No condition. -/
import Derived.Test.YtlmdkmflbhnlgaaClone
import Derived.Test.YtlmdkmflbhnlgaaPOk
import Derived.Test.YtlmdkmflbhnlgaaMix
namespace Go.Proofs.Ytlmdkmflbhnlgaa
open Go.RowKit
/-- A frame as it lies: where its bytes are. -/
structure SF where
  f : Fr
  A : Option Addr
  c : Nat
def frL (s : SF) : List Value := [.int .i64 s.f.kind, .int .u32 s.f.id, .bool s.f.ext, .bool s.f.rtr, .bool s.f.brs, .bool s.f.esi, .bool s.f.sec, .int .u8 s.f.sdt, .int .u8 s.f.vcid, .int .u32 s.f.af, .slice s.A s.f.data.length s.c]
def zfL : List Value := [.int .i64 0, .int .u32 0, .bool false, .bool false, .bool false, .bool false, .bool false, .int .u8 0, .int .u8 0, .int .u32 0, .slice none 0 0]
/-- How a ring lies, with what is in it. -/
structure FifoC (cs : Array Value) (room first over : Nat) (l : List SF) : Prop where
  size : cs.size = 708
  c0 : cs[704]? = some (.int .i64 room)
  c1 : cs[705]? = some (.int .i64 first)
  c2 : cs[706]? = some (.int .i64 l.length)
  c3 : cs[707]? = some (.int .i64 over)
  at_ : ∀ i (h : i < l.length) k u, (frL l[i])[k]? = some u → cs[((first + i) % 64) * 11 + k]? = some u
  len : l.length ≤ room
  room : room ≤ 64
  first : first < 64
def FifoI (w : World) (fb room first over : Nat) (l : List SF) : Prop := ∃ cs, w.heap[fb]? = some (.cells cs 117 (0, 0)) ∧ FifoC cs room first over l
theorem fz_C (room : Nat) (h : room ≤ 64) : FifoC (Try.zeroCells117.setIfInBounds 704 (.int .i64 room)) room 0 0 [] := by
  have z : Try.zeroCells117.size = 708 := by kernel_rfl
  have z1 : Try.zeroCells117[705]? = some (.int .i64 0) := by kernel_rfl
  have z2 : Try.zeroCells117[706]? = some (.int .i64 0) := by kernel_rfl
  have z3 : Try.zeroCells117[707]? = some (.int .i64 0) := by kernel_rfl
  refine ⟨by simp [z], ?_, ?_, ?_, ?_, fun i h => by simp at h, by simp, h, by omega⟩
  · rw [Array.getElem?_setIfInBounds]; simp [z]
  · rw [Array.getElem?_setIfInBounds, if_neg (by omega)]; exact z1
  · rw [Array.getElem?_setIfInBounds, if_neg (by omega)]; exact z2
  · rw [Array.getElem?_setIfInBounds, if_neg (by omega)]; exact z3
set_option maxRecDepth 100000 in
set_option maxHeartbeats 1000000 in
theorem fifoNew_any (room : Nat) (w : World) (h : room ≤ 64) : Calls Try.prog 30 #[.int .i64 room] w fun e w' => e = .returned (.tuple #[.pointer (some ⟨w.heap.size, 0, none⟩), .int .i64 0]) ∧ w' = w.alloc (.cells (Try.zeroCells117.setIfInBounds 704 (.int .i64 room)) 117) := by
  have h0 : (room : Int) ≤ 64 := by omega
  go_enter Try.func30, Try.ntmps30
  go_wp2
  go_ret2
  exact ⟨rfl, rfl⟩
theorem fifoNew_no (room : Int) (w : World) (h : room < 0 ∨ 64 < room) : Calls Try.prog 30 #[.int .i64 room] w fun e w' => e = .returned (.tuple #[.pointer none, .int .i64 2]) ∧ w = w' := by
  rcases h with h | h
  · go_enter Try.func30, Try.ntmps30
    go_wp2
    go_ret2
    exact ⟨rfl, rfl⟩
  · have h' : ¬ room < 0 := by omega
    go_enter Try.func30, Try.ntmps30
    go_wp2
    go_ret2
    exact ⟨rfl, rfl⟩
set_option maxRecDepth 100000 in
set_option maxHeartbeats 1000000 in
theorem fifoAt_any (w : World) (fb first i : Nat) (c1 : w.cell? ⟨fb, 705, none⟩ = some (.int .i64 first)) (hf : first < 64) (hi : i ≤ 64) :
    Calls Try.prog 61 #[.pointer (some ⟨fb, 0, none⟩), .int .i64 i] w fun e w' => e = .returned (.pointer (some ⟨fb, ((first + i) % 64) * 11, none⟩)) ∧ Below w.heap.size w w' := by
  go_enter Try.func61, Try.ntmps61
  go_wp2_with fail
  go_quiet (fail)
  go_wp2_with fail
  go_ret
  exact ⟨rfl, below_drewN (Below.refl _ _) _⟩
theorem fifoLen_any (w : World) (fb room first over : Nat) (l : List SF) (h : FifoI w fb room first over l) :
    Calls Try.prog 42 #[.pointer (some ⟨fb, 0, none⟩)] w fun e w' => e = .returned (.int .i64 l.length) ∧ w = w' := by
  obtain ⟨cs, hh, hc⟩ := h
  have c1 : w.cell? ⟨fb, 706, none⟩ = some (.int .i64 l.length) := cell_of_heap hh 706 _ hc.c2
  clear hh hc
  go_enter Try.func42, Try.ntmps42
  go_wp2_with fail
  go_ret
  exact ⟨rfl, rfl⟩
theorem FifoI.below {w w' : World} {fb room first over : Nat} {l : List SF} (h : FifoI w fb room first over l) (hb : Below w.heap.size w w') : FifoI w' fb room first over l := by
  obtain ⟨cs, hh, hc⟩ := h
  exact ⟨cs, heap_below hb hh, hc⟩
theorem FifoI.turn {w w' : World} {s : List Nat} {fb room first over : Nat} {l : List SF} (h : FifoI w fb room first over l) (hb : Turn s w w') (hs : fb ∉ s) : FifoI w' fb room first over l := by
  obtain ⟨cs, hh, hc⟩ := h
  exact ⟨cs, hb.heap hh hs, hc⟩
theorem frL_length (s : SF) : (frL s).length = 11 := rfl
theorem FifoC.over {cs : Array Value} {room first over : Nat} {l : List SF} (h : FifoC cs room first over l) : FifoC (cs.setIfInBounds 707 (.int .i64 ((over : Int) + 1))) room first (over + 1) l := by
  have hs := h.size
  refine ⟨by simpa using hs, ?_, ?_, ?_, ?_, fun i hi k u hu => ?_, h.len, h.room, h.first⟩
  · simpa [Array.getElem?_setIfInBounds] using h.c0
  · simpa [Array.getElem?_setIfInBounds] using h.c1
  · simpa [Array.getElem?_setIfInBounds] using h.c2
  · simp [hs]
  · have hk : k < 11 := by have := (List.getElem?_eq_some_iff.1 hu).1; rwa [frL_length] at this
    rw [Array.getElem?_setIfInBounds, if_neg (by omega)]
    exact h.at_ i hi k u hu
theorem FifoC.push {cs ds : Array Value} {room first over : Nat} {l : List SF} {s : SF} (h : FifoC cs room first over l) (hl : l.length < room) (hd : ds.size = cs.size)
    (hj : ∀ j, ds[j]? = if (first + l.length) % 64 * 11 ≤ j ∧ j < (first + l.length) % 64 * 11 + (frL s).length ∧ j < cs.size then (frL s)[j - (first + l.length) % 64 * 11]? else cs[j]?) :
    FifoC (ds.setIfInBounds 706 (.int .i64 ((l.length : Int) + 1))) room first over (l ++ [s]) := by
  have hs := h.size
  have hr := h.room
  have hf := h.first
  have hlt : (first + l.length) % 64 < 64 := Nat.mod_lt _ (by omega)
  have out : ∀ j, 704 ≤ j → ds[j]? = cs[j]? := fun j hj2 => by rw [hj j, frL_length, if_neg (by omega)]
  refine ⟨by simp [hd, hs], ?_, ?_, ?_, ?_, fun i hi k u hu => ?_, by simp; omega, h.room, h.first⟩
  · rw [Array.getElem?_setIfInBounds, if_neg (by omega), out _ (by omega)]; exact h.c0
  · rw [Array.getElem?_setIfInBounds, if_neg (by omega), out _ (by omega)]; exact h.c1
  · rw [Array.getElem?_setIfInBounds, if_pos rfl, if_pos (by omega)]; simp
  · rw [Array.getElem?_setIfInBounds, if_neg (by omega), out _ (by omega)]; exact h.c3
  · have hk : k < 11 := by have := (List.getElem?_eq_some_iff.1 hu).1; rwa [frL_length] at this
    rw [Array.getElem?_setIfInBounds, if_neg (by omega), hj, frL_length, hs]
    simp at hi
    by_cases e : i = l.length
    · subst e
      simp at hu
      rw [if_pos (by omega), ← hu]
      congr 1
      omega
    · have hil : i < l.length := by omega
      rw [List.getElem_append_left hil] at hu
      have := h.at_ i hil k u hu
      rw [if_neg ?_]
      · exact this
      · have : (first + i) % 64 ≠ (first + l.length) % 64 := by omega
        omega
theorem FifoC.pop {cs ds : Array Value} {room first over : Nat} {l : List SF} {s : SF} (h : FifoC cs room first over (s :: l)) (hd : ds.size = cs.size)
    (hj : ∀ j, ds[j]? = if (first + 0) % 64 * 11 ≤ j ∧ j < (first + 0) % 64 * 11 + 11 ∧ j < cs.size then zfL[j - (first + 0) % 64 * 11]? else cs[j]?) :
    FifoC ((ds.setIfInBounds 705 (.int .i64 (((first + 1) % 64 : Nat) : Int))).setIfInBounds 706 (.int .i64 l.length)) room ((first + 1) % 64) over l := by
  have hs := h.size
  have hr := h.room
  have hf := h.first
  have hl := h.len
  simp at hl
  have hlt : (first + 0) % 64 < 64 := Nat.mod_lt _ (by omega)
  have out : ∀ j, 704 ≤ j → ds[j]? = cs[j]? := fun j hj2 => by rw [hj j, if_neg (by omega)]
  refine ⟨by simp [hd, hs], ?_, ?_, ?_, ?_, fun i hi k u hu => ?_, by omega, h.room, Nat.mod_lt _ (by omega)⟩
  · rw [Array.getElem?_setIfInBounds, if_neg (by omega), Array.getElem?_setIfInBounds, if_neg (by omega), out _ (by omega)]; exact h.c0
  · rw [Array.getElem?_setIfInBounds, if_neg (by omega), Array.getElem?_setIfInBounds, if_pos rfl, if_pos (by omega)]
  · rw [Array.getElem?_setIfInBounds, if_pos rfl, if_pos (by simp; omega)]
  · rw [Array.getElem?_setIfInBounds, if_neg (by omega), Array.getElem?_setIfInBounds, if_neg (by omega), out _ (by omega)]; exact h.c3
  · have hk : k < 11 := by have := (List.getElem?_eq_some_iff.1 hu).1; rwa [frL_length] at this
    have h2 := h.at_ (i + 1) (by simp; omega) k u (by simpa using hu)
    have hlt2 : ((first + 1) % 64 + i) % 64 < 64 := Nat.mod_lt _ (by omega)
    have e1 : ((first + 1) % 64 + i) % 64 = (first + (i + 1)) % 64 := by omega
    rw [Array.getElem?_setIfInBounds, if_neg (by omega), Array.getElem?_setIfInBounds, if_neg (by omega), hj, hs, e1, if_neg ?_]
    · exact h2
    · have : (first + (i + 1)) % 64 ≠ (first + 0) % 64 := by omega
      omega
end Go.Proofs.Ytlmdkmflbhnlgaa
