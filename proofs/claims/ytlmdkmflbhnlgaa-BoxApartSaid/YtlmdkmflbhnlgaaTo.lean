/- omnibuslaw15.To, omnibuslaw17.To: a bank, and what a box is to be, for the program. No condition. -/
import Derived.Test.YtlmdkmflbhnlgaaAppK
import Derived.Test.YtlmdkmflbhnlgaaBox2
namespace Go.Proofs.Ytlmdkmflbhnlgaa
open Go.RowKit
theorem own_blk {w : World} {base e size n c : Nat} {A : Option Addr} {xs : List Value} (h : w.ownsRow base e size (.slice A n c) n xs) : ∀ k ∈ blkA A, base ≤ k := by
  intro k hk
  rcases h.2 with ⟨hv, -⟩ | ⟨g, cap, cur, hv, hg, -⟩
  · injection hv with hv; subst hv; simp [blkA] at hk
  · injection hv with hv; subst hv; simp [blkA] at hk; omega
theorem own_turn {w w' : World} {s : List Nat} {base e size n c : Nat} {A : Option Addr} {xs : List Value} (h : w.ownsRow base e size (.slice A n c) n xs) (ht : Turn s w w') (hd : ∀ k ∈ blkA A, k ∉ s) : w'.ownsRow base e size (.slice A n c) n xs := by
  obtain ⟨h1, h2⟩ := h
  refine ⟨h1, h2.imp id ?_⟩
  rintro ⟨g, cap, cur, hv, hg, hh, r⟩
  refine ⟨g, cap, cur, hv, hg, ht.heap hh (hd g ?_), r⟩
  injection hv with hv
  subst hv
  simp [blkA]
/-- The loop's state. -/
structure ToI (w wr : World) (rs : List Ru) (els : Bool) (k : Nat) (A : Option Addr) (c : Nat) : Prop where
  res : wr.heap[w.heap.size + 1]? = some (.cells #[.slice none 0 0, .bool false] 35 (0, 0))
  out : wr.heap[w.heap.size + 1 + 1]? = some (.cells #[.slice A k c, .bool els] 35 (0, 0))
  own : wr.ownsRow (w.heap.size + 3) 91 10 (.slice A k c) k ((rs.take k).flatMap ruL)
  below : Below w.heap.size w wr
/-- What To leaves. -/
def ToOf (w : World) (rs : List Ru) (els : Bool) (e : Ending) (w' : World) : Prop := (∃ A c, e = .returned (.agg #[.slice A rs.length c, .bool els]) ∧ RRow w' w.heap.size A c rs) ∧ Below w.heap.size w w'
set_option maxRecDepth 100000 in
set_option maxHeartbeats 8000000 in
theorem To15_any (w : World) (A : Option Addr) (n c : Nat) (els : Bool) (rs : List Ru) (hr : RdRu w A rs) (hn : rs.length = n) (hb : n * 32 ≤ 140737488351232) :
    Calls Try.prog 32 #[.agg #[.slice A n c, .bool els]] w (ToOf w rs els) := by
  obtain ⟨i0, hi, hz0, hz1, hz2⟩ := info_rule
  have HR := Lib.hid hr
  have HN := Lib.hid hn
  have hn63 : (n : Int) ≤ 140737488351232 := by omega
  clear hr hn
  go_enter Try.func32, Try.ntmps32
  go_wp2_with fail
  have H0 : Hid (ToI w (((w.alloc (.cells #[.slice A n c, .bool els] 24)).alloc (.cells #[.slice none 0 0, .bool false] 35)).alloc (.cells #[.slice none 0 0, .bool els] 35)) rs els 0 none 0) :=
    ⟨heap_push (heap_new_at (by simp)), heap_new_at (by simp), ⟨by simp, .inl ⟨rfl, rfl⟩⟩, below_alloc (below_alloc (below_alloc (Below.refl _ _) _) _) _⟩
  go_loopw [12] (fun v wr => ∃ (k : Nat) (A' : Option Addr) (c' : Nat), k ≤ n ∧ v = .int .i64 k ∧ Hid (ToI w wr rs els k A' c')) (fun v _ => n - (intOf v).toNat)
  case atStart => exact ⟨0, none, 0, by omega, rfl, H0⟩
  case round =>
    obtain ⟨k, A', c', hk, rfl, HI⟩ := hrel
    by_cases hkn : k < n
    · have hkl : k < rs.length := by rw [HN.out]; exact hkn
      obtain ⟨ad, rfl, a0, a1, a2, a3, a4, a5, a6, a7, a8, a9⟩ := (HR.out.below HI.out.below).at_ k hkl (k * 10) rfl
      have htk : (rs.take (k + 1)).flatMap ruL = (rs.take k).flatMap ruL ++ ruL rs[k] := by
        rw [List.take_succ_eq_append_getElem hkl, List.flatMap_append]; simp
      obtain ⟨x, hx⟩ : ∃ x, rs[k]'hkl = x := ⟨_, rfl⟩
      rw [hx] at a0 a1 a2 a3 a4 a5 a6 a7 a8 a9 htk
      have HTK := Lib.hid htk
      have o0 : wr.cell? ⟨w.heap.size + 1 + 1, 0, none⟩ = some (.slice A' k c') := cell_of_heap HI.out.out 0 _ rfl
      have z0 : wr.frozen? ⟨w.heap.size + 1 + 1, 0, none⟩ = false := by simp [World.frozen?, HI.out.out]
      have hsz : w.heap.size + 1 + 1 < wr.heap.size := heap_lt HI.out.out
      have HONE := Lib.hid (ruL_one x)
      have HNB : Hid (∀ q, q < w.heap.size + 3 → q ∉ blkA A') := fun q hq hm => by have := own_blk HI.out.own q hm; omega
      clear htk hx
      go_wp2_with (at_builtin; refine wpList_appK rfl (.tmp 17) (.tmp 19) 33 rfl (w.heap.size + 3) 91 i0 _ 10 32 Try.underlying33 hi hz0 hz1 hz2 rfl (by omega) A' k c' _ rfl ((HI.out.own.alloc _).alloc _) (wr.heap.size + 1) _ _ (ruL x) rfl (heap_new_at (by simp)) rfl HONE.out (by unfold maxLen; omega) (by omega) (by simp; omega) ?_; intro w3 A3 c3 HO3 HT3 HF3; have h3 := HT3.out.heap (heap_push (heap_push HI.out.out)) (HNB.out _ (by omega)); have o3 := cell_of_heap h3 0 _ rfl; have z3 : w3.frozen? ⟨w.heap.size + 1 + 1, 0, none⟩ = false := by simp [World.frozen?, h3])
      go_roundw
      case rel =>
        refine ⟨k + 1, A3, c3, by omega, by go_num, ?_⟩
        have h3 := HT3.out.heap (heap_push (heap_push HI.out.out)) (HNB.out _ (by omega))
        have h1 := HT3.out.heap (heap_push (heap_push HI.out.res)) (HNB.out _ (by omega))
        have t4 : Turn [w.heap.size + 1 + 1] w3 (w3.setCell ⟨w.heap.size + 1 + 1, 0, none⟩ (.slice A3 (k + 1 : Nat) c3)) := (Turn.refl _ _).setCell (p := ⟨w.heap.size + 1 + 1, 0, none⟩) (.inl (by simp)) _
        have hbl : Below w.heap.size w w3 := by
          have h2 : Below wr.heap.size wr ((wr.alloc (.cells #[.int .i64 x.kinds, .int .u32 x.id, .int .u32 x.idm, .int .u8 x.sdt, .int .u8 x.sdtm, .int .u8 x.vcid, .int .u8 x.vcidm, .int .u32 x.af, .int .u32 x.afm, .bool x.inn] 120)).alloc (.cells #[.int .i64 x.kinds, .int .u32 x.id, .int .u32 x.idm, .int .u8 x.sdt, .int .u8 x.sdtm, .int .u8 x.vcid, .int .u8 x.vcidm, .int .u32 x.af, .int .u32 x.afm, .bool x.inn] 91)) := below_alloc (below_alloc (Below.refl _ _) _) _
          have h5 := HT3.out.below (base := w.heap.size) (fun q hq => by have := own_blk HI.out.own q hq; omega) (by simp; omega)
          exact (below_trans HI.out.below h2).trans h5
        refine ⟨t4.heap h1 (by simp), ?_, ?_, hbl.setCell (by simp; omega) _⟩
        · have := heap_setCell h3 0 (.slice A3 (k + 1 : Nat) c3)
          rw [this]; rfl
        · have ho := HO3.out
          rw [← HTK.out] at ho
          exact own_turn ho t4 (fun q hq => by
            rcases HF3.out q hq with h | h
            · have := own_blk HI.out.own q h; simp; omega
            · simp at h; simp; omega)
      case measure => simp [intOf]; omega
    · obtain rfl : k = n := by omega
      have r0 : wr.cell? ⟨w.heap.size + 1, 0, none⟩ = some (.slice none 0 0) := cell_of_heap HI.out.res 0 _ rfl
      have r1 : wr.cell? ⟨w.heap.size + 1, 1, none⟩ = some (.bool false) := cell_of_heap HI.out.res 1 _ rfl
      have zr : ∀ o, wr.frozen? ⟨w.heap.size + 1, o, none⟩ = false := fun o => by simp [World.frozen?, HI.out.res]
      have o0 : wr.cell? ⟨w.heap.size + 1 + 1, 0, none⟩ = some (.slice A' k c') := cell_of_heap HI.out.out 0 _ rfl
      have o1 : wr.cell? ⟨w.heap.size + 1 + 1, 1, none⟩ = some (.bool els) := cell_of_heap HI.out.out 1 _ rfl
      go_wp2_with fail
      refine bodyPost_ret (v := .agg #[.slice A' k c', .bool els]) (by simp [results, Try.results32, go_sem, *]) rfl ⟨⟨A', c', by rw [HN.out], ?_⟩, ?_⟩
      · have ho := HI.out.own
        have e : rs.take k = rs := by rw [← HN.out]; exact List.take_length
        rw [e] at ho
        have hturn : ∀ W, Turn [w.heap.size + 1] wr W → RRow W w.heap.size A' c' rs := fun W ht => by
          obtain ⟨A2, c2, e2, h2⟩ := RRow.of (own_turn ho ht (fun q hq => by have := own_blk HI.out.own q hq; simp; omega)) HN.out
          obtain ⟨rfl, rfl⟩ : A' = A2 ∧ c' = c2 := by injection e2 with e3 _ e4; exact ⟨e3, e4⟩
          rcases h2 with h | ⟨g, cur, h1, h2, h3, h4⟩
          · exact .inl h
          · exact .inr ⟨g, cur, h1, h2, by omega, h4⟩
        refine hturn _ ?_
        repeat (refine Turn.setCell ?_ (by simp) _)
        exact Turn.refl _ _
      · repeat (refine Below.setCell ?_ (by simp) _)
        exact HI.out.below
end Go.Proofs.Ytlmdkmflbhnlgaa
