/- The check sums' table. No condition. -/
import Derived.Test.YtlmdkmflbhnlgaaGreatCrc
namespace Go.Proofs.YtlmdkmflbhnlgaaGreat
open Go.RowKit
def tabV (size poly k : Nat) : List Value := (List.range 16).map fun i => .int .u64 ((if i < k then tabN size poly i else 0 : Nat) : Int)
theorem tabV_length (size poly k : Nat) : (tabV size poly k).length = 16 := by simp [tabV]
theorem tabV_set (size poly k : Nat) (_hk : k < 16) : (tabV size poly k).set k (.int .u64 (tabN size poly k : Nat)) = tabV size poly (k + 1) := by
  refine List.ext_getElem? fun i => ?_
  unfold tabV
  rw [List.getElem?_set]
  by_cases hi : i < 16
  · by_cases e : k = i
    · subst e; simp [hi]
    · simp [hi, e, show (i < k + 1) ↔ i < k by omega]
  · simp [hi]; omega
set_option maxRecDepth 100000 in
set_option maxHeartbeats 2000000 in
theorem table_any (size poly start : Nat) (w : World) (h4 : 4 ≤ size) (h32 : size ≤ 32) (hp : poly < 2 ^ size) :
    Calls Tryz.prog 122 #[kindV size poly start] w fun e w' => e = .returned (.agg (tabV size poly 16).toArray) ∧ Below w.heap.size w w' := by
  have HP := Lib.hid hp
  clear hp
  have hz : tabV size poly 0 = List.replicate 16 (.int .u64 0) := by simp [tabV]; rfl
  have HZ := Lib.hid hz
  clear hz
  go_enter Tryz.func122, Tryz.ntmps122
  go_wp2_with fail
  obtain ⟨g, hg⟩ : ∃ g, w.heap.size = g := ⟨_, rfl⟩
  go_loopw [4] (fun iv wr => ∃ k : Nat, k ≤ 16 ∧ iv = .int .i64 k ∧ Hid (wr.heap[g]? = some (.cells #[.int .i64 size, .int .u64 poly, .int .u64 start] 147)) ∧ Hid (wr.heap[g + 1]? = some (.cells (tabV size poly k).toArray 161)) ∧ Hid (Below g w wr)) (fun iv _ => 16 - (intOf iv).toNat)
  case atStart =>
    refine ⟨0, by omega, rfl, ?_, ?_, ?_⟩
    · exact heap_push (heap_new_at hg.symm)
    · rw [HZ.out]; exact heap_new_at (by simp [hg])
    · subst hg; exact below_alloc (below_alloc (Below.refl _ _) _) _
  case round =>
    obtain ⟨k, hk, rfl, HK, HT, HW⟩ := hrel
    by_cases hk16 : k < 16
    · obtain ⟨a0, a1, a2⟩ : wr.cell? ⟨g, 0, none⟩ = some (.int .i64 size) ∧ wr.cell? ⟨g, 1, none⟩ = some (.int .u64 poly) ∧ wr.cell? ⟨g, 2, none⟩ = some (.int .u64 start) := ⟨cell_of_heap HK.out 0 _ rfl, cell_of_heap HK.out 1 _ rfl, cell_of_heap HK.out 2 _ rfl⟩
      obtain ⟨u, hu⟩ : ∃ u, wr.cell? ⟨g + 1, k, none⟩ = some u := ⟨_, cell_of_heap HT.out k ((tabV size poly k)[k]'(by rw [tabV_length]; exact hk16)) (by simp)⟩
      have hf : wr.frozen? ⟨g + 1, k, none⟩ = false := by simp [World.frozen?, HT.out]
      subst hg
      have hpw := pow32 h32
      obtain ⟨p, hp4⟩ : ∃ p, size - 4 = p := ⟨_, rfl⟩
      have hlt : k * 2 ^ p < 2 ^ size := by
        obtain rfl : size = p + 4 := by omega
        rw [Nat.pow_add]
        have h0 : 0 < 2 ^ p := Nat.two_pow_pos _
        have := Nat.mul_lt_mul_of_pos_right hk16 h0
        omega
      have hwk : IntKind.u64.wrap (k : Int) = k := IntWalk.u64_in _ ⟨by omega, by omega⟩
      have hs4 : IntKind.i64.wrap ((size : Int) - 4) = (p : Int) := by rw [IntWalk.i64_in _ (by omega)]; omega
      have hsh : IntKind.u64.wrap ((k : Int) * 2 ^ p) = ((k * 2 ^ p : Nat) : Int) := by
        have e : ((k : Int) * 2 ^ p) = ((k * 2 ^ p : Nat) : Int) := by simp
        rw [e, IntWalk.u64_in _ ⟨by omega, by omega⟩]
      have hpb : p ≤ 32 := by omega
      have hdec : decide ((k : Int) < 16) = true := by simp; omega
      have hall := fun W (hW : Rd W (some ⟨wr.heap.size, 0, none⟩) (bys [0, 0, 0, 0])) => all_any size poly start (k * 2 ^ p) (some ⟨wr.heap.size, 0, none⟩) 4 4 [0, 0, 0, 0] W h4 h32 HP.out hlt hW rfl (by omega) (by simp)
      have hset := tabV_set size poly k hk16
      have htab : tabN size poly k = crcN size poly (k * 2 ^ p) [0, 0, 0, 0] := by rw [← hp4]; rfl
      rw [← htab] at hall
      generalize tabN size poly k = r at *
      generalize k * 2 ^ p = q at *
      have hmk : ∀ W : World, Sem.run Tryz.prog (Instr.makeSlice 22 (.int .i64 4) (.int .i64 4)) W = .ok (.slice (some ⟨W.heap.size, 0, none⟩) 4 4) (W.alloc (.cells #[.int .u8 0, .int .u8 0, .int .u8 0, .int .u8 0] 5)) := fun _ => by kernel_rfl
      have hk16i : (k : Int) < 16 := by omega
      have hk0 : (0 : Int) ≤ (k : Int) := by omega
      have hu2 : (wr.alloc (.cells #[.int .u8 0, .int .u8 0, .int .u8 0, .int .u8 0] 5)).drew.cell? ⟨w.heap.size + 1, k, none⟩ = some u := Below.cell_of (below_alloc (Below.refl _ _) _).drew hu
      have hlt1 : w.heap.size + 1 < wr.heap.size := heap_lt HT.out
      have hbl : w.heap.size + 1 < (wr.alloc (.cells #[.int .u8 0, .int .u8 0, .int .u8 0, .int .u8 0] 5)).drew.heap.size := Nat.lt_of_lt_of_le hlt1 (below_alloc (Below.refl _ _) _).drew.size
      have hf2 : (wr.alloc (.cells #[.int .u8 0, .int .u8 0, .int .u8 0, .int .u8 0] 5)).drew.frozen? ⟨w.heap.size + 1, k, none⟩ = false := ((below_alloc (Below.refl _ _) _).drew.frozen (p := ⟨w.heap.size + 1, k, none⟩) hlt1).trans hf
      have HALL := Lib.hid hall
      have HTAB := Lib.hid htab
      have HSET := Lib.hid hset
      clear hall htab hlt hpw hp4 hset
      go_wp2_with fail
      go_region_held3 (fun w' => w'.cell? ⟨w.heap.size, 0, none⟩ = some (.int .i64 size) ∧ w'.cell? ⟨w.heap.size, 1, none⟩ = some (.int .u64 poly) ∧ w'.cell? ⟨w.heap.size, 2, none⟩ = some (.int .u64 start))
        (first
          | go_keep
          | exact ⟨a0, a1, a2⟩
          | (refine ⟨Below.cell_of hb2 (by assumption), Below.cell_of hb2 (by assumption), Below.cell_of hb2 (by assumption)⟩)
          | (refine ⟨Below.cell_of hb2 ?_, Below.cell_of hb2 ?_, Below.cell_of hb2 ?_⟩ <;> simp [*]))
        (first
          | (go_at_call 123; refine (HALL.out _ (Rd.drew (Rd.blk (heap_new_at rfl)))).mono ?_; rintro x w2 ⟨rfl, hb2⟩; have hs2 : w2.cell? ⟨w.heap.size + 1, k, none⟩ = some u := Below.cell_of hb2 hu2; have hz2 : w2.frozen? ⟨w.heap.size + 1, k, none⟩ = false := (hb2.frozen hbl).trans hf2))
      all_goals
        go_wp2_with fail
        go_roundw
        case rel =>
          refine ⟨k + 1, by omega, by go_num, ?_, ?_, ?_⟩
          · show _ = _
            rw [Below.heap_setCell _ _ _ _ (by show w.heap.size ≠ w.heap.size + 1; omega)]
            exact heap_below hb2 (heap_below (below_alloc (Below.refl _ _) _).drew HK.out)
          · show _ = _
            rw [heap_setCell (heap_below hb2 (heap_below (below_alloc (Below.refl _ _) _).drew HT.out)) k _, ← HSET.out]
            simp
          · show Below _ _ _
            exact (below_trans HW.out (below_trans (below_alloc (Below.refl _ _) _).drew hb2)).setCell (p := ⟨w.heap.size + 1, k, none⟩) (by show w.heap.size ≤ w.heap.size + 1; omega) _
        case measure => simp [intOf]; omega
    · obtain rfl : k = 16 := by omega
      subst hg
      have hT := HT.out
      have hu : Tryz.prog.underlying 161 = some (.array 16 71) := Tryz.underlying161
      have hi : (Tryz.prog.info? 161).map (·.size) = some (tabV size poly 16).toArray.size := by
        have : (Tryz.prog.info? 161).map (·.size) = some 16 := by kernel_rfl
        rw [this]; simp [tabV_length]
      have h1 : (tabV size poly 16).toArray.all (·.oneCell') = true := by simp [tabV]; intros; rfl
      obtain ⟨cs, hcs⟩ : ∃ cs, (tabV size poly 16).toArray = cs := ⟨_, rfl⟩
      rw [hcs] at hT hi h1
      have HCS := Lib.hid hcs
      clear hcs
      have HT2 := Lib.hid hT
      have HI := Lib.hid hi
      have HU := Lib.hid hu
      have H1 := Lib.hid h1
      clear hT hi hu h1 HT HK
      go_wp2_with (first
        | (with_reducible refine wpList_load_row rfl 161 (.tmp 2) rfl (w.heap.size + 1) rfl 161 cs (0, 0) _ HT2.out HU.out rfl HI.out ?_)
        | (with_reducible refine wpList_store_row rfl 161 (.tmp 2) (.tmp 20) rfl (w.heap.size + 1) cs rfl rfl 161 cs HT2.out HI.out rfl H1.out ?_))
      refine bodyPost_ret (v := .agg cs) (results_cell_row rfl _ _ (w.heap.size + 1) _ cs _ _ rfl (setRow_heap _ _ _ _ _ _ HT2.out) HU.out rfl HI.out) rfl ⟨by rw [HCS.out], ?_⟩
      have hw := HW.out
      exact ⟨hw.os, hw.tape, hw.output, by rw [setRow_size]; exact hw.size, fun j hj => by rw [setRow_other _ _ _ _ (by omega)]; exact hw.block j hj⟩
end Go.Proofs.YtlmdkmflbhnlgaaGreat
