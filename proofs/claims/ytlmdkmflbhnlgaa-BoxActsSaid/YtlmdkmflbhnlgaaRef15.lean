/- The document's bank (ref15): Check, Fits, Find, In: the same as the program's. No condition. -/
import Derived.Test.YtlmdkmflbhnlgaaFilter2
import Derived.Test.YtlmdkmflbhnlgaaRefCheck
namespace Go.Proofs.Ytlmdkmflbhnlgaa
open Go.RowKit
set_option maxRecDepth 100000 in
set_option maxHeartbeats 1000000 in
theorem RCheck15_any (A : Option Addr) (n c : Nat) (els : Bool) (rs : List Ru) (w : World) (hr : RdRu w A rs) (hn : rs.length = n) (hc : n ≤ 9223372036854775807) :
    Calls Try.prog 50 #[.agg #[.slice A n c, .bool els]] w fun e w' => e = .returned (errV (bankOk rs)) ∧ Below w.heap.size w w' := by
  have HR := Lib.hid hr
  have HN := Lib.hid hn
  clear hr hn
  by_cases h32 : n ≤ 32
  rotate_left
  · have h33 : (32 : Int) < n := by omega
    have hf : bankOk rs = false := by unfold bankOk; rw [HN.out, decide_eq_false h32, Bool.false_and]
    rw [hf]
    go_enter Try.func50, Try.ntmps50
    go_wp2_with fail
    go_ret
    exact ⟨by first | rfl | simp [errV], below_alloc (Below.refl _ _) _⟩
  have h33 : (n : Int) ≤ 32 := by omega
  obtain ⟨q, hq⟩ : ∃ q, bankOk rs = q := ⟨_, rfl⟩
  rw [hq]
  have HQ : Hid (q = rs.all mayR) := by
    show _ = _
    rw [← hq]; unfold bankOk; rw [HN.out, decide_eq_true h32, Bool.true_and]
  clear hq
  go_enter Try.func50, Try.ntmps50
  go_wp2_with fail
  go_loopw [12] (fun iv wr => ∃ k : Nat, k ≤ n ∧ Hid (∀ j (h : j < rs.length), j < k → mayR rs[j] = true) ∧ iv = .int .i64 k ∧ Hid (Below w.heap.size w wr)) (fun iv _ => n - (intOf iv).toNat)
  case atStart => exact ⟨0, by omega, fun j _ h => absurd h (by omega), rfl, below_alloc (Below.refl _ _) _⟩
  case round =>
    obtain ⟨k, hk, HK, rfl, HB⟩ := hrel
    by_cases hkn : k < n
    · have hkl : k < rs.length := by rw [HN.out]; exact hkn
      obtain ⟨ad, rfl, a0, a1, a2, a3, a4, a5, a6, a7, a8, a9⟩ := (HR.out.below HB.out).at_ k hkl (k * 10) rfl
      have hmem : rs[k]'hkl ∈ rs := List.getElem_mem hkl
      obtain ⟨x, hx⟩ : ∃ x, rs[k]'hkl = x := ⟨_, rfl⟩
      rw [hx] at a0 a1 a2 a3 a4 a5 a6 a7 a8 a9 hmem
      have HX := Lib.hid hx
      have HMEM := Lib.hid hmem
      clear hx hmem
      by_cases hm : 1 ≤ x.kinds ∧ x.kinds ≤ 7
      · have hm1 : ¬ x.kinds < 1 := by omega
        have hm2 : ¬ 7 < x.kinds := by omega
        go_wp2_with fail
        go_roundw
        case rel =>
          refine ⟨k + 1, by omega, fun j h hj => ?_, by go_num, (below_alloc HB.out _)⟩
          by_cases hjk : j = k
          · subst hjk; rw [HX.out]; exact decide_eq_true hm
          · exact HK.out j h (by omega)
        case measure => simp [intOf]; omega
      · have hf : q = false := by
          rw [HQ.out, List.all_eq_false]
          exact ⟨x, HMEM.out, by simp [mayR]; omega⟩
        subst hf
        by_cases hm1 : x.kinds < 1
        · go_wp2_with fail
          go_ret
          exact ⟨by first | rfl | simp [errV], below_alloc HB.out _⟩
        · have hm2 : 7 < x.kinds := by omega
          go_wp2_with fail
          go_ret
          exact ⟨by first | rfl | simp [errV], below_alloc HB.out _⟩
    · obtain rfl : k = n := by omega
      have ht : q = true := by
        rw [HQ.out, List.all_eq_true]
        intro y hy
        obtain ⟨j, hj, rfl⟩ := List.getElem_of_mem hy
        exact HK.out j hj (by rw [← HN.out]; exact hj)
      subst ht
      go_wp2_with fail
      go_ret
      exact ⟨by first | rfl | simp [errV], HB.out⟩
theorem mask32 (a b m : Int) (a0 : 0 ≤ a) (a1 : a < 4294967296) (b0 : 0 ≤ b) (b1 : b < 4294967296) (m0 : 0 ≤ m) (m1 : m < 4294967296) : decide (bits .and .u32 a m = bits .and .u32 b m) = maskE a b m := by
  obtain ⟨a, rfl⟩ := Int.eq_ofNat_of_zero_le a0
  obtain ⟨b, rfl⟩ := Int.eq_ofNat_of_zero_le b0
  obtain ⟨m, rfl⟩ := Int.eq_ofNat_of_zero_le m0
  rw [(u32_nat a m (by omega) (by omega)).1, (u32_nat b m (by omega) (by omega)).1]
  unfold maskE
  simp only [Int.toNat_natCast]
  rw [decide_eq_decide]; omega
theorem mask8 (a b m : Int) (a0 : 0 ≤ a) (a1 : a < 256) (b0 : 0 ≤ b) (b1 : b < 256) (m0 : 0 ≤ m) (m1 : m < 256) : decide (bits .and .u8 a m = bits .and .u8 b m) = maskE a b m := by
  obtain ⟨a, rfl⟩ := Int.eq_ofNat_of_zero_le a0
  obtain ⟨b, rfl⟩ := Int.eq_ofNat_of_zero_le b0
  obtain ⟨m, rfl⟩ := Int.eq_ofNat_of_zero_le m0
  rw [(u8_nat a m (by omega) (by omega)).1, (u8_nat b m (by omega) (by omega)).1]
  unfold maskE
  simp only [Int.toNat_natCast]
  rw [decide_eq_decide]; omega
set_option maxRecDepth 100000 in
set_option maxHeartbeats 8000000 in
theorem Fits_any (r : Ru) (f : Fr) (B : Option Addr) (d m : Nat) (w : World) (hr : mayR r = true) (hf : okF f = true) (hw : RuWf r) (hi : FrIn f) (hm : f.data.length = m) :
    Calls Try.prog 93 #[ruV r, frv f (.slice B m d)] w fun e w' => e = .returned (.bool (ofR r f)) ∧ Below w.heap.size w w' := by
  subst hm
  have HC := Lib.hid (fun W => CheckR_any f B d W)
  rw [hf] at HC
  have hk := ((okF_iff f).1 hf).kind
  have M1 := mask32 f.id r.id r.idm hi.id0 hi.id1 hw.id0 hw.id1 hw.idm0 hw.idm1
  have M2 := mask8 f.sdt r.sdt r.sdtm hi.sdt0 hi.sdt1 hw.sdt0 hw.sdt1 hw.sdtm0 hw.sdtm1
  have M3 := mask8 f.vcid r.vcid r.vcidm hi.vcid0 hi.vcid1 hw.vcid0 hw.vcid1 hw.vcidm0 hw.vcidm1
  have M4 := mask32 f.af r.af r.afm hi.af0 hi.af1 hw.af0 hw.af1 hw.afm0 hw.afm1
  simp only [mayR, decide_eq_true_eq] at hr
  obtain ⟨k0, k1⟩ := hr
  obtain ⟨v, hv⟩ : ∃ v, ofR r f = v := ⟨_, rfl⟩
  rw [hv]
  unfold ofR hasR at hv
  rw [← M1, ← M2, ← M3, ← M4] at hv
  have HV := Lib.hid hv
  clear hf hw hi M1 M2 M3 M4 hv
  obtain ⟨fk, fi, fe, fr, fb, fs, fc, fd, fv, fa, data⟩ := f
  dsimp only [frv] at *
  have hm1 : ¬ r.kinds < 1 := by omega
  have hm2 : ¬ 7 < r.kinds := by omega
  generalize data.length = m at *
  rcases hk with rfl | rfl | rfl
  · have ek : decide (r.kinds / 2 ^ ((1 : Int) - 1).toNat % 2 = 1) = decide (r.kinds % 2 = 1) := by simp
    rw [ek] at HV
    clear ek
    go_enter Try.func93, Try.ntmps93
    go_wp2_with fail
    refine calls_blk2 fun W1 q1 q2 hb1 => ?_
    refine (HC.out W1).mono ?_
    rintro e w1 ⟨rfl, hb⟩
    have HB := Lib.hid (below_trans hb1 hb)
    obtain ⟨a0, a1, a2, a3, a4, a5, a6, a7, a8, a9, a10⟩ := cells11 (heap_below hb q2)
    have b0 := cell_of_heap (heap_below hb q1) 0 _ rfl
    have b1 := cell_of_heap (heap_below hb q1) 1 _ rfl
    have b2 := cell_of_heap (heap_below hb q1) 2 _ rfl
    have b3 := cell_of_heap (heap_below hb q1) 3 _ rfl
    have b4 := cell_of_heap (heap_below hb q1) 4 _ rfl
    have b5 := cell_of_heap (heap_below hb q1) 5 _ rfl
    have b6 := cell_of_heap (heap_below hb q1) 6 _ rfl
    have b7 := cell_of_heap (heap_below hb q1) 7 _ rfl
    have b8 := cell_of_heap (heap_below hb q1) 8 _ rfl
    clear hb hb1 q1 q2
    simp only [errV, if_true]
    go_wp2_with fail
    all_goals
      go_ret
      refine ⟨ret_bool ?_, HB.out⟩
      rw [← HV.out]
      simp [*]
      try rfl
  · have ek : decide (r.kinds / 2 ^ ((2 : Int) - 1).toNat % 2 = 1) = decide (r.kinds / 2 % 2 = 1) := by simp
    rw [ek] at HV
    clear ek
    go_enter Try.func93, Try.ntmps93
    go_wp2_with fail
    refine calls_blk2 fun W1 q1 q2 hb1 => ?_
    refine (HC.out W1).mono ?_
    rintro e w1 ⟨rfl, hb⟩
    have HB := Lib.hid (below_trans hb1 hb)
    obtain ⟨a0, a1, a2, a3, a4, a5, a6, a7, a8, a9, a10⟩ := cells11 (heap_below hb q2)
    have b0 := cell_of_heap (heap_below hb q1) 0 _ rfl
    have b1 := cell_of_heap (heap_below hb q1) 1 _ rfl
    have b2 := cell_of_heap (heap_below hb q1) 2 _ rfl
    have b3 := cell_of_heap (heap_below hb q1) 3 _ rfl
    have b4 := cell_of_heap (heap_below hb q1) 4 _ rfl
    have b5 := cell_of_heap (heap_below hb q1) 5 _ rfl
    have b6 := cell_of_heap (heap_below hb q1) 6 _ rfl
    have b7 := cell_of_heap (heap_below hb q1) 7 _ rfl
    have b8 := cell_of_heap (heap_below hb q1) 8 _ rfl
    clear hb hb1 q1 q2
    simp only [errV, if_true]
    go_wp2_with fail
    all_goals
      go_ret
      refine ⟨ret_bool ?_, HB.out⟩
      rw [← HV.out]
      simp [*]
      try rfl
  · have ek : decide (r.kinds / 2 ^ ((3 : Int) - 1).toNat % 2 = 1) = decide (r.kinds / 4 = 1) := by have e : ((3 : Int) - 1).toNat = 2 := rfl; rw [e, decide_eq_decide]; omega
    rw [ek] at HV
    clear ek
    go_enter Try.func93, Try.ntmps93
    go_wp2_with fail
    refine calls_blk2 fun W1 q1 q2 hb1 => ?_
    refine (HC.out W1).mono ?_
    rintro e w1 ⟨rfl, hb⟩
    have HB := Lib.hid (below_trans hb1 hb)
    obtain ⟨a0, a1, a2, a3, a4, a5, a6, a7, a8, a9, a10⟩ := cells11 (heap_below hb q2)
    have b0 := cell_of_heap (heap_below hb q1) 0 _ rfl
    have b1 := cell_of_heap (heap_below hb q1) 1 _ rfl
    have b2 := cell_of_heap (heap_below hb q1) 2 _ rfl
    have b3 := cell_of_heap (heap_below hb q1) 3 _ rfl
    have b4 := cell_of_heap (heap_below hb q1) 4 _ rfl
    have b5 := cell_of_heap (heap_below hb q1) 5 _ rfl
    have b6 := cell_of_heap (heap_below hb q1) 6 _ rfl
    have b7 := cell_of_heap (heap_below hb q1) 7 _ rfl
    have b8 := cell_of_heap (heap_below hb q1) 8 _ rfl
    clear hb hb1 q1 q2
    simp only [errV, if_true]
    go_wp2_with fail
    all_goals
      go_ret
      refine ⟨ret_bool ?_, HB.out⟩
      rw [← HV.out]
      simp [*]
      try rfl
set_option maxRecDepth 100000 in
set_option maxHeartbeats 4000000 in
theorem RFind_any (A B : Option Addr) (n c d m : Nat) (els : Bool) (rs : List Ru) (f : Fr) (w : World) (hr : RdRu w A rs) (hn : rs.length = n) (hc : n ≤ 9223372036854775807) (hw : ∀ r ∈ rs, RuWf r) (hf : FrIn f) (hm : f.data.length = m) :
    Calls Try.prog 89 #[.agg #[.slice A n c, .bool els], frv f (.slice B m d)] w (FoundOf rs f · w ·) := by
  have HB := Lib.hid (fun W hW => RCheck15_any A n c els rs W hW hn hc)
  have HF := Lib.hid (fun W => CheckR_any f B d W)
  have HR := Lib.hid hr
  have HN := Lib.hid hn
  have HW := Lib.hid hw
  have HO := Lib.hid hf
  have HM := Lib.hid hm
  obtain ⟨p, hp⟩ : ∃ p, bankOk rs = p := ⟨_, rfl⟩
  obtain ⟨q, hq⟩ : ∃ q, okF f = q := ⟨_, rfl⟩
  rw [hp] at HB
  rw [hq, hm] at HF
  have HP := Lib.hid hp
  have HQ := Lib.hid hq
  have HL := Lib.hid (fun (h : okF f = true) => ((okF_iff f).1 h).kind)
  obtain ⟨fk, fi, fe, fr, fb, fs, fc, fd, fv, fa, l⟩ := f
  dsimp only [frv] at *
  clear hr hn hw hf hp hq hm
  cases p
  · go_enter Try.func89, Try.ntmps89
    go_wp2_with fail
    refine calls_blk2 fun W1 q1 q2 hb1 => ?_
    have g1 := HR.out.below hb1
    refine (HB.out _ g1).mono ?_
    rintro e w1 ⟨rfl, hb⟩
    have HB1 := Lib.hid (below_trans hb1 hb)
    clear hb hb1 q1 q2 g1
    simp only [errV]
    go_wp2_with fail
    go_ret2
    exact ⟨.inl ⟨by rw [HP.out]; rfl, rfl⟩, HB1.out⟩
  cases q
  · go_enter Try.func89, Try.ntmps89
    go_wp2_with fail
    refine calls_blk2 fun W1 q1 q2 hb1 => ?_
    refine (HB.out _ (HR.out.below hb1)).mono ?_
    rintro e w1 ⟨rfl, hb⟩
    obtain ⟨a0, a1, a2, a3, a4, a5, a6, a7, a8, a9, a10⟩ := cells11 (heap_below hb q2)
    have HB1 := Lib.hid (below_trans hb1 hb)
    clear hb hb1 q1 q2
    simp only [errV]
    go_wp2_with fail
    refine (HF.out _).mono ?_
    rintro e w2 ⟨rfl, hb⟩
    have HB2 := Lib.hid (below_trans HB1.out hb)
    clear hb
    simp only [errV]
    go_wp2_with fail
    go_ret2
    exact ⟨.inl ⟨by rw [HP.out, HQ.out]; rfl, rfl⟩, HB2.out⟩
  · have hk := HL.out HQ.out
    have HOF := fun r hr1 hr2 W => Fits_any r ⟨fk, fi, fe, fr, fb, fs, fc, fd, fv, fa, l⟩ B d m W hr1 HQ.out hr2 HO.out HM.out
    have HALL : Hid (∀ r ∈ rs, mayR r = true) := by
      have := HP.out
      unfold bankOk at this
      simp only [Bool.and_eq_true, List.all_eq_true] at this
      exact this.2
    have HOK := Lib.hid HOF
    dsimp only [frv] at *
    have hn32 : n ≤ 32 := by
      have := HP.out
      unfold bankOk at this
      rw [HN.out] at this
      simp only [Bool.and_eq_true, decide_eq_true_eq] at this
      exact this.1
    clear hk HOF
    go_enter Try.func89, Try.ntmps89
    go_wp2_with fail
    refine calls_blk2 fun W1 q1 q2 hb1 => ?_
    refine (HB.out _ (HR.out.below hb1)).mono ?_
    rintro e w1 ⟨rfl, hb⟩
    obtain ⟨a0, a1, a2, a3, a4, a5, a6, a7, a8, a9, a10⟩ := cells11 (heap_below hb q2)
    have K1 := Lib.hid (heap_below hb q1)
    have K2 := Lib.hid (heap_below hb q2)
    have HB1 := Lib.hid (below_trans hb1 hb)
    clear hb hb1 q1 q2
    simp only [errV]
    go_wp2_with fail
    refine (HF.out _).mono ?_
    rintro e w2 ⟨rfl, hb⟩
    have HB2 := Lib.hid (below_trans HB1.out hb)
    have c1 := cell_of_heap (heap_below hb K1.out) 0 _ rfl
    have K3 := Lib.hid (heap_below hb K2.out)
    clear hb a0 a1 a2 a3 a4 a5 a6 a7 a8 a9 a10
    simp only [errV]
    go_wp2_with fail
    clear c1
    go_loopw [19] (fun iv wr => ∃ k : Nat, k ≤ n ∧ Hid (∀ j (h : j < rs.length), j < k → ofR rs[j] ⟨fk, fi, fe, fr, fb, fs, fc, fd, fv, fa, l⟩ = false) ∧ iv = .int .i64 k ∧ Hid (Below w2.heap.size w2 wr)) (fun iv _ => n - (intOf iv).toNat)
    case atStart => exact ⟨0, by omega, fun j _ h => absurd h (by omega), rfl, Below.refl _ _⟩
    case round =>
      obtain ⟨k, hk, HK, rfl, HBR⟩ := hrel
      by_cases hkn : k < n
      · have hkl : k < rs.length := by rw [HN.out]; exact hkn
        obtain ⟨ad, rfl, a0, a1, a2, a3, a4, a5, a6, a7, a8, a9⟩ := ((HR.out.below HB2.out).below HBR.out).at_ k hkl (k * 10) rfl
        have hmem : rs[k] ∈ rs := List.getElem_mem hkl
        have HFS := Lib.hid (find_some_of hkl HK.out)
        obtain ⟨x, hx⟩ : ∃ x, rs[k] = x := ⟨_, rfl⟩
        rw [hx] at a0 a1 a2 a3 a4 a5 a6 a7 a8 a9 hmem HFS
        have HX := Lib.hid hx
        have HC := Lib.hid (HOK.out x (HALL.out x hmem) (HW.out x hmem))
        obtain ⟨v, hv⟩ : ∃ v, ofR x ⟨fk, fi, fe, fr, fb, fs, fc, fd, fv, fa, l⟩ = v := ⟨_, rfl⟩
        rw [hv] at HC HFS
        have HV := Lib.hid hv
        clear hx hmem hv
        obtain ⟨x0, x1, x2, x3, x4, x5, x6, x7, x8, x9⟩ := x
        dsimp only [ruV] at *
        have b0 : ∀ o, (wr.alloc o).heap[w.heap.size + 1]? = _ := fun o => heap_push (heap_below HBR.out K3.out)
        have bb := fun o => cells11 (b0 o)
        have b1 := fun o => (bb o).1
        have b2 := fun o => (bb o).2.1
        have b3 := fun o => (bb o).2.2.1
        have b4 := fun o => (bb o).2.2.2.1
        have b5 := fun o => (bb o).2.2.2.2.1
        have b6 := fun o => (bb o).2.2.2.2.2.1
        have b7 := fun o => (bb o).2.2.2.2.2.2.1
        have b8 := fun o => (bb o).2.2.2.2.2.2.2.1
        have b9 := fun o => (bb o).2.2.2.2.2.2.2.2.1
        have b10 := fun o => (bb o).2.2.2.2.2.2.2.2.2.1
        have b11 := fun o => (bb o).2.2.2.2.2.2.2.2.2.2
        clear bb b0
        cases v
        · go_wp2_with fail
          refine (HC.out _).mono ?_
          rintro e w3 ⟨rfl, hb⟩
          have HB3 := Lib.hid (below_trans HBR.out (below_trans (below_alloc (Below.refl _ _) _) hb))
          clear hb
          go_wp2_with fail
          go_roundw
          case rel =>
            refine ⟨k + 1, by omega, fun j h hj => ?_, by go_num, HB3⟩
            by_cases hjk : j = k
            · subst hjk; rw [HX.out]; exact HV.out
            · exact HK.out j h (by omega)
          case measure => simp [intOf]; omega
        · go_wp2_with fail
          refine (HC.out _).mono ?_
          rintro e w3 ⟨rfl, hb⟩
          have HB3 := Lib.hid (below_trans HB2.out (below_trans HBR.out (below_trans (below_alloc (Below.refl _ _) _) hb)))
          clear hb
          go_wp2_with fail
          go_ret2
          exact ⟨.inr ⟨by rw [HP.out, HQ.out]; rfl, .inr ⟨k, hkl, by rw [HX.out]; exact HFS.out trivial, rfl⟩⟩, HB3.out⟩
      · obtain rfl : k = n := by omega
        go_wp2_with fail
        go_ret2
        exact ⟨.inr ⟨by rw [HP.out, HQ.out]; rfl, .inl ⟨find_none_of fun j h => HK.out j h (by rw [← HN.out]; exact h), rfl⟩⟩, below_trans HB2.out HBR.out⟩
set_option maxRecDepth 100000 in
set_option maxHeartbeats 4000000 in
theorem RIn_any (A B : Option Addr) (n c d m : Nat) (els : Bool) (rs : List Ru) (f : Fr) (w : World) (hr : RdRu w A rs) (hn : rs.length = n) (hc : n ≤ 9223372036854775807) (hw : ∀ r ∈ rs, RuWf r) (hf : FrIn f) (hm : f.data.length = m) :
    Calls Try.prog 73 #[.agg #[.slice A n c, .bool els], frv f (.slice B m d)] w fun e w' => e = .returned (.tuple #[.bool (bankOk rs && okF f && inR rs els f), errV (bankOk rs && okF f)]) ∧ Below w.heap.size w w' := by
  have HX := Lib.hid (fun W hW => RFind_any A B n c d m els rs f W hW hn hc hw hf hm)
  have HR := Lib.hid hr
  have HN := Lib.hid hn
  obtain ⟨v, hv⟩ : ∃ v, (bankOk rs && okF f) = v := ⟨_, rfl⟩
  obtain ⟨i, hi⟩ : ∃ i, inR rs els f = i := ⟨_, rfl⟩
  rw [hv, hi]
  have HV := Lib.hid hv
  have HII := Lib.hid hi
  have HL : Hid (∀ j (h : j < rs.length), firstR_ rs f = some rs[j] → rs[j].inn = i) := fun j h e => by
    rw [← hi]; unfold inR; rw [e]
  have HL2 : Hid (firstR_ rs f = none → els = i) := fun e => by rw [← hi]; unfold inR; rw [e]
  unfold FoundOf at HX
  rw [hv] at HX
  obtain ⟨fk, fi, fe, fr, fb, fs, fc, fd, fv, fa, l⟩ := f
  dsimp only [frv] at *
  clear hr hn hw hf hm hv hi
  go_enter Try.func73, Try.ntmps73
  go_wp2_with fail
  refine calls_blk2 fun W1 q1 q2 hb1 => ?_
  refine (HX.out _ (HR.out.below hb1)).mono ?_
  rintro e w1 ⟨he, hb⟩
  have HB1 := Lib.hid (below_trans hb1 hb)
  have c0 := cell_of_heap (heap_below hb q1) 0 _ rfl
  have c1 : w1.cell? ⟨w.heap.size, 1, none⟩ = some (.bool els) := cell_of_heap (heap_below hb q1) 1 _ rfl
  clear hb hb1 q1 q2
  rcases he with ⟨e1, rfl⟩ | ⟨e1, ⟨e2, rfl⟩ | ⟨k, hk, e2, rfl⟩⟩
  · subst e1
    clear c0 c1
    go_wp2_with fail
    go_ret2
    exact ⟨rfl, HB1.out⟩
  · subst e1
    have E := Lib.hid (HL2.out e2)
    clear e2
    go_wp2_with fail
    go_ret2
    exact ⟨by rw [E.out]; rfl, HB1.out⟩
  · subst e1
    have E := Lib.hid (HL.out k hk e2)
    obtain ⟨ad, hA, a0, a1, a2, a3, a4, a5, a6, a7, a8, a9⟩ := (HR.out.below HB1.out).at_ k hk (k * 10) rfl
    subst hA
    have hkn : k < n := by rw [← HN.out]; exact hk
    obtain ⟨x, hx⟩ : ∃ x, rs[k].inn = x := ⟨_, rfl⟩
    rw [hx] at a9 E
    have hE := E.out
    subst hE
    clear e2 a0 a1 a2 a3 a4 a5 a6 a7 a8 hx hk
    go_wp2_with fail
    go_ret2
    exact ⟨rfl, HB1.out⟩
end Go.Proofs.Ytlmdkmflbhnlgaa
