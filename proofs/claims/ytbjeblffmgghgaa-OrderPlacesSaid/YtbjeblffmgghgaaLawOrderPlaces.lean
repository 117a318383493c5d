/- Each place is told once; keys rise, and of the same key places rise; the first one is First: the law OrderPlaces answers true. No condition. -/
import Derived.Test.YtbjeblffmgghgaaLawOrderRanks
import Derived.Test.YtbjeblffmgghgaaMapB
import Derived.Test.YtbjeblffmgghgaaLawOrderTurns
import Derived.Carry
namespace Go.Proofs.Ytbjeblffmgghgaa
open Go.RowKit
theorem RdFs.atE {w : World} {A : Option Addr} {fs : List Fr} (h : RdFs w A fs) (j : Nat) (hj : j < fs.length) (n : Nat) (hn : n = j * 11) : ∃ ad B c, A = some ad ∧
    (∀ e : Ext w, e.W.cell? (ad.add n) = some (.int .i64 fs[j].kind)) ∧ (∀ e : Ext w, e.W.cell? ⟨(ad.add n).block, (ad.add n).off + 1, none⟩ = some (.int .u32 fs[j].id)) ∧ (∀ e : Ext w, e.W.cell? ⟨(ad.add n).block, (ad.add n).off + 2, none⟩ = some (.bool fs[j].ext)) ∧
    (∀ e : Ext w, e.W.cell? ⟨(ad.add n).block, (ad.add n).off + 3, none⟩ = some (.bool fs[j].rtr)) ∧ (∀ e : Ext w, e.W.cell? ⟨(ad.add n).block, (ad.add n).off + 4, none⟩ = some (.bool fs[j].brs)) ∧ (∀ e : Ext w, e.W.cell? ⟨(ad.add n).block, (ad.add n).off + 5, none⟩ = some (.bool fs[j].esi)) ∧
    (∀ e : Ext w, e.W.cell? ⟨(ad.add n).block, (ad.add n).off + 6, none⟩ = some (.bool fs[j].sec)) ∧ (∀ e : Ext w, e.W.cell? ⟨(ad.add n).block, (ad.add n).off + 7, none⟩ = some (.int .u8 fs[j].sdt)) ∧ (∀ e : Ext w, e.W.cell? ⟨(ad.add n).block, (ad.add n).off + 8, none⟩ = some (.int .u8 fs[j].vcid)) ∧
    (∀ e : Ext w, e.W.cell? ⟨(ad.add n).block, (ad.add n).off + 9, none⟩ = some (.int .u32 fs[j].af)) ∧ (∀ e : Ext w, e.W.cell? ⟨(ad.add n).block, (ad.add n).off + 10, none⟩ = some (.slice B fs[j].data.length c)) := by
  obtain ⟨ad, B, c, e, h0, h1, h2, h3, h4, h5, h6, h7, h8, h9, h10⟩ := h.at_ j hj n hn
  exact ⟨ad, B, c, e, ext_cell h0, ext_cell h1, ext_cell h2, ext_cell h3, ext_cell h4, ext_cell h5, ext_cell h6, ext_cell h7, ext_cell h8, ext_cell h9, ext_cell h10⟩
/-- What the places are like, one by one. -/
structure PlacesC (fs : List Fr) (o : List Int) : Prop where
  len : o.length = fs.length
  each : ∀ k (h : k < o.length), ∃ j : Nat, j < fs.length ∧ o[k] = (j : Int)
  once : ∀ k (h : k < o.length), o[k] ∉ o.take k
  rise : ∀ k (h : k + 1 < o.length), ∃ j1 j2 : Nat, ∃ (h1 : j1 < fs.length) (h2 : j2 < fs.length), o[k] = (j1 : Int) ∧ o[k + 1] = (j2 : Int) ∧ cmpF fs[j1] fs[j2] ≤ 0 ∧ (cmpF fs[j1] fs[j2] = 0 → j1 ≤ j2)
theorem snd_inj {keys : Nat → Int} {n : Nat} {x y : En} (hx : x ∈ ents keys n) (hy : y ∈ ents keys n) (h : x.2 = y.2) : x = y := by
  obtain ⟨i, -, rfl⟩ := ents_mem hx
  obtain ⟨j, -, rfl⟩ := ents_mem hy
  dsimp only at h
  obtain rfl : i = j := by omega
  rfl
theorem ents_nodup (keys : Nat → Int) (n : Nat) : ((ents keys n).map (·.2)).Nodup := by
  have : (ents keys n).map (·.2) = (List.range n).map fun j : Nat => (j : Int) := by simp [ents]
  rw [this]
  exact List.pairwise_map.2 (List.nodup_range.imp (fun h e => h (by omega)))
theorem placesC (fs : List Fr) : PlacesC fs ((rkE fs).map (·.2)) := by
  have hR := rkE_ranked fs
  have hnd : ((rkE fs).map (·.2)).Nodup := ((hR.1.map (·.2)).nodup_iff).2 (ents_nodup _ _)
  refine ⟨by simp [rkE_length], fun k h => ?_, fun k h hm => ?_, fun k h => ?_⟩
  · rw [List.length_map] at h
    obtain ⟨j, hj, e⟩ := ents_mem (hR.1.mem_iff.1 (List.getElem_mem h))
    exact ⟨j, hj, by rw [List.getElem_map, e]⟩
  · obtain ⟨i, hi, e⟩ := List.getElem_of_mem hm
    rw [List.getElem_take] at e
    have hik : i < k := by simp at hi; omega
    exact List.pairwise_iff_getElem.1 hnd i k (by omega) h hik e
  · rw [List.length_map] at h
    obtain ⟨j1, h1, e1⟩ := ents_mem (hR.1.mem_iff.1 (List.getElem_mem (show k < (rkE fs).length by omega)))
    obtain ⟨j2, h2, e2⟩ := ents_mem (hR.1.mem_iff.1 (List.getElem_mem h))
    have hle := List.pairwise_iff_getElem.1 hR.2 k (k + 1) (by omega) h (by omega)
    rw [e1, e2] at hle
    refine ⟨j1, j2, h1, h2, by rw [List.getElem_map, e1], by rw [List.getElem_map, e2], ?_⟩
    rw [keysOf_at h1, keysOf_at h2] at hle
    unfold leE at hle
    dsimp only at hle
    unfold cmpF
    rw [cmpI_le, cmpI_zero]
    omega
set_option maxRecDepth 100000 in
set_option maxHeartbeats 8000000 in
theorem places_walk (fs : List Fr) (A : Option Addr) (n c : Nat) (w : World) (hr : RdFs w A fs) (hw : FsIn fs) (hn : fs.length = n) (hn63 : n ≤ 9223372036854775807) :
    Calls Try.prog 7 #[.slice A n c] w fun e w' => e = .returned (.bool true) ∧ Below w.heap.size w w' := by
  have HR := Lib.hid hr
  have HW := Lib.hid hw
  have HN := Lib.hid hn
  clear hr hw hn
  by_cases hc : n ≤ 60
  · cases hall : fs.all okF
    · have ho : outR fs = [] := by simp [outR, hall]
      have HF : Hid (firstR fs = 0 ∧ firstN fs = 2) := ⟨by simp [firstR, hall], by simp [firstN, hall]⟩
      have HO := Lib.hid ho
      have HALL := Lib.hid hall
      clear ho hall
      go_enter Try.func7, Try.ntmps7
      go_wp2_with fail
      refine (extc_same (alive10 _)).mono ?_
      rintro x _ ⟨e1, rfl, rfl⟩
      go_wp2_with fail
      refine (Rank_any e1.W A n c fs (HR.out.below e1.below) HW.out HN.out (by omega)).mono ?_
      rintro x w2 ⟨hb2, A2, c2, rfl, hr2⟩
      have B2 : Hid (Below w.heap.size w w2) := below_trans e1.below hb2
      clear hb2 hr2
      rw [HO.out, HALL.out]
      simp only [errV, Bool.false_eq_true, if_false, List.length_nil]
      go_wp2_with fail
      refine (First_any w2 A n c fs (HR.out.below B2.out) HW.out HN.out (by omega)).mono ?_
      rintro x w3 ⟨rfl, hb3⟩
      have B3 : Hid (Below w.heap.size w w3) := below_trans B2.out hb3
      clear hb3
      rw [HF.out.1, HF.out.2]
      go_wp2_with fail
      go_ret
      exact ⟨ret_bool (by simp), B3.out⟩
    · have ho : outR fs = (rkE fs).map (·.2) := by unfold outR; rw [hall, if_pos rfl]
      have hpc : PlacesC fs (outR fs) := by rw [ho]; exact placesC fs
      have HPC := Lib.hid hpc
      have hl : (outR fs).length = n := by rw [hpc.len]; exact HN.out
      have HALL := Lib.hid hall
      have hokf : ∀ j (h : j < fs.length), okF fs[j] = true := fun j h => List.all_eq_true.1 hall _ (List.getElem_mem h)
      have HOK := Lib.hid hokf
      by_cases h0 : n = 0
      · subst h0
        have HF : Hid (firstR fs = 0 ∧ firstN fs = 9) := by
          have : fs = [] := List.eq_nil_of_length_eq_zero HN.out
          subst this
          exact ⟨rfl, rfl⟩
        have HO := Lib.hid hl
        clear ho hpc hl hall hokf
        go_enter Try.func7, Try.ntmps7
        go_wp2_with fail
        refine (extc_same (alive10 _)).mono ?_
        rintro x _ ⟨e1, rfl, rfl⟩
        go_wp2_with fail
        refine (Rank_any e1.W A 0 c fs (HR.out.below e1.below) HW.out HN.out (by omega)).mono ?_
        rintro x w2 ⟨hb2, A2, c2, rfl, hr2⟩
        have B2 : Hid (Below w.heap.size w w2) := below_trans e1.below hb2
        clear hb2 hr2
        rw [HO.out, HALL.out]
        simp only [errV, if_true]
        go_wp2_with fail
        refine (First_any w2 A 0 c fs (HR.out.below B2.out) HW.out HN.out (by omega)).mono ?_
        rintro x w3 ⟨rfl, hb3⟩
        have B3 : Hid (Below w.heap.size w w3) := below_trans B2.out hb3
        clear hb3
        rw [HF.out.1, HF.out.2]
        go_wp2_with fail
        go_ret
        exact ⟨ret_bool (by simp), B3.out⟩
      · have HF : Hid ((outR fs)[0]? = some (firstR fs) ∧ firstN fs = 0) := by
          refine ⟨?_, by unfold firstN; rw [hall, if_pos rfl, if_neg (by rw [HN.out]; exact h0)]⟩
          have hlr : 0 < (rkE fs).length := by rw [rkE_length, HN.out]; omega
          unfold firstR
          rw [hall, if_pos rfl, ho, at_get hlr]
          simp [hlr]
        have HL := Lib.hid hl
        have hmm := @run_makeMap Try.prog 43
        clear ho hpc hl hall hokf
        obtain ⟨o, ho⟩ : ∃ o, outR fs = o := ⟨_, rfl⟩
        rw [ho] at HPC HF HL
        have HO := Lib.hid ho
        clear ho
        have hb0 : ((n : Int) == 0) = false := by simp; omega
        have hb1 : decide ((60 : Int) < (n : Int)) = false := decide_eq_false (by omega)
        go_enter Try.func7, Try.ntmps7
        go_wp2_with fail
        refine (extc_same (alive10 _)).mono ?_
        rintro x _ ⟨e1, rfl, rfl⟩
        go_wp2_with fail
        refine (Rank_any e1.W A n c fs (HR.out.below e1.below) HW.out HN.out (by omega)).mono ?_
        rintro x w2 ⟨hb2, A2, c2, rfl, hr2⟩
        have B2 : Hid (Below w.heap.size w w2) := below_trans e1.below hb2
        rw [HO.out] at hr2
        have R2 := Lib.hid hr2.rd
        clear hb2 hr2
        rw [HO.out, HALL.out, HL.out]
        simp only [errV, if_true]
        go_wp2_with fail
        refine (First_any w2 A n c fs (HR.out.below B2.out) HW.out HN.out (by omega)).mono ?_
        rintro x w3 ⟨rfl, hb3⟩
        have B3 : Hid (Below w.heap.size w w3) := below_trans B2.out hb3
        have R3 := Lib.hid (R2.out.below hb3)
        clear hb3
        rw [HF.out.2]
        have HF1 := Lib.hid HF.out.1
        clear HF
        generalize firstR fs = x0 at *
        go_wp2_with fail
        go_loopw [62] (fun v wr => ∃ (k : Nat) (S : List Int), k ≤ n ∧ v = .int .i64 k ∧ Hid (MapB wr w3.heap.size k S) ∧ Hid (∀ x, x ∈ S ↔ x ∈ o.take k) ∧ Hid (Below w3.heap.size w3 wr)) (fun v _ => n - (intOf v).toNat)
        case atStart => exact ⟨0, [], by omega, rfl, MapB.made _, by intro x; simp, below_alloc (Below.refl _ _) _⟩
        case round =>
          obtain ⟨k, S, hk, rfl, HM, HS, HB⟩ := hrel
          have HRW : Hid (Below w.heap.size w wr) := below_trans B3.out HB.out
          by_cases hkn : k < n
          · obtain ⟨j, hj, hoj⟩ := HPC.out.each k (by rw [HL.out]; exact hkn)
            have hjn : j < n := by rw [← HN.out]; exact hj
            obtain ⟨ad, rfl, ca⟩ := (R3.out.below HB.out) k (.int .i64 (j : Int)) (by simp [ins, HL.out, hkn, hoj])
            have hnot : decide ((j : Int) ∈ S) = false := decide_eq_false (by rw [HS.out, ← hoj]; exact HPC.out.once k (by rw [HL.out]; exact hkn))
            have hlook := HM.out.lookup (x := (j : Int)) (by omega) (by omega)
            rw [hnot] at hlook
            have HS' : Hid (∀ x, x ∈ ((j : Int) :: S) ↔ x ∈ o.take (k + 1)) := by
              intro x
              rw [List.take_succ_eq_append_getElem (by rw [HL.out]; exact hkn), List.mem_append, List.mem_singleton, List.mem_cons, HS.out, hoj]
              constructor
              · rintro (h | h)
                · exact .inr h
                · exact .inl h
              · rintro (h | h)
                · exact .inr h
                · exact .inl h
            have g1 : decide ((j : Int) < 0) = false := decide_eq_false (by omega)
            have g2 : decide ((n : Int) ≤ (j : Int)) = false := decide_eq_false (by omega)
            clear hnot
            by_cases hk0 : k = 0
            · subst hk0
              have ca' : wr.cell? ad = some (.int .i64 (j : Int)) := by simpa [Addr.add] using ca
              go_wp2_with (at_mapUpdate; refine wpList_putB rfl _ _ _ rfl w3.heap.size 0 S rfl HM.out (by omega) (j : Int) rfl rfl (by omega) (by omega) ?_; intro w5 hm5 hg5; have HM5 := Lib.hid hm5; have HB5 : Hid (Below w3.heap.size w3 w5) := HB.out.grown hg5 HB.out.size (fun q hq => by injection hq with e; omega); clear hm5 hg5)
              go_roundw
              case rel => exact ⟨1, (j : Int) :: S, by omega, by go_num, HM5, HS', HB5⟩
              case measure => simp [intOf]; omega
            · obtain ⟨q, rfl⟩ : ∃ q, k = q + 1 := ⟨k - 1, by omega⟩
              obtain ⟨j1, j2, h1, h2, hq1, hq2, hcmp, htie⟩ := HPC.out.rise q (by rw [HL.out]; exact hkn)
              obtain rfl : j = j2 := by rw [hoj] at hq2; omega
              obtain ⟨ad', e, cq⟩ := (R3.out.below HB.out) q (.int .i64 (j1 : Int)) (by simp [ins, HL.out, show q < n by omega, hq1])
              obtain rfl : ad = ad' := by injection e
              have h1n : j1 < n := by rw [← HN.out]; exact h1
              obtain ⟨w10, w11⟩ := HW.out _ (List.getElem_mem h1)
              obtain ⟨w20, w21⟩ := HW.out _ (List.getElem_mem h2)
              have hCC := fun (B1 B2 : Option Addr) (d1 d2 : Nat) (W : World) => Compare_any fs[j1] fs[j] B1 B2 d1 d2 W w11 w21 w10 w20
              rw [HOK.out j1 h1, HOK.out j h2] at hCC
              simp only [Bool.and_self, if_true, errV] at hCC
              generalize cmpF fs[j1] fs[j] = v at *
              have HC := Lib.hid hCC
              have HX := Lib.hid (And.intro h1 h2)
              have HQ := Lib.hid (show (ins o)[q]? = some (.int .i64 (j1 : Int)) by simp [ins, HL.out, show q < n by omega, hq1])
              clear hCC w10 w11 w20 w21 e hq1 hq2 cq
              have ca2 : wr.cell? ⟨ad.block, ad.off + (q + 1), none⟩ = some (.int .i64 (j : Int)) := by simpa [Addr.add] using ca
              clear ca
              go_wp2_with (at_mapUpdate; refine wpList_putB rfl _ _ _ rfl w3.heap.size (q + 1) S rfl HM.out (by omega) (j : Int) rfl rfl (by omega) (by omega) ?_; intro w5 hm5 hg5; have HM5 := Lib.hid hm5; have HB5 : Hid (Below w3.heap.size w3 w5) := HB.out.grown hg5 HB.out.size (fun q hq => by injection hq with e; omega); clear hm5 hg5)
              have HW5 : Hid (Below w.heap.size w w5) := below_trans B3.out HB5.out
              obtain ⟨fd1, Ba, ca1, ea, a0, a1, a2, a3, a4, a5, a6, a7, a8, a9, a10⟩ := (HR.out.below HW5.out).atE j1 HX.out.1 (j1 * 11) rfl
              obtain ⟨fd2, Bb, cb1, eb, b0, b1, b2, b3, b4, b5, b6, b7, b8, b9, b10⟩ := (HR.out.below HW5.out).atE j HX.out.2 (j * 11) rfl
              subst ea
              obtain rfl : fd1 = fd2 := by injection eb
              obtain ⟨ad', ead, cq5'⟩ := (R3.out.below HB5.out) q _ HQ.out
              obtain rfl : ad = ad' := by injection ead
              have cq5 := fun e : Ext w5 => ext_cell cq5' e
              have HC5 := Lib.hid (HC.out Ba Bb ca1 cb1)
              clear cq5' ead eb HC
              generalize fs[j1] = f at *
              generalize fs[j] = f' at *
              obtain ⟨fk, fi, fe, fr, f4, f5, f6, f7, f8, f9, fdt⟩ := f
              obtain ⟨gk, gi, ge, gr, g4, g5, g6, g7, g8, g9, gdt⟩ := f'
              dsimp only [frv] at *
              generalize fdt.length = fm at *
              generalize gdt.length = gm at *
              have hv1 : decide ((0 : Int) < v) = false := decide_eq_false (by omega)
              by_cases hv : v = 0
              · subst hv
                have hjj := htie rfl
                have hv2 : decide ((j : Int) < (j1 : Int)) = false := decide_eq_false (by omega)
                refine wp_region_ext (by kernel_rfl) (by kernel_rfl) ?_
                repeat (go_big_quiet_step (first | (go_at_call 18; exact ecall (HC5.out _))))
                refine wpQuiet_nil ?_
                rintro w6 ⟨⟨_, hb6⟩, rfl⟩
                have cq6 : w6.cell? (ad.add q) = some (.int .i64 (j1 : Int)) := cq5 ⟨w6, hb6⟩
                have HB6 : Hid (Below w3.heap.size w3 w6) := below_trans HB5.out hb6
                have HM6 := Lib.hid (HM5.out.kept hb6)
                clear hb6
                go_wp2_with fail
                go_roundw
                case rel => exact ⟨q + 1 + 1, (j : Int) :: S, by omega, by go_num, HM6, HS', HB6⟩
                case measure => simp [intOf]; omega
              · have hv3 : (v == 0) = false := by simpa using hv
                refine wp_region_ext (by kernel_rfl) (by kernel_rfl) ?_
                repeat (go_big_quiet_step (first | (go_at_call 18; exact ecall (HC5.out _))))
                refine wpQuiet_nil ?_
                rintro w6 ⟨⟨_, hb6⟩, rfl⟩
                have HB6 : Hid (Below w3.heap.size w3 w6) := below_trans HB5.out hb6
                have HM6 := Lib.hid (HM5.out.kept hb6)
                clear hb6
                go_wp2_with fail
                go_roundw
                case rel => exact ⟨q + 1 + 1, (j : Int) :: S, by omega, by go_num, HM6, HS', HB6⟩
                case measure => simp [intOf]; omega
          · obtain rfl : k = n := by omega
            have hx0 := HF1.out
            obtain ⟨ad, rfl, ca⟩ := (R3.out.below HB.out) 0 (.int .i64 x0) (by
              have h0l : 0 < o.length := by rw [HL.out]; omega
              rw [List.getElem?_eq_getElem h0l] at hx0
              injection hx0 with hx0
              simp [ins, h0l, hx0])
            have ca' : wr.cell? ad = some (.int .i64 x0) := by simpa [Addr.add] using ca
            go_wp2_with fail
            go_ret
            exact ⟨ret_bool (by simp), HRW.out⟩
  · have hc2 : 60 < n := by omega
    clear hc
    go_enter Try.func7, Try.ntmps7
    go_wp2_with fail
    refine (extc_same (alive10 _)).mono ?_
    rintro x _ ⟨e1, rfl, rfl⟩
    go_wp2_with fail
    go_ret
    exact ⟨rfl, e1.below⟩
end Go.Proofs.Ytbjeblffmgghgaa
