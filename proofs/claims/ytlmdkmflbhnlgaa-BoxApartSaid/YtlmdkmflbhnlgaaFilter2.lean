/- filter.Find, filter.In: the first rule that is of a frame, and whether it comes in. No condition. -/
import Derived.Test.YtlmdkmflbhnlgaaFilter1
import Derived.Test.YtlmdkmflbhnlgaaPOk
namespace Go.Proofs.Ytlmdkmflbhnlgaa
open Go.RowKit
/-- What the walks ask of a frame's numbers. -/
structure FrIn (f : Fr) : Prop where
  id0 : 0 ≤ f.id
  id1 : f.id < 4294967296
  sdt0 : 0 ≤ f.sdt
  sdt1 : f.sdt < 256
  vcid0 : 0 ≤ f.vcid
  vcid1 : f.vcid < 256
  af0 : 0 ≤ f.af
  af1 : f.af < 4294967296
  data : isBytes f.data
  len : f.data.length ≤ 9223372036854775807
/-- The first rule that is of a frame. -/
def firstR_ (rs : List Ru) (f : Fr) : Option Ru := rs.find? fun r => ofR r f
theorem find_none_of {rs : List Ru} {f : Fr} (h : ∀ j (h : j < rs.length), ofR rs[j] f = false) : firstR_ rs f = none := by
  unfold firstR_
  rw [List.find?_eq_none]
  intro x hx
  obtain ⟨j, hj, rfl⟩ := List.getElem_of_mem hx
  rw [h j hj]; simp
theorem find_some_of {rs : List Ru} {f : Fr} {k : Nat} (hk : k < rs.length) (h : ∀ j (h : j < rs.length), j < k → ofR rs[j] f = false) (ho : ofR rs[k] f = true) : firstR_ rs f = some rs[k] := by
  obtain ⟨y, hy⟩ : ∃ y, rs[k] = y := ⟨_, rfl⟩
  rw [hy] at ho ⊢
  unfold firstR_
  have e : rs = rs.take k ++ y :: rs.drop (k + 1) := by rw [← hy, ← List.drop_eq_getElem_cons hk, List.take_append_drop]
  rw [e, List.find?_append]
  have h0 : (rs.take k).find? (fun r => ofR r f) = none := by
    rw [List.find?_eq_none]
    intro x hx
    obtain ⟨j, hj, rfl⟩ := List.getElem_of_mem hx
    simp only [List.length_take] at hj
    rw [List.getElem_take, h j (by omega) (by omega)]; simp
  rw [h0]
  simp [ho]
/-- What filter.Find answers. -/
def FoundOf (rs : List Ru) (f : Fr) (e : Ending) (w w' : World) : Prop :=
  ((bankOk rs && okF f) = false ∧ e = .returned (.tuple #[.int .i64 0, .int .i64 2]) ∨
    (bankOk rs && okF f) = true ∧ ((firstR_ rs f = none ∧ e = .returned (.tuple #[.int .i64 0, .int .i64 9])) ∨ ∃ (k : Nat) (h : k < rs.length), firstR_ rs f = some rs[k] ∧ e = .returned (.tuple #[.int .i64 k, .int .i64 0]))) ∧ Below w.heap.size w w'
set_option maxRecDepth 100000 in
set_option maxHeartbeats 4000000 in
theorem Find_any (A B : Option Addr) (n c d m : Nat) (els : Bool) (rs : List Ru) (f : Fr) (w : World) (hr : RdRu w A rs) (hn : rs.length = n) (hc : n ≤ 9223372036854775807) (hw : ∀ r ∈ rs, RuWf r) (hf : FrIn f) (hm : f.data.length = m) :
    Calls Try.prog 34 #[.agg #[.slice A n c, .bool els], frv f (.slice B m d)] w (FoundOf rs f · w ·) := by
  have HB := Lib.hid (fun W hW => FCheck_any A n c els rs W hW hn hc)
  have HF := Lib.hid (fun W => Check_any f B d W hf.len)
  have HR := Lib.hid hr
  have HN := Lib.hid hn
  have HW := Lib.hid hw
  have HO := Lib.hid hf
  obtain ⟨p, hp⟩ : ∃ p, bankOk rs = p := ⟨_, rfl⟩
  obtain ⟨q, hq⟩ : ∃ q, okF f = q := ⟨_, rfl⟩
  rw [hp] at HB
  rw [hq, hm] at HF
  have HP := Lib.hid hp
  have HQ := Lib.hid hq
  have HL := Lib.hid (fun (h : okF f = true) => ((okF_iff f).1 h).kind)
  obtain ⟨fk, fi, fe, fr, fb, fs, fc, fd, fv, fa, l⟩ := f
  dsimp only [frv] at *
  clear hr hn hw hf hp hq hm
  cases p
  · go_enter Try.func34, Try.ntmps34
    go_wp2_with fail
    refine calls_blk2 fun W1 q1 q2 hb1 => ?_
    have g1 := HR.out.below hb1
    refine (HB.out _ g1).mono ?_
    rintro e w1 ⟨rfl, hb⟩
    have HB1 := Lib.hid (below_trans hb1 hb)
    clear hb hb1 q1 q2 g1
    simp only [errV]
    go_wp2_with fail
    go_ret2
    exact ⟨.inl ⟨by rw [HP.out]; rfl, rfl⟩, HB1.out⟩
  cases q
  · go_enter Try.func34, Try.ntmps34
    go_wp2_with fail
    refine calls_blk2 fun W1 q1 q2 hb1 => ?_
    refine (HB.out _ (HR.out.below hb1)).mono ?_
    rintro e w1 ⟨rfl, hb⟩
    obtain ⟨a0, a1, a2, a3, a4, a5, a6, a7, a8, a9, a10⟩ := cells11 (heap_below hb q2)
    have HB1 := Lib.hid (below_trans hb1 hb)
    clear hb hb1 q1 q2
    simp only [errV]
    go_wp2_with fail
    refine (HF.out _).mono ?_
    rintro e w2 ⟨rfl, hb⟩
    have HB2 := Lib.hid (below_trans HB1.out hb)
    clear hb
    simp only [errV]
    go_wp2_with fail
    go_ret2
    exact ⟨.inl ⟨by rw [HP.out, HQ.out]; rfl, rfl⟩, HB2.out⟩
  · have hk := HL.out HQ.out
    have HOF := fun r hr1 hr2 s W => of_any r ⟨fk, fi, fe, fr, fb, fs, fc, fd, fv, fa, l⟩ s W hr1 hk hr2 HO.out.id0 HO.out.id1 HO.out.af0 HO.out.af1 HO.out.sdt0 HO.out.sdt1 HO.out.vcid0 HO.out.vcid1
    have HALL : Hid (∀ r ∈ rs, mayR r = true) := by
      have := HP.out
      unfold bankOk at this
      simp only [Bool.and_eq_true, List.all_eq_true] at this
      exact this.2
    have HOK := Lib.hid HOF
    dsimp only [frv] at *
    have hn32 : n ≤ 32 := by
      have := HP.out
      unfold bankOk at this
      rw [HN.out] at this
      simp only [Bool.and_eq_true, decide_eq_true_eq] at this
      exact this.1
    clear hk HOF
    go_enter Try.func34, Try.ntmps34
    go_wp2_with fail
    refine calls_blk2 fun W1 q1 q2 hb1 => ?_
    refine (HB.out _ (HR.out.below hb1)).mono ?_
    rintro e w1 ⟨rfl, hb⟩
    obtain ⟨a0, a1, a2, a3, a4, a5, a6, a7, a8, a9, a10⟩ := cells11 (heap_below hb q2)
    have K1 := Lib.hid (heap_below hb q1)
    have K2 := Lib.hid (heap_below hb q2)
    have HB1 := Lib.hid (below_trans hb1 hb)
    clear hb hb1 q1 q2
    simp only [errV]
    go_wp2_with fail
    refine (HF.out _).mono ?_
    rintro e w2 ⟨rfl, hb⟩
    have HB2 := Lib.hid (below_trans HB1.out hb)
    have c1 := cell_of_heap (heap_below hb K1.out) 0 _ rfl
    have K3 := Lib.hid (heap_below hb K2.out)
    clear hb a0 a1 a2 a3 a4 a5 a6 a7 a8 a9 a10
    simp only [errV]
    go_wp2_with fail
    clear c1
    go_loopw [20] (fun iv wr => ∃ k : Nat, k ≤ n ∧ Hid (∀ j (h : j < rs.length), j < k → ofR rs[j] ⟨fk, fi, fe, fr, fb, fs, fc, fd, fv, fa, l⟩ = false) ∧ iv = .int .i64 k ∧ Hid (Below w2.heap.size w2 wr)) (fun iv _ => n - (intOf iv).toNat)
    case atStart => exact ⟨0, by omega, fun j _ h => absurd h (by omega), rfl, Below.refl _ _⟩
    case round =>
      obtain ⟨k, hk, HK, rfl, HBR⟩ := hrel
      by_cases hkn : k < n
      · have hkl : k < rs.length := by rw [HN.out]; exact hkn
        obtain ⟨ad, rfl, a0, a1, a2, a3, a4, a5, a6, a7, a8, a9⟩ := ((HR.out.below HB2.out).below HBR.out).at_ k hkl (k * 10) rfl
        have hmem : rs[k] ∈ rs := List.getElem_mem hkl
        have HFS := Lib.hid (find_some_of hkl HK.out)
        obtain ⟨x, hx⟩ : ∃ x, rs[k] = x := ⟨_, rfl⟩
        rw [hx] at a0 a1 a2 a3 a4 a5 a6 a7 a8 a9 hmem HFS
        have HX := Lib.hid hx
        have HC := Lib.hid (HOK.out x (HALL.out x hmem) (HW.out x hmem) (.slice B m d))
        obtain ⟨v, hv⟩ : ∃ v, ofR x ⟨fk, fi, fe, fr, fb, fs, fc, fd, fv, fa, l⟩ = v := ⟨_, rfl⟩
        rw [hv] at HC HFS
        have HV := Lib.hid hv
        clear hx hmem hv
        obtain ⟨x0, x1, x2, x3, x4, x5, x6, x7, x8, x9⟩ := x
        dsimp only [ruV] at *
        have b0 : ∀ o, (wr.alloc o).heap[w.heap.size + 1]? = _ := fun o => heap_push (heap_below HBR.out K3.out)
        have bb := fun o => cells11 (b0 o)
        have b1 := fun o => (bb o).1
        have b2 := fun o => (bb o).2.1
        have b3 := fun o => (bb o).2.2.1
        have b4 := fun o => (bb o).2.2.2.1
        have b5 := fun o => (bb o).2.2.2.2.1
        have b6 := fun o => (bb o).2.2.2.2.2.1
        have b7 := fun o => (bb o).2.2.2.2.2.2.1
        have b8 := fun o => (bb o).2.2.2.2.2.2.2.1
        have b9 := fun o => (bb o).2.2.2.2.2.2.2.2.1
        have b10 := fun o => (bb o).2.2.2.2.2.2.2.2.2.1
        have b11 := fun o => (bb o).2.2.2.2.2.2.2.2.2.2
        clear bb b0
        cases v
        · go_wp2_with fail
          refine (HC.out _).mono ?_
          rintro e w3 ⟨rfl, hb⟩
          have HB3 := Lib.hid (below_trans HBR.out (below_trans (below_alloc (Below.refl _ _) _) hb))
          clear hb
          go_wp2_with fail
          go_roundw
          case rel =>
            refine ⟨k + 1, by omega, fun j h hj => ?_, by go_num, HB3⟩
            by_cases hjk : j = k
            · subst hjk; rw [HX.out]; exact HV.out
            · exact HK.out j h (by omega)
          case measure => simp [intOf]; omega
        · go_wp2_with fail
          refine (HC.out _).mono ?_
          rintro e w3 ⟨rfl, hb⟩
          have HB3 := Lib.hid (below_trans HB2.out (below_trans HBR.out (below_trans (below_alloc (Below.refl _ _) _) hb)))
          clear hb
          go_wp2_with fail
          go_ret2
          exact ⟨.inr ⟨by rw [HP.out, HQ.out]; rfl, .inr ⟨k, hkl, by rw [HX.out]; exact HFS.out trivial, rfl⟩⟩, HB3.out⟩
      · obtain rfl : k = n := by omega
        go_wp2_with fail
        go_ret2
        exact ⟨.inr ⟨by rw [HP.out, HQ.out]; rfl, .inl ⟨find_none_of fun j h => HK.out j h (by rw [← HN.out]; exact h), rfl⟩⟩, below_trans HB2.out HBR.out⟩
/-- Does a frame come in? -/
def inR (rs : List Ru) (els : Bool) (f : Fr) : Bool := match firstR_ rs f with | some r => r.inn | none => els
set_option maxRecDepth 100000 in
set_option maxHeartbeats 4000000 in
theorem In_any (A B : Option Addr) (n c d m : Nat) (els : Bool) (rs : List Ru) (f : Fr) (w : World) (hr : RdRu w A rs) (hn : rs.length = n) (hc : n ≤ 9223372036854775807) (hw : ∀ r ∈ rs, RuWf r) (hf : FrIn f) (hm : f.data.length = m) :
    Calls Try.prog 13 #[.agg #[.slice A n c, .bool els], frv f (.slice B m d)] w fun e w' => e = .returned (.tuple #[.bool (bankOk rs && okF f && inR rs els f), errV (bankOk rs && okF f)]) ∧ Below w.heap.size w w' := by
  have HX := Lib.hid (fun W hW => Find_any A B n c d m els rs f W hW hn hc hw hf hm)
  have HR := Lib.hid hr
  have HN := Lib.hid hn
  obtain ⟨v, hv⟩ : ∃ v, (bankOk rs && okF f) = v := ⟨_, rfl⟩
  obtain ⟨i, hi⟩ : ∃ i, inR rs els f = i := ⟨_, rfl⟩
  rw [hv, hi]
  have HV := Lib.hid hv
  have HII := Lib.hid hi
  have HL : Hid (∀ j (h : j < rs.length), firstR_ rs f = some rs[j] → rs[j].inn = i) := fun j h e => by
    rw [← hi]; unfold inR; rw [e]
  have HL2 : Hid (firstR_ rs f = none → els = i) := fun e => by rw [← hi]; unfold inR; rw [e]
  unfold FoundOf at HX
  rw [hv] at HX
  obtain ⟨fk, fi, fe, fr, fb, fs, fc, fd, fv, fa, l⟩ := f
  dsimp only [frv] at *
  clear hr hn hw hf hm hv hi
  go_enter Try.func13, Try.ntmps13
  go_wp2_with fail
  refine calls_blk2 fun W1 q1 q2 hb1 => ?_
  refine (HX.out _ (HR.out.below hb1)).mono ?_
  rintro e w1 ⟨he, hb⟩
  have HB1 := Lib.hid (below_trans hb1 hb)
  have c0 := cell_of_heap (heap_below hb q1) 0 _ rfl
  have c1 : w1.cell? ⟨w.heap.size, 1, none⟩ = some (.bool els) := cell_of_heap (heap_below hb q1) 1 _ rfl
  clear hb hb1 q1 q2
  rcases he with ⟨e1, rfl⟩ | ⟨e1, ⟨e2, rfl⟩ | ⟨k, hk, e2, rfl⟩⟩
  · subst e1
    clear c0 c1
    go_wp2_with fail
    go_ret2
    exact ⟨rfl, HB1.out⟩
  · subst e1
    have E := Lib.hid (HL2.out e2)
    clear e2
    go_wp2_with fail
    go_ret2
    exact ⟨by rw [E.out]; rfl, HB1.out⟩
  · subst e1
    have E := Lib.hid (HL.out k hk e2)
    obtain ⟨ad, hA, a0, a1, a2, a3, a4, a5, a6, a7, a8, a9⟩ := (HR.out.below HB1.out).at_ k hk (k * 10) rfl
    subst hA
    have hkn : k < n := by rw [← HN.out]; exact hk
    obtain ⟨x, hx⟩ : ∃ x, rs[k].inn = x := ⟨_, rfl⟩
    rw [hx] at a9 E
    have hE := E.out
    subst hE
    clear e2 a0 a1 a2 a3 a4 a5 a6 a7 a8 hx hk
    go_wp2_with fail
    go_ret2
    exact ⟨rfl, HB1.out⟩
end Go.Proofs.Ytlmdkmflbhnlgaa
