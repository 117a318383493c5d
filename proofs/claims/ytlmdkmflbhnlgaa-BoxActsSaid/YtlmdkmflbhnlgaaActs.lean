/- Acts on a box: how they read, and what they do. No condition. -/
import Derived.Test.YtlmdkmflbhnlgaaLawBoxF0
import Derived.Test.YtlmdkmflbhnlgaaBox8
namespace Go.Proofs.Ytlmdkmflbhnlgaa
open Go.RowKit
/-- An act. -/
structure Ac where
  kind : Int
  no : Int
  s : SF
def acL (a : Ac) : List Value := [.int .i64 a.kind, .int .i64 a.no, .int .i64 a.s.f.kind, .int .u32 a.s.f.id, .bool a.s.f.ext, .bool a.s.f.rtr, .bool a.s.f.brs, .bool a.s.f.esi, .bool a.s.f.sec, .int .u8 a.s.f.sdt, .int .u8 a.s.f.vcid, .int .u32 a.s.f.af, .slice a.s.A a.s.f.data.length a.s.c]
abbrev acV (a : Ac) : Value := .agg #[.int .i64 a.kind, .int .i64 a.no, .int .i64 a.s.f.kind, .int .u32 a.s.f.id, .bool a.s.f.ext, .bool a.s.f.rtr, .bool a.s.f.brs, .bool a.s.f.esi, .bool a.s.f.sec, .int .u8 a.s.f.sdt, .int .u8 a.s.f.vcid, .int .u32 a.s.f.af, .slice a.s.A a.s.f.data.length a.s.c]
theorem acL_length (a : Ac) : (acL a).length = 13 := rfl
/-- A slice of acts that reads. -/
def RdAc (w : World) (B : Option Addr) (acs : List Ac) : Prop := ∀ j (h : j < acs.length), ∃ ad, B = some ad ∧ ∀ k u, (acL acs[j])[k]? = some u → w.cell? ((ad.add (j * 13)).add k) = some u
theorem RdAc.below {w w' : World} {B : Option Addr} {acs : List Ac} (h : RdAc w B acs) (hb : Below w.heap.size w w') : RdAc w' B acs := fun j hj =>
  let ⟨ad, e, hc⟩ := h j hj
  ⟨ad, e, fun k u hk => Below.cell_of hb (hc k u hk)⟩
theorem RdAc.at_ {w : World} {B : Option Addr} {acs : List Ac} (h : RdAc w B acs) (j : Nat) (hj : j < acs.length) (n : Nat) (hn : n = j * 13) : ∃ ad, B = some ad ∧ w.cell? (ad.add n) = some (.int .i64 acs[j].kind) ∧ w.cell? ⟨(ad.add n).block, (ad.add n).off + 1, none⟩ = some (.int .i64 acs[j].no) ∧ w.cell? ⟨(ad.add n).block, (ad.add n).off + 2, none⟩ = some (.int .i64 acs[j].s.f.kind) ∧ w.cell? ⟨(ad.add n).block, (ad.add n).off + 3, none⟩ = some (.int .u32 acs[j].s.f.id) ∧ w.cell? ⟨(ad.add n).block, (ad.add n).off + 4, none⟩ = some (.bool acs[j].s.f.ext) ∧ w.cell? ⟨(ad.add n).block, (ad.add n).off + 5, none⟩ = some (.bool acs[j].s.f.rtr) ∧ w.cell? ⟨(ad.add n).block, (ad.add n).off + 6, none⟩ = some (.bool acs[j].s.f.brs) ∧ w.cell? ⟨(ad.add n).block, (ad.add n).off + 7, none⟩ = some (.bool acs[j].s.f.esi) ∧ w.cell? ⟨(ad.add n).block, (ad.add n).off + 8, none⟩ = some (.bool acs[j].s.f.sec) ∧ w.cell? ⟨(ad.add n).block, (ad.add n).off + 9, none⟩ = some (.int .u8 acs[j].s.f.sdt) ∧ w.cell? ⟨(ad.add n).block, (ad.add n).off + 10, none⟩ = some (.int .u8 acs[j].s.f.vcid) ∧ w.cell? ⟨(ad.add n).block, (ad.add n).off + 11, none⟩ = some (.int .u32 acs[j].s.f.af) ∧ w.cell? ⟨(ad.add n).block, (ad.add n).off + 12, none⟩ = some (.slice acs[j].s.A acs[j].s.f.data.length acs[j].s.c) := by
  subst hn
  obtain ⟨ad, e, hc⟩ := h j hj
  have h0 := hc 0 _ rfl
  have e0 : (ad.add (j * 13)).add 0 = ad.add (j * 13) := by simp [Addr.add]
  rw [e0] at h0
  exact ⟨ad, e, h0, hc 1 _ rfl, hc 2 _ rfl, hc 3 _ rfl, hc 4 _ rfl, hc 5 _ rfl, hc 6 _ rfl, hc 7 _ rfl, hc 8 _ rfl, hc 9 _ rfl, hc 10 _ rfl, hc 11 _ rfl, hc 12 _ rfl⟩
/-- What an act makes of a box. -/
def applyT (T : BX) (a : Ac) : BX :=
  if a.kind = 1 then goneT T a.no else if a.kind = 2 then T else if a.kind = 3 then sentT T a.no else if a.kind = 4 then comeT T a.s.f else if a.kind = 5 then takeT T else putT T a.s.f
theorem Acted.of {w w1 w' : World} {base N : Nat} {ft : List Nat} {b : Nat} {T : BX} (hb : Below w.heap.size w w1) (h : Acted w1 base N ft b T w') : Acted w base N ft b T w' := by
  obtain ⟨ft', h1, h2, h3⟩ := h
  exact ⟨ft', h1, fun k hk => (h2 k hk).imp id (fun h => Nat.le_trans hb.size h), (Turn.of hb).tr h3⟩
theorem Acted.same {w w' : World} {base N : Nat} {ft : List Nat} {b : Nat} {T : BX} (h : BoxA w base N ft b T) (hb : Below w.heap.size w w') : Acted w base (N + 1) ft b T w' :=
  ⟨ft, (h.below hb).mono (by omega), fun k hk => .inl hk, Turn.of hb⟩
set_option maxRecDepth 100000 in
set_option maxHeartbeats 16000000 in
theorem apply_any (w : World) (base N : Nat) (ft : List Nat) (b : Nat) (T : BX) (a : Ac) (W0 : World) (h : BoxA w base N ft b T) (hN : N ≤ 100000) (hbase : base ≤ w.heap.size) (hs : SFIn W0 a.s) (hW : Below W0.heap.size W0 w) (hlo : W0.heap.size ≤ base) :
    Calls Try.prog 28 #[.pointer (some ⟨b, 0, none⟩), acV a] w fun e w' => e = .returned (.tuple #[]) ∧ Acted w base (N + 1) ft b (applyT T a) w' := by
  have HA := Lib.hid h
  have HS := Lib.hid hs
  have HW := Lib.hid hW
  have hB : ∀ ad, a.s.A = some ad → bys a.s.f.data ≠ [] → ad.block ∉ ft := fun ad e hne hm => by
    have h1 := rdlt hs.rd ad e hne
    have h2 := h.foot.2.1 _ hm
    omega
  have HB := Lib.hid hB
  have HCA := Lib.hid (fun W hW => BoxCancel_any W base N ft b T a.no hW hN)
  have HDO := Lib.hid (fun W hW => BoxDone_any W base N ft b T a.no hW hN)
  obtain ⟨kc, hkc⟩ : ∃ kc : Int, (if hasQ a.no T.q then (0 : Int) else 9) = kc := ⟨_, rfl⟩
  rw [hkc] at HCA HDO
  clear hkc
  have HNE := Lib.hid (fun W hW => Next_any W base N ft b T hW)
  have HTK := Lib.hid (fun W hW hl => Take_any W base N ft b T hW (by omega) hl)
  have HCO := Lib.hid (fun W hW hl hr => Come_any W base N ft b a.s.c a.s.f.data.length a.s.A T a.s.f hW (by omega) hl hr hs.nz rfl hs.wf hB)
  have HPU := Lib.hid (fun W hW hl hr => Put_any W base N ft b a.s.c a.s.f.data.length a.s.A T a.s.f hW hN hl hr hs.nz rfl hs.wf hB)
  obtain ⟨T2, hT2⟩ : ∃ T2, applyT T a = T2 := ⟨_, rfl⟩
  rw [hT2]
  unfold applyT at hT2
  have HT2 := Lib.hid hT2
  obtain ⟨kind, no, ⟨f, A, c⟩⟩ := a
  dsimp only [acV, frv] at *
  clear h hs hW hB hT2
  by_cases k1 : kind = 1
  · subst k1
    go_enter Try.func28, Try.ntmps28
    go_wp2_with fail
    refine calls_blk1 fun W1 q1 hb1 => ?_
    refine (HCA.out W1 (HA.out.below hb1)).mono ?_
    rintro e w2 ⟨rfl, hact⟩
    have HACT := Lib.hid (Acted.of hb1 hact)
    clear q1 hb1 hact
    go_wp2_with fail
    go_end0
    have ht := HT2.out
    simp only [if_true] at ht
    subst ht
    exact ⟨rfl, HACT.out⟩
  by_cases k2 : kind = 2
  · subst k2
    clear k1
    go_enter Try.func28, Try.ntmps28
    go_wp2_with fail
    refine calls_blk1 fun W1 q1 hb1 => ?_
    refine (HNE.out W1 (HA.out.below hb1)).mono ?_
    rintro e w2 ⟨he, hb2⟩
    have HACT := Lib.hid (Acted.same HA.out (below_trans hb1 hb2))
    clear q1 hb1 hb2
    have hv : ∃ v, e = .returned v := by rcases he with ⟨_, rfl⟩ | ⟨_, _, _, _, _, rfl, _⟩ <;> exact ⟨_, rfl⟩
    obtain ⟨v, rfl⟩ := hv
    clear he
    go_wp2_with fail
    go_end0
    have ht := HT2.out
    simp at ht
    subst ht
    exact ⟨rfl, HACT.out⟩
  by_cases k3 : kind = 3
  · subst k3
    clear k1 k2
    go_enter Try.func28, Try.ntmps28
    go_wp2_with fail
    refine calls_blk1 fun W1 q1 hb1 => ?_
    refine (HDO.out W1 (HA.out.below hb1)).mono ?_
    rintro e w2 ⟨rfl, hact⟩
    have HACT := Lib.hid (Acted.of hb1 hact)
    clear q1 hb1 hact
    go_wp2_with fail
    go_end0
    have ht := HT2.out
    simp at ht
    subst ht
    exact ⟨rfl, HACT.out⟩
  by_cases k4 : kind = 4
  · subst k4
    clear k1 k2 k3
    go_enter Try.func28, Try.ntmps28
    go_wp2_with fail
    refine calls_blk1 fun W1 q1 hb1 => ?_
    refine (HCO.out W1 (HA.out.below hb1) (Nat.le_trans hbase hb1.size) ((HS.out.rd.below HW.out).below hb1)).mono ?_
    rintro e w2 ⟨rfl, hact⟩
    have HACT := Lib.hid (Acted.of hb1 hact)
    clear q1 hb1 hact
    go_wp2_with fail
    go_end0
    have ht := HT2.out
    simp at ht
    subst ht
    exact ⟨rfl, HACT.out⟩
  by_cases k5 : kind = 5
  · subst k5
    clear k1 k2 k3 k4
    go_enter Try.func28, Try.ntmps28
    go_wp2_with fail
    refine calls_blk1 fun W1 q1 hb1 => ?_
    refine (HTK.out W1 (HA.out.below hb1) (Nat.le_trans hbase hb1.size)).mono ?_
    rintro e w2 ⟨hact, he⟩
    have HACT := Lib.hid (Acted.of hb1 hact)
    clear q1 hb1 hact
    have hv : ∃ v, e = .returned v := by rcases he with ⟨_, rfl⟩ | ⟨_, _, _, _, _, rfl, _⟩ <;> exact ⟨_, rfl⟩
    obtain ⟨v, rfl⟩ := hv
    clear he
    go_wp2_with fail
    go_end0
    have ht := HT2.out
    simp at ht
    subst ht
    exact ⟨rfl, HACT.out⟩
  · have e1 : (kind == 1) = false := by simp [k1]
    have e2 : (kind == 2) = false := by simp [k2]
    have e3 : (kind == 3) = false := by simp [k3]
    have e4 : (kind == 4) = false := by simp [k4]
    have e5 : (kind == 5) = false := by simp [k5]
    have ht := HT2.out
    rw [if_neg k1, if_neg k2, if_neg k3, if_neg k4, if_neg k5] at ht
    subst ht
    clear k1 k2 k3 k4 k5
    go_enter Try.func28, Try.ntmps28
    go_wp2_with fail
    refine calls_blk1 fun W1 q1 hb1 => ?_
    refine (HPU.out W1 (HA.out.below hb1) (Nat.le_trans hbase hb1.size) ((HS.out.rd.below HW.out).below hb1)).mono ?_
    rintro e w2 ⟨rfl, hact⟩
    have HACT := Lib.hid (Acted.of hb1 hact)
    clear q1 hb1 hact
    go_wp2_with fail
    go_end0
    exact ⟨rfl, HACT.out⟩
/-- Are acts more than are looked at? -/
def GreatOf (w : World) (m : Nat) (e : Ending) (w' : World) : Prop := (∃ g, e = .returned (.bool g) ∧ (g = false → m ≤ 200)) ∧ Below w.heap.size w w'
set_option maxRecDepth 100000 in
set_option maxHeartbeats 4000000 in
theorem great_any (w : World) (out inn : Int) (A B : Option Addr) (n c m d : Nat) (els xl : Bool) (acs : List Ac) (hg : RdAc w B acs) (hm : acs.length = m) (hm2 : m ≤ 9223372036854775807) :
    Calls Try.prog 24 #[confV out inn A n c els xl, .slice B m d] w (GreatOf w m) := by
  have HG := Lib.hid hg
  have HM := Lib.hid hm
  clear hg hm
  dsimp only [confV]
  go_enter Try.func24, Try.ntmps24
  go_wp2_with fail
  have hb0 := below_alloc (Below.refl _ w) (.cells #[.int .i64 out, .int .i64 inn, .slice A n c, .bool els, .bool xl] 26)
  have HB0 := Lib.hid hb0
  have Q0 : Hid ((w.alloc (.cells #[.int .i64 out, .int .i64 inn, .slice A n c, .bool els, .bool xl] 26)).heap[w.heap.size]? = some (.cells #[.int .i64 out, .int .i64 inn, .slice A n c, .bool els, .bool xl] 26 (0, 0))) := heap_new_at rfl
  clear hb0
  go_loopw [10, 5] (fun v z wr => ∃ (k : Nat) (y : Int), k ≤ m ∧ v = .int .i64 k ∧ z = .int .i64 y ∧ Hid (wr.heap[w.heap.size]? = some (.cells #[.int .i64 out, .int .i64 inn, .slice A n c, .bool els, .bool xl] 26 (0, 0))) ∧ Hid (Below w.heap.size w wr)) (fun v _ _ => m - (intOf v).toNat)
  case atStart => exact ⟨0, 0, by omega, rfl, rfl, Q0, HB0⟩
  case round =>
    obtain ⟨k, y, hk, rfl, rfl, HQ, HB⟩ := hrel
    by_cases hkm : k < m
    · have hkl : k < acs.length := by rw [HM.out]; exact hkm
      obtain ⟨ad, rfl, a0, a1, a2, a3, a4, a5, a6, a7, a8, a9, a10, a11, a12⟩ := (HG.out.below HB.out).at_ k hkl (k * 13) rfl
      go_wp2_with fail
      go_roundw
      case rel => exact ⟨k + 1, _, by omega, by go_num, rfl, heap_push HQ.out, below_alloc HB.out _⟩
      case measure => simp [intOf]; omega
    · obtain rfl : k = m := by omega
      have c2 : wr.cell? ⟨w.heap.size, 2, none⟩ = some (.slice A n c) := cell_of_heap HQ.out 2 _ rfl
      go_wp2_with fail
      all_goals
        go_ret
        exact ⟨⟨_, rfl, by first | (intro h; simp at h; omega) | (intro h; cases h) | (intro _; omega)⟩, HB.out⟩
end Go.Proofs.Ytlmdkmflbhnlgaa
