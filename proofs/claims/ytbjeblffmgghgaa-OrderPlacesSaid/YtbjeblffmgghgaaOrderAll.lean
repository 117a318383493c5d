/- order.all: the heap of some frames' keys. No condition. -/
import Derived.Test.YtbjeblffmgghgaaHeap4
namespace Go.Proofs.Ytbjeblffmgghgaa
open Go.RowKit
/-- A slice of frames that reads. -/
def RdFs (w : World) (A : Option Addr) (fs : List Fr) : Prop :=
  ∀ j (h : j < fs.length), ∃ ad B c, A = some ad ∧ ∀ k u, [Value.int .i64 fs[j].kind, .int .u32 fs[j].id, .bool fs[j].ext, .bool fs[j].rtr, .bool fs[j].brs, .bool fs[j].esi, .bool fs[j].sec, .int .u8 fs[j].sdt, .int .u8 fs[j].vcid, .int .u32 fs[j].af, .slice B fs[j].data.length c][k]? = some u →
    w.cell? ((ad.add (j * 11)).add k) = some u
/-- What the walks ask of the frames' numbers. -/
def FsIn (fs : List Fr) : Prop := ∀ f ∈ fs, 0 ≤ f.id ∧ f.data.length ≤ 9223372036854775807
theorem RdFs.at_ {w : World} {A : Option Addr} {fs : List Fr} (h : RdFs w A fs) (j : Nat) (hj : j < fs.length) (n : Nat) (hn : n = j * 11) : ∃ ad B c, A = some ad ∧
    w.cell? (ad.add n) = some (.int .i64 fs[j].kind) ∧ w.cell? ⟨(ad.add n).block, (ad.add n).off + 1, none⟩ = some (.int .u32 fs[j].id) ∧ w.cell? ⟨(ad.add n).block, (ad.add n).off + 2, none⟩ = some (.bool fs[j].ext) ∧ w.cell? ⟨(ad.add n).block, (ad.add n).off + 3, none⟩ = some (.bool fs[j].rtr) ∧
    w.cell? ⟨(ad.add n).block, (ad.add n).off + 4, none⟩ = some (.bool fs[j].brs) ∧ w.cell? ⟨(ad.add n).block, (ad.add n).off + 5, none⟩ = some (.bool fs[j].esi) ∧ w.cell? ⟨(ad.add n).block, (ad.add n).off + 6, none⟩ = some (.bool fs[j].sec) ∧ w.cell? ⟨(ad.add n).block, (ad.add n).off + 7, none⟩ = some (.int .u8 fs[j].sdt) ∧
    w.cell? ⟨(ad.add n).block, (ad.add n).off + 8, none⟩ = some (.int .u8 fs[j].vcid) ∧ w.cell? ⟨(ad.add n).block, (ad.add n).off + 9, none⟩ = some (.int .u32 fs[j].af) ∧ w.cell? ⟨(ad.add n).block, (ad.add n).off + 10, none⟩ = some (.slice B fs[j].data.length c) := by
  subst hn
  obtain ⟨ad, B, c, e, hc⟩ := h j hj
  have h0 := hc 0 _ rfl
  have e0 : (ad.add (j * 11)).add 0 = ad.add (j * 11) := by simp [Addr.add]
  rw [e0] at h0
  exact ⟨ad, B, c, e, h0, hc 1 _ rfl, hc 2 _ rfl, hc 3 _ rfl, hc 4 _ rfl, hc 5 _ rfl, hc 6 _ rfl, hc 7 _ rfl, hc 8 _ rfl, hc 9 _ rfl, hc 10 _ rfl⟩
theorem RdFs.below {w w' : World} {A : Option Addr} {fs : List Fr} (h : RdFs w A fs) (hb : Below w.heap.size w w') : RdFs w' A fs := fun j hj =>
  let ⟨ad, B, c, e, hc⟩ := h j hj
  ⟨ad, B, c, e, fun k u hk => Below.cell_of hb (hc k u hk)⟩
def keysOf (fs : List Fr) (j : Nat) : Int := match fs[j]? with | some f => keyF f | none => 0
theorem keysOf_at {fs : List Fr} {j : Nat} (h : j < fs.length) : keysOf fs j = keyF fs[j] := by unfold keysOf; rw [List.getElem?_eq_getElem h]
/-- What order.all answers and leaves. -/
def AllOf (e : Ending) (w w' : World) (fs : List Fr) : Prop :=
  Below w.heap.size w w' ∧ ((fs.all okF = false ∧ e = .returned (.tuple #[.pointer none, .int .i64 2])) ∨
    (fs.all okF = true ∧ ∃ b l, e = .returned (.tuple #[.pointer (some ⟨b, 0, none⟩), .int .i64 0]) ∧ HeapOf w' w.heap.size b l ∧ l.Perm (ents (keysOf fs) fs.length)))
theorem HeapOf.below {w w' : World} {base b : Nat} {l : List En} (h : HeapOf w base b l) (hb : Below w.heap.size w w') : HeapOf w' base b l := by
  obtain ⟨⟨g, cap, hs⟩, hh⟩ := h
  exact ⟨⟨g, cap, hs.below hb⟩, hh⟩
theorem heap_new (w : World) : HeapOf ((w.alloc (.cells #[] 90)).alloc (.cells #[.slice (some ⟨w.heap.size, 0, none⟩) 0 0] 94)) w.heap.size (w.heap.size + 1) [] := by
  refine ⟨⟨w.heap.size, 0, heap_new_at (by simp), by omega, Nat.le_refl _, by omega, ?_⟩, fun k k0 kn => by simp at kn⟩
  refine ⟨rfl, .inr ⟨w.heap.size, 0, #[], rfl, Nat.le_refl _, heap_push (heap_new_at rfl), Nat.le_refl _, by unfold maxLen; omega, rfl, rfl⟩⟩
set_option maxRecDepth 100000 in
set_option maxHeartbeats 4000000 in
theorem all_any (w : World) (A : Option Addr) (n c : Nat) (fs : List Fr) (hr : RdFs w A fs) (hw : FsIn fs) (hn : fs.length = n) (hc : n ≤ 900) :
    Calls Try.prog 52 #[.slice A n c] w fun e w' => AllOf e w w' fs := by
  have HR := Lib.hid hr
  have HW := Lib.hid hw
  have HN := Lib.hid hn
  have H0 := Lib.hid (heap_new w)
  clear hr hw hn
  go_enter Try.func52, Try.ntmps52
  go_wp2_with fail
  go_loopw [13] (fun v wr => ∃ (k : Nat) (l : List En), k ≤ n ∧ v = .int .i64 k ∧ Hid (HeapOf wr w.heap.size (w.heap.size + 1) l) ∧ Hid (l.Perm (ents (keysOf fs) k)) ∧ Hid (∀ f ∈ fs.take k, okF f = true) ∧ Hid (Below w.heap.size w wr)) (fun v _ => n - (intOf v).toNat)
  case atStart => exact ⟨0, [], by omega, rfl, H0, List.Perm.refl _, by intro f hf; simp at hf, below_alloc (below_alloc (Below.refl _ _) _) _⟩
  case round =>
    obtain ⟨k, l, hk, rfl, H1, H2, H3, H4⟩ := hrel
    by_cases hkn : k < n
    · have hkl : k < fs.length := by rw [HN.out]; exact hkn
      obtain ⟨ad, B, c2, rfl, a0, a1, a2, a3, a4, a5, a6, a7, a8, a9, a10⟩ := (HR.out.below H4.out).at_ k hkl (k * 11) rfl
      obtain ⟨w0, w1⟩ := HW.out _ (List.getElem_mem hkl)
      have HK := fun W => Key_any fs[k] B c2 W w1 w0
      have hkey : keysOf fs k = keyF fs[k] := keysOf_at hkl
      have HT : fs.take (k + 1) = fs.take k ++ [fs[k]] := List.take_succ_eq_append_getElem hkl
      have HALL : okF fs[k] = false → fs.all okF = false := fun h => by rw [List.all_eq_false]; exact ⟨fs[k], List.getElem_mem hkl, by rw [h]; simp⟩
      generalize keyF fs[k] = key at *
      obtain ⟨ok, hok⟩ : ∃ ok, okF fs[k] = ok := ⟨_, rfl⟩
      rw [hok] at HK HALL
      generalize fs[k] = f at *
      obtain ⟨fk, fi, fe, fr, f4, f5, f6, f7, f8, f9, fd⟩ := f
      dsimp only [frv] at *
      generalize fd.length = m at *
      have HK := Lib.hid HK
      have HKEY := Lib.hid hkey
      have HT := Lib.hid HT
      have HALL := Lib.hid HALL
      have HOK := Lib.hid hok
      rename_i HK' HT' HALL'
      clear HK' hkey HT' HALL' hok w0 w1
      have HL : Hid (l.length = k) := by show _ = _; rw [H2.out.length_eq, ents_length]
      cases ok
      · simp only [errV, Bool.false_eq_true, if_false] at HK
        go_wp2_with fail
        refine (HK.out _).mono ?_
        rintro x w2 ⟨rfl, hb2⟩
        have HE : Hid (Below w.heap.size w w2) := below_trans H4.out (below_trans (below_alloc (Below.refl _ _) _) hb2)
        clear hb2
        go_wp2_with fail
        go_ret2
        exact ⟨HE.out, Or.inl ⟨HALL.out (by trivial), rfl⟩⟩
      · simp only [errV, if_true] at HK
        go_wp2_with fail
        refine (HK.out _).mono ?_
        rintro x w2 ⟨rfl, hb2⟩
        have hbw : Below wr.heap.size wr w2 := below_trans (below_alloc (Below.refl _ _) _) hb2
        have HE : Hid (Below w.heap.size w w2) := below_trans H4.out hbw
        have HP := Lib.hid (HPush_any w2 w.heap.size (w.heap.size + 1) k l key (k : Int) (H1.out.below hbw) HL.out (by omega) HE.out.size)
        clear hb2 hbw
        go_wp2_with fail
        refine HP.out.mono ?_
        rintro x w3 ⟨rfl, l3, h3, p3, hb3⟩
        have H3' := Lib.hid h3
        have P3 := Lib.hid p3
        have HB3 : Hid (Below w.heap.size w w3) := HE.out.trans hb3
        clear h3 p3 hb3
        go_wp2_with fail
        go_roundw
        case rel =>
          refine ⟨k + 1, l3, by omega, by go_num, H3', ?_, ?_, HB3⟩
          · show List.Perm _ _
            rw [ents_succ, HKEY.out]
            exact P3.out.trans (List.Perm.append_right _ H2.out)
          · show ∀ f ∈ fs.take (k + 1), _
            rw [HT.out]
            intro x hx
            rcases List.mem_append.1 hx with hx | hx
            · exact H3.out x hx
            · rw [List.mem_singleton.1 hx]; exact HOK.out
        case measure => simp [intOf]; omega
    · obtain rfl : k = n := by omega
      go_wp2_with fail
      go_ret2
      have hall : fs.all okF = true := by
        have := H3.out
        rw [← HN.out, List.take_length] at this
        exact List.all_eq_true.2 this
      exact ⟨H4.out, Or.inr ⟨hall, _, l, rfl, H1.out, by rw [HN.out]; exact H2.out⟩⟩
end Go.Proofs.Ytbjeblffmgghgaa
