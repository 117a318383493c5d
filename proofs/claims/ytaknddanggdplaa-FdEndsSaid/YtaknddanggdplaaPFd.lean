/- An FD frame's bits, by definition. No condition. -/
import Derived.Test.YtaknddanggdplaaFdFields
import Derived.Test.YtaknddanggdplaaTally
import Derived.Test.YtaknddanggdplaaPRuns
import Derived.Test.YtaknddanggdplaaPOk
import Derived.Test.YtaknddanggdplaaAdd
namespace Go.Proofs.Ytaknddanggdplaa
open Go.RowKit
def codeD (f : Fr) : Nat := ((codeF f.kind f.data.length).getD 0).toNat
/-- Ahead of all stuffing. -/
def bodyD (f : Fr) : List Nat := headD f ++ bitsN (bitB f.brs) 1 ++ bitsN (bitB f.esi) 1 ++ bitsN (codeD f) 4 ++ bytesN f.data
theorem bodyD_length (f : Fr) : (bodyD f).length = 22 + 8 * f.data.length := by simp [bodyD, headD_length, bitsN_length, bytesN_length]; omega
theorem headD_bits (f : Fr) : ∀ x ∈ headD f, x ≤ 1 := by
  intro x hx
  unfold headD at hx
  simp only [List.mem_append] at hx
  rcases hx with (h | h) | h <;> exact bitsN_bit _ _ x h
theorem bodyD_bits (f : Fr) : ∀ x ∈ bodyD f, x ≤ 1 := by
  intro x hx
  unfold bodyD at hx
  simp only [List.mem_append] at hx
  rcases hx with (((h | h) | h) | h) | h
  · exact headD_bits f x h
  · exact bitsN_bit _ _ x h
  · exact bitsN_bit _ _ x h
  · exact bitsN_bit _ _ x h
  · exact bytesN_bits _ x h
/-- The sum of so many bytes. -/
def sizeS (n : Nat) : Nat := if 16 < n then 21 else 17
def polyS (n : Nat) : Nat := if 16 < n then 1058969 else 92251
def startS (n : Nat) : Nat := if 16 < n then 1048576 else 65536
def kindS (n : Nat) : Int := if 16 < n then 3 else 2
def lastN (l : List Nat) : Nat := (l[l.length - 1]?).getD 0
/-- Ahead of its stuffing: the tally, and the sum. -/
def sealD (raw : List Nat) (st n : Nat) : List Nat := tallyN st ++ bitsN (crcN (sizeS n) (polyS n) (startS n) (raw ++ tallyN st)) (sizeS n)
def closeD (raw : List Nat) (st n : Nat) : List Nat := fixN 4 true (lastN raw) (sealD raw st n)
def raw0D (f : Fr) : List Nat := stuffN (bodyD f)
def rawD (f : Fr) : List Nat := raw0D f ++ closeD (raw0D f) ((raw0D f).length - (bodyD f).length) f.data.length
def wireD (f : Fr) : List Nat := rawD f ++ List.replicate 10 1
theorem tallyN_bits (st : Nat) : ∀ x ∈ tallyN st, x ≤ 1 := fun x hx => bitsN_bit _ _ x hx
theorem sealD_length (raw : List Nat) (st n : Nat) : (sealD raw st n).length = 4 + sizeS n := by simp [sealD, tallyN_length, bitsN_length]
theorem sealD_bits (raw : List Nat) (st n : Nat) : ∀ x ∈ sealD raw st n, x ≤ 1 := by
  intro x hx
  unfold sealD at hx
  rcases List.mem_append.1 hx with h | h
  · exact tallyN_bits _ x h
  · exact bitsN_bit _ _ x h
theorem closeD_length (raw : List Nat) (st n : Nat) : (closeD raw st n).length = 4 + sizeS n + (3 + sizeS n) / 4 + 1 := by
  unfold closeD
  rw [fixN_length 4 true _ _ (by decide), sealD_length, if_neg (by omega)]
  simp
theorem lastN_le (l : List Nat) (h : ∀ x ∈ l, x ≤ 1) : lastN l ≤ 1 := by
  unfold lastN
  cases hx : l[l.length - 1]? with
  | none => simp
  | some x => exact h x (List.mem_of_getElem? hx)
theorem sizeS_or (n : Nat) : sizeS n = 17 ∨ sizeS n = 21 := by unfold sizeS; split <;> simp
theorem raw0D_len (f : Fr) : 22 + 8 * f.data.length ≤ (raw0D f).length ∧ (raw0D f).length ≤ 22 + 8 * f.data.length + (21 + 8 * f.data.length) / 4 := by
  have h1 := stuffN_len (bodyD f) (by intro e; have := bodyD_length f; rw [e] at this; simp at this; omega)
  have h2 := stuffN_ge (bodyD f)
  rw [bodyD_length] at h1 h2
  unfold raw0D
  omega
theorem rawD_len (f : Fr) : (rawD f).length = (raw0D f).length + (4 + sizeS f.data.length + (3 + sizeS f.data.length) / 4 + 1) := by unfold rawD; rw [List.length_append, closeD_length]
/-- What an FD frame that may be is like. -/
theorem okD (f : Fr) (hk : f.kind = 2) (h : okF f = true) : f.id < 2048 ∧ f.data.length ≤ 64 ∧ ∃ c : Nat, c < 16 ∧ codeF f.kind f.data.length = some (c : Int) ∧ fdSizes[c]? = some (f.data.length : Int) := by
  have ho := (okF_iff f).1 h
  have he := ho.ext (by rw [hk]; decide)
  have hid := ho.id
  rw [he] at hid
  have hs := ho.size
  have hk2 := codeF_kind _ _ hs
  rw [hk] at hs hk2 ⊢
  have e : codeF 2 (f.data.length : Int) = if fdSizes[lb fdSizes f.data.length]? = some (f.data.length : Int) then some (lb fdSizes f.data.length : Int) else none := by simp [codeF]
  rw [e] at hs ⊢
  by_cases hc : fdSizes[lb fdSizes f.data.length]? = some (f.data.length : Int)
  · rw [if_pos hc]
    refine ⟨by simpa using hid, by omega, lb fdSizes f.data.length, ?_, rfl, hc⟩
    have := (List.getElem?_eq_some_iff.1 hc).1
    exact this
  · rw [if_neg hc] at hs; cases hs
theorem okD_bare (f : Fr) (hk : f.kind = 2) (h : okF f = true) : f.ext = false ∧ f.rtr = false ∧ f.sec = false ∧ f.sdt = 0 ∧ f.vcid = 0 ∧ f.af = 0 := by
  have ho := (okF_iff f).1 h
  exact ⟨ho.ext (by rw [hk]; decide), ho.rtr (by rw [hk]; decide), ho.sec (by rw [hk]; decide), ho.sdt (by rw [hk]; decide), ho.vcid (by rw [hk]; decide), ho.af (by rw [hk]; decide)⟩
theorem headD_first (f g : Fr) (f0 : 0 ≤ f.id) (f1 : f.id < 2048) (g0 : 0 ≤ g.id) (g1 : g.id < 2048) (hne : f.id ≠ g.id) : First (f.id < g.id) (headD f) (headD g) := by
  obtain ⟨n, hn⟩ := Int.eq_ofNat_of_zero_le f0
  obtain ⟨m, hm⟩ := Int.eq_ofNat_of_zero_le g0
  unfold headD
  rw [hn, hm]
  simp only [Int.toNat_natCast]
  have h : First (n < m) (bitsN n 11) (bitsN m 11) := bitsN_first 11 n m (by omega) (by omega) (by omega)
  exact ((h.ahead (bitsN 0 1)).behind (bitsN 2 4) (bitsN 2 4)).iff (by omega)
theorem wireD_head (f : Fr) : ∃ l, wireD f = stuffN (headD f) ++ l := by
  have e : bodyD f = headD f ++ (bitsN (bitB f.brs) 1 ++ bitsN (bitB f.esi) 1 ++ bitsN (codeD f) 4 ++ bytesN f.data) := by unfold bodyD; simp only [List.append_assoc]
  refine ⟨stf (stE 0 0 (headD f)).1 (stE 0 0 (headD f)).2 (bitsN (bitB f.brs) 1 ++ bitsN (bitB f.esi) 1 ++ bitsN (codeD f) 4 ++ bytesN f.data) ++ closeD (raw0D f) ((raw0D f).length - (bodyD f).length) f.data.length ++ List.replicate 10 1, ?_⟩
  have e2 : raw0D f = stuffN (headD f) ++ stf (stE 0 0 (headD f)).1 (stE 0 0 (headD f)).2 (bitsN (bitB f.brs) 1 ++ bitsN (bitB f.esi) 1 ++ bitsN (codeD f) 4 ++ bytesN f.data) := by
    unfold raw0D
    rw [e]
    unfold stuffN
    rw [stf_append]
  unfold wireD rawD
  generalize closeD (raw0D f) ((raw0D f).length - (bodyD f).length) f.data.length = cl
  rw [e2]
  simp only [List.append_assoc]
theorem rawD_head (f : Fr) : (stuffN (headD f)).length + 6 ≤ (raw0D f).length := by
  have e : bodyD f = headD f ++ (bitsN (bitB f.brs) 1 ++ bitsN (bitB f.esi) 1 ++ bitsN (codeD f) 4 ++ bytesN f.data) := by unfold bodyD; simp only [List.append_assoc]
  unfold raw0D
  rw [e]
  unfold stuffN
  rw [stf_append, List.length_append]
  have := stf_ge (bitsN (bitB f.brs) 1 ++ bitsN (bitB f.esi) 1 ++ bitsN (codeD f) 4 ++ bytesN f.data) (stE 0 0 (headD f)).1 (stE 0 0 (headD f)).2
  simp only [List.length_append, bitsN_length] at this
  omega
theorem fd_bound (f : Fr) (hk : f.kind = 2) (hok : okF f = true) : (stuffN (headD f)).length + 19 ≤ (rawD f).length ∧ (rawD f).length ≤ 40000 ∧ 12 ≤ (stuffN (headD f)).length := by
  have h1 := rawD_head f
  have h2 := rawD_len f
  have h3 := raw0D_len f
  have h4 := sizeS_or f.data.length
  have h5 := (okD f hk hok).2.1
  have h6 := stuffN_ge (headD f)
  rw [headD_length] at h6
  omega
theorem raw0D_bits (f : Fr) : ∀ x ∈ raw0D f, x ≤ 1 := stuffN_bits _ (bodyD_bits f)
theorem rawD_bits (f : Fr) : ∀ x ∈ rawD f, x ≤ 1 := by
  intro x hx
  unfold rawD at hx
  rcases List.mem_append.1 hx with h | h
  · exact raw0D_bits f x h
  · unfold closeD fixN at h; exact fixE_bits 4 _ (sealD_bits _ _ _) _ _ x h
theorem rawD_zero (f : Fr) : ∃ l, rawD f = 0 :: l := by
  have e : ∃ l, bodyD f = 0 :: l := ⟨_, rfl⟩
  obtain ⟨l, hl⟩ := e
  have h : ∃ m, raw0D f = 0 :: m := by unfold raw0D; rw [hl]; exact ⟨_, rfl⟩
  obtain ⟨m, hm⟩ := h
  unfold rawD
  generalize closeD (raw0D f) ((raw0D f).length - (bodyD f).length) f.data.length = cl
  rw [hm]
  exact ⟨_, rfl⟩
theorem rawE_last (l : List Nat) : ∀ last run, l ≠ [] → (rawE last run l).1 = lastN l := by
  induction l with
  | nil => intro _ _ h; exact absurd rfl h
  | cons x l ih =>
    intro last run _
    by_cases hl : l = []
    · subst hl; rfl
    · simp only [rawE]
      rw [ih _ _ hl]
      unfold lastN
      have : 0 < l.length := List.length_pos_iff.2 hl
      rw [List.length_cons, show l.length + 1 - 1 = (l.length - 1) + 1 by omega, List.getElem?_cons_succ]
theorem rawD_runs (f : Fr) : runsM 5 0 0 (rawD f) = true ∧ (rawE 0 0 (rawD f)).2 ≤ 5 := by
  have hA := runsM_of 5 (by omega) _ 0 0 (stuffN_runs (bodyD f))
  have hA5 : (rawE 0 0 (stuffN (bodyD f))).2 ≤ 5 := by unfold stuffN; rw [rawE_stf _ 0 0 (by omega)]; exact stE_le _ 0 0 (by omega)
  have hne : stuffN (bodyD f) ≠ [] := by intro e; have := (raw0D_len f).1; unfold raw0D at this; rw [e] at this; simp at this
  have hl := rawE_last (stuffN (bodyD f)) 0 0 hne
  have hb := lastN_le _ (raw0D_bits f)
  obtain ⟨f1, f2, -⟩ := fix_runs 4 (by omega) (sealD (raw0D f) ((raw0D f).length - (bodyD f).length) f.data.length) (sealD_bits _ _ _) (lastN (raw0D f)) (rawE 0 0 (stuffN (bodyD f))).2 0 hb (by omega) (by omega)
  have hF : closeD (raw0D f) ((raw0D f).length - (bodyD f).length) f.data.length = fixE 4 (lastN (raw0D f)) 0 (sealD (raw0D f) ((raw0D f).length - (bodyD f).length) f.data.length) := rfl
  have e0 : raw0D f = stuffN (bodyD f) := rfl
  unfold rawD
  rw [hF, runsM_append, rawE_append]
  generalize sealD (raw0D f) ((raw0D f).length - (bodyD f).length) f.data.length = se at *
  rw [← e0] at hA hA5 hl f1 f2
  rw [hA, hl, f1]
  exact ⟨rfl, by omega⟩
theorem rawD_see (f : Fr) : SeeOk 5 (stuffN (headD f)).length (rawD f) := by
  intro k hk
  have h := runsM_at 5 _ (rawD_runs f).1 k hk
  exact ⟨h, fun _ => h⟩
theorem fdOrders_plain (f g : Fr) (hk : f.kind = 2) (hkg : g.kind = 2) (fo : okF f = true) (go : okF g = true) (f0 : 0 ≤ f.id) (g0 : 0 ≤ g.id) (hne : f.id ≠ g.id) :
    ∃ j, j < (stuffN (headD f)).length ∧ j < (stuffN (headD g)).length ∧ (∀ i, i < j → (wireD f)[i]? = (wireD g)[i]?) ∧ ∃ x y, (wireD f)[j]? = some x ∧ (wireD g)[j]? = some y ∧ x ≠ y ∧ (x = 0 ↔ f.id < g.id) := by
  have h := (headD_first f g f0 (okD f hk fo).1 g0 (okD g hkg go).1 hne).stuffed
  obtain ⟨j, h1, h2, h3, x, y, h4, h5, h6⟩ := h.at
  obtain ⟨l, el⟩ := wireD_head f
  obtain ⟨m, em⟩ := wireD_head g
  rw [el, em]
  refine ⟨j, h1, h2, fun i hi => ?_, x, y, ?_, ?_, h6⟩
  · rw [List.getElem?_append_left (by omega), List.getElem?_append_left (by omega)]; exact h3 i hi
  · rw [List.getElem?_append_left h1]; exact h4
  · rw [List.getElem?_append_left h2]; exact h5
theorem sameD (f g : Fr) (fk : f.kind = 2) (gk : g.kind = 2) (fo : okF f = true) (go : okF g = true) : sameF f g = decide (f.id = g.id ∧ f.brs = g.brs ∧ f.esi = g.esi ∧ f.data = g.data) := by
  obtain ⟨a1, a2, a3, a4, a5, a6⟩ := okD_bare f fk fo
  obtain ⟨b1, b2, b3, b4, b5, b6⟩ := okD_bare g gk go
  unfold sameF
  rw [fk, gk, a1, a2, a3, a4, a5, a6, b1, b2, b3, b4, b5, b6]
  rw [Bool.eq_iff_iff]
  simp only [decide_eq_true_eq]
  constructor
  · intro h; simp_all
  · intro h; simp_all
theorem codeD_lt (f : Fr) (hk : f.kind = 2) (hok : okF f = true) : codeD f < 16 ∧ fdSizes[codeD f]? = some (f.data.length : Int) := by
  obtain ⟨-, -, c, hc, h1, h2⟩ := okD f hk hok
  unfold codeD
  rw [h1]
  simpa using ⟨hc, h2⟩
theorem bodyD_diff (f g : Fr) (fk : f.kind = 2) (gk : g.kind = 2) (fo : okF f = true) (go : okF g = true) (fn : FrN f) (gn : FrN g) (h : ¬ (f.id = g.id ∧ f.brs = g.brs ∧ f.esi = g.esi ∧ f.data = g.data)) : Diff (bodyD f) (bodyD g) := by
  obtain ⟨fi, -⟩ := okD f fk fo
  obtain ⟨gi, -⟩ := okD g gk go
  obtain ⟨fc, fs⟩ := codeD_lt f fk fo
  obtain ⟨gc, gs⟩ := codeD_lt g gk go
  unfold bodyD
  by_cases hid : f.id = g.id
  · have hh : headD f = headD g := by unfold headD; rw [hid]
    rw [hh]
    by_cases hb : f.brs = g.brs
    · rw [hb]
      by_cases he : f.esi = g.esi
      · rw [he]
        by_cases hc : codeD f = codeD g
        · have hl : f.data.length = g.data.length := by rw [hc, gs] at fs; injection fs with fs; omega
          rw [hc]
          exact (bytesN_diff f.data g.data hl fn.data gn.data (fun hd => h ⟨hid, hb, he, hd⟩)).ahead _
        · exact Diff.behind (Diff.ahead (bitsN_diff 4 _ _ (by omega) (by omega) hc) _) _ _
      · exact Diff.behind (Diff.behind (Diff.ahead (bitsN_diff 1 _ _ (by cases f.esi <;> decide) (by cases g.esi <;> decide) (bitB_inj he)) _) _ _) _ _
    · exact Diff.behind (Diff.behind (Diff.behind (Diff.ahead (bitsN_diff 1 _ _ (by cases f.brs <;> decide) (by cases g.brs <;> decide) (bitB_inj hb)) _) _ _) _ _) _ _
  · exact (((((headD_first f g fn.id0 fi gn.id0 gi hid).diff).behind _ _).behind _ _).behind _ _).behind _ _
theorem wireD_same (f g : Fr) (fk : f.kind = 2) (gk : g.kind = 2) (h : f.id = g.id ∧ f.brs = g.brs ∧ f.esi = g.esi ∧ f.data = g.data) : wireD f = wireD g := by
  obtain ⟨h1, h2, h3, h4⟩ := h
  have hh : headD f = headD g := by unfold headD; rw [h1]
  have hc : codeD f = codeD g := by unfold codeD; rw [fk, gk, h4]
  have hb : bodyD f = bodyD g := by unfold bodyD; rw [hh, h2, h3, hc, h4]
  unfold wireD rawD raw0D
  rw [hb, h4]
theorem fdApart_plain (f g : Fr) (fk : f.kind = 2) (gk : g.kind = 2) (fo : okF f = true) (go : okF g = true) (fn : FrN f) (gn : FrN g) :
    diffB (wireD f) (wireD g) (min (wireD f).length (wireD g).length) = !sameF f g := by
  rw [sameD f g fk gk fo go]
  by_cases h : f.id = g.id ∧ f.brs = g.brs ∧ f.esi = g.esi ∧ f.data = g.data
  · rw [decide_eq_true h, wireD_same f g fk gk h, same_apart]; rfl
  · have hd : Diff (wireD f) (wireD g) := by
      unfold wireD rawD
      exact (((bodyD_diff f g fk gk fo go fn gn h).stuffed).behind _ _).behind _ _
    rw [decide_eq_false h, diff_apart hd]; rfl
end Go.Proofs.Ytaknddanggdplaa
