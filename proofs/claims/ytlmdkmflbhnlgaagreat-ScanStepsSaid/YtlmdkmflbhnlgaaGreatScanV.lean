/- The machine's invariant, kept by each bit. No condition. -/
import Derived.Test.YtlmdkmflbhnlgaaGreatScanS
namespace Go.Proofs.YtlmdkmflbhnlgaaGreat
open Go.RowKit
/-- What takes a bit fits the machine. -/
def StpFits (S : MS) : Stp → Prop
  | .dynamic => S.l.length < S.need ∧ S.need ≤ 600 ∧ S.own = [] ∧ NxtFits S S.next
  | .part prev ev ah size d => prev ≤ 1 ∧ 1 ≤ ev ∧ ev ≤ 64 ∧ DoFits ev ah size d ∧ S.own.length < size ∧ 0 < S.raw.length ∧ 0 < S.l.length ∧ S.l.length ≤ 600
  | .mark l x => S.at_ < 4 ∧ l.length = 4 ∧ 0 < S.raw.length ∧ 0 < S.l.length ∧ S.l.length ≤ 600 ∧ (x = .xlCode → S.own = [])
  | .last => S.at_ < 9
structure MOk (S : MS) : Prop where
  raw : ∀ x ∈ S.raw, x ≤ 1
  l : ∀ x ∈ S.l, x ≤ 1
  own : ∀ x ∈ S.own, x ≤ 1
  rawn : S.raw.length ≤ S.seen
  fd : S.f.data.length ≤ 20000
  sfd : S.sf.data.length ≤ 20000
  stp : S.kind < 2 → StpFits S S.step
theorem newM_ok (xl : Bool) : MOk (newM xl) := ⟨by simp [newM], by simp [newM], by simp [newM], by simp [newM], by simp [newM, zFr], by simp [newM, zFr], fun _ => ⟨by simp [newM], by simp [newM], rfl, rfl⟩⟩
theorem packL_le (l : List Nat) : (packL l).length ≤ l.length := by unfold packL; rw [List.length_map, List.length_range]; unfold nchN; omega
/-- The rows are rows of bits. -/
structure MBit (S : MS) : Prop where
  raw : ∀ x ∈ S.raw, x ≤ 1
  l : ∀ x ∈ S.l, x ≤ 1
  own : ∀ x ∈ S.own, x ≤ 1
  rawn : S.raw.length ≤ S.seen
  fd : S.f.data.length ≤ 20000
  sfd : S.sf.data.length ≤ 20000
theorem MOk.bit {S : MS} (h : MOk S) : MBit S := ⟨h.raw, h.l, h.own, h.rawn, h.fd, h.sfd⟩
theorem MBit.bad {S : MS} (h : MBit S) (e : Nat) : MOk (badM S e) := ⟨h.raw, h.l, h.own, h.rawn, h.fd, by simp [badM, zFr], fun hk => absurd hk (by simp [badM])⟩
theorem MBit.ask {S : MS} (h : MBit S) (hs : S.step = .dynamic) (n : Nat) (x : Nxt) (h1 : S.l.length < n) (h2 : n ≤ 600) (h3 : S.own = []) (h4 : NxtFits (askM S n x) x) : MOk (askM S n x) :=
  ⟨h.raw, h.l, h.own, h.rawn, h.fd, h.sfd, fun _ => by show StpFits (askM S n x) S.step; rw [hs]; exact ⟨h1, h2, h3, h4⟩⟩
theorem MBit.fin {S : MS} (h : MBit S) : MOk (endM S) := ⟨h.raw, h.l, h.own, h.rawn, h.fd, h.sfd, fun _ => by show 0 < 9; omega⟩
theorem MBit.f {S : MS} (h : MBit S) (f : Fr) (hf : f.data.length ≤ 20000) : MBit { S with f := f } := ⟨h.raw, h.l, h.own, h.rawn, hf, h.sfd⟩
theorem MBit.fits {S : MS} (h : MBit S) (b : Bool) : MBit { S with fits := b } := ⟨h.raw, h.l, h.own, h.rawn, h.fd, h.sfd⟩
theorem getD_bit (l : List Nat) (i : Nat) (h : ∀ x ∈ l, x ≤ 1) : l.getD i 0 ≤ 1 := by
  rw [List.getD_eq_getElem?_getD]
  cases e : l[i]? with
  | none => simp
  | some x => exact h x (List.mem_of_getElem? e)
theorem MBit.part {S : MS} (h : MBit S) (ev n : Nat) (ah : Bool) (d : Do) (h1 : 1 ≤ ev) (h2 : ev ≤ 64) (h3 : DoFits ev ah (fsize n ev ah) d) (h4 : S.own.length < fsize n ev ah) (h5 : 0 < S.raw.length) (h6 : 0 < S.l.length) (h7 : S.l.length ≤ 600) : MOk (partM S ev ah n d) :=
  ⟨h.raw, h.l, h.own, h.rawn, h.fd, h.sfd, fun _ => ⟨by split; exact getD_bit _ _ h.raw; exact Nat.le_refl _, h1, h2, h3, h4, h5, h6, h7⟩⟩
theorem MBit.mark {S : MS} (h : MBit S) (l : List Nat) (x : Aft) (h1 : l.length = 4) (h5 : 0 < S.raw.length) (h6 : 0 < S.l.length) (h7 : S.l.length ≤ 600) (h8 : x = .xlCode → S.own = []) : MOk (markM S l x) :=
  ⟨h.raw, h.l, h.own, h.rawn, h.fd, h.sfd, fun _ => ⟨by show 0 < 4; omega, h1, h5, h6, h7, h8⟩⟩
theorem fdDataM_ok {S : MS} (h : MBit S) (size : Nat) (hl : S.l.length ≤ 600) (hl0 : 0 < S.l.length) (hr : 0 < S.raw.length) (ho : S.own = []) : MOk (fdDataM S size) := by
  have hd : (packL (S.l.drop 22)).length ≤ 20000 := by have := packL_le (S.l.drop 22); rw [List.length_drop] at this; omega
  unfold fdDataM
  by_cases h16 : 16 < size
  · simp only [if_pos h16]
    exact (h.f _ hd).part 4 _ true _ (by omega) (by omega) ⟨.inr rfl, rfl, rfl, rfl⟩ (by show S.own.length < _; rw [ho]; decide) hr hl0 hl
  · simp only [if_neg h16]
    exact (h.f _ hd).part 4 _ true _ (by omega) (by omega) ⟨.inl rfl, rfl, rfl, rfl⟩ (by show S.own.length < _; rw [ho]; decide) hr hl0 hl
theorem nextM_ok {S : MS} (h : MBit S) (hs : S.step = .dynamic) (hn : S.l.length = S.need) (hl : S.l.length ≤ 600) (hr : 0 < S.raw.length) (ho : S.own = []) (hf : NxtFits S S.next) : MOk (nextM S) := by
  have h01 := h.l
  unfold nextM
  cases hx : S.next <;> rw [hx] at hf <;> simp only [NxtFits] at hf ⊢
  · show MOk (if flagM S 0 then badM S 5 else askM S 14 .ident)
    split
    · exact h.bad 5
    · exact h.ask hs _ _ (by omega) (by omega) ho rfl
  · have h2 : MBit { S with f := { zFr with kind := 1, id := numM S 1 12, rtr := flagM S 12 } } := h.f _ (by simp [zFr])
    show MOk (if flagM S 13 then (if flagM S 12 then askM { S with f := { zFr with kind := 1, id := numM S 1 12, rtr := flagM S 12 } } 34 .extended else badM { S with f := { zFr with kind := 1, id := numM S 1 12, rtr := flagM S 12 } } 5) else askM { S with f := { zFr with kind := 1, id := numM S 1 12, rtr := flagM S 12 } } 15 .format)
    split
    · split
      · exact h2.ask hs _ _ (by show S.l.length < 34; omega) (by omega) ho ⟨rfl, numM S 1 12, by have := numM_lt S 1 12 11 (by omega) h01; omega, rfl⟩
      · exact h2.bad 5
    · exact h2.ask hs _ _ (by show S.l.length < 15; omega) (by omega) ho rfl
  · have h2 : ∀ f : Fr, f.data = S.f.data → MBit { S with f := f } := fun f e => h.f _ (by rw [e]; exact h.fd)
    show MOk (if flagM S 33 then badM { S with f := { S.f with ext := true, rtr := flagM S 32, id := S.f.id * 262144 + numM S 14 32 } } 5 else askM { S with f := { S.f with ext := true, rtr := flagM S 32, id := S.f.id * 262144 + numM S 14 32 } } 35 .reserved)
    split
    · exact (h2 { S.f with ext := true, rtr := flagM S 32, id := S.f.id * 262144 + numM S 14 32 } rfl).bad 5
    · exact (h2 { S.f with ext := true, rtr := flagM S 32, id := S.f.id * 262144 + numM S 14 32 } rfl).ask hs _ _ (by show S.l.length < 35; omega) (by omega) ho rfl
  · show MOk (if flagM S 34 then badM S 5 else askM S 39 .code)
    split
    · exact h.bad 5
    · exact h.ask hs _ _ (by omega) (by omega) ho (.inr rfl)
  · show MOk (if flagM S 14 then (if S.f.rtr then badM S 5 else askM S 16 .newer) else askM S 19 .code)
    split
    · split
      · exact h.bad 5
      · exact h.ask hs _ _ (by omega) (by omega) ho rfl
    · exact h.ask hs _ _ (by omega) (by omega) ho (.inl rfl)
  · show MOk (if flagM S 15 then (if S.xl then askM { S with f := { S.f with kind := 3 } } 17 .xlHead else { S with kind := 4, err := 0, sf := zFr }) else askM { S with f := { S.f with kind := 2 } } 22 .fdCode)
    split
    · split
      · exact (h.f { S.f with kind := 3 } h.fd).ask hs _ _ (by show S.l.length < 17; omega) (by omega) ho rfl
      · exact ⟨h.raw, h.l, h.own, h.rawn, h.fd, by simp [zFr], fun hk => absurd hk (by simp)⟩
    · exact (h.f { S.f with kind := 2 } h.fd).ask hs _ _ (by show S.l.length < 22; omega) (by omega) ho rfl
  · show MOk (if numM S (S.l.length - 4) S.l.length ≤ 8 ∧ (numM S (S.l.length - 4) S.l.length = 0 ∨ S.f.rtr = false) then askM S (S.l.length + 8 * numM S (S.l.length - 4) S.l.length + 15) (.codeC S.l.length (numM S (S.l.length - 4) S.l.length)) else badM S 5)
    split
    · rename_i hc
      exact h.ask hs _ _ (by omega) (by omega) ho ⟨hc.1, by omega, rfl⟩
    · exact h.bad 5
  · rename_i at_ n
    exact MBit.fin ((h.f { S.f with data := packL ((S.l.take (at_ + 8 * n)).drop at_) } (by have := packL_le ((S.l.take (at_ + 8 * n)).drop at_); rw [List.length_drop, List.length_take] at this; show (packL ((S.l.take (at_ + 8 * n)).drop at_)).length ≤ 20000; omega)).fits _)
  · show MOk (if fdSz (numM { S with f := { S.f with brs := flagM S 16, esi := flagM S 17 } } 18 22) = 0 then fdDataM { S with f := { S.f with brs := flagM S 16, esi := flagM S 17 } } 0 else askM { S with f := { S.f with brs := flagM S 16, esi := flagM S 17 } } (22 + 8 * fdSz (numM { S with f := { S.f with brs := flagM S 16, esi := flagM S 17 } } 18 22)) (.fdData (fdSz (numM { S with f := { S.f with brs := flagM S 16, esi := flagM S 17 } } 18 22))))
    have h2 : MBit { S with f := { S.f with brs := flagM S 16, esi := flagM S 17 } } := h.f _ h.fd
    have hz : fdSz (numM { S with f := { S.f with brs := flagM S 16, esi := flagM S 17 } } 18 22) ≤ 64 := fdSz_le _ (by have := numM_lt { S with f := { S.f with brs := flagM S 16, esi := flagM S 17 } } 18 22 4 (by omega) h01; omega)
    generalize fdSz (numM { S with f := { S.f with brs := flagM S 16, esi := flagM S 17 } } 18 22) = z at *
    split
    · exact fdDataM_ok h2 0 hl (by show 0 < S.l.length; omega) hr ho
    · exact h2.ask hs _ _ (by show S.l.length < _; omega) (by omega) ho ⟨hz, by omega, rfl⟩
  · exact fdDataM_ok h _ hl (by omega) hr ho
  · show MOk (if flagM S 16 then badM S 5 else markM S [1, 0, 0, 1] .xlCode)
    split
    · exact h.bad 5
    · exact h.mark _ _ rfl hr (by omega) hl (fun _ => ho)
theorem NxtFits.congr' {S S' : MS} {x : Nxt} (h : NxtFits S x) (hn : S'.need = S.need) (hf : S'.f = S.f) : NxtFits S' x := by
  cases x <;> simp only [NxtFits, hn, hf] at h ⊢ <;> exact h
theorem dynM_ok {S : MS} (h : MOk S) (hk : S.kind < 2) (hs : S.step = .dynamic) (hr : S.raw.length + 1 ≤ S.seen) (b : Nat) (hb : b ≤ 1) : MOk (dynM S b) := by
  have hst := h.stp hk
  rw [hs] at hst
  obtain ⟨k1, k2, k3, k4⟩ := hst
  have happ : ∀ l : List Nat, (∀ x ∈ l, x ≤ 1) → ∀ x ∈ l ++ [b], x ≤ 1 := fun l hl x hx => (List.mem_append.1 hx).elim (hl x) (fun h => by simp at h; omega)
  have hb1 : MBit { S with raw := S.raw ++ [b] } := ⟨happ _ h.raw, h.l, h.own, by show (S.raw ++ [b]).length ≤ S.seen; simp; omega, h.fd, h.sfd⟩
  have hb2 : MBit { S with raw := S.raw ++ [b], l := S.l ++ [b] } := ⟨happ _ h.raw, happ _ h.l, h.own, by show (S.raw ++ [b]).length ≤ S.seen; simp; omega, h.fd, h.sfd⟩
  unfold dynM
  split
  · exact h.bit.bad 4
  · split
    · exact ⟨hb1.raw, hb1.l, hb1.own, hb1.rawn, hb1.fd, hb1.sfd, fun _ => by show StpFits { S with raw := S.raw ++ [b] } S.step; rw [hs]; exact ⟨k1, k2, k3, k4.congr' rfl rfl⟩⟩
    · split
      · rename_i hn
        exact nextM_ok hb2 hs (by show (S.l ++ [b]).length = S.need; simp; exact hn) (by show (S.l ++ [b]).length ≤ 600; simp; omega) (by show 0 < (S.raw ++ [b]).length; simp) k3 (k4.congr' rfl rfl)
      · exact ⟨hb2.raw, hb2.l, hb2.own, hb2.rawn, hb2.fd, hb2.sfd, fun _ => by show StpFits { S with raw := S.raw ++ [b], l := S.l ++ [b] } S.step; rw [hs]; exact ⟨by show (S.l ++ [b]).length < S.need; simp; omega, k2, k3, k4.congr' rfl rfl⟩⟩
theorem getL_dt (l : List Nat) (i n : Nat) : ((l.take (i + n)).drop i).length ≤ n := by rw [List.length_drop, List.length_take]; omega
theorem partStepM_ok {S : MS} (h : MOk S) (hk : S.kind < 2) (prev ev size : Nat) (ah : Bool) (d : Do) (hs : S.step = .part prev ev ah size d) (b : Nat) (hb : b ≤ 1) : MOk (partStepM S prev ev ah size d b) := by
  have hst := h.stp hk
  rw [hs] at hst
  obtain ⟨k1, k2, k3, k4, k5, k6, k7, k8⟩ := hst
  have happ : ∀ x ∈ S.own ++ [b], x ≤ 1 := fun x hx => (List.mem_append.1 hx).elim (h.own x) (fun h => by simp at h; omega)
  have hb1 : MBit { S with own := S.own ++ [b] } := ⟨h.raw, h.l, happ, h.rawn, h.fd, h.sfd⟩
  have hlen : (S.own ++ [b]).length = S.own.length + 1 := by simp
  unfold partStepM
  show MOk (if (fgetN ev ah prev (S.own ++ [b])).1 = 4 then badM { S with own := S.own ++ [b] } 4 else if (S.own ++ [b]).length = size then doM { S with own := S.own ++ [b] } d (fgetN ev ah prev (S.own ++ [b])).2 else { S with own := S.own ++ [b] })
  split
  · exact hb1.bad 4
  · rename_i h4
    split
    · rename_i hfull
      obtain ⟨-, hlen2⟩ := fget_full ev prev size ah d _ k4 hfull h4
      have hbits : ∀ x ∈ (fgetN ev ah prev (S.own ++ [b])).2, x ≤ 1 := fgetE_bits ev _ _ _ _ _ happ (by simp)
      generalize (fgetN ev ah prev (S.own ++ [b])).2 = r at *
      cases d with
      | fd k => exact (hb1.fits _).fin
      | xl1 =>
        obtain ⟨-, -, hsz⟩ := k4
        have hlt := numN_lt (r.drop 9) (fun x hx => hbits x (List.mem_of_mem_drop hx))
        have hl11 : (r.drop 9).length = 11 := by rw [List.length_drop, hlen2]; rfl
        rw [hl11] at hlt
        have hz : numN (r.drop 9) + 1 ≤ 2048 := by omega
        have e0 : fsize 20 8 false = 22 := rfl
        refine hb1.part 8 _ false _ (by omega) (by omega) ⟨by omega, hz, rfl, rfl, rfl⟩ ?_ k6 k7 k8
        show (S.own ++ [b]).length < _
        have e1 : fsize (109 + 8 * (numN (r.drop 9) + 1)) 8 false = 122 + 9 * (numN (r.drop 9) + 1) := by unfold fsize; rw [if_neg (by omega), if_neg (by simp)]; omega
        rw [e1]; omega
      | xl2 z =>
        obtain ⟨hz1, hz2, -⟩ := k4
        have hln : r.length = 109 + 8 * z := hlen2
        have hd : (packL ((r.take (77 + 8 * z)).drop 77)).length ≤ 20000 := by
          have h1 := packL_le ((r.take (77 + 8 * z)).drop 77)
          have h2 := getL_dt r 77 (8 * z)
          omega
        have hb2 : MBit (xlDataM { S with own := S.own ++ [b] } r z) := (hb1.f { S.f with sdt := getL r 0 8, sec := getL r 8 1 == 1, vcid := getL r 37 8, af := getL r 45 32, data := packL ((r.take (77 + 8 * z)).drop 77) } hd).fits _
        exact hb2.mark _ _ rfl k6 k7 k8 (fun e => by cases e)
    · rename_i hne
      exact ⟨hb1.raw, hb1.l, hb1.own, hb1.rawn, hb1.fd, hb1.sfd, fun _ => by show StpFits { S with own := S.own ++ [b] } S.step; rw [hs]; exact ⟨k1, k2, k3, k4, by show (S.own ++ [b]).length < size; omega, k6, k7, k8⟩⟩
theorem markStepM_ok {S : MS} (h : MOk S) (hk : S.kind < 2) (l : List Nat) (x : Aft) (hs : S.step = .mark l x) (b : Nat) : MOk (markStepM S l x b) := by
  have hst := h.stp hk
  rw [hs] at hst
  obtain ⟨k1, k2, k3, k4, k5, k6⟩ := hst
  have hb1 : MBit { S with at_ := S.at_ + 1 } := ⟨h.raw, h.l, h.own, h.rawn, h.fd, h.sfd⟩
  unfold markStepM
  split
  · split
    · cases x with
      | xlCode => exact hb1.part 8 20 false .xl1 (by omega) (by omega) ⟨rfl, rfl, rfl⟩ (by show S.own.length < _; rw [k6 rfl]; decide) k3 k4 k5
      | fin => exact hb1.fin
    · exact ⟨hb1.raw, hb1.l, hb1.own, hb1.rawn, hb1.fd, hb1.sfd, fun _ => by show StpFits { S with at_ := S.at_ + 1 } S.step; rw [hs]; exact ⟨by show S.at_ + 1 < 4; omega, k2, k3, k4, k5, k6⟩⟩
  · exact h.bit.bad 5
theorem lastM_ok {S : MS} (h : MOk S) (hk : S.kind < 2) (hs : S.step = .last) (b : Nat) : MOk (lastM S b) := by
  have hst := h.stp hk
  rw [hs] at hst
  have k1 : S.at_ < 9 := hst
  have hb1 : MBit { S with at_ := S.at_ + 1, kind := 0, err := 0, sf := zFr } := ⟨h.raw, h.l, h.own, h.rawn, h.fd, by simp [zFr]⟩
  show MOk (if S.at_ = 2 ∧ S.fits = false then badM { S with at_ := S.at_ + 1, kind := 0, err := 0, sf := zFr } 6 else if S.at_ ≠ 1 ∧ b = 0 then badM { S with at_ := S.at_ + 1, kind := 0, err := 0, sf := zFr } 5 else if S.at_ = 0 ∧ S.fits = true then { S with at_ := S.at_ + 1, kind := 1, err := 0, sf := zFr } else if S.at_ + 1 = 9 then { S with at_ := S.at_ + 1, kind := 2, err := 0, sf := S.f } else { S with at_ := S.at_ + 1, kind := 0, err := 0, sf := zFr })
  split
  · exact hb1.bad 6
  · split
    · exact hb1.bad 5
    · split
      · rename_i h0
        exact ⟨hb1.raw, hb1.l, hb1.own, hb1.rawn, hb1.fd, hb1.sfd, fun _ => by show StpFits { S with at_ := S.at_ + 1, kind := 1, err := 0, sf := zFr } S.step; rw [hs]; show S.at_ + 1 < 9; omega⟩
      · split
        · exact ⟨hb1.raw, hb1.l, hb1.own, hb1.rawn, hb1.fd, h.fd, fun hk => absurd hk (by simp)⟩
        · exact ⟨hb1.raw, hb1.l, hb1.own, hb1.rawn, hb1.fd, hb1.sfd, fun _ => by show StpFits { S with at_ := S.at_ + 1, kind := 0, err := 0, sf := zFr } S.step; rw [hs]; show S.at_ + 1 < 9; omega⟩
theorem MOk.saw {S : MS} (h : MOk S) : MOk { S with seen := S.seen + 1 } :=
  ⟨h.raw, h.l, h.own, Nat.le_succ_of_le h.rawn, h.fd, h.sfd, fun hk => by
    have := h.stp hk
    show StpFits { S with seen := S.seen + 1 } S.step
    cases hx : S.step <;> rw [hx] at this
    · exact ⟨this.1, this.2.1, this.2.2.1, this.2.2.2.congr' rfl rfl⟩
    · exact this
    · exact this
    · exact this⟩
theorem stepM_dyn {S : MS} {b : Nat} (h : S.step = .dynamic) : stepM S b = dynM S b := by unfold stepM; rw [h]
theorem stepM_part {S : MS} {b p e n : Nat} {a : Bool} {d : Do} (h : S.step = .part p e a n d) : stepM S b = partStepM S p e a n d b := by unfold stepM; rw [h]
theorem stepM_mark {S : MS} {b : Nat} {l : List Nat} {x : Aft} (h : S.step = .mark l x) : stepM S b = markStepM S l x b := by unfold stepM; rw [h]
theorem stepM_last {S : MS} {b : Nat} (h : S.step = .last) : stepM S b = lastM S b := by unfold stepM; rw [h]
theorem stepM_ok {S : MS} (h : MOk S) (hk : S.kind < 2) (hr : S.raw.length + 1 ≤ S.seen) (b : Nat) (hb : b ≤ 1) : MOk (stepM S b) := by
  cases hx : S.step with
  | dynamic => rw [stepM_dyn hx]; exact dynM_ok h hk hx hr b hb
  | part p e a n d => rw [stepM_part hx]; exact partStepM_ok h hk p e n a d hx b hb
  | mark l x => rw [stepM_mark hx]; exact markStepM_ok h hk l x hx b
  | last => rw [stepM_last hx]; exact lastM_ok h hk hx b
theorem seeM_ok {S : MS} (h : MOk S) (b : Nat) (hb : b ≤ 1) : MOk (seeM S b) := by
  have h2 := h.saw
  unfold seeM
  split
  · rename_i hk
    exact stepM_ok h2 hk (by show S.raw.length + 1 ≤ S.seen + 1; have := h.rawn; omega) b hb
  · exact h2
theorem seeM_seen (S : MS) (b : Nat) : (seeM S b).seen = S.seen + 1 := by
  have hbad : ∀ (S : MS) e, (badM S e).seen = S.seen := fun _ _ => rfl
  have hask : ∀ (S : MS) n x, (askM S n x).seen = S.seen := fun _ _ _ => rfl
  have hpart : ∀ (S : MS) e a n d, (partM S e a n d).seen = S.seen := fun _ _ _ _ _ => rfl
  have hmark : ∀ (S : MS) l x, (markM S l x).seen = S.seen := fun _ _ _ => rfl
  have hend : ∀ (S : MS), (endM S).seen = S.seen := fun _ => rfl
  have hfd : ∀ (S : MS) n, (fdDataM S n).seen = S.seen := fun _ _ => rfl
  have hdo : ∀ (S : MS) d l, (doM S d l).seen = S.seen := fun S d l => by cases d <;> rfl
  have haft : ∀ (S : MS) x, (aftM S x).seen = S.seen := fun S x => by cases x <;> rfl
  have hnext : ∀ S : MS, (nextM S).seen = S.seen := by
    intro S
    unfold nextM
    split
    · unfold startM; split <;> rfl
    · unfold identM; simp only []; split
      · split <;> rfl
      · rfl
    · unfold extendedM; simp only []; split <;> rfl
    · unfold reservedM; split <;> rfl
    · unfold formatM; split
      · split <;> rfl
      · rfl
    · unfold newerM; split
      · split <;> rfl
      · rfl
    · unfold codeM; simp only []; split <;> rfl
    · rfl
    · unfold fdCodeM; simp only []; split <;> rfl
    · rfl
    · unfold xlHeadM; split <;> rfl
    · rfl
  unfold seeM
  split
  · unfold stepM
    split
    · unfold dynM
      split
      · rfl
      · split
        · rfl
        · split
          · rw [hnext]
          · rfl
    · unfold partStepM
      simp only []
      split
      · rfl
      · split
        · exact hdo _ _ _
        · rfl
    · unfold markStepM
      split
      · split
        · exact haft _ _
        · rfl
      · rfl
    · unfold lastM
      simp only []
      split
      · rfl
      · split
        · rfl
        · split
          · rfl
          · split <;> rfl
  · rfl
end Go.Proofs.YtlmdkmflbhnlgaaGreat
namespace Go.Proofs.YtlmdkmflbhnlgaaGreat
open Go.RowKit
theorem seeM_stays {S : MS} (h : 2 ≤ S.kind) (b : Nat) : (seeM S b).kind = S.kind ∧ (seeM S b).err = S.err ∧ (seeM S b).sf = S.sf := by
  unfold seeM; rw [if_neg (by omega)]; exact ⟨rfl, rfl, rfl⟩
theorem foldM_stays : ∀ (l : List Nat) {S : MS}, 2 ≤ S.kind → (l.foldl seeM S).kind = S.kind ∧ (l.foldl seeM S).err = S.err ∧ (l.foldl seeM S).sf = S.sf
  | [], _, _ => ⟨rfl, rfl, rfl⟩
  | b :: r, S, h => by
    obtain ⟨h1, h2, h3⟩ := seeM_stays h b
    obtain ⟨k1, k2, k3⟩ := foldM_stays r (S := seeM S b) (by omega)
    exact ⟨k1.trans h1, k2.trans h2, k3.trans h3⟩
theorem scanM_app (xl : Bool) (a b : List Nat) : scanM xl (a ++ b) = b.foldl seeM (scanM xl a) := by unfold scanM; rw [List.foldl_append]
theorem scanM_stays (xl : Bool) (a b : List Nat) (h : 2 ≤ (scanM xl a).kind) : (scanM xl (a ++ b)).kind = (scanM xl a).kind ∧ (scanM xl (a ++ b)).err = (scanM xl a).err ∧ (scanM xl (a ++ b)).sf = (scanM xl a).sf := by
  rw [scanM_app]; exact foldM_stays b h
theorem scanM_less (xl : Bool) (l : List Nat) (n : Nat) (h : (scanM xl l).kind < 2) : (scanM xl (l.take n)).kind < 2 := by
  rcases Nat.lt_or_ge (scanM xl (l.take n)).kind 2 with h2 | h2
  · exact h2
  · have h3 := (scanM_stays xl (l.take n) (l.drop n) h2).1
    rw [List.take_append_drop] at h3
    omega
theorem scanM_seen (xl : Bool) (l : List Nat) : (scanM xl l).seen = l.length := by
  have : ∀ (l : List Nat) (S : MS), (l.foldl seeM S).seen = S.seen + l.length := by
    intro l
    induction l with
    | nil => intro S; rfl
    | cons b r ih => intro S; rw [List.foldl_cons, ih, seeM_seen, List.length_cons]; omega
  unfold scanM
  rw [this]
  show 0 + l.length = l.length
  omega
theorem scanM_ok (xl : Bool) (l : List Nat) (h : ∀ x ∈ l, x ≤ 1) : MOk (scanM xl l) := by
  have : ∀ (l : List Nat) (S : MS), MOk S → (∀ x ∈ l, x ≤ 1) → MOk (l.foldl seeM S) := by
    intro l
    induction l with
    | nil => intro S h _; exact h
    | cons b r ih => intro S h hb; exact ih _ (seeM_ok h b (hb b (List.mem_cons_self ..))) (fun x hx => hb x (List.mem_cons_of_mem _ hx))
  exact this l _ (newM_ok xl) h
theorem scanM_snoc (xl : Bool) (l : List Nat) (b : Nat) : scanM xl (l ++ [b]) = seeM (scanM xl l) b := scanM_app xl l [b]
/-- While nothing is told there is neither an error nor a frame. -/
def MQ (S : MS) : Prop := S.kind < 2 → S.err = 0 ∧ S.sf = zFr
theorem MQ.of {S S' : MS} (h : MQ S) (h2 : (S'.kind = S.kind ∧ S'.err = S.err ∧ S'.sf = S.sf) ∨ 2 ≤ S'.kind) : MQ S' := by
  intro hk
  rcases h2 with ⟨h1, h2, h3⟩ | h2
  · rw [h2, h3]; exact h (by omega)
  · omega
theorem MQ.bad (S : MS) (e : Nat) : MQ (badM S e) := fun hk => absurd hk (by simp [badM])
theorem fdDataM_same (S : MS) (n : Nat) : (fdDataM S n).kind = S.kind ∧ (fdDataM S n).err = S.err ∧ (fdDataM S n).sf = S.sf := ⟨rfl, rfl, rfl⟩
theorem MQ.same {S S' : MS} (h : MQ S) (h2 : S'.kind = S.kind ∧ S'.err = S.err ∧ S'.sf = S.sf) : MQ S' := h.of (.inl h2)
theorem nextM_q {S : MS} (h : MQ S) : MQ (nextM S) := by
  unfold nextM
  split
  · unfold startM; split
    · exact MQ.bad _ _
    · exact h.same ⟨rfl, rfl, rfl⟩
  · unfold identM; simp only []; split
    · split
      · exact h.same ⟨rfl, rfl, rfl⟩
      · exact MQ.bad _ _
    · exact h.same ⟨rfl, rfl, rfl⟩
  · unfold extendedM; simp only []; split
    · exact MQ.bad _ _
    · exact h.same ⟨rfl, rfl, rfl⟩
  · unfold reservedM; split
    · exact MQ.bad _ _
    · exact h.same ⟨rfl, rfl, rfl⟩
  · unfold formatM; split
    · split
      · exact MQ.bad _ _
      · exact h.same ⟨rfl, rfl, rfl⟩
    · exact h.same ⟨rfl, rfl, rfl⟩
  · unfold newerM; split
    · split
      · exact h.same ⟨rfl, rfl, rfl⟩
      · exact fun hk => absurd hk (by simp)
    · exact h.same ⟨rfl, rfl, rfl⟩
  · unfold codeM; simp only []; split
    · exact h.same ⟨rfl, rfl, rfl⟩
    · exact MQ.bad _ _
  · exact h.same ⟨rfl, rfl, rfl⟩
  · unfold fdCodeM; simp only []; split
    · exact h.same ⟨rfl, rfl, rfl⟩
    · exact h.same ⟨rfl, rfl, rfl⟩
  · exact h.same ⟨rfl, rfl, rfl⟩
  · unfold xlHeadM; split
    · exact MQ.bad _ _
    · exact h.same ⟨rfl, rfl, rfl⟩
  · exact h
theorem doM_q {S : MS} (h : MQ S) (d : Do) (l : List Nat) : MQ (doM S d l) := by cases d <;> exact h.same ⟨rfl, rfl, rfl⟩
theorem aftM_q {S : MS} (h : MQ S) (x : Aft) : MQ (aftM S x) := by cases x <;> exact h.same ⟨rfl, rfl, rfl⟩
theorem stepM_q {S : MS} (h : MQ S) (b : Nat) : MQ (stepM S b) := by
  unfold stepM
  split
  · unfold dynM
    split
    · exact MQ.bad _ _
    · split
      · exact h.same ⟨rfl, rfl, rfl⟩
      · split
        · exact nextM_q (S := { S with raw := S.raw ++ [b], l := S.l ++ [b] }) (h.same ⟨rfl, rfl, rfl⟩)
        · exact h.same ⟨rfl, rfl, rfl⟩
  · unfold partStepM
    simp only []
    split
    · exact MQ.bad _ _
    · split
      · exact doM_q (S := { S with own := S.own ++ [b] }) (h.same ⟨rfl, rfl, rfl⟩) _ _
      · exact h.same ⟨rfl, rfl, rfl⟩
  · unfold markStepM
    split
    · split
      · exact aftM_q (S := { S with at_ := S.at_ + 1 }) (h.same ⟨rfl, rfl, rfl⟩) _
      · exact h.same ⟨rfl, rfl, rfl⟩
    · exact MQ.bad _ _
  · unfold lastM
    simp only []
    split
    · exact MQ.bad _ _
    · split
      · exact MQ.bad _ _
      · split
        · exact fun _ => ⟨rfl, rfl⟩
        · split
          · exact fun hk => absurd hk (by simp)
          · exact fun _ => ⟨rfl, rfl⟩
theorem seeM_q {S : MS} (h : MQ S) (b : Nat) : MQ (seeM S b) := by
  unfold seeM
  split
  · exact stepM_q (S := { S with seen := S.seen + 1 }) (h.same ⟨rfl, rfl, rfl⟩) b
  · exact h.same ⟨rfl, rfl, rfl⟩
theorem scanM_q (xl : Bool) (l : List Nat) : MQ (scanM xl l) := by
  have : ∀ (l : List Nat) (S : MS), MQ S → MQ (l.foldl seeM S) := by
    intro l
    induction l with
    | nil => intro S h; exact h
    | cons b r ih => intro S h; exact ih _ (seeM_q h b)
  exact this l _ (fun _ => ⟨rfl, rfl⟩)
end Go.Proofs.YtlmdkmflbhnlgaaGreat
