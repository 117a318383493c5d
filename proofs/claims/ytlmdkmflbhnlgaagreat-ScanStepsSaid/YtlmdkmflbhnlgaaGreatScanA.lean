/- The machine's small acts. No condition. -/
import Derived.Test.YtlmdkmflbhnlgaaGreatScanP
import Derived.Test.YtlmdkmflbhnlgaaGreatMix
namespace Go.Proofs.YtlmdkmflbhnlgaaGreat
open Go.RowKit
variable {w : World} {s : List Nat} {mp : Nat} {S : MS} {a : MA}
set_option maxHeartbeats 1000000 in
theorem mAsk (h : MR w s mp S a) (n : Nat) (x : Nxt) (v : Value) (hx : NxtOk w s mp x v) (h0 : x ≠ .nil := by intro h; cases h) :
    Calls Tryz.prog 26 #[.pointer (some ⟨mp, 0, none⟩), .int .i64 n, v] w (MDone w s mp (askM S n x)) := by
  have hv : ∃ f p q, v = .func f p q := by
    cases x <;> first | exact absurd rfl h0 | exact ⟨_, _, _, hx⟩ | (obtain ⟨_, _, _, h, _⟩ := hx; exact ⟨_, _, _, h⟩) | (obtain ⟨_, _, h, _⟩ := hx; exact ⟨_, _, _, h⟩)
  obtain ⟨f0, f1, f2, hv⟩ := hv
  subst hv
  have c19 : w.cell? ⟨mp, 19, none⟩ = some (.int .i64 S.need) := h.cell 19 _ rfl
  have c16 : w.cell? ⟨mp, 16, none⟩ = some a.nv := h.cell 16 _ rfl
  have z19 := h.frz 19
  have z16 := h.frz 16
  have HH := Lib.hid h
  have HX := Lib.hid hx
  clear h hx
  go_enter Tryz.func26, Tryz.ntmps26
  go_wp2
  go_end0
  have h1 : MR (w.setCell ⟨mp, 19, none⟩ (.int .i64 n)) s mp { S with need := n } a := HH.out.put 19 _ rfl (fun _ h => h)
  have h2 : MR ((w.setCell ⟨mp, 19, none⟩ (.int .i64 n)).setCell ⟨mp, 16, none⟩ (.func f0 f1 f2)) s mp (askM S n x) { a with nv := .func f0 f1 f2 } := by
    have t2 := (HH.out.turn1 19 (.int .i64 n)).tr (h1.turn1 16 (.func f0 f1 f2))
    have hr := h1.rest.turnM ((Turn.refl _ _).setCell (p := ⟨mp, 16, none⟩) (.inl (by simp)) (.func f0 f1 f2)) h1.cells
    refine ⟨by rw [heap_setCell h1.cells 16 _]; rfl, ⟨hr.mem, hr.raw, hr.l, hr.own, hr.rl, hr.ro, hr.lo, hr.sf, hr.f, hr.step, ?_, hr.gho⟩⟩
    exact HX.out.turn t2 (fun k hk => .inl hk)
  exact ⟨rfl, MAct.same h2 ((HH.out.turn1 19 _).tr (h1.turn1 16 (.func f0 f1 f2)))⟩
theorem info_status : (Tryz.prog.info? 30).map (·.size) = some 13 := by kernel_rfl
set_option maxHeartbeats 1000000 in
theorem mBad (h : MR w s mp S a) (e : Nat) :
    Calls Tryz.prog 48 #[.pointer (some ⟨mp, 0, none⟩), .int .i64 e] w (MDone w s mp (badM S e)) := by
  have HT := Lib.hid (h.there 1 13 (by omega))
  have HH := Lib.hid h
  clear h
  go_enter Tryz.func48, Tryz.ntmps48
  go_wp2_with (refine wpList_store_mid rfl 30 (.tmp 8) (.tmp 6) rfl mp 1 #[.int .i64 3, .int .i64 e, .int .i64 0, .int .u32 0, .bool false, .bool false, .bool false, .bool false, .bool false, .int .u8 0, .int .u8 0, .int .u32 0, .slice none 0 0] (by rfl) (by rfl) HT.out info_status (by simp [Value.oneCell']) ?_)
  go_end0
  have h1 := HH.out.puts (S' := badM S e) (a' := { a with sA := none, sc := 0 }) 1 [.int .i64 3, .int .i64 e, .int .i64 0, .int .u32 0, .bool false, .bool false, .bool false, .bool false, .bool false, .int .u8 0, .int .u8 0, .int .u32 0, .slice none 0 0] (by kernel_rfl) (fun w' h => ⟨h.mem, h.raw, h.l, h.own, h.rl, h.ro, h.lo, DatU.nil _ _, h.f, h.step, h.next, h.gho⟩)
  exact ⟨rfl, MAct.same h1.1 h1.2⟩
/-- What an act that tells a bool ends with. -/
def MTold (w : World) (s : List Nat) (mp : Nat) (b : Bool) (S : MS) (e : Ending) (w' : World) : Prop := e = .returned (.bool b) ∧ MAct w s mp S w'
set_option maxHeartbeats 1000000 in
theorem mMust (h : MR w s mp S a) (b : Bool) :
    Calls Tryz.prog 49 #[.pointer (some ⟨mp, 0, none⟩), .bool b] w (MTold w s mp b (mustM S b)) := by
  have HB := Lib.hid (mBad h 5)
  have HH := Lib.hid h
  clear h
  cases b
  · go_enter Tryz.func49, Tryz.ntmps49
    go_wp2_with fail
    refine HB.out.mono ?_
    rintro e w1 ⟨rfl, hA⟩
    have HA := Lib.hid hA
    clear hA
    go_wp2_with fail
    go_ret
    exact ⟨rfl, HA.out⟩
  · go_enter Tryz.func49, Tryz.ntmps49
    go_wp2_with fail
    go_ret
    exact ⟨rfl, MAct.same HH.out (Turn.refl _ _)⟩
theorem RowU.at_ {w : World} {s : List Nat} {A : Option Addr} {c : Nat} {l : List Nat} (h : RowU w s A c l) (i : Nat) (hi : i < l.length) : ∃ g, A = some ⟨g, 0, none⟩ ∧ l.length ≤ c ∧ c ≤ 9223372036854775807 ∧ w.cell? ⟨g, i, none⟩ = some (.int .u8 (l.getD i 0 : Nat)) := by
  obtain ⟨ad, rfl, hc⟩ := h.1.rd.at_ i hi
  rcases h.1.2 with ⟨hv, -⟩ | ⟨g, cap, cur, hv, -, -, h1, h2, -⟩
  · injection hv with hv; cases hv
  · injection hv with hv _ hcap
    injection hv with hv
    subst hv hcap
    refine ⟨g, rfl, by rw [bys_length] at h1; exact h1, h2, ?_⟩
    have e1 : (⟨g, i, none⟩ : Addr) = (⟨g, 0, none⟩ : Addr).add i := by unfold Addr.add; by_cases h0 : i = 0 <;> simp [h0]
    rw [e1, hc, List.getD_eq_getElem?_getD, List.getElem?_eq_getElem hi]; rfl
set_option maxHeartbeats 1000000 in
theorem mFlag (h : MR w s mp S a) (i : Nat) (hi : i < S.l.length) :
    Calls Tryz.prog 50 #[.pointer (some ⟨mp, 0, none⟩), .int .i64 i] w fun e w' => e = .returned (.bool (flagM S i)) ∧ Below w.heap.size w w' := by
  obtain ⟨g, hg, h1, h2, hc⟩ := h.rest.l.at_ i hi
  have c18 : w.cell? ⟨mp, 18, none⟩ = some (.slice (some ⟨g, 0, none⟩) S.l.length a.lc) := h.cell 18 _ (by rw [← hg]; rfl)
  have hf : flagM S i = (((S.l.getD i 0 : Nat) : Int) == 1) := by unfold flagM; rw [Bool.eq_iff_iff]; simp only [beq_iff_eq]; omega
  rw [hf]
  generalize S.l.getD i 0 = x at *
  generalize S.l.length = n at *
  clear h hg hf
  go_enter Tryz.func50, Tryz.ntmps50
  go_wp2_with fail
  go_ret
  exact ⟨rfl, Below.refl _ _⟩
theorem rd_part {w : World} {g : Nat} {l : List Nat} (h : Rd w (some ⟨g, 0, none⟩) (bys l)) (i j : Nat) : Rd w (some ⟨g, i, none⟩) (bys ((l.take j).drop i)) := by
  have := rd_drop (rd_take h j) i
  rwa [Nat.zero_add] at this
set_option maxHeartbeats 1000000 in
theorem mNumber (h : MR w s mp S a) (i j : Nat) (hij : i < j) (hj : j ≤ S.l.length) (h64 : j - i ≤ 62) (h01 : ∀ x ∈ S.l, x ≤ 1) (hl : S.l.length ≤ 1000000) :
    Calls Tryz.prog 72 #[.pointer (some ⟨mp, 0, none⟩), .int .i64 i, .int .i64 j] w fun e w' => e = .returned (.int .i64 (numM S i j : Nat)) ∧ Below w.heap.size w w' := by
  obtain ⟨g, hg, h1, h2, -⟩ := h.rest.l.at_ 0 (by omega)
  have c18 : w.cell? ⟨mp, 18, none⟩ = some (.slice (some ⟨g, 0, none⟩) S.l.length a.lc) := h.cell 18 _ (by rw [← hg]; rfl)
  have hr := h.rest.l.1.rd
  rw [hg] at hr
  obtain ⟨d, hd⟩ : ∃ d, j - i = d := ⟨_, rfl⟩
  have hdi : (j : Int) - (i : Int) = (d : Int) := by omega
  have hlen : ((S.l.take j).drop i).length = d := by rw [List.length_drop, List.length_take]; omega
  have h01' : ∀ x ∈ (S.l.take j).drop i, x ≤ 1 := fun x hx => h01 x (List.mem_of_mem_take (List.mem_of_mem_drop hx))
  have HG := Lib.hid (fun c => Get_any w (some ⟨g, i, none⟩) c d _ (rd_part hr i j) hlen (by omega) h01')
  have hlt := numN_lt _ h01'
  rw [hlen] at hlt
  have hp : 2 ^ d ≤ 2 ^ 62 := Nat.pow_le_pow_right (by omega) (by omega)
  have hm : numN ((S.l.take j).drop i) < 4611686018427387904 := by omega
  unfold numM
  have hg2 := hg
  generalize numN ((S.l.take j).drop i) = x at *
  generalize S.l.length = n at *
  have hji : ¬ j < i := by omega
  have hnd : j - i = d := hd
  have hcj : ¬ a.lc < j := by omega
  clear h hg hr hlen h01' h01 hlt hp hg2 hd
  go_enter Tryz.func72, Tryz.ntmps72
  go_wp2_with fail
  refine (HG.out _).mono ?_
  rintro e w1 ⟨rfl, hb⟩
  have HB := Lib.hid hb
  clear hb
  go_wp2_with fail
  go_ret
  exact ⟨rfl, HB.out⟩
set_option maxHeartbeats 1000000 in
theorem mEnd (h : MR w s mp S a) :
    Calls Tryz.prog 108 #[.pointer (some ⟨mp, 0, none⟩)] w (MDone w s mp (endM S)) := by
  have c33 : w.cell? ⟨mp, 33, none⟩ = some (.int .i64 S.at_) := h.cell 33 _ rfl
  have c15 : w.cell? ⟨mp, 15, none⟩ = some a.sv := h.cell 15 _ rfl
  have z33 := h.frz 33
  have z15 := h.frz 15
  have HH := Lib.hid h
  clear h
  go_enter Tryz.func108, Tryz.ntmps108
  go_wp2
  go_end0
  have h1 : MR (w.setCell ⟨mp, 33, none⟩ (.int .i64 0)) s mp { S with at_ := 0 } a := HH.out.put 33 _ rfl (fun _ h => h)
  refine ⟨rfl, MAct.same (a := { a with sv := .func (.func 114) #[ptr mp] #[] }) ?_ ((HH.out.turn1 33 _).tr (h1.turn1 15 _))⟩
  have hr := h1.rest.turnM ((Turn.refl _ _).setCell (p := ⟨mp, 15, none⟩) (.inl (by simp)) (.func (.func 114) #[ptr mp] #[])) h1.cells
  exact ⟨by rw [heap_setCell h1.cells 15 _]; rfl, ⟨hr.mem, hr.raw, hr.l, hr.own, hr.rl, hr.ro, hr.lo, hr.sf, hr.f, rfl, hr.next, hr.gho⟩⟩
end Go.Proofs.YtlmdkmflbhnlgaaGreat
namespace Go.Proofs.YtlmdkmflbhnlgaaGreat
open Go.RowKit
variable {w : World} {s : List Nat} {mp : Nat} {S : MS} {a : MA}
theorem MAct.pre {w1 w2 : World} (h : MAct w1 s mp S w2) (hb : Below w.heap.size w w1) : MAct w s mp S w2 := h.after (fun _ hk => .inl hk) (Turn.of hb)
/-- A struct's store into the machine. -/
theorem wpList_mputs {P : Program} {ops : Array Oper} {rest : List Oper} {op : Oper} {f : Act} {Q : Exit → Act → World → Prop} (h : MR w s mp S a) (hgd : op.guard = none) (ty : TypeId) (x y : Operand) (ho : op.op = .store ty x y)
    (i n : Nat) (vs : List Value) (hn : vs.length = n) (hx : f.eval x = .pointer (some ⟨mp, i, none⟩)) (hy : f.eval y = .agg vs.toArray) (hi : (P.info? ty).map (·.size) = some n) (h1 : vs.toArray.all (·.oneCell') = true) (hin : i + n ≤ 34)
    (S' : MS) (a' : MA) (hv : setAll vs i (mca S a) = mca S' a')
    (hk : ∀ w', MRest w' s mp S.raw S.l S.own S.sf.data S.f.data S.step S.next S.gh a → MRest w' s mp S'.raw S'.l S'.own S'.sf.data S'.f.data S'.step S'.next S'.gh a')
    (K : ∀ W', Hid (MR W' s mp S' a') → Hid (Turn s w W') → wpList P ops Q rest (f.put op.dst undef) W') : wpList P ops Q (op :: rest) f w := by
  subst hn
  have h2 := h.puts i vs hv hk
  refine wpList_store_mid hgd ty x y ho mp i vs.toArray hx hy (h.there _ _ (by simpa using hin)) (by simpa using hi) h1 (K _ h2.1 h2.2)
theorem must_true (S : MS) : mustM S true = S := rfl
theorem must_false (S : MS) : mustM S false = badM S 5 := rfl
theorem MTold.at_ {b : Bool} {e : Ending} {w' : World} (h : MTold w s mp b S e w') : e = .returned (.bool b) ∧ ∃ s' a', MR w' s' mp S a' ∧ (∀ k ∈ s', k ∈ s ∨ w.heap.size ≤ k) ∧ Turn s w w' := h
set_option maxHeartbeats 1000000 in
theorem mStart (h : MR w s mp S a) (hl : 1 ≤ S.l.length) :
    Calls Tryz.prog 27 #[.pointer (some ⟨mp, 0, none⟩)] w (MDone w s mp (startM S)) := by
  have HF := Lib.hid (mFlag h 0 hl)
  have HH := Lib.hid h
  have hs : startM S = if flagM S 0 then badM S 5 else askM S 14 .ident := rfl
  rw [hs]
  generalize flagM S 0 = q at *
  clear h hs hl
  cases q
  · go_enter Tryz.func27, Tryz.ntmps27
    go_wp2_with fail
    refine HF.out.mono ?_
    rintro e w1 ⟨rfl, hb⟩
    go_wp2_with fail
    refine (mMust (HH.out.below hb) _).mono ?_
    rintro e w2 ⟨rfl, hA⟩
    obtain ⟨s2, a2, h2, n2, t2⟩ := hA.pre hb
    go_wp2_with fail
    refine (mAsk h2 14 .ident _ rfl).mono ?_
    rintro e w3 ⟨rfl, hA3⟩
    go_wp2_with fail
    go_end0
    exact ⟨rfl, hA3.after n2 t2⟩
  · go_enter Tryz.func27, Tryz.ntmps27
    go_wp2_with fail
    refine HF.out.mono ?_
    rintro e w1 ⟨rfl, hb⟩
    go_wp2_with fail
    refine (mMust (HH.out.below hb) _).mono ?_
    rintro e w2 ⟨rfl, hA⟩
    have hA2 := hA.pre hb
    go_wp2_with fail
    go_end0
    exact ⟨rfl, hA2⟩
set_option maxHeartbeats 1000000 in
theorem mReserved (h : MR w s mp S a) (hl : 34 < S.l.length) :
    Calls Tryz.prog 98 #[.pointer (some ⟨mp, 0, none⟩)] w (MDone w s mp (reservedM S)) := by
  have HF := Lib.hid (mFlag h 34 hl)
  have HH := Lib.hid h
  have hs : reservedM S = if flagM S 34 then badM S 5 else askM S 39 .code := rfl
  rw [hs]
  generalize flagM S 34 = q at *
  clear h hs hl
  cases q
  · go_enter Tryz.func98, Tryz.ntmps98
    go_wp2_with fail
    refine HF.out.mono ?_
    rintro e w1 ⟨rfl, hb⟩
    go_wp2_with fail
    refine (mMust (HH.out.below hb) _).mono ?_
    rintro e w2 ⟨rfl, hA⟩
    obtain ⟨s2, a2, h2, n2, t2⟩ := hA.pre hb
    go_wp2_with fail
    refine (mAsk h2 39 .code _ rfl).mono ?_
    rintro e w3 ⟨rfl, hA3⟩
    go_wp2_with fail
    go_end0
    exact ⟨rfl, hA3.after n2 t2⟩
  · go_enter Tryz.func98, Tryz.ntmps98
    go_wp2_with fail
    refine HF.out.mono ?_
    rintro e w1 ⟨rfl, hb⟩
    go_wp2_with fail
    refine (mMust (HH.out.below hb) _).mono ?_
    rintro e w2 ⟨rfl, hA⟩
    have hA2 := hA.pre hb
    go_wp2_with fail
    go_end0
    exact ⟨rfl, hA2⟩
set_option maxHeartbeats 1000000 in
theorem mFormat (h : MR w s mp S a) (hl : 14 < S.l.length) :
    Calls Tryz.prog 73 #[.pointer (some ⟨mp, 0, none⟩)] w (MDone w s mp (formatM S)) := by
  have HF := Lib.hid (mFlag h 14 hl)
  have HH := Lib.hid h
  have hs : formatM S = if flagM S 14 then (if S.f.rtr then badM S 5 else askM S 16 .newer) else askM S 19 .code := rfl
  rw [hs]
  generalize flagM S 14 = q at *
  clear h hs hl
  cases q
  · go_enter Tryz.func73, Tryz.ntmps73
    go_wp2_with fail
    refine HF.out.mono ?_
    rintro e w1 ⟨rfl, hb⟩
    go_wp2_with fail
    refine (mAsk (HH.out.below hb) 19 .code _ rfl).mono ?_
    rintro e w3 ⟨rfl, hA3⟩
    go_wp2_with fail
    go_end0
    exact ⟨rfl, hA3.pre hb⟩
  · obtain ⟨r, hr⟩ : ∃ r, S.f.rtr = r := ⟨_, rfl⟩
    rw [hr]
    cases r
    · go_enter Tryz.func73, Tryz.ntmps73
      go_wp2_with fail
      refine HF.out.mono ?_
      rintro e w1 ⟨rfl, hb⟩
      have c24 : w1.cell? ⟨mp, 24, none⟩ = some (.bool false) := (HH.out.below hb).cell 24 _ (by rw [← hr]; rfl)
      go_wp2_with fail
      refine (mMust (HH.out.below hb) _).mono ?_
      rintro e w2 ⟨rfl, hA⟩
      obtain ⟨s2, a2, h2, n2, t2⟩ := hA.pre hb
      go_wp2_with fail
      refine (mAsk h2 16 .newer _ rfl).mono ?_
      rintro e w3 ⟨rfl, hA3⟩
      go_wp2_with fail
      go_end0
      exact ⟨rfl, hA3.after n2 t2⟩
    · go_enter Tryz.func73, Tryz.ntmps73
      go_wp2_with fail
      refine HF.out.mono ?_
      rintro e w1 ⟨rfl, hb⟩
      have c24 : w1.cell? ⟨mp, 24, none⟩ = some (.bool true) := (HH.out.below hb).cell 24 _ (by rw [← hr]; rfl)
      go_wp2_with fail
      refine (mMust (HH.out.below hb) _).mono ?_
      rintro e w2 ⟨rfl, hA⟩
      have hA2 := hA.pre hb
      go_wp2_with fail
      go_end0
      exact ⟨rfl, hA2⟩
set_option maxHeartbeats 1000000 in
theorem mNewer (h : MR w s mp S a) (hl : 15 < S.l.length) :
    Calls Tryz.prog 97 #[.pointer (some ⟨mp, 0, none⟩)] w (MDone w s mp (newerM S)) := by
  have HF := Lib.hid (mFlag h 15 hl)
  have HH := Lib.hid h
  have hs : newerM S = if flagM S 15 then (if S.xl then askM { S with f := { S.f with kind := 3 } } 17 .xlHead else { S with kind := 4, err := 0, sf := zFr }) else askM { S with f := { S.f with kind := 2 } } 22 .fdCode := rfl
  rw [hs]
  generalize flagM S 15 = q at *
  clear h hs hl
  cases q
  · go_enter Tryz.func97, Tryz.ntmps97
    go_wp2_with fail
    refine HF.out.mono ?_
    rintro e w1 ⟨rfl, hb⟩
    have h1 := HH.out.below hb
    have c21 : w1.cell? ⟨mp, 21, none⟩ = some (.int .i64 S.f.kind) := h1.cell 21 _ rfl
    have z21 := h1.frz 21
    go_wp2_with fail
    have h2 : MR (w1.setCell ⟨mp, 21, none⟩ (.int .i64 2)) s mp { S with f := { S.f with kind := 2 } } a := h1.put 21 _ rfl (fun _ h => h)
    refine (mAsk h2 22 .fdCode _ rfl).mono ?_
    rintro e w3 ⟨rfl, hA3⟩
    go_wp2_with fail
    go_end0
    exact ⟨rfl, (hA3.after (fun _ hk => .inl hk) (h1.turn1 21 _)).pre hb⟩
  · obtain ⟨r, hr⟩ : ∃ r, S.xl = r := ⟨_, rfl⟩
    rw [hr]
    cases r
    · go_enter Tryz.func97, Tryz.ntmps97
      go_wp2_with fail
      refine HF.out.mono ?_
      rintro e w1 ⟨rfl, hb⟩
      have h1 := HH.out.below hb
      have c0 : w1.cell? ⟨mp, 0, none⟩ = some (.bool false) := h1.cell 0 _ (by rw [← hr]; rfl)
      have HT := Lib.hid (h1.there 1 13 (by omega))
      go_wp2_with (refine wpList_store_mid rfl 30 (.tmp 31) (.tmp 29) rfl mp 1 #[.int .i64 4, .int .i64 0, .int .i64 0, .int .u32 0, .bool false, .bool false, .bool false, .bool false, .bool false, .int .u8 0, .int .u8 0, .int .u32 0, .slice none 0 0] (by rfl) (by rfl) HT.out info_status (by simp [Value.oneCell']) ?_)
      go_end0
      have h2 := h1.puts (S' := { S with kind := 4, err := 0, sf := zFr }) (a' := { a with sA := none, sc := 0 }) 1 [.int .i64 4, .int .i64 0, .int .i64 0, .int .u32 0, .bool false, .bool false, .bool false, .bool false, .bool false, .int .u8 0, .int .u8 0, .int .u32 0, .slice none 0 0] (by kernel_rfl) (fun w' h => ⟨h.mem, h.raw, h.l, h.own, h.rl, h.ro, h.lo, DatU.nil _ _, h.f, h.step, h.next, h.gho⟩)
      have hm := (MAct.same h2.1 h2.2).pre hb
      rw [hr] at hm
      exact ⟨rfl, hm⟩
    · go_enter Tryz.func97, Tryz.ntmps97
      go_wp2_with fail
      refine HF.out.mono ?_
      rintro e w1 ⟨rfl, hb⟩
      have h1 := HH.out.below hb
      have c0 : w1.cell? ⟨mp, 0, none⟩ = some (.bool true) := h1.cell 0 _ (by rw [← hr]; rfl)
      have c21 : w1.cell? ⟨mp, 21, none⟩ = some (.int .i64 S.f.kind) := h1.cell 21 _ rfl
      have z21 := h1.frz 21
      go_wp2_with fail
      have h2 : MR (w1.setCell ⟨mp, 21, none⟩ (.int .i64 3)) s mp { S with f := { S.f with kind := 3 } } a := h1.put 21 _ rfl (fun _ h => h)
      refine (mAsk h2 17 .xlHead _ rfl).mono ?_
      rintro e w3 ⟨rfl, hA3⟩
      go_wp2_with fail
      go_end0
      have hm := (hA3.after (fun _ hk => .inl hk) (h1.turn1 21 _)).pre hb
      rw [hr] at hm
      exact ⟨rfl, hm⟩
theorem info_frameS : (Tryz.prog.info? 28).map (·.size) = some 11 := by kernel_rfl
theorem numM_lt (S : MS) (i j d : Nat) (hd : j - i ≤ d) (h01 : ∀ x ∈ S.l, x ≤ 1) : numM S i j < 2 ^ d := by
  unfold numM
  refine Nat.lt_of_lt_of_le (numN_lt _ (fun x hx => h01 x (List.mem_of_mem_take (List.mem_of_mem_drop hx)))) (Nat.pow_le_pow_right (by omega) ?_)
  rw [List.length_drop, List.length_take]; omega
set_option maxHeartbeats 2000000 in
theorem mIdent (h : MR w s mp S a) (hl : 13 < S.l.length) (hl2 : S.l.length ≤ 1000000) (h01 : ∀ x ∈ S.l, x ≤ 1) :
    Calls Tryz.prog 51 #[.pointer (some ⟨mp, 0, none⟩)] w (MDone w s mp (identM S)) := by
  have HN := Lib.hid (mNumber h 1 12 (by omega) (by omega) (by omega) h01 hl2)
  have hlt := numM_lt S 1 12 11 (by omega) h01
  have HF := Lib.hid (fun W (hW : MR W s mp S a) => mFlag hW 12 (by omega))
  have HF2 := Lib.hid (fun W S2 a2 (hW : MR W s mp S2 a2) (e : S2.l = S.l) => (mFlag hW 13 (by rw [e]; omega)))
  have HH := Lib.hid h
  have hs : identM S = if flagM S 13 then (if flagM S 12 then askM { S with f := { zFr with kind := 1, id := numM S 1 12, rtr := flagM S 12 } } 34 .extended else badM { S with f := { zFr with kind := 1, id := numM S 1 12, rtr := flagM S 12 } } 5) else askM { S with f := { zFr with kind := 1, id := numM S 1 12, rtr := flagM S 12 } } 15 .format := rfl
  generalize identM S = T at *
  obtain ⟨r, hr⟩ : ∃ r, flagM S 12 = r := ⟨_, rfl⟩
  obtain ⟨q, hq⟩ : ∃ q, flagM S 13 = q := ⟨_, rfl⟩
  rw [hr, hq] at hs
  have HS := Lib.hid hs
  rw [hr] at HF
  have HQ := Lib.hid hq
  generalize numM S 1 12 = x at *
  have hx : x < 2048 := hlt
  clear h hs hl hlt hr hq h01 hl2
  cases r
  · go_enter Tryz.func51, Tryz.ntmps51
    go_wp2_with fail
    refine HN.out.mono ?_
    rintro e w1 ⟨rfl, hb⟩
    have H1 := Lib.hid (HH.out.below hb)
    have HB1 := Lib.hid hb
    clear hb
    go_wp2_with fail
    refine (HF.out _ H1.out).mono ?_
    rintro e w2 ⟨rfl, hb⟩
    have H2 := Lib.hid (H1.out.below hb)
    have HB2 := Lib.hid (below_trans HB1.out hb)
    clear hb
    go_wp2_with (refine wpList_mputs H2.out rfl 28 (.tmp 10) (.tmp 8) rfl 21 11 [.int .i64 1, .int .u32 x, .bool false, .bool false, .bool false, .bool false, .bool false, .int .u8 0, .int .u8 0, .int .u32 0, .slice none 0 0] rfl (by kernel_rfl) (by kernel_rfl) info_frameS (by simp [Value.oneCell']) (by decide) { S with f := { zFr with kind := 1, id := x, rtr := false } } { a with fA := none, fc := 0 } (by kernel_rfl) (fun w' h => ⟨h.mem, h.raw, h.l, h.own, h.rl, h.ro, h.lo, h.sf, DatU.nil _ _, h.step, h.next, h.gho⟩) ?_; intro W3 H3 T3)
    refine (HF2.out _ _ _ H3.out rfl).mono ?_
    rintro e w4 ⟨rfl, hb⟩
    have H4 := Lib.hid (H3.out.below hb)
    have T4 := Lib.hid ((Turn.of HB2.out).tr (T3.out.tr (Turn.of (s := s) hb)))
    clear hb
    have hq' : flagM { S with f := { zFr with kind := 1, id := x, rtr := false } } 13 = q := HQ.out
    rw [hq']
    have c24 : w4.cell? ⟨mp, 24, none⟩ = some (.bool false) := H4.out.cell 24 _ rfl
    cases q
    · go_wp2_with fail
      refine (mAsk H4.out 15 .format _ rfl).mono ?_
      rintro e w5 ⟨rfl, hA5⟩
      go_wp2_with fail
      go_end0
      exact ⟨rfl, HS.out ▸ hA5.after (fun _ hk => .inl hk) T4.out⟩
    · go_wp2_with fail
      refine (mMust H4.out _).mono ?_
      rintro e w5 ⟨rfl, hA⟩
      have hA5 := hA.after (fun _ hk => .inl hk) T4.out
      go_wp2_with fail
      go_end0
      exact ⟨rfl, HS.out ▸ hA5⟩
  · go_enter Tryz.func51, Tryz.ntmps51
    go_wp2_with fail
    refine HN.out.mono ?_
    rintro e w1 ⟨rfl, hb⟩
    have H1 := Lib.hid (HH.out.below hb)
    have HB1 := Lib.hid hb
    clear hb
    go_wp2_with fail
    refine (HF.out _ H1.out).mono ?_
    rintro e w2 ⟨rfl, hb⟩
    have H2 := Lib.hid (H1.out.below hb)
    have HB2 := Lib.hid (below_trans HB1.out hb)
    clear hb
    go_wp2_with (refine wpList_mputs H2.out rfl 28 (.tmp 10) (.tmp 8) rfl 21 11 [.int .i64 1, .int .u32 x, .bool false, .bool true, .bool false, .bool false, .bool false, .int .u8 0, .int .u8 0, .int .u32 0, .slice none 0 0] rfl (by kernel_rfl) (by kernel_rfl) info_frameS (by simp [Value.oneCell']) (by decide) { S with f := { zFr with kind := 1, id := x, rtr := true } } { a with fA := none, fc := 0 } (by kernel_rfl) (fun w' h => ⟨h.mem, h.raw, h.l, h.own, h.rl, h.ro, h.lo, h.sf, DatU.nil _ _, h.step, h.next, h.gho⟩) ?_; intro W3 H3 T3)
    refine (HF2.out _ _ _ H3.out rfl).mono ?_
    rintro e w4 ⟨rfl, hb⟩
    have H4 := Lib.hid (H3.out.below hb)
    have T4 := Lib.hid ((Turn.of HB2.out).tr (T3.out.tr (Turn.of (s := s) hb)))
    clear hb
    have hq' : flagM { S with f := { zFr with kind := 1, id := x, rtr := true } } 13 = q := HQ.out
    rw [hq']
    have c24 : w4.cell? ⟨mp, 24, none⟩ = some (.bool true) := H4.out.cell 24 _ rfl
    cases q
    · go_wp2_with fail
      refine (mAsk H4.out 15 .format _ rfl).mono ?_
      rintro e w5 ⟨rfl, hA5⟩
      go_wp2_with fail
      go_end0
      exact ⟨rfl, HS.out ▸ hA5.after (fun _ hk => .inl hk) T4.out⟩
    · go_wp2_with fail
      refine (mMust H4.out _).mono ?_
      rintro e w5 ⟨rfl, hA⟩
      obtain ⟨s5, a5, h5, n5, t5⟩ := hA.after (fun _ hk => .inl hk) T4.out
      go_wp2_with fail
      refine (mAsk h5 34 .extended _ rfl).mono ?_
      rintro e w6 ⟨rfl, hA6⟩
      go_wp2_with fail
      go_end0
      exact ⟨rfl, HS.out ▸ hA6.after n5 t5⟩
end Go.Proofs.YtlmdkmflbhnlgaaGreat
namespace Go.Proofs.YtlmdkmflbhnlgaaGreat
open Go.RowKit
variable {w : World} {s : List Nat} {mp : Nat} {S : MS} {a : MA}
theorem or32 (a b : Nat) (ha : a < 4294967296) (hb : b < 4294967296) : bits .or .u32 (a : Int) (b : Int) = ((a ||| b : Nat) : Int) := by
  have ha' : a % 2 ^ IntKind.u32.bits = a := Nat.mod_eq_of_lt ha
  have hb' : b % 2 ^ IntKind.u32.bits = b := Nat.mod_eq_of_lt hb
  have hlt : a ||| b < 2 ^ 32 := Nat.or_lt_two_pow ha hb
  simp only [bits, BitVec.ofInt_natCast, BitVec.toNat_or, BitVec.toNat_ofNat, ha', hb']
  simp [IntKind.wrap, IntKind.bits, IntKind.signed]
  omega
/-- A cell's store into the machine. -/
theorem wpList_mput {P : Program} {ops : Array Oper} {rest : List Oper} {op : Oper} {f : Act} {Q : Exit → Act → World → Prop} (h : MR w s mp S a) (hgd : op.guard = none) (ty : TypeId) (x y : Operand) (ho : op.op = .store ty x y)
    (i : Nat) (v : Value) (hx : f.eval x = .pointer (some ⟨mp, i, none⟩)) (hy : f.eval y = v) (h1 : v.oneCell' = true) (hi : (P.info? ty).map (·.size) = some 1) (hin : i < 34)
    (S' : MS) (a' : MA) (hv : (mca S a).setIfInBounds i v = mca S' a')
    (hk : ∀ w', Turn s w w' → MRest w' s mp S.raw S.l S.own S.sf.data S.f.data S.step S.next S.gh a → MRest w' s mp S'.raw S'.l S'.own S'.sf.data S'.f.data S'.step S'.next S'.gh a')
    (K : ∀ W', Hid (MR W' s mp S' a') → Hid (Turn s w W') → wpList P ops Q rest (f.put op.dst undef) W') : wpList P ops Q (op :: rest) f w := by
  refine wpList_plain hgd fun K0 hK => ?_
  have t1 : Turn [mp] w (w.setCell ⟨mp, i, none⟩ v) := (Turn.refl _ _).setCell (p := ⟨mp, i, none⟩) (.inl (by simp)) _
  have h2 : MR (w.setCell ⟨mp, i, none⟩ v) s mp S' a' := ⟨by rw [heap_setCell h.cells i v, hv], hk _ (h.turn1 i v) (h.rest.turnM t1 h.cells)⟩
  have hc : ∃ u, w.cell? ⟨mp, i, none⟩ = some u := by
    have hlt : i < (mca S a).size := by simpa [mca, mcs] using hin
    exact ⟨_, h.cell i _ (Array.getElem?_eq_getElem hlt)⟩
  obtain ⟨u, hc⟩ := hc
  have hz := h.frz i
  unfold Oper.wp execOp
  have hs : (store ⟨mp, i, none⟩ v).run P w = .ok () (w.setCell ⟨mp, i, none⟩ v) := by rw [run_store P w _ v _ h1]; simp [hc, hz]
  have h3 := hK (f.put op.dst undef) _ (K _ h2 (h.turn1 i v))
  have hone : ∀ cs, v ≠ .agg cs := fun cs e => by subst e; simp [Value.oneCell'] at h1
  simp only [ho, hx, hy, Instr.storeAt, Instr.sureAddr, Sem.run_bind, Sem.run_pure, Result.andThen_ok]
  have hsv : (storeVar ty ⟨mp, i, none⟩ v).run P w = .ok () (w.setCell ⟨mp, i, none⟩ v) := by
    have hcs : v.cells = #[v] := by cases v <;> first | rfl | (simp [Value.oneCell'] at h1; done)
    cases hq : P.info? ty with
    | none => simp [hq] at hi
    | some ti =>
      have hs1 : ti.size = 1 := by simpa [hq] using hi
      have hs2 : (store (⟨mp, i, none⟩ : Addr) v).run P w = .ok () (w.setCell ⟨mp, i, none⟩ v) := hs
      simp [storeVar, sizeOf, typeInfo, hq, hcs, hs1, storeCells, hs2, Addr.add]
  rw [hsv]
  exact h3
theorem info_boolS : (Tryz.prog.info? 4).map (·.size) = some 1 := by kernel_rfl
theorem info_u32S : (Tryz.prog.info? 26).map (·.size) = some 1 := by kernel_rfl
theorem info_intS : (Tryz.prog.info? 3).map (·.size) = some 1 := by kernel_rfl
set_option maxRecDepth 100000 in
set_option maxHeartbeats 2000000 in
theorem mExtended (h : MR w s mp S a) (hl : 33 < S.l.length) (hl2 : S.l.length ≤ 1000000) (h01 : ∀ x ∈ S.l, x ≤ 1) (i : Nat) (hid : S.f.id = (i : Int)) (hi : i < 2048) :
    Calls Tryz.prog 74 #[.pointer (some ⟨mp, 0, none⟩)] w (MDone w s mp (extendedM S)) := by
  have HF := Lib.hid (mFlag h 32 (by omega))
  have hlt := numM_lt S 14 32 18 (by omega) h01
  have HH := Lib.hid h
  obtain ⟨r, hr⟩ : ∃ r, flagM S 32 = r := ⟨_, rfl⟩
  obtain ⟨x, hx⟩ : ∃ x, numM S 14 32 = x := ⟨_, rfl⟩
  obtain ⟨q, hq⟩ : ∃ q, flagM S 33 = q := ⟨_, rfl⟩
  have HN := Lib.hid (fun W S2 a2 (hW : MR W s mp S2 a2) (e : S2.l = S.l) => by
    have k := mNumber hW 14 32 (by omega) (by rw [e]; omega) (by omega) (by rw [e]; exact h01) (by rw [e]; exact hl2)
    rw [show numM S2 14 32 = x by rw [← hx]; unfold numM; rw [e]] at k
    exact k)
  have HF3 := Lib.hid (fun W S2 a2 (hW : MR W s mp S2 a2) (e : S2.l = S.l) => by
    have k := mFlag hW 33 (by rw [e]; omega)
    rw [show flagM S2 33 = q by rw [← hq]; unfold flagM; rw [e]] at k
    exact k)
  have hs : extendedM S = if q then badM { S with f := { S.f with ext := true, rtr := r, id := ((i * 262144 + x : Nat) : Int) } } 5 else askM { S with f := { S.f with ext := true, rtr := r, id := ((i * 262144 + x : Nat) : Int) } } 35 .reserved := by
    have h1 : extendedM S = if flagM S 33 then badM { S with f := { S.f with ext := true, rtr := flagM S 32, id := S.f.id * 262144 + numM S 14 32 } } 5 else askM { S with f := { S.f with ext := true, rtr := flagM S 32, id := S.f.id * 262144 + numM S 14 32 } } 35 .reserved := rfl
    rw [h1, hq, hr, hx, hid]
    have e1 : (i : Int) * 262144 + (x : Int) = ((i * 262144 + x : Nat) : Int) := by omega
    rw [e1]
  have hor : bits .or .u32 ((i : Int) * 262144) (x : Int) = ((i * 262144 + x : Nat) : Int) := by
    have e : ((i : Int) * 262144) = ((i * 262144 : Nat) : Int) := by omega
    rw [e, or32 _ _ (by omega) (by omega), nat_join 18 _ _ (by omega) (by omega)]
  have hw : IntKind.u32.wrap ((i : Int) * 262144) = (i : Int) * 262144 := by
    simp [IntKind.wrap, IntKind.bits, IntKind.signed]; omega
  rw [hr] at HF
  generalize extendedM S = T at *
  have HS := Lib.hid hs
  have hx2 : x < 262144 := by omega
  obtain ⟨y, hy⟩ : ∃ y, i * 262144 + x = y := ⟨_, rfl⟩
  rw [hy] at hor HS
  clear h hs hl hlt hr hq hx h01 hl2 hy
  cases r
  · go_enter Tryz.func74, Tryz.ntmps74
    go_wp2_with fail
    refine HF.out.mono ?_
    rintro e w1 ⟨rfl, hb⟩
    have H1 := Lib.hid (HH.out.below hb)
    have HB1 := Lib.hid hb
    clear hb
    go_wp2_with (first
      | (refine wpList_mput H1.out rfl 4 (.tmp 8) (.const (.bool true)) rfl 23 (.bool true) (by kernel_rfl) (by kernel_rfl) rfl info_boolS (by decide) { S with f := { S.f with ext := true } } a (by kernel_rfl) (fun _ _ h => h) ?_; intro W2 H2 T2)
      | (refine wpList_mput H2.out rfl 4 (.tmp 11) (.tmp 5) rfl 24 (.bool false) (by kernel_rfl) (by kernel_rfl) rfl info_boolS (by decide) { S with f := { S.f with ext := true, rtr := false } } a (by kernel_rfl) (fun _ _ h => h) ?_; intro W3 H3 T3))
    have c22 : ∀ e : Ext W3, e.W.cell? ⟨mp, 22, none⟩ = some (.int .u32 i) := fun e => ext_cell (H3.out.cell 22 _ (by show some (Value.int .u32 S.f.id) = _; rw [hid])) e
    refine wp_region_mix (fun w' => ∃ e : Ext W3, w' = e.W) [(true, 0), (true, 1), (true, 2), (true, 3), (true, 4), (true, 5), (true, 6), (true, 7), (false, 8), (true, 9), (true, 10), (true, 11), (true, 12), (true, 13)] [14] (by kernel_rfl) (by kernel_rfl) (by intro _ _ d _ _ h; cases d <;> exact h) ⟨⟨W3.drew, (Below.refl _ _).drew⟩, rfl⟩ ?_
    simp only [pickM, pickL, List.drop_succ_cons, List.drop_zero]
    repeat (first | (refine mix_pure (by rfl) (by rfl) ?_; intro K hK; go_big_quiet_op; go_big_quiet_on) | (refine mix_nilc ⟨mp, 0, none⟩ (by rfl) (by kernel_rfl) ?_; go_simp))
    refine mix_eff (by rfl) ?_
    intro K hK
    go_simp
    refine (HN.out _ _ _ H3.out.drew rfl).mono ?_
    rintro e w4 ⟨rfl, hb4⟩
    have hb34 : Below W3.heap.size W3 w4 := below_trans (Below.refl _ _).drew hb4
    refine hK _ _ ⟨⟨w4, hb34⟩, rfl⟩ ?_
    clear hK K
    repeat (first | (refine mix_pure (by rfl) (by rfl) ?_; intro K hK; go_big_quiet_op; go_big_quiet_on) | (refine mix_nilc ⟨mp, 0, none⟩ (by rfl) (by kernel_rfl) ?_; go_simp))
    refine mix_nil ?_
    have H4 := Lib.hid (H3.out.below hb34)
    have T4 := Lib.hid ((Turn.of HB1.out).tr (T2.out.tr (T3.out.tr (Turn.of (s := s) hb34))))
    clear hb4 hb34 c22
    refine wpList_mput H4.out rfl 26 (.tmp 25) (.tmp 22) rfl 22 (.int .u32 y) (by kernel_rfl) (by kernel_rfl) rfl info_u32S (by decide) { S with f := { S.f with ext := true, rtr := false, id := (y : Int) } } a (by kernel_rfl) (fun _ _ h => h) ?_
    intro W5 H5 T5
    refine wpList_nil ?_
    go_wp2_with fail
    refine (HF3.out _ _ _ H5.out rfl).mono ?_
    rintro e w6 ⟨rfl, hb6⟩
    have H6 := Lib.hid (H5.out.below hb6)
    have T6 := Lib.hid (T4.out.tr (T5.out.tr (Turn.of (s := s) hb6)))
    clear hb6
    cases q
    · go_wp2_with fail
      refine (mMust H6.out _).mono ?_
      rintro e w7 ⟨rfl, hA⟩
      obtain ⟨s7, a7, h7, n7, t7⟩ := hA.after (fun _ hk => .inl hk) T6.out
      go_wp2_with fail
      refine (mAsk h7 35 .reserved _ rfl).mono ?_
      rintro e w8 ⟨rfl, hA8⟩
      go_wp2_with fail
      go_end0
      exact ⟨rfl, HS.out ▸ hA8.after n7 t7⟩
    · go_wp2_with fail
      refine (mMust H6.out _).mono ?_
      rintro e w7 ⟨rfl, hA⟩
      have hA7 := hA.after (fun _ hk => .inl hk) T6.out
      go_wp2_with fail
      go_end0
      exact ⟨rfl, HS.out ▸ hA7⟩
  · go_enter Tryz.func74, Tryz.ntmps74
    go_wp2_with fail
    refine HF.out.mono ?_
    rintro e w1 ⟨rfl, hb⟩
    have H1 := Lib.hid (HH.out.below hb)
    have HB1 := Lib.hid hb
    clear hb
    go_wp2_with (first
      | (refine wpList_mput H1.out rfl 4 (.tmp 8) (.const (.bool true)) rfl 23 (.bool true) (by kernel_rfl) (by kernel_rfl) rfl info_boolS (by decide) { S with f := { S.f with ext := true } } a (by kernel_rfl) (fun _ _ h => h) ?_; intro W2 H2 T2)
      | (refine wpList_mput H2.out rfl 4 (.tmp 11) (.tmp 5) rfl 24 (.bool true) (by kernel_rfl) (by kernel_rfl) rfl info_boolS (by decide) { S with f := { S.f with ext := true, rtr := true } } a (by kernel_rfl) (fun _ _ h => h) ?_; intro W3 H3 T3))
    have c22 : ∀ e : Ext W3, e.W.cell? ⟨mp, 22, none⟩ = some (.int .u32 i) := fun e => ext_cell (H3.out.cell 22 _ (by show some (Value.int .u32 S.f.id) = _; rw [hid])) e
    refine wp_region_mix (fun w' => ∃ e : Ext W3, w' = e.W) [(true, 0), (true, 1), (true, 2), (true, 3), (true, 4), (true, 5), (true, 6), (true, 7), (false, 8), (true, 9), (true, 10), (true, 11), (true, 12), (true, 13)] [14] (by kernel_rfl) (by kernel_rfl) (by intro _ _ d _ _ h; cases d <;> exact h) ⟨⟨W3.drew, (Below.refl _ _).drew⟩, rfl⟩ ?_
    simp only [pickM, pickL, List.drop_succ_cons, List.drop_zero]
    repeat (first | (refine mix_pure (by rfl) (by rfl) ?_; intro K hK; go_big_quiet_op; go_big_quiet_on) | (refine mix_nilc ⟨mp, 0, none⟩ (by rfl) (by kernel_rfl) ?_; go_simp))
    refine mix_eff (by rfl) ?_
    intro K hK
    go_simp
    refine (HN.out _ _ _ H3.out.drew rfl).mono ?_
    rintro e w4 ⟨rfl, hb4⟩
    have hb34 : Below W3.heap.size W3 w4 := below_trans (Below.refl _ _).drew hb4
    refine hK _ _ ⟨⟨w4, hb34⟩, rfl⟩ ?_
    clear hK K
    repeat (first | (refine mix_pure (by rfl) (by rfl) ?_; intro K hK; go_big_quiet_op; go_big_quiet_on) | (refine mix_nilc ⟨mp, 0, none⟩ (by rfl) (by kernel_rfl) ?_; go_simp))
    refine mix_nil ?_
    have H4 := Lib.hid (H3.out.below hb34)
    have T4 := Lib.hid ((Turn.of HB1.out).tr (T2.out.tr (T3.out.tr (Turn.of (s := s) hb34))))
    clear hb4 hb34 c22
    refine wpList_mput H4.out rfl 26 (.tmp 25) (.tmp 22) rfl 22 (.int .u32 y) (by kernel_rfl) (by kernel_rfl) rfl info_u32S (by decide) { S with f := { S.f with ext := true, rtr := true, id := (y : Int) } } a (by kernel_rfl) (fun _ _ h => h) ?_
    intro W5 H5 T5
    refine wpList_nil ?_
    go_wp2_with fail
    refine (HF3.out _ _ _ H5.out rfl).mono ?_
    rintro e w6 ⟨rfl, hb6⟩
    have H6 := Lib.hid (H5.out.below hb6)
    have T6 := Lib.hid (T4.out.tr (T5.out.tr (Turn.of (s := s) hb6)))
    clear hb6
    cases q
    · go_wp2_with fail
      refine (mMust H6.out _).mono ?_
      rintro e w7 ⟨rfl, hA⟩
      obtain ⟨s7, a7, h7, n7, t7⟩ := hA.after (fun _ hk => .inl hk) T6.out
      go_wp2_with fail
      refine (mAsk h7 35 .reserved _ rfl).mono ?_
      rintro e w8 ⟨rfl, hA8⟩
      go_wp2_with fail
      go_end0
      exact ⟨rfl, HS.out ▸ hA8.after n7 t7⟩
    · go_wp2_with fail
      refine (mMust H6.out _).mono ?_
      rintro e w7 ⟨rfl, hA⟩
      have hA7 := hA.after (fun _ hk => .inl hk) T6.out
      go_wp2_with fail
      go_end0
      exact ⟨rfl, HS.out ▸ hA7⟩
end Go.Proofs.YtlmdkmflbhnlgaaGreat
namespace Go.Proofs.YtlmdkmflbhnlgaaGreat
open Go.RowKit
variable {w : World} {s : List Nat} {mp : Nat} {S : MS} {a : MA}
set_option maxHeartbeats 2000000 in
theorem last0f0 (h : MR w s mp S a) (hk : S.at_ = 0) (hfits : S.fits = false) :
    Calls Tryz.prog 114 #[.pointer (some ⟨mp, 0, none⟩), .int .u8 0] w (MDone w s mp (badM { S with at_ := 1, kind := 0, err := 0, sf := zFr } 5)) := by
  obtain ⟨T, HT⟩ : ∃ T, Hid ((badM { S with at_ := 1, kind := 0, err := 0, sf := zFr } 5 : MS) = T) := ⟨_, rfl⟩
  rw [HT.out]
  have c33a : w.cell? ⟨mp, 33, none⟩ = some (.int .i64 0) := h.cell 33 _ (by show some (Value.int .i64 (S.at_ : Int)) = _; rw [hk]; try rfl)
  have HH := Lib.hid h
  clear h hk
  go_enter Tryz.func114, Tryz.ntmps114
  go_wp2_with (first
    | (refine wpList_mput HH.out rfl 3 (.tmp 15) (.tmp 13) rfl 33 (.int .i64 1) (by kernel_rfl) (by kernel_rfl) rfl info_intS (by decide) { S with at_ := 1 } a (by kernel_rfl) (fun _ _ h => h) ?_; intro W2 H2 T2)
    | (refine wpList_mputs H2.out rfl 30 (.tmp 19) (.tmp 17) rfl 1 13 [.int .i64 0, .int .i64 0, .int .i64 0, .int .u32 0, .bool false, .bool false, .bool false, .bool false, .bool false, .int .u8 0, .int .u8 0, .int .u32 0, .slice none 0 0] rfl (by kernel_rfl) (by kernel_rfl) info_status (by simp [Value.oneCell']) (by decide) { S with at_ := 1, kind := 0, err := 0, sf := zFr } { a with sA := none, sc := 0 } (by kernel_rfl) (fun w' h => ⟨h.mem, h.raw, h.l, h.own, h.rl, h.ro, h.lo, DatU.nil _ _, h.f, h.step, h.next, h.gho⟩) ?_; intro W3 H3 T3; have c32 : W3.cell? ⟨mp, 32, none⟩ = some (.bool false) := H3.out.cell 32 _ (by show some (Value.bool S.fits) = _; rw [hfits]); have c33 : W3.cell? ⟨mp, 33, none⟩ = some (.int .i64 1) := H3.out.cell 33 _ rfl))
  refine (mBad H3.out 5).mono ?_
  rintro e w4 ⟨rfl, hA⟩
  have hA2 := hA.after (fun _ hk => .inl hk) (T2.out.tr T3.out)
  go_wp2_with fail
  go_end0
  exact ⟨rfl, HT.out ▸ hA2⟩
set_option maxHeartbeats 2000000 in
theorem last0f1 (h : MR w s mp S a) (hk : S.at_ = 0) (hfits : S.fits = false) :
    Calls Tryz.prog 114 #[.pointer (some ⟨mp, 0, none⟩), .int .u8 1] w (MDone w s mp ({ S with at_ := 1, kind := 0, err := 0, sf := zFr })) := by
  obtain ⟨T, HT⟩ : ∃ T, Hid (({ S with at_ := 1, kind := 0, err := 0, sf := zFr } : MS) = T) := ⟨_, rfl⟩
  rw [HT.out]
  have c33a : w.cell? ⟨mp, 33, none⟩ = some (.int .i64 0) := h.cell 33 _ (by show some (Value.int .i64 (S.at_ : Int)) = _; rw [hk]; try rfl)
  have HH := Lib.hid h
  clear h hk
  go_enter Tryz.func114, Tryz.ntmps114
  go_wp2_with (first
    | (refine wpList_mput HH.out rfl 3 (.tmp 15) (.tmp 13) rfl 33 (.int .i64 1) (by kernel_rfl) (by kernel_rfl) rfl info_intS (by decide) { S with at_ := 1 } a (by kernel_rfl) (fun _ _ h => h) ?_; intro W2 H2 T2)
    | (refine wpList_mputs H2.out rfl 30 (.tmp 19) (.tmp 17) rfl 1 13 [.int .i64 0, .int .i64 0, .int .i64 0, .int .u32 0, .bool false, .bool false, .bool false, .bool false, .bool false, .int .u8 0, .int .u8 0, .int .u32 0, .slice none 0 0] rfl (by kernel_rfl) (by kernel_rfl) info_status (by simp [Value.oneCell']) (by decide) { S with at_ := 1, kind := 0, err := 0, sf := zFr } { a with sA := none, sc := 0 } (by kernel_rfl) (fun w' h => ⟨h.mem, h.raw, h.l, h.own, h.rl, h.ro, h.lo, DatU.nil _ _, h.f, h.step, h.next, h.gho⟩) ?_; intro W3 H3 T3; have c32 : W3.cell? ⟨mp, 32, none⟩ = some (.bool false) := H3.out.cell 32 _ (by show some (Value.bool S.fits) = _; rw [hfits]); have c33 : W3.cell? ⟨mp, 33, none⟩ = some (.int .i64 1) := H3.out.cell 33 _ rfl))
  go_end0
  exact ⟨rfl, HT.out ▸ MAct.same H3.out (T2.out.tr T3.out)⟩
set_option maxHeartbeats 2000000 in
theorem last0t0 (h : MR w s mp S a) (hk : S.at_ = 0) (hfits : S.fits = true) :
    Calls Tryz.prog 114 #[.pointer (some ⟨mp, 0, none⟩), .int .u8 0] w (MDone w s mp (badM { S with at_ := 1, kind := 0, err := 0, sf := zFr } 5)) := by
  obtain ⟨T, HT⟩ : ∃ T, Hid ((badM { S with at_ := 1, kind := 0, err := 0, sf := zFr } 5 : MS) = T) := ⟨_, rfl⟩
  rw [HT.out]
  have c33a : w.cell? ⟨mp, 33, none⟩ = some (.int .i64 0) := h.cell 33 _ (by show some (Value.int .i64 (S.at_ : Int)) = _; rw [hk]; try rfl)
  have HH := Lib.hid h
  clear h hk
  go_enter Tryz.func114, Tryz.ntmps114
  go_wp2_with (first
    | (refine wpList_mput HH.out rfl 3 (.tmp 15) (.tmp 13) rfl 33 (.int .i64 1) (by kernel_rfl) (by kernel_rfl) rfl info_intS (by decide) { S with at_ := 1 } a (by kernel_rfl) (fun _ _ h => h) ?_; intro W2 H2 T2)
    | (refine wpList_mputs H2.out rfl 30 (.tmp 19) (.tmp 17) rfl 1 13 [.int .i64 0, .int .i64 0, .int .i64 0, .int .u32 0, .bool false, .bool false, .bool false, .bool false, .bool false, .int .u8 0, .int .u8 0, .int .u32 0, .slice none 0 0] rfl (by kernel_rfl) (by kernel_rfl) info_status (by simp [Value.oneCell']) (by decide) { S with at_ := 1, kind := 0, err := 0, sf := zFr } { a with sA := none, sc := 0 } (by kernel_rfl) (fun w' h => ⟨h.mem, h.raw, h.l, h.own, h.rl, h.ro, h.lo, DatU.nil _ _, h.f, h.step, h.next, h.gho⟩) ?_; intro W3 H3 T3; have c32 : W3.cell? ⟨mp, 32, none⟩ = some (.bool true) := H3.out.cell 32 _ (by show some (Value.bool S.fits) = _; rw [hfits]); have c33 : W3.cell? ⟨mp, 33, none⟩ = some (.int .i64 1) := H3.out.cell 33 _ rfl))
  refine (mBad H3.out 5).mono ?_
  rintro e w4 ⟨rfl, hA⟩
  have hA2 := hA.after (fun _ hk => .inl hk) (T2.out.tr T3.out)
  go_wp2_with fail
  go_end0
  exact ⟨rfl, HT.out ▸ hA2⟩
set_option maxHeartbeats 2000000 in
theorem last0t1 (h : MR w s mp S a) (hk : S.at_ = 0) (hfits : S.fits = true) :
    Calls Tryz.prog 114 #[.pointer (some ⟨mp, 0, none⟩), .int .u8 1] w (MDone w s mp ({ S with at_ := 1, kind := 1, err := 0, sf := zFr })) := by
  obtain ⟨T, HT⟩ : ∃ T, Hid (({ S with at_ := 1, kind := 1, err := 0, sf := zFr } : MS) = T) := ⟨_, rfl⟩
  rw [HT.out]
  have c33a : w.cell? ⟨mp, 33, none⟩ = some (.int .i64 0) := h.cell 33 _ (by show some (Value.int .i64 (S.at_ : Int)) = _; rw [hk]; try rfl)
  have HH := Lib.hid h
  clear h hk
  go_enter Tryz.func114, Tryz.ntmps114
  go_wp2_with (first
    | (refine wpList_mput HH.out rfl 3 (.tmp 15) (.tmp 13) rfl 33 (.int .i64 1) (by kernel_rfl) (by kernel_rfl) rfl info_intS (by decide) { S with at_ := 1 } a (by kernel_rfl) (fun _ _ h => h) ?_; intro W2 H2 T2)
    | (refine wpList_mputs H2.out rfl 30 (.tmp 19) (.tmp 17) rfl 1 13 [.int .i64 0, .int .i64 0, .int .i64 0, .int .u32 0, .bool false, .bool false, .bool false, .bool false, .bool false, .int .u8 0, .int .u8 0, .int .u32 0, .slice none 0 0] rfl (by kernel_rfl) (by kernel_rfl) info_status (by simp [Value.oneCell']) (by decide) { S with at_ := 1, kind := 0, err := 0, sf := zFr } { a with sA := none, sc := 0 } (by kernel_rfl) (fun w' h => ⟨h.mem, h.raw, h.l, h.own, h.rl, h.ro, h.lo, DatU.nil _ _, h.f, h.step, h.next, h.gho⟩) ?_; intro W3 H3 T3; have c32 : W3.cell? ⟨mp, 32, none⟩ = some (.bool true) := H3.out.cell 32 _ (by show some (Value.bool S.fits) = _; rw [hfits]); have c33 : W3.cell? ⟨mp, 33, none⟩ = some (.int .i64 1) := H3.out.cell 33 _ rfl)
    | (refine wpList_mputs H3.out rfl 30 (.tmp 53) (.tmp 51) rfl 1 13 [.int .i64 1, .int .i64 0, .int .i64 0, .int .u32 0, .bool false, .bool false, .bool false, .bool false, .bool false, .int .u8 0, .int .u8 0, .int .u32 0, .slice none 0 0] rfl (by kernel_rfl) (by kernel_rfl) info_status (by simp [Value.oneCell']) (by decide) { S with at_ := 1, kind := 1, err := 0, sf := zFr } { a with sA := none, sc := 0 } (by kernel_rfl) (fun w' h => ⟨h.mem, h.raw, h.l, h.own, h.rl, h.ro, h.lo, DatU.nil _ _, h.f, h.step, h.next, h.gho⟩) ?_; intro W4 H4 T4))
  go_end0
  exact ⟨rfl, HT.out ▸ MAct.same H4.out (T2.out.tr (T3.out.tr T4.out))⟩
set_option maxHeartbeats 2000000 in
theorem last1 (h : MR w s mp S a) (hk : S.at_ = 1) (b : Nat) :
    Calls Tryz.prog 114 #[.pointer (some ⟨mp, 0, none⟩), .int .u8 b] w (MDone w s mp ({ S with at_ := 2, kind := 0, err := 0, sf := zFr })) := by
  obtain ⟨T, HT⟩ : ∃ T, Hid (({ S with at_ := 2, kind := 0, err := 0, sf := zFr } : MS) = T) := ⟨_, rfl⟩
  rw [HT.out]
  have c33a : w.cell? ⟨mp, 33, none⟩ = some (.int .i64 1) := h.cell 33 _ (by show some (Value.int .i64 (S.at_ : Int)) = _; rw [hk]; try rfl)
  have HH := Lib.hid h
  clear h hk
  go_enter Tryz.func114, Tryz.ntmps114
  go_wp2_with (first
    | (refine wpList_mput HH.out rfl 3 (.tmp 15) (.tmp 13) rfl 33 (.int .i64 2) (by kernel_rfl) (by kernel_rfl) rfl info_intS (by decide) { S with at_ := 2 } a (by kernel_rfl) (fun _ _ h => h) ?_; intro W2 H2 T2)
    | (refine wpList_mputs H2.out rfl 30 (.tmp 19) (.tmp 17) rfl 1 13 [.int .i64 0, .int .i64 0, .int .i64 0, .int .u32 0, .bool false, .bool false, .bool false, .bool false, .bool false, .int .u8 0, .int .u8 0, .int .u32 0, .slice none 0 0] rfl (by kernel_rfl) (by kernel_rfl) info_status (by simp [Value.oneCell']) (by decide) { S with at_ := 2, kind := 0, err := 0, sf := zFr } { a with sA := none, sc := 0 } (by kernel_rfl) (fun w' h => ⟨h.mem, h.raw, h.l, h.own, h.rl, h.ro, h.lo, DatU.nil _ _, h.f, h.step, h.next, h.gho⟩) ?_; intro W3 H3 T3; have c32 : W3.cell? ⟨mp, 32, none⟩ = some (.bool S.fits) := H3.out.cell 32 _ rfl; have c33 : W3.cell? ⟨mp, 33, none⟩ = some (.int .i64 2) := H3.out.cell 33 _ rfl))
  go_end0
  exact ⟨rfl, HT.out ▸ MAct.same H3.out (T2.out.tr T3.out)⟩
set_option maxHeartbeats 2000000 in
theorem last2f (h : MR w s mp S a) (hk : S.at_ = 2) (hfits : S.fits = false) (b : Nat) :
    Calls Tryz.prog 114 #[.pointer (some ⟨mp, 0, none⟩), .int .u8 b] w (MDone w s mp (badM { S with at_ := 3, kind := 0, err := 0, sf := zFr } 6)) := by
  obtain ⟨T, HT⟩ : ∃ T, Hid ((badM { S with at_ := 3, kind := 0, err := 0, sf := zFr } 6 : MS) = T) := ⟨_, rfl⟩
  rw [HT.out]
  have c33a : w.cell? ⟨mp, 33, none⟩ = some (.int .i64 2) := h.cell 33 _ (by show some (Value.int .i64 (S.at_ : Int)) = _; rw [hk]; try rfl)
  have HH := Lib.hid h
  clear h hk
  go_enter Tryz.func114, Tryz.ntmps114
  go_wp2_with (first
    | (refine wpList_mput HH.out rfl 3 (.tmp 15) (.tmp 13) rfl 33 (.int .i64 3) (by kernel_rfl) (by kernel_rfl) rfl info_intS (by decide) { S with at_ := 3 } a (by kernel_rfl) (fun _ _ h => h) ?_; intro W2 H2 T2)
    | (refine wpList_mputs H2.out rfl 30 (.tmp 19) (.tmp 17) rfl 1 13 [.int .i64 0, .int .i64 0, .int .i64 0, .int .u32 0, .bool false, .bool false, .bool false, .bool false, .bool false, .int .u8 0, .int .u8 0, .int .u32 0, .slice none 0 0] rfl (by kernel_rfl) (by kernel_rfl) info_status (by simp [Value.oneCell']) (by decide) { S with at_ := 3, kind := 0, err := 0, sf := zFr } { a with sA := none, sc := 0 } (by kernel_rfl) (fun w' h => ⟨h.mem, h.raw, h.l, h.own, h.rl, h.ro, h.lo, DatU.nil _ _, h.f, h.step, h.next, h.gho⟩) ?_; intro W3 H3 T3; have c32 : W3.cell? ⟨mp, 32, none⟩ = some (.bool false) := H3.out.cell 32 _ (by show some (Value.bool S.fits) = _; rw [hfits]); have c33 : W3.cell? ⟨mp, 33, none⟩ = some (.int .i64 3) := H3.out.cell 33 _ rfl))
  refine (mBad H3.out 6).mono ?_
  rintro e w4 ⟨rfl, hA⟩
  have hA2 := hA.after (fun _ hk => .inl hk) (T2.out.tr T3.out)
  go_wp2_with fail
  go_end0
  exact ⟨rfl, HT.out ▸ hA2⟩
set_option maxHeartbeats 2000000 in
theorem last2t0 (h : MR w s mp S a) (hk : S.at_ = 2) (hfits : S.fits = true) :
    Calls Tryz.prog 114 #[.pointer (some ⟨mp, 0, none⟩), .int .u8 0] w (MDone w s mp (badM { S with at_ := 3, kind := 0, err := 0, sf := zFr } 5)) := by
  obtain ⟨T, HT⟩ : ∃ T, Hid ((badM { S with at_ := 3, kind := 0, err := 0, sf := zFr } 5 : MS) = T) := ⟨_, rfl⟩
  rw [HT.out]
  have c33a : w.cell? ⟨mp, 33, none⟩ = some (.int .i64 2) := h.cell 33 _ (by show some (Value.int .i64 (S.at_ : Int)) = _; rw [hk]; try rfl)
  have HH := Lib.hid h
  clear h hk
  go_enter Tryz.func114, Tryz.ntmps114
  go_wp2_with (first
    | (refine wpList_mput HH.out rfl 3 (.tmp 15) (.tmp 13) rfl 33 (.int .i64 3) (by kernel_rfl) (by kernel_rfl) rfl info_intS (by decide) { S with at_ := 3 } a (by kernel_rfl) (fun _ _ h => h) ?_; intro W2 H2 T2)
    | (refine wpList_mputs H2.out rfl 30 (.tmp 19) (.tmp 17) rfl 1 13 [.int .i64 0, .int .i64 0, .int .i64 0, .int .u32 0, .bool false, .bool false, .bool false, .bool false, .bool false, .int .u8 0, .int .u8 0, .int .u32 0, .slice none 0 0] rfl (by kernel_rfl) (by kernel_rfl) info_status (by simp [Value.oneCell']) (by decide) { S with at_ := 3, kind := 0, err := 0, sf := zFr } { a with sA := none, sc := 0 } (by kernel_rfl) (fun w' h => ⟨h.mem, h.raw, h.l, h.own, h.rl, h.ro, h.lo, DatU.nil _ _, h.f, h.step, h.next, h.gho⟩) ?_; intro W3 H3 T3; have c32 : W3.cell? ⟨mp, 32, none⟩ = some (.bool true) := H3.out.cell 32 _ (by show some (Value.bool S.fits) = _; rw [hfits]); have c33 : W3.cell? ⟨mp, 33, none⟩ = some (.int .i64 3) := H3.out.cell 33 _ rfl))
  refine (mBad H3.out 5).mono ?_
  rintro e w4 ⟨rfl, hA⟩
  have hA2 := hA.after (fun _ hk => .inl hk) (T2.out.tr T3.out)
  go_wp2_with fail
  go_end0
  exact ⟨rfl, HT.out ▸ hA2⟩
set_option maxHeartbeats 2000000 in
theorem last2t1 (h : MR w s mp S a) (hk : S.at_ = 2) (hfits : S.fits = true) :
    Calls Tryz.prog 114 #[.pointer (some ⟨mp, 0, none⟩), .int .u8 1] w (MDone w s mp ({ S with at_ := 3, kind := 0, err := 0, sf := zFr })) := by
  obtain ⟨T, HT⟩ : ∃ T, Hid (({ S with at_ := 3, kind := 0, err := 0, sf := zFr } : MS) = T) := ⟨_, rfl⟩
  rw [HT.out]
  have c33a : w.cell? ⟨mp, 33, none⟩ = some (.int .i64 2) := h.cell 33 _ (by show some (Value.int .i64 (S.at_ : Int)) = _; rw [hk]; try rfl)
  have HH := Lib.hid h
  clear h hk
  go_enter Tryz.func114, Tryz.ntmps114
  go_wp2_with (first
    | (refine wpList_mput HH.out rfl 3 (.tmp 15) (.tmp 13) rfl 33 (.int .i64 3) (by kernel_rfl) (by kernel_rfl) rfl info_intS (by decide) { S with at_ := 3 } a (by kernel_rfl) (fun _ _ h => h) ?_; intro W2 H2 T2)
    | (refine wpList_mputs H2.out rfl 30 (.tmp 19) (.tmp 17) rfl 1 13 [.int .i64 0, .int .i64 0, .int .i64 0, .int .u32 0, .bool false, .bool false, .bool false, .bool false, .bool false, .int .u8 0, .int .u8 0, .int .u32 0, .slice none 0 0] rfl (by kernel_rfl) (by kernel_rfl) info_status (by simp [Value.oneCell']) (by decide) { S with at_ := 3, kind := 0, err := 0, sf := zFr } { a with sA := none, sc := 0 } (by kernel_rfl) (fun w' h => ⟨h.mem, h.raw, h.l, h.own, h.rl, h.ro, h.lo, DatU.nil _ _, h.f, h.step, h.next, h.gho⟩) ?_; intro W3 H3 T3; have c32 : W3.cell? ⟨mp, 32, none⟩ = some (.bool true) := H3.out.cell 32 _ (by show some (Value.bool S.fits) = _; rw [hfits]); have c33 : W3.cell? ⟨mp, 33, none⟩ = some (.int .i64 3) := H3.out.cell 33 _ rfl))
  go_end0
  exact ⟨rfl, HT.out ▸ MAct.same H3.out (T2.out.tr T3.out)⟩
set_option maxHeartbeats 2000000 in
theorem lastk0 (h : MR w s mp S a) (k : Nat) (hk : S.at_ = k) (h3 : 3 ≤ k) (hk9 : k < 20) :
    Calls Tryz.prog 114 #[.pointer (some ⟨mp, 0, none⟩), .int .u8 0] w (MDone w s mp (badM { S with at_ := (k + 1), kind := 0, err := 0, sf := zFr } 5)) := by
  obtain ⟨T, HT⟩ : ∃ T, Hid ((badM { S with at_ := (k + 1), kind := 0, err := 0, sf := zFr } 5 : MS) = T) := ⟨_, rfl⟩
  rw [HT.out]
  have c33a : w.cell? ⟨mp, 33, none⟩ = some (.int .i64 k) := h.cell 33 _ (by show some (Value.int .i64 (S.at_ : Int)) = _; rw [hk]; try rfl)
  have HH := Lib.hid h
  have e0 : ((k : Int) == 0) = false := by rw [beq_eq_false_iff_ne]; omega
  have e1 : ((k : Int) == 1) = false := by rw [beq_eq_false_iff_ne]; omega
  have e2 : ((k : Int) == 2) = false := by rw [beq_eq_false_iff_ne]; omega
  have n0 : ¬ k = 0 := by omega
  have n1 : ¬ k = 1 := by omega
  have n2 : ¬ k = 2 := by omega
  clear h3
  clear h hk
  go_enter Tryz.func114, Tryz.ntmps114
  go_wp2_with (first
    | (refine wpList_mput HH.out rfl 3 (.tmp 15) (.tmp 13) rfl 33 (.int .i64 ((k : Int) + 1)) (by kernel_rfl) (by kernel_rfl) rfl info_intS (by decide) { S with at_ := (k + 1) } a (by kernel_rfl) (fun _ _ h => h) ?_; intro W2 H2 T2)
    | (refine wpList_mputs H2.out rfl 30 (.tmp 19) (.tmp 17) rfl 1 13 [.int .i64 0, .int .i64 0, .int .i64 0, .int .u32 0, .bool false, .bool false, .bool false, .bool false, .bool false, .int .u8 0, .int .u8 0, .int .u32 0, .slice none 0 0] rfl (by kernel_rfl) (by kernel_rfl) info_status (by simp [Value.oneCell']) (by decide) { S with at_ := (k + 1), kind := 0, err := 0, sf := zFr } { a with sA := none, sc := 0 } (by kernel_rfl) (fun w' h => ⟨h.mem, h.raw, h.l, h.own, h.rl, h.ro, h.lo, DatU.nil _ _, h.f, h.step, h.next, h.gho⟩) ?_; intro W3 H3 T3; have c32 : W3.cell? ⟨mp, 32, none⟩ = some (.bool S.fits) := H3.out.cell 32 _ rfl; have c33 : W3.cell? ⟨mp, 33, none⟩ = some (.int .i64 ((k : Int) + 1)) := H3.out.cell 33 _ rfl))
  refine (mBad H3.out 5).mono ?_
  rintro e w4 ⟨rfl, hA⟩
  have hA2 := hA.after (fun _ hk => .inl hk) (T2.out.tr T3.out)
  go_wp2_with fail
  go_end0
  exact ⟨rfl, HT.out ▸ hA2⟩
set_option maxHeartbeats 2000000 in
theorem lastk1 (h : MR w s mp S a) (k : Nat) (hk : S.at_ = k) (h3 : 3 ≤ k) (hk9 : k < 20) (h8 : k ≠ 8) :
    Calls Tryz.prog 114 #[.pointer (some ⟨mp, 0, none⟩), .int .u8 1] w (MDone w s mp ({ S with at_ := (k + 1), kind := 0, err := 0, sf := zFr })) := by
  obtain ⟨T, HT⟩ : ∃ T, Hid (({ S with at_ := (k + 1), kind := 0, err := 0, sf := zFr } : MS) = T) := ⟨_, rfl⟩
  rw [HT.out]
  have c33a : w.cell? ⟨mp, 33, none⟩ = some (.int .i64 k) := h.cell 33 _ (by show some (Value.int .i64 (S.at_ : Int)) = _; rw [hk]; try rfl)
  have HH := Lib.hid h
  have e0 : ((k : Int) == 0) = false := by rw [beq_eq_false_iff_ne]; omega
  have e1 : ((k : Int) == 1) = false := by rw [beq_eq_false_iff_ne]; omega
  have e2 : ((k : Int) == 2) = false := by rw [beq_eq_false_iff_ne]; omega
  have e9 : ((k : Int) + 1 == 9) = false := by rw [beq_eq_false_iff_ne]; omega
  have n0 : ¬ k = 0 := by omega
  have n1 : ¬ k = 1 := by omega
  have n2 : ¬ k = 2 := by omega
  clear h3
  clear h hk
  go_enter Tryz.func114, Tryz.ntmps114
  go_wp2_with (first
    | (refine wpList_mput HH.out rfl 3 (.tmp 15) (.tmp 13) rfl 33 (.int .i64 ((k : Int) + 1)) (by kernel_rfl) (by kernel_rfl) rfl info_intS (by decide) { S with at_ := (k + 1) } a (by kernel_rfl) (fun _ _ h => h) ?_; intro W2 H2 T2)
    | (refine wpList_mputs H2.out rfl 30 (.tmp 19) (.tmp 17) rfl 1 13 [.int .i64 0, .int .i64 0, .int .i64 0, .int .u32 0, .bool false, .bool false, .bool false, .bool false, .bool false, .int .u8 0, .int .u8 0, .int .u32 0, .slice none 0 0] rfl (by kernel_rfl) (by kernel_rfl) info_status (by simp [Value.oneCell']) (by decide) { S with at_ := (k + 1), kind := 0, err := 0, sf := zFr } { a with sA := none, sc := 0 } (by kernel_rfl) (fun w' h => ⟨h.mem, h.raw, h.l, h.own, h.rl, h.ro, h.lo, DatU.nil _ _, h.f, h.step, h.next, h.gho⟩) ?_; intro W3 H3 T3; have c32 : W3.cell? ⟨mp, 32, none⟩ = some (.bool S.fits) := H3.out.cell 32 _ rfl; have c33 : W3.cell? ⟨mp, 33, none⟩ = some (.int .i64 ((k : Int) + 1)) := H3.out.cell 33 _ rfl))
  go_end0
  exact ⟨rfl, HT.out ▸ MAct.same H3.out (T2.out.tr T3.out)⟩
set_option maxHeartbeats 2000000 in
theorem last81 (h : MR w s mp S a) (hk : S.at_ = 8) :
    Calls Tryz.prog 114 #[.pointer (some ⟨mp, 0, none⟩), .int .u8 1] w (MDone w s mp ({ S with at_ := 9, kind := 2, err := 0, sf := S.f })) := by
  obtain ⟨T, HT⟩ : ∃ T, Hid (({ S with at_ := 9, kind := 2, err := 0, sf := S.f } : MS) = T) := ⟨_, rfl⟩
  rw [HT.out]
  have c33a : w.cell? ⟨mp, 33, none⟩ = some (.int .i64 8) := h.cell 33 _ (by show some (Value.int .i64 (S.at_ : Int)) = _; rw [hk]; try rfl)
  have HH := Lib.hid h
  clear h hk
  go_enter Tryz.func114, Tryz.ntmps114
  go_wp2_with (first
    | (refine wpList_mput HH.out rfl 3 (.tmp 15) (.tmp 13) rfl 33 (.int .i64 9) (by kernel_rfl) (by kernel_rfl) rfl info_intS (by decide) { S with at_ := 9 } a (by kernel_rfl) (fun _ _ h => h) ?_; intro W2 H2 T2)
    | (refine wpList_mputs H2.out rfl 30 (.tmp 19) (.tmp 17) rfl 1 13 [.int .i64 0, .int .i64 0, .int .i64 0, .int .u32 0, .bool false, .bool false, .bool false, .bool false, .bool false, .int .u8 0, .int .u8 0, .int .u32 0, .slice none 0 0] rfl (by kernel_rfl) (by kernel_rfl) info_status (by simp [Value.oneCell']) (by decide) { S with at_ := 9, kind := 0, err := 0, sf := zFr } { a with sA := none, sc := 0 } (by kernel_rfl) (fun w' h => ⟨h.mem, h.raw, h.l, h.own, h.rl, h.ro, h.lo, DatU.nil _ _, h.f, h.step, h.next, h.gho⟩) ?_; intro W3 H3 T3; have c32 : W3.cell? ⟨mp, 32, none⟩ = some (.bool S.fits) := H3.out.cell 32 _ rfl; have c33 : W3.cell? ⟨mp, 33, none⟩ = some (.int .i64 9) := H3.out.cell 33 _ rfl; have c21 : W3.cell? ⟨mp, 21, none⟩ = some (.int .i64 S.f.kind) := H3.out.cell 21 _ rfl; have c22 : W3.cell? ⟨mp, 22, none⟩ = some (.int .u32 S.f.id) := H3.out.cell 22 _ rfl; have c23 : W3.cell? ⟨mp, 23, none⟩ = some (.bool S.f.ext) := H3.out.cell 23 _ rfl; have c24 : W3.cell? ⟨mp, 24, none⟩ = some (.bool S.f.rtr) := H3.out.cell 24 _ rfl; have c25 : W3.cell? ⟨mp, 25, none⟩ = some (.bool S.f.brs) := H3.out.cell 25 _ rfl; have c26 : W3.cell? ⟨mp, 26, none⟩ = some (.bool S.f.esi) := H3.out.cell 26 _ rfl; have c27 : W3.cell? ⟨mp, 27, none⟩ = some (.bool S.f.sec) := H3.out.cell 27 _ rfl; have c28 : W3.cell? ⟨mp, 28, none⟩ = some (.int .u8 S.f.sdt) := H3.out.cell 28 _ rfl; have c29 : W3.cell? ⟨mp, 29, none⟩ = some (.int .u8 S.f.vcid) := H3.out.cell 29 _ rfl; have c30 : W3.cell? ⟨mp, 30, none⟩ = some (.int .u32 S.f.af) := H3.out.cell 30 _ rfl; have c31 : W3.cell? ⟨mp, 31, none⟩ = some (.slice a.fA S.f.data.length a.fc) := H3.out.cell 31 _ rfl)
    | (refine wpList_mputs H3.out rfl 30 (.tmp 67) (.tmp 65) rfl 1 13 [.int .i64 2, .int .i64 0, .int .i64 S.f.kind, .int .u32 S.f.id, .bool S.f.ext, .bool S.f.rtr, .bool S.f.brs, .bool S.f.esi, .bool S.f.sec, .int .u8 S.f.sdt, .int .u8 S.f.vcid, .int .u32 S.f.af, .slice a.fA S.f.data.length a.fc] rfl (by kernel_rfl) (by kernel_rfl) info_status (by simp [Value.oneCell']) (by decide) { S with at_ := 9, kind := 2, err := 0, sf := S.f } { a with sA := a.fA, sc := a.fc } (by kernel_rfl) (fun w' h => ⟨h.mem, h.raw, h.l, h.own, h.rl, h.ro, h.lo, h.f, h.f, h.step, h.next, h.gho⟩) ?_; intro W4 H4 T4))
  go_end0
  exact ⟨rfl, HT.out ▸ MAct.same H4.out (T2.out.tr (T3.out.tr T4.out))⟩
theorem mLast (h : MR w s mp S a) (b : Nat) (hb : b ≤ 1) (hk : S.at_ < 20) :
    Calls Tryz.prog 114 #[.pointer (some ⟨mp, 0, none⟩), .int .u8 b] w (MDone w s mp (lastM S b)) := by
  obtain ⟨k, hk2⟩ : ∃ k, S.at_ = k := ⟨_, rfl⟩
  have hb2 : b = 0 ∨ b = 1 := by omega
  unfold lastM
  simp only [hk2]
  by_cases h0 : k = 0
  · subst h0
    cases hf : S.fits <;> rcases hb2 with rfl | rfl
    · simpa [hf] using last0f0 h hk2 hf
    · simpa [hf] using last0f1 h hk2 hf
    · simpa [hf] using last0t0 h hk2 hf
    · simpa [hf] using last0t1 h hk2 hf
  by_cases h1 : k = 1
  · subst h1
    simpa using last1 h hk2 b
  by_cases h2 : k = 2
  · subst h2
    cases hf : S.fits
    · simpa [hf] using last2f h hk2 hf b
    · rcases hb2 with rfl | rfl
      · simpa [hf] using last2t0 h hk2 hf
      · simpa [hf] using last2t1 h hk2 hf
  rcases hb2 with rfl | rfl
  · have := lastk0 h k hk2 (by omega) (by omega)
    simpa [h0, h1, h2] using this
  · by_cases h8 : k = 8
    · subst h8
      simpa using last81 h hk2
    · have := lastk1 h k hk2 (by omega) (by omega) h8
      simpa [h0, h1, h2, h8] using this
end Go.Proofs.YtlmdkmflbhnlgaaGreat
