/- fd's fields: put, flag, and an FD frame's head. No condition. -/
import Derived.Test.YtaknddanggdplaaPot2
import Derived.Maps.Own
import Derived.Maps.Views
import Derived.Test.YtaknddanggdplaaCheck2
namespace Go.Proofs.Ytaknddanggdplaa
open Go.RowKit Go.Maps
set_option maxRecDepth 100000 in
set_option maxHeartbeats 1000000 in
theorem fdPut_any (w : World) (B b t : Nat) (A : Option Addr) (c n size : Nat) (l : List Nat) (h : Pot w B b t A c l) (hn : n < 18446744073709551616) (hs : size ≤ 64) (hlt : n < 2 ^ size) (hl : l.length + size ≤ 1000000) :
    Calls Try.prog 71 #[.pointer (some ⟨b, 0, none⟩), .int .u64 n, .int .i64 size] w fun e w' => e = .returned (.tuple #[]) ∧ (∃ A' c', Pot w' B b t A' c' (l ++ bitsN n size)) ∧ Keep B b w w' := by
  obtain ⟨i0, hi, hz0, hz1, hz2⟩ := info_parts info_u8
  have HB := Lib.hid (bitsPut_any w n size hn hs hlt)
  have HP := Lib.hid h
  clear h hlt
  go_enter Try.func71, Try.ntmps71
  go_wp2_with fail
  refine HB.out.mono ?_
  rintro e w1 ⟨⟨A2, c2, rfl, hrow⟩, hb⟩
  have HQ := Lib.hid (HP.out.below hb)
  have HRow := Lib.hid hrow
  have HB1 := Lib.hid hb
  clear hrow hb
  obtain ⟨q, hq⟩ : ∃ q, l.length = q := ⟨_, rfl⟩
  have hq2 : q + size ≤ 1000000 := by omega
  have c0 : w1.cell? ⟨b, 0, none⟩ = some (.slice A q c) := by rw [← hq]; exact HQ.out.cell
  have z0 : w1.frozen? ⟨b, 0, none⟩ = false := HQ.out.frozen
  have sb : b < w1.heap.size := heap_lt HQ.out.box
  have HL := Lib.hid hq
  clear hq hl
  go_wp2_with (at_builtin; refine wpList_pot2 (W0 := w) HQ.out (.of HB1.out HP.out.size) rfl (.tmp 17) (.tmp 18) 54 23 rfl i0 _ 1 Try.underlying54 Try.underlying23 hi hz0 hz1 hz2 rfl q HL.out rfl A2 size c2 (bitsN n size) rfl (bitsN_length _ _) HRow.out.rd (fun _ e => HRow.out.none_ e) (q + size) rfl (by unfold maxLen; omega) (by omega) ?_; intro w3 A3 c3 HP3 c03 z03)
  go_end0
  obtain ⟨p1, p2⟩ := HP3.out.store (n := q + size) (by rw [List.length_append, HL.out, bitsN_length])
  exact ⟨rfl, ⟨_, _, p1⟩, p2⟩
theorem fdPut_row (w : World) (B b t : Nat) (A : Option Addr) (c : Nat) (n size : Int) (N S : Nat) (l : List Nat) (eN : n = (N : Int)) (eS : size = (S : Int)) (h : Pot w B b t A c l) (hn : N < 18446744073709551616) (hs : S ≤ 64) (hlt : N < 2 ^ S) (hl : l.length + S ≤ 1000000) :
    Calls Try.prog 71 #[.pointer (some ⟨b, 0, none⟩), .int .u64 n, .int .i64 size] w fun e w' => e = .returned (.tuple #[]) ∧ (∃ A' c', Pot w' B b t A' c' (l ++ bitsN N S)) ∧ Keep B b w w' := by
  subst eN eS
  exact fdPut_any w B b t A c N S l h hn hs hlt hl
theorem keyedB : Keyed Try.prog 4 := bool_keyed Try.underlying4
theorem zeroU64 (w : World) : (zeroValue 67).run Try.prog w = .ok (.int .u64 0) w := by kernel_rfl
/-- The map {true: 1}, laid by the call. -/
theorem wpList_insertF {w : World} {ops : Array Oper} {rest : List Oper} {o : Oper} {a : Act} {Q : Exit → Act → World → Prop} (hg : o.guard = none) (m x v : Operand) (hop : o.op = Op.insert 114 m x v)
    (hm : a.eval m = .map (some w.heap.size)) (hx : a.eval x = .bool true) (hv : a.eval v = .int .u64 1)
    (hK : ∀ w', (∀ b : Bool, (Instr.lookup 114 (.map (some w.heap.size)) (.bool b) false).run Try.prog w' = .ok (.int .u64 (bitB b)) w') → Hid (Below w.heap.size w w') → wpList Try.prog ops Q rest (a.put o.dst undef) w') : wpList Try.prog ops Q (o :: rest) a (w.alloc (.map #[] 0)) := by
  refine wpList_plain hg fun K' hK' => ?_
  have hw1 : (Lit.int .u64 1).wf = true := by decide
  obtain ⟨w', hrun, r1, r2⟩ := (World.ownsMap_made (H := Unit) w Try.prog 4 (plainElem Try.prog 67)).update keyedB Try.underlying114 (by decide) (keyOf_bool_mk Try.underlying4 true) (plainElem_int Try.underlying67 hw1)
  unfold Oper.wp
  simp [execOp, hop, hm, hx, hv, hrun, Result.andThen]
  refine hK' _ _ (hK w' (fun b => ?_) ?_)
  · obtain ⟨c, hc, hat, -⟩ := r1.lookup_int keyedB Try.underlying114 Try.underlying67 (zeroU64 w') (keyOf_bool_mk Try.underlying4 b)
    rw [hc]
    cases b
    · rw [atKey_put_other (by intro h; injection h with h; cases h)] at hat
      simp [DataW.atKey] at hat
      rw [← hat]; rfl
    · rw [atKey_put_same ⟨[], rfl⟩ (show WideAt.IsKeyLit (.bool true) from trivial)] at hat
      simp at hat
      rw [← hat]; rfl
  · exact (below_alloc (Below.refl w.heap.size w) (.map #[] 0)).grown r2 (by simp) (fun k hk => by injection hk with hk; omega)
set_option maxRecDepth 100000 in
set_option maxHeartbeats 1000000 in
theorem fdFlag_any (w : World) (B b t : Nat) (A : Option Addr) (c : Nat) (x : Bool) (l : List Nat) (h : Pot w B b t A c l) (hl : l.length + 1 ≤ 1000000) :
    Calls Try.prog 70 #[.pointer (some ⟨b, 0, none⟩), .bool x] w fun e w' => e = .returned (.tuple #[]) ∧ (∃ A' c', Pot w' B b t A' c' (l ++ bitsN (bitB x) 1)) ∧ Keep B b w w' := by
  have hb1 : bitB x < 2 := by cases x <;> decide
  have HP := Lib.hid (fun W (hW : Below w.heap.size w W) => fdPut_any W B b t A c (bitB x) 1 l (h.below hW) (by omega) (by omega) (by omega) hl)
  have HS := Lib.hid h.size
  have hmm := @run_makeMap Try.prog 114
  clear h hl
  go_enter Try.func70, Try.ntmps70
  go_wp2_with (refine wpList_insertF rfl (.tmp 5) _ _ rfl rfl rfl rfl ?_; intro w2 hlk HB2)
  refine (HP.out w2 HB2.out).mono ?_
  rintro e w3 ⟨rfl, h1, h2⟩
  have H1 := Lib.hid h1
  have H2 := Lib.hid h2
  clear h1 h2 hlk hmm
  go_wp2_with fail
  go_end0
  exact ⟨rfl, H1.out, (Keep.of HB2.out HS.out).trans H2.out⟩
/-- What arbitrates: a dominant bit, the identifier, 0010. -/
def headD (f : Fr) : List Nat := bitsN 0 1 ++ bitsN f.id.toNat 11 ++ bitsN 2 4
theorem headD_length (f : Fr) : (headD f).length = 16 := by simp [headD, bitsN_length]
set_option maxRecDepth 100000 in
set_option maxHeartbeats 2000000 in
theorem headD_any (f : Fr) (A : Option Addr) (n c : Nat) (w : World) (h0 : 0 ≤ f.id) (h1 : f.id < 2048) :
    Calls Try.prog 45 #[frv f (.slice A n c)] w fun e w' => (∃ A' c', e = .returned (.slice A' 16 c') ∧ Row w' w.heap.size 5 A' c' (bys (headD f))) ∧ Below w.heap.size w w' := by
  have hl : headD f = bitsN 0 1 ++ bitsN f.id.toNat 11 ++ bitsN 2 4 := rfl
  have hlen := headD_length f
  generalize headD f = l at *
  obtain ⟨kind, id, ext, rtr, brs, esi, sec, sdt, vcid, af, data⟩ := f
  dsimp only [frv] at *
  obtain ⟨m, rfl⟩ := Int.eq_ofNat_of_zero_le h0
  rw [Int.toNat_natCast] at hl
  have HL := Lib.hid hl
  have HLEN := Lib.hid hlen
  clear hl h0 hlen
  go_enter Try.func45, Try.ntmps45
  go_wp2_with fail
  refine calls_blk2 (fun W0 q1 q2 hb => ?_)
  have hp : Pot W0 (w.heap.size + 1 + 1) (w.heap.size + 1) 54 none 0 [] := ⟨q2, fun _ e => (by cases e), heap_lt q2, Row.nil _ _ _⟩
  have HB := Lib.hid hb
  have HP := Lib.hid hp
  obtain ⟨a0, a1, a2, a3, a4, a5, a6, a7, a8, a9, a10⟩ := cells11 q1
  have b1 := fun e : KE (w.heap.size + 1 + 1) (w.heap.size + 1) W0 => ke_cell a1 (by show w.heap.size < _; omega) (by show w.heap.size ≠ _; omega) e
  clear hb hp q1 q2 a0 a1 a2 a3 a4 a5 a6 a7 a8 a9 a10
  refine (kec_same (fdPut_row _ _ _ _ _ _ _ _ 0 1 _ rfl rfl HP.out (by omega) (by omega) (by omega) (by simp))).mono ?_
  rintro x _ ⟨e1, rfl, rfl, A1, c1, hp1⟩
  have HP1 := Lib.hid hp1
  clear hp1
  go_wp2_with fail
  refine (kec (fdPut_row _ _ _ _ _ _ _ _ m 11 _ ?c1 rfl HP1.out (by omega) (by omega) (by omega) (by simp [bitsN_length]))).mono ?_
  case c1 => first | rfl | omega
  rintro x _ ⟨e2, rfl, rfl, A2, c2, hp2⟩
  have HP2 := Lib.hid hp2
  clear hp2
  go_wp2_with fail
  refine (kec (fdPut_row _ _ _ _ _ _ _ _ 2 4 _ rfl rfl HP2.out (by omega) (by omega) (by omega) (by simp [bitsN_length]))).mono ?_
  rintro x _ ⟨e3, rfl, rfl, A3, c3, hp3⟩
  have hrow : Pot e3.W (w.heap.size + 1 + 1) (w.heap.size + 1) 54 A3 c3 l := by rw [HL.out]; exact hp3
  have d0 : e3.W.cell? ⟨w.heap.size + 1, 0, none⟩ = some (.slice A3 16 c3) := by rw [← HLEN.out]; exact hrow.cell
  have f0 : e3.W.frozen? ⟨w.heap.size + 1, 0, none⟩ = false := hrow.frozen
  have hsz : w.heap.size + 1 < e3.W.heap.size := heap_lt hrow.box
  have HP3 := Lib.hid hrow
  clear hp3 hrow
  go_wp2_with fail
  refine bodyPost_ret (v := .slice A3 16 c3) (by simp [results, Try.results45, go_sem, d0]) rfl ⟨⟨A3, c3, rfl, ?_⟩, ?_⟩
  · exact (HP3.out.row.setCell HP3.out.ne 0 _).mono (by omega)
  · exact (HB.out.trans (e3.keep.below (by omega) (by omega))).setCell (p := ⟨w.heap.size + 1, 0, none⟩) (by show w.heap.size ≤ w.heap.size + 1; omega) _
end Go.Proofs.Ytaknddanggdplaa
