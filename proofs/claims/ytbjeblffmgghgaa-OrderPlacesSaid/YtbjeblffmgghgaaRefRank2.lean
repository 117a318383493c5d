/- The document's Rank: the same places as the program's. No condition. -/
import Derived.Test.YtbjeblffmgghgaaRefRank
namespace Go.Proofs.Ytbjeblffmgghgaa
open Go.RowKit
def kl (fs : List Fr) (k : Nat) : List Int := (List.range k).map (keysOf fs)
theorem kl_succ (fs : List Fr) (k : Nat) : kl fs (k + 1) = kl fs k ++ [keysOf fs k] := by simp [kl, List.range_succ]
theorem kl_length (fs : List Fr) (k : Nat) : (kl fs k).length = k := by simp [kl]
theorem u64s_kl (fs : List Fr) (k j : Nat) (h : j < k) : (u64s (kl fs k))[j]? = some (.int .u64 (keysOf fs j)) := by simp [u64s, kl, h]
theorem set_mid2 (p s : List Int) (x v : Int) (a : Nat) (ha : a = p.length) : (p ++ x :: s).set a v = p ++ v :: s := by subst ha; simp
theorem ins_done {keys : Nat → Int} {k : Nat} {done p s : List En} {key : Int} (hd : done = p ++ s) (hp : done.Perm (ents keys k)) (hs : done.Pairwise leE) (hk : keys k = key) (h1 : ∀ y ∈ s, key < y.1) (h2 : ∀ x ∈ p, x.1 ≤ key) :
    (p ++ (key, (k : Int)) :: s).Perm (ents keys (k + 1)) ∧ (p ++ (key, (k : Int)) :: s).Pairwise leE := by
  subst hd
  constructor
  · rw [ents_succ, hk]
    refine List.Perm.trans ?_ (List.Perm.append_right _ hp)
    rw [List.append_assoc]
    exact List.Perm.append_left p (List.perm_append_singleton _ _).symm
  · obtain ⟨s1, s2, s3⟩ := List.pairwise_append.1 hs
    refine List.pairwise_append.2 ⟨s1, List.pairwise_cons.2 ⟨fun y hy => Or.inl (h1 y hy), s2⟩, fun x hx y hy => ?_⟩
    rcases List.mem_cons.1 hy with rfl | hy
    · obtain ⟨j, hj, e⟩ := ents_mem (hp.mem_iff.1 (List.mem_append_left _ hx))
      have := h2 x hx
      rw [e] at this ⊢
      unfold leE
      dsimp only at *
      omega
    · exact s3 x hx y hy
theorem last_le {p : List En} {y : En} {key : Int} (h : (p ++ [y]).Pairwise leE) (hy : y.1 ≤ key) : ∀ x ∈ p ++ [y], x.1 ≤ key := by
  intro x hx
  obtain ⟨_, _, h3⟩ := List.pairwise_append.1 h
  rcases List.mem_append.1 hx with hx | hx
  · have := h3 x hx y (List.mem_singleton.2 rfl)
    unfold leE at this; omega
  · rw [List.mem_singleton.1 hx]; exact hy
theorem refI_k {w w2 w3 : World} {fs : List Fr} {done : List En} {A B A3 : Option Addr} {c d c3 k N N3 : Nat} {key : Int} {o : Obj} (h : RefI w w2 A c B d (kl fs k) (done.map (·.2))) (hk : keysOf fs k = key)
    (hr : Row w3 w.heap.size 27 A3 c3 (u64s (kl fs k) ++ [.int .u64 key])) (hg : (w2.alloc o).grownBy w3 (Value.slice A N c).ownBlock)
    (ha : (Value.slice A3 N3 c3).ownBlock = (Value.slice A N c).ownBlock ∨ (Value.slice A3 N3 c3).ownBlock = some (w2.alloc o).heap.size) : RefI w w3 A3 c3 B d (kl fs (k + 1)) (done.map (·.2)) := by
  rw [kl_succ, hk]
  exact RefI.appK (h.ext (below_alloc (Below.refl _ _) o)) (by rw [u64s_append]; exact hr) hg ha
theorem refI_o {w w3 : World} {fs : List Fr} {done : List En} {A B : Option Addr} {c d k : Nat} (h : RefI w w3 A c B d (kl fs (k + 1)) (done.map (·.2))) (hl : done.length = k) : w3.ownsRow w.heap.size 3 1 (.slice B k d) k (ins (done.map (·.2))) := by
  have h1 := h.ro
  unfold Row at h1
  rw [ins_length, List.length_map, hl] at h1
  exact h1
theorem refI_a {w w3 w5 : World} {fs : List Fr} {done : List En} {A B B5 : Option Addr} {c d d5 k N N5 : Nat} {o : Obj} (h : RefI w w3 A c B d (kl fs (k + 1)) (done.map (·.2)))
    (hr : Row w5 w.heap.size 3 B5 d5 (ins (done.map (·.2)) ++ [.int .i64 (k : Int)])) (hg : (w3.alloc o).grownBy w5 (Value.slice B N d).ownBlock)
    (ha : (Value.slice B5 N5 d5).ownBlock = (Value.slice B N d).ownBlock ∨ (Value.slice B5 N5 d5).ownBlock = some (w3.alloc o).heap.size) : RefI w w5 A c B5 d5 (kl fs (k + 1)) (done.map (·.2) ++ [(k : Int)]) :=
  RefI.appO (h.ext (below_alloc (Below.refl _ _) o)) (by rw [ins_append]; exact hr) hg ha
theorem info_u64 : (Try.prog.info? 27).map (fun i => (i.zero, i.size, i.bytes)) = some (some (.int .u64 0), 1, 8) := by kernel_rfl
set_option maxRecDepth 100000 in
set_option maxHeartbeats 8000000 in
theorem RankR_any (w : World) (A : Option Addr) (n c : Nat) (fs : List Fr) (hr : RdFs w A fs) (hw : FsIn fs) (hn : fs.length = n) (hc : n ≤ 900) :
    Calls Try.prog 22 #[.slice A n c] w fun e w' => RankOf e w w' fs := by
  have HR := Lib.hid hr
  have HW := Lib.hid hw
  have HN := Lib.hid hn
  obtain ⟨i0, hi, hz0, hz1, hz2⟩ := info_parts info_int
  obtain ⟨j0, hj, hy0, hy1, hy2⟩ := info_parts info_u64
  clear hr hw hn
  go_enter Try.func22, Try.ntmps22
  go_wp2_with fail
  go_loopw [4, 5, 13] (fun kv ov iv wr => ∃ (k : Nat) (done : List En) (A : Option Addr) (c : Nat) (B : Option Addr) (d : Nat), k ≤ n ∧ kv = .slice A k c ∧ ov = .slice B k d ∧ iv = .int .i64 k ∧
    Hid (RefI w wr A c B d (kl fs k) (done.map (·.2))) ∧ Hid (done.Perm (ents (keysOf fs) k)) ∧ Hid (done.Pairwise leE) ∧ Hid (∀ f ∈ fs.take k, okF f = true)) (fun _ _ iv _ => n - (intOf iv).toNat)
  case atStart => exact ⟨0, [], none, 0, none, 0, by omega, rfl, rfl, rfl, ⟨Row.nil _ _ _, Row.nil _ _ _, (fun a b h => by cases h), Below.refl _ _⟩, List.Perm.refl _, List.Pairwise.nil, by intro f hf; simp at hf⟩
  case round =>
    obtain ⟨k, done, A1, c1, B1, d1, hk, rfl, rfl, rfl, R0, HP, HS, H3⟩ := hrel
    by_cases hkn : k < n
    · have hkl : k < fs.length := by rw [HN.out]; exact hkn
      obtain ⟨ad, B, c2, rfl, a0, a1, a2, a3, a4, a5, a6, a7, a8, a9, a10⟩ := (HR.out.below R0.out.below).at_ k hkl (k * 11) rfl
      obtain ⟨w0, w1⟩ := HW.out _ (List.getElem_mem hkl)
      have HK := fun W => KeyR_any fs[k] B c2 W w0
      have hkey : keysOf fs k = keyF fs[k] := keysOf_at hkl
      have HT : fs.take (k + 1) = fs.take k ++ [fs[k]] := List.take_succ_eq_append_getElem hkl
      have HALL : okF fs[k] = false → fs.all okF = false := fun h => by rw [List.all_eq_false]; exact ⟨fs[k], List.getElem_mem hkl, by rw [h]; simp⟩
      generalize keyF fs[k] = key at *
      obtain ⟨ok, hok⟩ : ∃ ok, okF fs[k] = ok := ⟨_, rfl⟩
      rw [hok] at HK HALL
      generalize fs[k] = f at *
      obtain ⟨fk, fi, fe, fr, f4, f5, f6, f7, f8, f9, fd⟩ := f
      dsimp only [frv] at *
      generalize fd.length = m at *
      have HK := Lib.hid HK
      have HKEY := Lib.hid hkey
      have HT := Lib.hid HT
      have HALL := Lib.hid HALL
      have HOK := Lib.hid hok
      rename_i HK' HT' HALL'
      clear HK' hkey HT' HALL' hok w0 w1
      cases ok
      · simp only [errV, Bool.false_eq_true, if_false] at HK
        go_wp2_with fail
        refine (HK.out _).mono ?_
        rintro x w2 ⟨rfl, hb2⟩
        have HE : Hid (Below w.heap.size w w2) := below_trans R0.out.below (below_trans (below_alloc (Below.refl _ _) _) hb2)
        clear hb2
        go_wp2_with fail
        go_ret2
        have hal := HALL.out (by trivial)
        refine ⟨HE.out, none, 0, ?_, ?_⟩
        · simp [outR, hal, errV]
        · have : outR fs = [] := by simp [outR, hal]
          rw [this]; exact Row.nil _ _ _
      · simp only [errV, if_true] at HK
        go_wp2_with fail
        refine (HK.out _).mono ?_
        rintro x w2 ⟨rfl, hb2⟩
        have R1 : Hid (RefI w w2 A1 c1 B1 d1 (kl fs k) (done.map (·.2))) := R0.out.ext (below_trans (below_alloc (Below.refl _ _) _) hb2)
        clear hb2
        have hka : (u64s (kl fs k)).length = k := by rw [u64s_length, kl_length]
        have HO : Hid (w2.ownsRow w.heap.size 27 1 (.slice A1 k c1) k (u64s (kl fs k))) := by
          have := R1.out.rk
          unfold Row at this
          rw [hka] at this
          exact this
        have HKA := Lib.hid hka
        have HDL : Hid (done.length = k) := by show _ = _; rw [HP.out.length_eq, ents_length]
        have HSZ : Hid (w.heap.size ≤ w2.heap.size) := R1.out.below.size
        clear hka
        go_wp2_with (first
          | (at_builtin; refine wpList_app _ rfl (.tmp 26) (.tmp 28) 92 rfl w.heap.size 27 j0 _ 8 Try.underlying92 hj hy0 hy1 hy2 rfl (.slice A1 k c1) k (u64s (kl fs k)) rfl (World.ownsRow.alloc HO.out _) _ 1 1 [.int .u64 key] rfl rfl (Rd.blk (heap_new_at rfl)) (by intro u hu; rw [List.mem_singleton.1 hu]; rfl) (by intro h; cases h) (by unfold maxLen; omega) (by omega) (Nat.le_trans HSZ.out (below_alloc (Below.refl _ _) _).size) ?_; intro v3 w3 ho3 hg3 ha3; obtain ⟨A3, c3, rfl, hrow3⟩ := Row.of2 ho3; have R3 : Hid (RefI w w3 A3 c3 B1 d1 (kl fs (k + 1)) (done.map (·.2))) := refI_k R1.out HKEY.out hrow3 hg3 ha3; have HO3 : Hid (w3.ownsRow w.heap.size 3 1 (.slice B1 k d1) k (ins (done.map (·.2)))) := refI_o R3.out HDL.out)
          | (at_builtin; refine wpList_app _ rfl (.tmp 32) (.tmp 34) 37 rfl w.heap.size 3 i0 _ 8 Try.underlying37 hi hz0 hz1 hz2 rfl (.slice B1 k d1) k (ins (done.map (·.2))) rfl (World.ownsRow.alloc HO3.out _) _ 1 1 [.int .i64 k] rfl rfl (Rd.blk (heap_new_at rfl)) (by intro u hu; rw [List.mem_singleton.1 hu]; rfl) (by intro h; cases h) (by unfold maxLen; omega) (by omega) (Nat.le_trans R3.out.below.size (below_alloc (Below.refl _ _) _).size) ?_; intro v5 w5 ho5 hg5 ha5; obtain ⟨B5, d5, rfl, hrow5⟩ := Row.of2 ho5; have R5 : Hid (RefI w w5 A3 c3 B5 d5 (kl fs (k + 1)) (done.map (·.2) ++ [(k : Int)])) := refI_a R3.out hrow5 hg5 ha5))
        clear ho3 hg3 ha3 hrow3 ho5 hg5 ha5 hrow5 HO HO3
        obtain ⟨ga, cua, rfl, -, -, -, -⟩ := R5.out.rk.form (by rw [u64s_length, kl_length]; omega)
        obtain ⟨g, cub, rfl, -, -, -, -⟩ := R5.out.ro.form (by rw [ins_length, List.length_append, List.length_singleton]; omega)
        go_loopw [10] (fun av wq => ∃ (p s : List En) (x : Int) (a : Nat), a ≤ k ∧ av = .int .i64 a ∧ Hid (p.length = a) ∧ Hid (done = p ++ s) ∧ Hid (RefI w wq (some ⟨ga, 0, none⟩) c3 (some ⟨g, 0, none⟩) d5 (kl fs (k + 1)) (p.map (·.2) ++ x :: s.map (·.2))) ∧ Hid (∀ y ∈ s, key < y.1)) (fun av _ => (intOf av).toNat)
        case atStart => exact ⟨done, [], (k : Int), k, by omega, by go_num, HDL, by show done = done ++ []; rw [List.append_nil], R5, by intro y hy; simp at hy⟩
        case round =>
          obtain ⟨p, s, x, a, hak, rfl, HPL, HSPL, RI, HGT⟩ := hrel
          have fz := RI.out.ro.frozen_ (by simp [ins]; omega) a
          have ca := RI.out.ro.cell_ a (.int .i64 x) (by rw [← HPL.out]; simp [ins])
          by_cases ha0 : a = 0
          · subst ha0
            have hpn : p = [] := List.eq_nil_of_length_eq_zero HPL.out
            subst hpn
            have hdn := ins_done HSPL.out HP.out HS.out HKEY.out HGT.out (fun x hx => by simp at hx)
            have R7 : Hid (RefI w (wr.setCell ⟨g, 0, none⟩ (.int .i64 (k : Int))) (some ⟨ga, 0, none⟩) c3 (some ⟨g, 0, none⟩) d5 (kl fs (k + 1)) ((([] : List En) ++ (key, (k : Int)) :: s).map (·.2))) := by
              have := RI.out.set 0 (k : Int)
              rw [set_mid2 _ _ _ _ _ (by simp)] at this
              show RefI _ _ _ _ _ _ _ _
              simpa using this
            have HP7 := Lib.hid hdn.1
            have HS7 := Lib.hid hdn.2
            clear hdn
            go_wp2_with fail
            go_roundw
            case rel =>
              refine ⟨k + 1, ([] : List En) ++ (key, (k : Int)) :: s, some ⟨ga, 0, none⟩, c3, some ⟨g, 0, none⟩, d5, by omega, rfl, rfl, by go_num, R7, HP7, HS7, ?_⟩
              show ∀ f ∈ fs.take (k + 1), _
              rw [HT.out]
              intro x hx
              rcases List.mem_append.1 hx with hx | hx
              · exact H3.out x hx
              · rw [List.mem_singleton.1 hx]; exact HOK.out
            case measure => simp [intOf]; omega
          · obtain ⟨b, rfl⟩ : ∃ b, a = b + 1 := ⟨a - 1, by omega⟩
            obtain ⟨p', y, rfl⟩ : ∃ p' y, p = p' ++ [y] := by
              have hne : p ≠ [] := fun e => by subst e; have := HPL.out; simp at this
              exact ⟨p.dropLast, p.getLast hne, (List.dropLast_concat_getLast hne).symm⟩
            have hpl : p'.length = b := by have := HPL.out; simp at this; exact this
            have hyd : y ∈ done := by rw [HSPL.out]; simp
            obtain ⟨j, hjk, hyj⟩ := ents_mem (HP.out.mem_iff.1 hyd)
            have cb := RI.out.ro.cell_ b (.int .i64 y.2) (by rw [← hpl]; simp [ins])
            have cj := RI.out.rk.cell_ j (.int .u64 y.1) (by rw [u64s_kl fs (k + 1) j (by omega), hyj])
            rw [hyj] at cb cj
            dsimp only at cb cj
            have HYJ := Lib.hid hyj
            have HPL' := Lib.hid hpl
            have hy1 : y.1 = keysOf fs j := by rw [hyj]
            have HY1 := Lib.hid hy1
            clear hyj hpl hyd hy1
            generalize keysOf fs j = q at *
            by_cases hq : key < q
            · go_wp2_with fail
              go_roundw
              case rel =>
                have hy2 : y.2 = (j : Int) := by rw [HYJ.out]
                refine ⟨p', y :: s, (j : Int), b, by omega, rfl, HPL', ?_, ?_, ?_⟩
                · show done = p' ++ y :: s
                  rw [HSPL.out]; simp
                · have := RI.out.set (b + 1) (j : Int)
                  rw [set_mid2 _ _ _ _ _ (by simp [HPL'.out])] at this
                  show RefI _ _ _ _ _ _ _ _
                  simpa [hy2] using this
                · show ∀ z ∈ y :: s, key < z.1
                  intro z hz
                  rcases List.mem_cons.1 hz with rfl | hz
                  · rw [HY1.out]; exact hq
                  · exact HGT.out z hz
              case measure => simp [intOf]
            · have h2 : Hid (∀ x ∈ p' ++ [y], x.1 ≤ key) := last_le (by have := HS.out; rw [HSPL.out] at this; exact (List.pairwise_append.1 this).1) (by rw [HY1.out]; omega)
              have hdn := ins_done HSPL.out HP.out HS.out HKEY.out HGT.out h2.out
              have R7 : Hid (RefI w (wr.setCell ⟨g, (b + 1), none⟩ (.int .i64 (k : Int))) (some ⟨ga, 0, none⟩) c3 (some ⟨g, 0, none⟩) d5 (kl fs (k + 1)) (((p' ++ [y]) ++ (key, (k : Int)) :: s).map (·.2))) := by
                have := RI.out.set (b + 1) (k : Int)
                rw [set_mid2 _ _ _ _ _ (by simp [HPL'.out])] at this
                show RefI _ _ _ _ _ _ _ _
                simpa using this
              have HP7 := Lib.hid hdn.1
              have HS7 := Lib.hid hdn.2
              clear hdn
              go_wp2_with fail
              go_roundw
              case rel =>
                refine ⟨k + 1, (p' ++ [y]) ++ (key, (k : Int)) :: s, some ⟨ga, 0, none⟩, c3, some ⟨g, 0, none⟩, d5, by omega, rfl, rfl, by go_num, R7, HP7, HS7, ?_⟩
                show ∀ f ∈ fs.take (k + 1), _
                rw [HT.out]
                intro x hx
                rcases List.mem_append.1 hx with hx | hx
                · exact H3.out x hx
                · rw [List.mem_singleton.1 hx]; exact HOK.out
              case measure => simp [intOf]; omega
    · obtain rfl : k = n := by omega
      go_wp2_with fail
      go_ret2
      have hall : fs.all okF = true := by
        have := H3.out
        rw [← HN.out, List.take_length] at this
        exact List.all_eq_true.2 this
      have hd : done = rkE fs := Ranked.unique ⟨by rw [HN.out]; exact HP.out, HS.out⟩ (rkE_ranked fs)
      have ho : outR fs = done.map (·.2) := by unfold outR; rw [hall, if_pos rfl, hd]
      have hl : (outR fs).length = k := by rw [ho, List.length_map, HP.out.length_eq, ents_length]
      refine ⟨R0.out.below, B1, d1, ?_, ?_⟩
      · rw [hl, hall]; rfl
      · rw [ho]; exact R0.out.ro
end Go.Proofs.Ytbjeblffmgghgaa
