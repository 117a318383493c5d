/- fixed.Tells, crc.Fits. No condition. -/
import Derived.Test.YtlmdkmflbhnlgaaGreatGet
import Derived.Test.YtlmdkmflbhnlgaaGreatAdd
namespace Go.Proofs.YtlmdkmflbhnlgaaGreat
open Go.RowKit
/-- What four bits tell, if anything. -/
def tellsG (n : Nat) : Nat := (n / 2) ^^^ (n / 2 / 2) ^^^ (n / 2 / 4)
def tellsOk (n : Nat) : Bool := ((tellsG n) ^^^ n) % 2 == 0
set_option maxHeartbeats 4000000 in
theorem Tells_any (A : Option Addr) (c : Nat) (l : List Nat) (w : World) (hr : Rd w A (bys l)) (hl : l.length = 4) (h01 : ∀ x ∈ l, x ≤ 1) :
    Calls Tryz.prog 129 #[.slice A 4 c] w fun e w' => e = .returned (.tuple #[.int .i64 (if tellsOk (numN l) then tellsG (numN l) else 0 : Nat), .int .i64 (if tellsOk (numN l) then 0 else 6)]) ∧ Below w.heap.size w w' := by
  have HG := Lib.hid (Get_any w A c 4 l hr hl (by omega) h01)
  have hlt : numN l < 16 := by have := numN_lt l h01; rw [hl] at this; exact this
  clear hr hl h01
  generalize numN l = n at *
  have hc : n = 0 ∨ n = 1 ∨ n = 2 ∨ n = 3 ∨ n = 4 ∨ n = 5 ∨ n = 6 ∨ n = 7 ∨ n = 8 ∨ n = 9 ∨ n = 10 ∨ n = 11 ∨ n = 12 ∨ n = 13 ∨ n = 14 ∨ n = 15 := by omega
  clear hlt
  rcases hc with rfl | rfl | rfl | rfl | rfl | rfl | rfl | rfl | rfl | rfl | rfl | rfl | rfl | rfl | rfl | rfl
  all_goals
    go_enter Tryz.func129, Tryz.ntmps129
    go_wp2_with fail
    refine HG.out.mono ?_
    rintro e w1 ⟨rfl, hb⟩
    have HB := Lib.hid hb
    clear hb
    go_wp2_with fail
    go_ret2
    exact ⟨by first | rfl | decide, HB.out⟩
theorem rd_take {w : World} {A : Option Addr} {l : List Nat} (h : Rd w A (bys l)) (d : Nat) : Rd w A (bys (l.take d)) := fun j u hj => by
  have hjd : j < (bys (l.take d)).length := (List.getElem?_eq_some_iff.1 hj).1
  rw [bys_length, List.length_take] at hjd
  refine h j u ?_
  rw [bys] at hj ⊢
  rw [List.getElem?_map] at hj ⊢
  rw [List.getElem?_take_of_lt (by omega)] at hj
  exact hj
theorem rd_drop {w : World} {g o : Nat} {l : List Nat} (h : Rd w (some ⟨g, o, none⟩) (bys l)) (d : Nat) : Rd w (some ⟨g, o + d, none⟩) (bys (l.drop d)) := fun j u hj => by
  obtain ⟨ad, e, hc⟩ := h (d + j) u (by
    rw [bys] at hj ⊢
    rw [List.getElem?_map] at hj ⊢
    rw [List.getElem?_drop] at hj
    exact hj)
  injection e with e
  subst e
  refine ⟨_, rfl, ?_⟩
  have e3 : (⟨g, o + d, none⟩ : Addr).add j = (⟨g, o, none⟩ : Addr).add (d + j) := by
    unfold Addr.add
    by_cases hj0 : j = 0
    · subst hj0; by_cases hd0 : d = 0
      · subst hd0; simp
      · simp [hd0]
    · have : d + j ≠ 0 := by omega
      simp [hj0]; omega
  rw [e3]; exact hc
/-- Does a row end with its own sum? -/
def fitsC (size poly start : Nat) (l : List Nat) : Bool := decide (crcN size poly start (l.take (l.length - size)) = numN (l.drop (l.length - size)))
set_option maxHeartbeats 4000000 in
theorem CrcFits_any {k : Int} {size poly start : Nat} (h : OfK k size poly start) (hs0 : 0 < size) (hs64 : size ≤ 64) (g c n : Nat) (l : List Nat) (w : World) (hr : Rd w (some ⟨g, 0, none⟩) (bys l)) (hn : l.length = n) (hn2 : n ≤ 65536) (hs : size ≤ n) (hc1 : n ≤ c) (hc2 : c ≤ 9223372036854775807) (h01 : ∀ x ∈ l, x ≤ 1) :
    Calls Tryz.prog 107 #[.int .i64 k, .slice (some ⟨g, 0, none⟩) n c] w fun e w' => e = .returned (.bool (fitsC size poly start l)) ∧ Below w.heap.size w w' := by
  obtain ⟨d, hd⟩ : ∃ d, n - size = d := ⟨_, rfl⟩
  have hok : bitsOk l = true := by unfold bitsOk; rw [decide_eq_true (by omega : l.length ≤ 65536), decide_eq_true h01]; rfl
  have HZ := Lib.hid (fun W => Size_any h W)
  have HC := Lib.hid (fun W hW => BitsCheck_any (some ⟨g, 0, none⟩) n c l W hW hn (by omega))
  rw [hok] at HC
  have h1 : (l.drop d).length = size := by rw [List.length_drop, hn]; omega
  have h2 : (l.take d).length = d := by rw [List.length_take, hn]; omega
  have HG := Lib.hid (fun W hW => Get_any W (some ⟨g, d, none⟩) (c - d) size (l.drop d) hW h1 hs64 (fun x hx => h01 x (List.mem_of_mem_drop hx)))
  have HS := Lib.hid (fun W hW => Sum_any h g 0 d c (some ⟨g, 0, none⟩) (.inl rfl) (l.take d) W hW h2 (by omega) (by omega) hc2 (fun x hx => h01 x (List.mem_of_mem_take hx)))
  have hf : fitsC size poly start l = decide (crcN size poly start (l.take d) = numN (l.drop d)) := by unfold fitsC; rw [hn, hd]
  rw [hf]
  have HR := Lib.hid hr
  have HD1 : Hid (∀ W, Rd W (some ⟨g, 0, none⟩) (bys l) → Rd W (some ⟨g, d, none⟩) (bys (l.drop d))) := fun W h => by have := rd_drop h d; rwa [Nat.zero_add] at this
  have HD2 : Hid (∀ W, Rd W (some ⟨g, 0, none⟩) (bys l) → Rd W (some ⟨g, 0, none⟩) (bys (l.take d))) := fun W h => rd_take h d
  generalize crcN size poly start (l.take d) = X at *
  generalize numN (l.drop d) = Y at *
  have hdi : (n : Int) - (size : Int) = (d : Int) := by omega
  have hcd : ¬ c = d := by omega
  have hnd : n - d = size := by omega
  have hs0' : ¬ size = 0 := by omega
  have hsl : ¬ n < size := by omega
  clear hr hok h01 h1 h2 hf hn hd
  go_enter Tryz.func107, Tryz.ntmps107
  go_wp2_with fail
  refine (HZ.out _).mono ?_
  rintro e w1 ⟨rfl, hb1⟩
  have R1 := Lib.hid (HR.out.below hb1)
  have HB1 := Lib.hid hb1
  clear hb1
  go_wp2_with fail
  refine (HC.out _ R1.out).mono ?_
  rintro e _ ⟨rfl, rfl⟩
  simp only [if_true]
  go_wp2_with fail
  refine (HG.out _ (HD1.out _ R1.out)).mono ?_
  rintro e w2 ⟨rfl, hb2⟩
  have R2 := Lib.hid (R1.out.below hb2)
  have HB2 := Lib.hid (below_trans HB1.out hb2)
  clear hb2
  go_wp2_with fail
  refine (HS.out _ (HD2.out _ R2.out)).mono ?_
  rintro e w3 ⟨rfl, hb3⟩
  have HB3 := Lib.hid (below_trans HB2.out hb3)
  clear hb3
  go_wp2_with fail
  go_ret
  exact ⟨ret_bool (by rw [Bool.eq_iff_iff]; simp only [beq_iff_eq, decide_eq_true_eq]; omega), HB3.out⟩
end Go.Proofs.YtlmdkmflbhnlgaaGreat
