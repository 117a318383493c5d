/- Which frames may be: what frame.Check answers. No condition. -/
import Derived.Test.YtlmdkmflbhnlgaaProg
import Derived.Test.YtlmdkmflbhnlgaaSame
namespace Go.Proofs.Ytlmdkmflbhnlgaa
open Go.RowKit

/-- A frame without what its kind may have. -/
def bareF (f : Fr) : Fr :=
  { kind := f.kind, id := 0, ext := if f.kind = 1 then false else f.ext, rtr := if f.kind = 1 then false else f.rtr, brs := if f.kind = 2 then false else f.brs, esi := if f.kind = 2 then false else f.esi,
    sec := if f.kind = 3 then false else f.sec, sdt := if f.kind = 3 then 0 else f.sdt, vcid := if f.kind = 3 then 0 else f.vcid, af := if f.kind = 3 then 0 else f.af, data := [] }
set_option maxRecDepth 100000 in
set_option maxHeartbeats 1000000 in
theorem bare_any (f : Fr) (s : Option Addr) (n c : Nat) (w : World) :
    Calls Try.prog 40 #[frv f (.slice s n c)] w fun e w' => e = .returned (frv (bareF f) (.slice none 0 0)) ∧ Below w.heap.size w w' := by
  by_cases h1 : f.kind = 1
  · have hb : bareF f = { kind := 1, id := 0, ext := false, rtr := false, brs := f.brs, esi := f.esi, sec := f.sec, sdt := f.sdt, vcid := f.vcid, af := f.af, data := [] } := by simp [bareF, h1]
    rw [hb]
    dsimp only [frv]
    rw [h1]
    clear hb h1
    go_enter Try.func40, Try.ntmps40
    go_wp2
    exact bodyPost_ret (v := .agg #[.int .i64 1, .int .u32 0, .bool false, .bool false, .bool f.brs, .bool f.esi, .bool f.sec, .int .u8 f.sdt, .int .u8 f.vcid, .int .u32 f.af, .slice none 0 0]) (by simp [results, Try.results40, go_sem]) rfl ⟨rfl, below_alloc (below_alloc (Below.refl _ _) _) _⟩
  · by_cases h2 : f.kind = 2
    · have hb : bareF f = { kind := 2, id := 0, ext := f.ext, rtr := f.rtr, brs := false, esi := false, sec := f.sec, sdt := f.sdt, vcid := f.vcid, af := f.af, data := [] } := by simp [bareF, h2]
      rw [hb]
      dsimp only [frv]
      rw [h2]
      clear hb h1 h2
      go_enter Try.func40, Try.ntmps40
      go_wp2
      exact bodyPost_ret (v := .agg #[.int .i64 2, .int .u32 0, .bool f.ext, .bool f.rtr, .bool false, .bool false, .bool f.sec, .int .u8 f.sdt, .int .u8 f.vcid, .int .u32 f.af, .slice none 0 0]) (by simp [results, Try.results40, go_sem]) rfl ⟨rfl, below_alloc (below_alloc (Below.refl _ _) _) _⟩
    · by_cases h3 : f.kind = 3
      · have hb : bareF f = { kind := 3, id := 0, ext := f.ext, rtr := f.rtr, brs := f.brs, esi := f.esi, sec := false, sdt := 0, vcid := 0, af := 0, data := [] } := by simp [bareF, h3]
        rw [hb]
        dsimp only [frv]
        rw [h3]
        clear hb h1 h2 h3
        go_enter Try.func40, Try.ntmps40
        go_wp2
        exact bodyPost_ret (v := .agg #[.int .i64 3, .int .u32 0, .bool f.ext, .bool f.rtr, .bool f.brs, .bool f.esi, .bool false, .int .u8 0, .int .u8 0, .int .u32 0, .slice none 0 0]) (by simp [results, Try.results40, go_sem]) rfl ⟨rfl, below_alloc (below_alloc (Below.refl _ _) _) _⟩
      · have hb : bareF f = { kind := f.kind, id := 0, ext := f.ext, rtr := f.rtr, brs := f.brs, esi := f.esi, sec := f.sec, sdt := f.sdt, vcid := f.vcid, af := f.af, data := [] } := by simp [bareF, h1, h2, h3]
        rw [hb]
        dsimp only [frv]
        have k1 : (f.kind == 1) = false := by simp [h1]
        have k2 : (f.kind == 2) = false := by simp [h2]
        have k3 : (f.kind == 3) = false := by simp [h3]
        clear hb h1 h2 h3
        go_enter Try.func40, Try.ntmps40
        go_wp2
        exact bodyPost_ret (v := .agg #[.int .i64 f.kind, .int .u32 0, .bool f.ext, .bool f.rtr, .bool f.brs, .bool f.esi, .bool f.sec, .int .u8 f.sdt, .int .u8 f.vcid, .int .u32 f.af, .slice none 0 0]) (by simp [results, Try.results40, go_sem]) rfl ⟨rfl, below_alloc (below_alloc (Below.refl _ _) _) _⟩
end Go.Proofs.Ytlmdkmflbhnlgaa
