/- The sums of FD frames: their kinds. No condition. -/
import Derived.Test.YtlmdkmflbhnlgaaGreatAdd
namespace Go.Proofs.YtlmdkmflbhnlgaaGreat
open Go.RowKit
set_option maxRecDepth 100000 in
theorem of_2 : OfK 2 17 92251 65536 := by
  refine ⟨fun W => ?_, by decide, by decide, by decide, by decide⟩
  go_enter Tryz.func103, Tryz.ntmps103
  go_wp2
  exact bodyPost_ret (v := .agg #[.int .i64 17, .int .u64 92251, .int .u64 65536]) (by simp [results, Tryz.results103, go_sem]) rfl ⟨rfl, below_alloc (below_alloc (Below.refl _ _) _) _⟩
set_option maxRecDepth 100000 in
theorem of_3 : OfK 3 21 1058969 1048576 := by
  refine ⟨fun W => ?_, by decide, by decide, by decide, by decide⟩
  go_enter Tryz.func103, Tryz.ntmps103
  go_wp2
  exact bodyPost_ret (v := .agg #[.int .i64 21, .int .u64 1058969, .int .u64 1048576]) (by simp [results, Tryz.results103, go_sem]) rfl ⟨rfl, below_alloc (below_alloc (Below.refl _ _) _) _⟩
end Go.Proofs.YtlmdkmflbhnlgaaGreat
namespace Go.Proofs.YtlmdkmflbhnlgaaGreat
open Go.RowKit
set_option maxRecDepth 100000 in
theorem of_4 : OfK 4 13 6631 1 := by
  refine ⟨fun W => ?_, by decide, by decide, by decide, by decide⟩
  go_enter Tryz.func103, Tryz.ntmps103
  go_wp2
  exact bodyPost_ret (v := .agg #[.int .i64 13, .int .u64 6631, .int .u64 1]) (by simp [results, Tryz.results103, go_sem]) rfl ⟨rfl, below_alloc (below_alloc (Below.refl _ _) _) _⟩
set_option maxRecDepth 100000 in
theorem of_5 : OfK 5 32 4104977171 1 := by
  refine ⟨fun W => ?_, by decide, by decide, by decide, by decide⟩
  go_enter Tryz.func103, Tryz.ntmps103
  go_wp2
  exact bodyPost_ret (v := .agg #[.int .i64 32, .int .u64 4104977171, .int .u64 1]) (by simp [results, Tryz.results103, go_sem]) rfl ⟨rfl, below_alloc (below_alloc (Below.refl _ _) _) _⟩
end Go.Proofs.YtlmdkmflbhnlgaaGreat
