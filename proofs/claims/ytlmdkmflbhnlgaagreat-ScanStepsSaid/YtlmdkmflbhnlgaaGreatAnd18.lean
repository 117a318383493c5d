/- The low eighteen bits of an identifier. No condition. -/
import Derived.Test.YtlmdkmflbhnlgaaGreatCheck2
namespace Go.Proofs.YtlmdkmflbhnlgaaGreat
open Go.RowKit
theorem and18 (id : Int) (h0 : 0 ≤ id) (h1 : id < 536870912) : bits .and .u32 id 262143 = id % 262144 := by
  rw [u32_and id 262143 h0 (by omega) (by omega) (by omega)]
  have : id.toNat &&& (262143 : Int).toNat = id.toNat % 2 ^ 18 := Nat.and_two_pow_sub_one_eq_mod id.toNat 18
  rw [this]
  omega
/-- A frame's key among all that arbitrate. -/
def keyF (f : Fr) : Int :=
  if f.ext then f.id / 262144 * 8388608 + 6291456 + f.id % 262144 * 8 + (if f.rtr then 4 else 0)
  else f.id * 8388608 + (if f.rtr then 4194304 else 0) + (if f.kind = 1 then 0 else 1048576) + (if f.kind = 3 then 524288 else 0)
end Go.Proofs.YtlmdkmflbhnlgaaGreat
