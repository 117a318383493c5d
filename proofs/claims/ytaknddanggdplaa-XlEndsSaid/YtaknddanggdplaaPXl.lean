/- An XL frame's data part, by definition. No condition. -/
import Derived.Test.YtaknddanggdplaaXlHead
import Derived.Test.YtaknddanggdplaaTally
import Derived.Test.YtaknddanggdplaaPCrc
import Derived.Test.YtaknddanggdplaaPStuff
namespace Go.Proofs.Ytaknddanggdplaa
open Go.RowKit
def codeX (f : Fr) : Nat := ((codeF f.kind f.data.length).getD 0).toNat
/-- Ahead of the first sum: SDT, SEC, the code of the size, the tally of the head's stuff bits. -/
def part1X (f : Fr) : List Nat := bitsN f.sdt.toNat 8 ++ bitsN (bitB f.sec) 1 ++ bitsN (codeX f) 11 ++ tallyN ((stuffN (headX f)).length - 17)
def part2X (f : Fr) : List Nat := part1X f ++ bitsN (crcN 13 6631 1 (headX f ++ part1X f)) 13
def part3X (f : Fr) : List Nat := part2X f ++ bitsN f.vcid.toNat 8 ++ bitsN f.af.toNat 32 ++ bytesN f.data
def bodyX (f : Fr) : List Nat := part3X f ++ bitsN (crcN 32 4104977171 1 ([] ++ part3X f)) 32
theorem part1X_length (f : Fr) : (part1X f).length = 24 := by simp [part1X, bitsN_length, tallyN_length]
theorem part2X_length (f : Fr) : (part2X f).length = 37 := by simp [part2X, part1X_length, bitsN_length]
theorem part3X_length (f : Fr) : (part3X f).length = 77 + 8 * f.data.length := by simp [part3X, part2X_length, bitsN_length, bytesN_length]; omega
theorem bodyX_length (f : Fr) : (bodyX f).length = 109 + 8 * f.data.length := by simp [bodyX, part3X_length, bitsN_length]; omega
theorem headX_bits (f : Fr) : ∀ x ∈ headX f, x ≤ 1 := by
  intro x hx
  unfold headX at hx
  simp only [List.mem_append] at hx
  rcases hx with (h | h) | h <;> exact bitsN_bit _ _ x h
theorem part1X_bits (f : Fr) : ∀ x ∈ part1X f, x ≤ 1 := by
  intro x hx
  unfold part1X tallyN at hx
  simp only [List.mem_append] at hx
  rcases hx with ((h | h) | h) | h <;> exact bitsN_bit _ _ x h
theorem part2X_bits (f : Fr) : ∀ x ∈ part2X f, x ≤ 1 := by
  intro x hx
  unfold part2X at hx
  rcases List.mem_append.1 hx with h | h
  · exact part1X_bits f x h
  · exact bitsN_bit _ _ x h
theorem part3X_bits (f : Fr) : ∀ x ∈ part3X f, x ≤ 1 := by
  intro x hx
  unfold part3X at hx
  simp only [List.mem_append] at hx
  rcases hx with ((h | h) | h) | h
  · exact part2X_bits f x h
  · exact bitsN_bit _ _ x h
  · exact bitsN_bit _ _ x h
  · exact bytesN_bits _ x h
theorem bodyX_bits (f : Fr) : ∀ x ∈ bodyX f, x ≤ 1 := by
  intro x hx
  unfold bodyX at hx
  rcases List.mem_append.1 hx with h | h
  · exact part3X_bits f x h
  · exact bitsN_bit _ _ x h
end Go.Proofs.Ytaknddanggdplaa
