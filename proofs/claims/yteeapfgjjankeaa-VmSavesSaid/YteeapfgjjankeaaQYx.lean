/- Plain arithmetic of the operations' values. -/
import Derived.Test.YteeapfgjjankeaaQYa
import Derived.Laws.Bits64
import Derived.WalkKit
namespace Go.Proofs.Yteeapfgjjankeaa
open Go.RowKit

theorem bits_mask6 (x : Int) : bits .and .i64 x 63 = x % 64 := by
  have e : BitVec.toNat (BitVec.ofInt IntKind.i64.bits 63) = 2 ^ 6 - 1 := by decide
  have e2 : BitVec.toNat (BitVec.ofInt IntKind.i64.bits x) = (x % 18446744073709551616).toNat := by
    rw [BitVec.toNat_ofInt]; rfl
  simp only [bits, BitVec.toNat_and, e, e2, Nat.and_two_pow_sub_one_eq_mod]
  rw [IntKind.wrap_i64]
  omega
theorem shiftN (b : Int) : min (IntKind.u64.wrap (bits .and .i64 b 63)).toNat 64 = (b % 64).toNat := by
  rw [bits_mask6, IntKind.wrap_u64]; omega
theorem wrap64_in {x : Int} (h : -9223372036854775808 ≤ x ∧ x ≤ 9223372036854775807) : wrap64 x = x := by unfold wrap64; omega
theorem tmod_sgn (a b : Int) : (0 ≤ a → 0 ≤ a.tmod b ∧ a.tmod b ≤ a) ∧ (a ≤ 0 → a ≤ a.tmod b ∧ a.tmod b ≤ 0) := by
  have hn : (a.tmod b).natAbs ≤ a.natAbs := by rw [Int.natAbs_tmod]; exact Nat.mod_le _ _
  refine ⟨fun h => ?_, fun h => ?_⟩
  · have := Int.tmod_nonneg b h
    omega
  · have h2 := Int.tmod_nonneg b (show 0 ≤ -a by omega)
    rw [Int.neg_tmod] at h2
    omega
theorem tdiv_in (a b : Int) (ha : -9223372036854775808 ≤ a ∧ a ≤ 9223372036854775807) (h1 : b ≠ -1) : -9223372036854775808 ≤ a.tdiv b ∧ a.tdiv b ≤ 9223372036854775807 := by
  by_cases h2 : b = 1
  · subst h2; rw [Int.tdiv_one]; exact ha
  have hd : (a.tdiv b).natAbs ≤ a.natAbs / 2 := by
    rw [Int.natAbs_tdiv]
    show a.natAbs / b.natAbs ≤ _
    by_cases h0 : b = 0
    · subst h0; simp
    · exact Nat.div_le_div_left (by omega) (by omega)
  omega
theorem tmod_eq (a b : Int) (ha : -9223372036854775808 ≤ a ∧ a ≤ 9223372036854775807) (h1 : b ≠ -1) : wrap64 (a - wrap64 (wrap64 (a.tdiv b) * b)) = a.tmod b := by
  have hs := tmod_sgn a b
  have hd := Int.tmod_def a b
  rw [wrap64_in (tdiv_in a b ha h1)]
  have e : a.tdiv b * b = a - a.tmod b := by rw [hd, Int.mul_comm]; omega
  rw [e, wrap64_in (x := a - a.tmod b) (by omega), wrap64_in (by omega)]
  omega

end Go.Proofs.Yteeapfgjjankeaa
