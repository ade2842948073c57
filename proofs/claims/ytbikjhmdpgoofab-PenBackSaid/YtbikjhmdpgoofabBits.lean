/- Low bits of any integer. Plain laws. -/
import Derived.Laws.BitsLemmas
import Derived.Laws.Entries
import Derived.Lib.QuoteBits
import Derived.WalkKit
namespace Go.Proofs.Ytbikjhmdpgoofab
open Go.RowKit

theorem and_low (x : Int) (i : Nat) (hi : i ≤ 63) : bits .and .i64 x ((2 ^ i - 1 : Nat) : Int) = x % ((2 ^ i : Nat) : Int) := by
  have h2 : (2 : Nat) ^ i ≤ 2 ^ 63 := Nat.pow_le_pow_right (by decide) hi
  have h62 : (2 : Nat) ^ 63 = 9223372036854775808 := by decide
  have h0 : 0 < (2 : Nat) ^ i := Nat.two_pow_pos i
  show IntKind.i64.wrap (((BitVec.ofInt 64 x &&& BitVec.ofInt 64 ((2 ^ i - 1 : Nat) : Int)).toNat : Nat) : Int) = _
  rw [BitVec.toNat_and, BitVec.toNat_ofInt, BitVec.toNat_ofInt]
  have e1 : ((((2 ^ i - 1 : Nat) : Int)) % ((2 ^ 64 : Nat) : Int)).toNat = 2 ^ i - 1 := by
    rw [Int.emod_eq_of_lt (by omega) (by omega)]
    simp
  rw [e1, Nat.and_two_pow_sub_one_eq_mod]
  have e2 : ((x % ((2 ^ 64 : Nat) : Int)) % ((2 ^ i : Nat) : Int)) = x % ((2 ^ i : Nat) : Int) := Int.emod_emod_of_dvd _ (by
    exact_mod_cast Nat.pow_dvd_pow 2 (by omega))
  have e3 : (((x % ((2 ^ 64 : Nat) : Int)).toNat % 2 ^ i : Nat) : Int) = x % ((2 ^ i : Nat) : Int) := by
    rw [Int.natCast_emod, Int.toNat_of_nonneg (Int.emod_nonneg _ (by omega)), e2]
  rw [e3]
  have g0 : 0 ≤ x % ((2 ^ i : Nat) : Int) := Int.emod_nonneg _ (by omega)
  have g1 : x % ((2 ^ i : Nat) : Int) < ((2 ^ i : Nat) : Int) := Int.emod_lt_of_pos _ (by omega)
  generalize x % ((2 ^ i : Nat) : Int) = y at g0 g1 ⊢
  obtain ⟨n, rfl⟩ := Int.eq_ofNat_of_zero_le g0
  exact Lib.wrap_i64_small n (by omega)
theorem and7 (x : Int) : ∃ a : Nat, a < 8 ∧ bits .and .i64 x 7 = (a : Int) := by
  have h := and_low x 3 (by omega)
  have e : ((2 ^ 3 - 1 : Nat) : Int) = 7 := by decide
  have e2 : ((2 ^ 3 : Nat) : Int) = 8 := by decide
  rw [e, e2] at h
  exact ⟨(x % 8).toNat, by omega, by omega⟩
theorem and1 (x : Int) : bits .and .i64 x 1 = x % 2 := by
  have h := and_low x 1 (by omega)
  have e : ((2 ^ 1 - 1 : Nat) : Int) = 1 := by decide
  have e2 : ((2 ^ 1 : Nat) : Int) = 2 := by decide
  rw [e, e2] at h
  exact h

end Go.Proofs.Ytbikjhmdpgoofab
