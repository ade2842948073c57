/- Whole numbers as bytes, seven bits each. Plain laws, no program in sight. -/
import Derived.Test.YtbikjhmdpgoofabStoreM
import Derived.IntWalk
namespace Go.Proofs.Ytbikjhmdpgoofab

def vintF : Nat → Nat → List UInt8
  | 0, n => [UInt8.ofNat n]
  | f + 1, n => if n < 128 then [UInt8.ofNat n] else UInt8.ofNat (n % 128 + 128) :: vintF f (n / 128)
def vint (n : Nat) : List UInt8 := vintF 10 n
theorem vintF_small {n : Nat} (h : n < 128) : ∀ f, vintF f n = [UInt8.ofNat n]
  | 0 => rfl
  | f + 1 => by rw [vintF, if_pos h]
theorem vintF_len : ∀ f n, (vintF f n).length ≤ f + 1 ∧ 1 ≤ (vintF f n).length
  | 0, n => by simp [vintF]
  | f + 1, n => by
    rw [vintF]
    split
    · simp
    · have := vintF_len f (n / 128)
      simp only [List.length_cons]
      omega
theorem vint_len (n : Nat) : (vint n).length ≤ 11 ∧ 1 ≤ (vint n).length := vintF_len 10 n
/-- A number that is signed, as one that isn't. -/
def zig (n : Int) : Nat := if 0 ≤ n then (2 * n).toNat else (-2 * n - 1).toNat
theorem bv_ofNat {n : Nat} (h : n < 256) : bv (UInt8.ofNat n) = .int .u8 (n : Int) := by
  unfold bv
  rw [UInt8.toNat_ofNat', Nat.mod_eq_of_lt (by omega)]

theorem zig_pos (n : Nat) : zig (n : Int) = 2 * n := by unfold zig; rw [if_pos (by omega)]; omega
theorem zig_neg {n : Int} (h : n < 0) : (zig n : Int) = -2 * n - 1 := by unfold zig; rw [if_neg (by omega)]; omega
theorem xor_max (x : Nat) (h : x < 18446744073709551616) : bits BinOp.xor IntKind.u64 IntKind.u64.max (x : Int) = ((18446744073709551615 - x : Nat) : Int) := by
  have e : BitVec.ofInt 64 IntKind.u64.max = BitVec.allOnes 64 := by decide
  have e2 : (BitVec.ofInt 64 IntKind.u64.max ^^^ BitVec.ofInt 64 (x : Int)).toNat = 18446744073709551615 - x := by
    rw [e, BitVec.allOnes_xor, BitVec.ofInt_natCast, BitVec.toNat_not, BitVec.toNat_ofNat, Nat.mod_eq_of_lt (by omega)]
  show IntKind.u64.wrap ((BitVec.ofInt 64 IntKind.u64.max ^^^ BitVec.ofInt 64 (x : Int)).toNat : Int) = _
  rw [e2]
  exact IntWalk.u64_in _ (by omega)

end Go.Proofs.Ytbikjhmdpgoofab
