/- Bits of numbers below 2^32: the same in 32 and in 64 bits. -/
import Derived.Test.YtmakoecgogjemaaDoorVwa
set_option linter.unusedVariables false
namespace Go.Vc
open Go

theorem wrap_i64_nat (n : Nat) (h : n < 2 ^ 32) : IntKind.i64.wrap (n : Int) = n := by
  simp [IntKind.wrap, IntKind.bits, IntKind.signed]
  omega
theorem wrap_u32_nat (n : Nat) (h : n < 2 ^ 32) : IntKind.u32.wrap (n : Int) = n := by
  simp [IntKind.wrap, IntKind.bits, IntKind.signed]
  omega
theorem ofInt64 (n : Nat) (h : n < 2 ^ 32) : (BitVec.ofInt 64 (n : Int)).toNat = n := by
  rw [BitVec.toNat_ofInt]; omega
theorem ofInt32 (n : Nat) (h : n < 2 ^ 32) : (BitVec.ofInt 32 (n : Int)).toNat = n := by
  rw [BitVec.toNat_ofInt]; omega

theorem xor_i64 (a b : Nat) (ha : a < 2 ^ 32) (hb : b < 2 ^ 32) : bits .xor .i64 (a : Int) (b : Int) = ((a ^^^ b : Nat) : Int) := by
  show IntKind.i64.wrap ((BitVec.ofInt 64 (a : Int) ^^^ BitVec.ofInt 64 (b : Int)).toNat : Int) = _
  rw [BitVec.toNat_xor, ofInt64 a ha, ofInt64 b hb, wrap_i64_nat _ (Nat.xor_lt_two_pow ha hb)]
theorem xor_u32 (a b : Nat) (ha : a < 2 ^ 32) (hb : b < 2 ^ 32) : bits .xor .u32 (a : Int) (b : Int) = ((a ^^^ b : Nat) : Int) := by
  show IntKind.u32.wrap ((BitVec.ofInt 32 (a : Int) ^^^ BitVec.ofInt 32 (b : Int)).toNat : Int) = _
  rw [BitVec.toNat_xor, ofInt32 a ha, ofInt32 b hb, wrap_u32_nat _ (Nat.xor_lt_two_pow ha hb)]
theorem and_u32_one (a : Nat) (ha : a < 2 ^ 32) : bits .and .u32 (a : Int) 1 = ((a % 2 : Nat) : Int) := by
  show IntKind.u32.wrap ((BitVec.ofInt 32 (a : Int) &&& BitVec.ofInt 32 1).toNat : Int) = _
  have h1 : (BitVec.ofInt 32 1).toNat = 1 := by decide
  rw [BitVec.toNat_and, ofInt32 a ha, h1, Nat.and_one_is_mod, wrap_u32_nat _ (by omega)]
theorem shr_u32_one (a : Nat) : shrI .u32 (a : Int) 1 = ((a / 2 : Nat) : Int) := by
  unfold shrI
  have : min (Int.toNat (1 : Int)) IntKind.u32.bits = 1 := by decide
  rw [this]
  have h2 : ((2 : Int) ^ 1) = 2 := by decide
  rw [h2, Int.fdiv_eq_ediv_of_nonneg _ (by omega)]
  omega
end Go.Vc
