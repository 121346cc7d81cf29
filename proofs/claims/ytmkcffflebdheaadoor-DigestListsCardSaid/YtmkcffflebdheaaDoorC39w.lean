/- Words of 32 bits: two ways to make one of four bytes, and two ways to rotate. -/
import Derived.Test.YtmkcffflebdheaaDoorC39s
set_option linter.unusedVariables false
namespace Go.Proofs.YtmkcffflebdheaaDoor
open Go Go.Vc

theorem wrap32 (x : Int) : IntKind.u32.wrap x = ((BitVec.ofInt 32 x).toNat : Int) := by
  simp [IntKind.wrap, IntKind.bits, IntKind.signed, BitVec.toNat_ofInt]
  omega
theorem ofInt_toNat (b : BitVec 32) : BitVec.ofInt 32 ((b.toNat : Nat) : Int) = b := by
  apply BitVec.eq_of_toNat_eq
  simp
theorem wrap_toNat (b : BitVec 32) : IntKind.u32.wrap ((b.toNat : Nat) : Int) = (b.toNat : Int) := by rw [wrap32, ofInt_toNat]
theorem bits_or (x y : Int) : bits .or .u32 x y = ((BitVec.ofInt 32 x ||| BitVec.ofInt 32 y).toNat : Int) := by
  show IntKind.u32.wrap _ = _
  exact wrap_toNat _
theorem shl32 (x : Int) (n : Nat) (h : n ≤ 32) : shlI .u32 x (n : Int) = ((BitVec.ofInt 32 x <<< n).toNat : Int) := by
  unfold shlI
  rw [wrap32, show min (Int.toNat (n : Int)) IntKind.u32.bits = n by simp [IntKind.bits]; omega]
  have : BitVec.ofInt 32 (x * 2 ^ n) = BitVec.ofInt 32 x <<< n := by
    rw [BitVec.ofInt_mul, BitVec.shiftLeft_eq_mul_twoPow]
    congr 1
    apply BitVec.eq_of_toNat_eq
    rw [BitVec.toNat_ofInt, BitVec.toNat_twoPow]
    have : ((2 : Int) ^ n) = ((2 ^ n : Nat) : Int) := by simp
    rw [this]
    omega
  rw [this]
theorem or_comm32 (x y : Int) : bits .or .u32 x y = bits .or .u32 y x := by rw [bits_or, bits_or, BitVec.or_comm]
theorem word4 (a b c d : Int) :
    bits .or .u32 (bits .or .u32 (bits .or .u32 (shlI .u32 (IntKind.u32.wrap a) (24 : Int)) (shlI .u32 (IntKind.u32.wrap b) (16 : Int))) (shlI .u32 (IntKind.u32.wrap c) (8 : Int))) (IntKind.u32.wrap d) =
    bits .or .u32 (shlI .u32 (bits .or .u32 (shlI .u32 (bits .or .u32 (shlI .u32 (bits .or .u32 (shlI .u32 0 8) (IntKind.u32.wrap a)) 8) (IntKind.u32.wrap b)) 8) (IntKind.u32.wrap c)) 8) (IntKind.u32.wrap d) := by
  have s8 := fun x => shl32 x 8 (by omega)
  have s16 := fun x => shl32 x 16 (by omega)
  have s24 := fun x => shl32 x 24 (by omega)
  simp only [Int.cast_ofNat_Int] at s8 s16 s24
  simp only [bits_or, s8, s16, s24, wrap32, ofInt_toNat]
  generalize BitVec.ofInt 32 a = a
  generalize BitVec.ofInt 32 b = b
  generalize BitVec.ofInt 32 c = c
  generalize BitVec.ofInt 32 d = d
  congr 1
  simp only [BitVec.shiftLeft_or_distrib, ← BitVec.shiftLeft_add]
  have : (BitVec.ofInt 32 0) <<< 8 = 0#32 := by decide
  simp
end Go.Proofs.YtmkcffflebdheaaDoor
