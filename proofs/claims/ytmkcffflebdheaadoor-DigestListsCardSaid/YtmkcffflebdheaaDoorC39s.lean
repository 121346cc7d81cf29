/- The digest in plain Lean: rotation, schedule, block, words, letters. -/
import Derived.Test.YtmkcffflebdheaaDoorVw3
set_option linter.unusedVariables false
namespace Go.Proofs.YtmkcffflebdheaaDoor
open Go Go.Vc Go.RowKit

def rotr (x n : Int) : Int := bits .or .u32 (shlI .u32 x (32 - n)) (shrI .u32 x n)
def stepA (blk : List Int) (t k : Nat) (L : List Int) : List Int :=
  L.set t (bits .or .u32 (shlI .u32 (L.getD t 0) 8) (IntKind.u32.wrap (blk.getD (4 * t + k) 0)))
def rowA (blk : List Int) (t : Nat) (L : List Int) : Nat → List Int
  | 0 => L
  | k + 1 => stepA blk t k (rowA blk t L k)
def schA (blk : List Int) : Nat → List Int
  | 0 => List.replicate 64 0
  | t + 1 => rowA blk t (schA blk t) 4
def mix (x7 x8 x2 y : Int) : Int :=
  IntKind.u32.wrap (IntKind.u32.wrap (IntKind.u32.wrap (x7 + bits .xor .u32 (bits .xor .u32 (rotr x2 7) (rotr x2 18)) (shrI .u32 x2 3)) + x8) + bits .xor .u32 (bits .xor .u32 (rotr y 17) (rotr y 19)) (shrI .u32 y 10))
def stepB (t : Nat) (L : List Int) : List Int :=
  L.set t (mix (L.getD (t - 16) 0) (L.getD (t - 7) 0) (L.getD (t - 15) 0) (L.getD (t - 2) 0))
def schB (blk : List Int) : Nat → List Int
  | 0 => schA blk 16
  | j + 1 => stepB (16 + j) (schB blk j)
def sched (blk : List Int) : List Int := schB blk 48

theorem rowA_length (blk : List Int) (t : Nat) (L : List Int) : ∀ k, (rowA blk t L k).length = L.length
  | 0 => rfl
  | k + 1 => by rw [rowA, stepA, List.length_set, rowA_length blk t L k]
theorem schA_length (blk : List Int) : ∀ t, (schA blk t).length = 64
  | 0 => by simp [schA]
  | t + 1 => by rw [schA, rowA_length, schA_length blk t]
theorem schB_length (blk : List Int) : ∀ t, (schB blk t).length = 64
  | 0 => schA_length blk 16
  | t + 1 => by rw [schB, stepB, List.length_set, schB_length blk t]

def kk : List Int := [1116352408, 1899447441, 3049323471, 3921009573, 961987163, 1508970993, 2453635748, 2870763221, 3624381080, 310598401, 607225278, 1426881987, 1925078388, 2162078206, 2614888103, 3248222580, 3835390401, 4022224774, 264347078, 604807628, 770255983, 1249150122, 1555081692, 1996064986, 2554220882, 2821834349, 2952996808, 3210313671, 3336571891, 3584528711, 113926993, 338241895, 666307205, 773529912, 1294757372, 1396182291, 1695183700, 1986661051, 2177026350, 2456956037, 2730485921, 2820302411, 3259730800, 3345764771, 3516065817, 3600352804, 4094571909, 275423344, 430227734, 506948616, 659060556, 883997877, 958139571, 1322822218, 1537002063, 1747873779, 1955562222, 2024104815, 2227730452, 2361852424, 2428436474, 2756734187, 3204031479, 3329325298]

def t1 (x : List Int) (k w : Int) : Int :=
  IntKind.u32.wrap (IntKind.u32.wrap (IntKind.u32.wrap (IntKind.u32.wrap (x.getD 7 0 + bits .xor .u32 (bits .xor .u32 (rotr (x.getD 4 0) 6) (rotr (x.getD 4 0) 11)) (rotr (x.getD 4 0) 25)) + bits .xor .u32 (bits .and .u32 (x.getD 4 0) (x.getD 5 0)) (bits .and .u32 (bits .xor .u32 4294967295 (x.getD 4 0)) (x.getD 6 0))) + k) + w)
def t2 (x : List Int) : Int :=
  IntKind.u32.wrap (bits .xor .u32 (bits .xor .u32 (rotr (x.getD 0 0) 2) (rotr (x.getD 0 0) 13)) (rotr (x.getD 0 0) 22) + bits .xor .u32 (bits .xor .u32 (bits .and .u32 (x.getD 0 0) (x.getD 1 0)) (bits .and .u32 (x.getD 0 0) (x.getD 2 0))) (bits .and .u32 (x.getD 1 0) (x.getD 2 0)))
def rnd (x : List Int) (k w : Int) : List Int :=
  [IntKind.u32.wrap (t1 x k w + t2 x), x.getD 0 0, x.getD 1 0, x.getD 2 0, IntKind.u32.wrap (x.getD 3 0 + t1 x k w), x.getD 4 0, x.getD 5 0, x.getD 6 0]
def rnds (W H : List Int) : Nat → List Int
  | 0 => H
  | t + 1 => rnd (rnds W H t) (kk.getD t 0) (W.getD t 0)
def addA (H x : List Int) : Nat → List Int
  | 0 => x
  | i + 1 => (addA H x i).set i (IntKind.u32.wrap ((addA H x i).getD i 0 + H.getD i 0))
def blockW (H blk : List Int) : List Int := addA H (rnds (sched blk) H 64) 8

theorem rnds_length (W H : List Int) (h : H.length = 8) : ∀ t, (rnds W H t).length = 8
  | 0 => h
  | t + 1 => rfl
theorem addA_length (H x : List Int) : ∀ t, (addA H x t).length = x.length
  | 0 => rfl
  | t + 1 => by rw [addA, List.length_set, addA_length H x t]
theorem blockW_length (H blk : List Int) (h : H.length = 8) : (blockW H blk).length = 8 := by rw [blockW, addA_length, rnds_length _ _ h]

/-- The table of the rounds' numbers lies at its place. -/
def Tab (w : World) : Prop := cellsOn w ⟨0, 0, none⟩ (vs .u32 kk)
theorem Tab.lt {w : World} (h : Tab w) : 0 < w.heap.size := World.block_lt_of_cell? w ⟨0, 0, none⟩ (h 0 (.int .u32 1116352408) rfl)
theorem Tab.below {w w' : World} (h : Tab w) {B : Nat} (hw : Below B w w') (hB : 0 < B) : Tab w' := by
  intro i v hi
  rw [add_zero_row, hw.cell (p := ⟨0, i, none⟩) hB, ← add_zero_row]
  exact h i v hi
theorem Tab.get {w : World} (h : Tab w) {t : Nat} (ht : t < 64) : w.cell? (Addr.add ⟨0, 0, none⟩ (Int.toNat (t : Int) * 1)) = some (.int .u32 (kk.getD t 0)) := by
  rw [Int.toNat_natCast, Nat.mul_one]
  exact h t _ (vs_get ht)

def H0 : List Int := [1779033703, 3144134277, 1013904242, 2773480762, 1359893119, 2600822924, 528734635, 1541459225]
def hj (B : List Int) : Nat → List Int
  | 0 => H0
  | j + 1 => blockW (hj B j) ((B.drop (64 * j)).take 64)
def lastA (r : List Int) : List Int := (r ++ List.replicate (128 - r.length) 0).set r.length 128
def lenA (A : List Int) (size n : Nat) : Nat → List Int
  | 0 => A
  | i + 1 => (lenA A size n i).set (size - 1 - i) (IntKind.u8.wrap (shrI .u64 (IntKind.u64.wrap (IntKind.u64.wrap (n : Int) * 8)) (8 * (i : Int))))
def sizeOfLast (r : List Int) : Nat := if 55 < r.length then 128 else 64
def finalW (H A : List Int) (size : Nat) : List Int :=
  if size = 128 then blockW (blockW H (A.take 64)) (A.drop 64) else blockW H (A.take 64)
def restOf (B : List Int) : List Int := B.drop (64 * (B.length / 64))
def wordsOf (B : List Int) : List Int :=
  finalW (hj B (B.length / 64)) (lenA (lastA (restOf B)) (sizeOfLast (restOf B)) B.length 8) (sizeOfLast (restOf B))
def digits : List UInt8 := [48, 49, 50, 51, 52, 53, 54, 55, 56, 57, 97, 98, 99, 100, 101, 102]
def dig (x : Int) (i : Nat) : UInt8 := digits.getD (bits .and .u32 (shrI .u32 x (i : Int)) 15).toNat 0
def hexN (x : Int) : Nat → List UInt8
  | 0 => []
  | j + 1 => hexN x j ++ [dig x (28 - 4 * j)]
def outN (X : List Int) : Nat → List UInt8
  | 0 => []
  | i + 1 => outN X i ++ hexN (X.getD i 0) 8
def sumL (B : List Int) : List UInt8 := outN (wordsOf B) 8

theorem hj_length (B : List Int) : ∀ j, (hj B j).length = 8
  | 0 => rfl
  | j + 1 => by rw [hj, blockW_length _ _ (hj_length B j)]
theorem lastA_length (r : List Int) (h : r.length ≤ 128) : (lastA r).length = 128 := by
  rw [lastA, List.length_set, List.length_append, List.length_replicate]; omega
theorem lenA_length (A : List Int) (size n : Nat) : ∀ i, (lenA A size n i).length = A.length
  | 0 => rfl
  | i + 1 => by rw [lenA, List.length_set, lenA_length A size n i]
theorem restOf_length (B : List Int) : (restOf B).length = B.length % 64 := by
  rw [restOf, List.length_drop]; omega
theorem hexN_length (x : Int) : ∀ j, (hexN x j).length = j
  | 0 => rfl
  | j + 1 => by rw [hexN, List.length_append, hexN_length x j]; rfl
theorem outN_length (X : List Int) : ∀ j, (outN X j).length = 8 * j
  | 0 => rfl
  | j + 1 => by rw [outN, List.length_append, outN_length X j, hexN_length]; omega
end Go.Proofs.YtmkcffflebdheaaDoor
