/- The plain law: the reference's digest is the digest. -/
import Derived.Test.YtmkcffflebdheaaDoorC39p
import Derived.Test.YtmkcffflebdheaaDoorC39m
set_option linter.unusedVariables false
namespace Go.Proofs.YtmkcffflebdheaaDoor
open Go Go.Vc Go.RowKit

theorem hj_congr (P B : List Int) : ∀ j, (∀ i, i < j → (P.drop (64 * i)).take 64 = (B.drop (64 * i)).take 64) → hj P j = hj B j
  | 0, _ => rfl
  | j + 1, h => by rw [hj, hj, hj_congr P B j (fun i hi => h i (by omega)), h j (by omega)]

def byteU (n i : Nat) : Int := IntKind.u8.wrap (shrI .u64 (IntKind.u64.wrap (IntKind.u64.wrap (n : Int) * 8)) (8 * (i : Int)))
def revB (n : Nat) : Nat → List Int
  | 0 => []
  | i + 1 => byteU n i :: revB n i
theorem revB_length (n : Nat) : ∀ i, (revB n i).length = i
  | 0 => rfl
  | i + 1 => by rw [revB, List.length_cons, revB_length n i]

theorem lenA_eq (L : List Int) (size n : Nat) (hs : size ≤ L.length) : ∀ i, i ≤ size → lenA L size n i = L.take (size - i) ++ (revB n i ++ L.drop size)
  | 0, _ => by simp [lenA, revB]
  | i + 1, h => by
    rw [lenA, lenA_eq L size n hs i (by omega)]
    have e : L.take (size - i) = L.take (size - 1 - i) ++ [L.getD (size - 1 - i) 0] := by
      rw [show size - i = (size - 1 - i) + 1 by omega, List.take_add_one]
      simp [List.getD_eq_getElem?_getD, show size - 1 - i < L.length by omega]
    rw [e, List.append_assoc, List.set_append_right _ _ (by rw [List.length_take]; omega), List.length_take, show size - 1 - i - min (size - 1 - i) L.length = 0 by omega, revB, show size - (i + 1) = size - 1 - i by omega]
    rfl

theorem lastA_eq (r : List Int) (h : r.length < 128) : lastA r = r ++ ([128] ++ List.replicate (127 - r.length) 0) := by
  unfold lastA
  rw [List.set_append_right _ _ (Nat.le_refl _), Nat.sub_self, show 128 - r.length = (127 - r.length) + 1 by omega, List.replicate_succ]
  rfl

theorem byteU_eq (n : Nat) (h : n ≤ 17592186044416) (i : Nat) : byteU n i = IntKind.u8.wrap (shrI .i64 (8 * (n : Int)) (8 * (i : Int))) := by
  unfold byteU
  have e : IntKind.u64.wrap (IntKind.u64.wrap (n : Int) * 8) = 8 * (n : Int) := by
    simp [IntKind.wrap, IntKind.bits, IntKind.signed]
    omega
  rw [e]
  rfl

theorem revB_lenB (n : Nat) (h : n ≤ 17592186044416) : revB n 8 = lenB n 8 := by
  simp only [revB, lenB, byteU_eq n h]
  rfl

theorem key (n : Nat) (r : List Int) (hr : r.length = n % 64) (h : n ≤ 17592186044416) :
    (lenA (lastA r) (sizeOfLast r) n 8).take (sizeOfLast r) = r ++ [128] ++ List.replicate (zeros n) 0 ++ lenB n 8 := by
  have hs : sizeOfLast r = r.length + 9 + zeros n := by unfold sizeOfLast zeros; split <;> omega
  have hle : sizeOfLast r ≤ 128 := by unfold sizeOfLast; split <;> omega
  rw [lenA_eq _ _ _ (by rw [lastA_length _ (by omega)]; exact hle) 8 (by omega), ← List.append_assoc, revB_lenB n h]
  have hl : ((lastA r).take (sizeOfLast r - 8) ++ lenB n 8).length = sizeOfLast r := by
    rw [List.length_append, List.length_take, lastA_length _ (by omega), lenB_length]
    omega
  rw [List.take_append_of_le_length (by omega), List.take_of_length_le (by omega)]
  congr 1
  rw [lastA_eq _ (by omega), List.take_append, List.take_of_length_le (by omega), List.take_append, hs]
  rw [show r.length + 9 + zeros n - 8 - r.length = zeros n + 1 by omega]
  rw [List.take_of_length_le (by simp), List.take_replicate, show zeros n + 1 - [(128 : Int)].length = zeros n by simp, show min (zeros n) (127 - r.length) = zeros n by omega, ← List.append_assoc]

theorem words_eq (B : List Int) (h : B.length ≤ 17592186044416) : refWords B = wordsOf B := by
  have hr := restOf_length B
  have hP := padL_length B
  have hs : sizeOfLast (restOf B) = (restOf B).length + 9 + zeros B.length := by unfold sizeOfLast zeros; split <;> omega
  have hk := key B.length (restOf B) hr h
  have hT : (padL B).drop (64 * (B.length / 64)) = restOf B ++ [128] ++ List.replicate (zeros B.length) 0 ++ lenB B.length 8 := by
    unfold padL restOf
    simp only [List.append_assoc]
    rw [List.drop_append_of_le_length (by omega)]
  have hc : hj (padL B) (B.length / 64) = hj B (B.length / 64) := by
    apply hj_congr
    intro i hi
    unfold padL
    simp only [List.append_assoc]
    rw [List.drop_append_of_le_length (by omega), List.take_append_of_le_length (by rw [List.length_drop]; omega)]
  have hA : (lenA (lastA (restOf B)) (sizeOfLast (restOf B)) B.length 8).length = 128 := by rw [lenA_length, lastA_length _ (by omega)]
  have hTl := congrArg List.length hT
  rw [List.length_drop, hP] at hTl
  unfold refWords wordsOf
  rw [← hT] at hk
  generalize lenA (lastA (restOf B)) (sizeOfLast (restOf B)) B.length 8 = A at *
  by_cases h55 : 55 < (restOf B).length
  · have e128 : sizeOfLast (restOf B) = 128 := by rw [sizeOfLast, if_pos h55]
    rw [e128] at hk hs ⊢
    rw [show (padL B).length / 64 = B.length / 64 + 1 + 1 by omega, hj, hj, hc, finalW, if_pos rfl]
    rw [show 64 * (B.length / 64 + 1) = 64 * (B.length / 64) + 64 by omega, ← List.drop_drop, ← hk, List.take_of_length_le (l := A) (by omega), List.take_of_length_le (l := A.drop 64) (by rw [List.length_drop]; omega)]
  · have e64 : sizeOfLast (restOf B) = 64 := by rw [sizeOfLast, if_neg h55]
    rw [e64] at hk hs ⊢
    rw [show (padL B).length / 64 = B.length / 64 + 1 by omega, hj, hc, finalW, if_neg (by omega), ← hk, List.take_take]
    rfl

theorem digest_eq (B : List Int) (h : B.length ≤ 17592186044416) : refL B = sumL B := by rw [refL, sumL, words_eq B h]
end Go.Proofs.YtmkcffflebdheaaDoor
