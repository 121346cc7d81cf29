/- The reference: rotation, the numbers of the rounds, and a block. -/
import Derived.Test.YtmkcffflebdheaaDoorC39w
import Derived.Test.YtmkcffflebdheaaDoorFm39
import Derived.Test.YtmkcffflebdheaaDoorVw4
set_option linter.unusedVariables false
namespace Go.Proofs.YtmkcffflebdheaaDoor
open Go Go.Vc Go.RowKit

theorem E22 : Elem Tryd.prog 22 5 1 1 := ⟨Tryd.underlying22, by kernel_rfl⟩
theorem E42 : Elem Tryd.prog 42 41 1 4 := ⟨Tryd.underlying42, by kernel_rfl⟩

theorem c32_any (x : Int) (n : Nat) (h1 : n ≤ 32) (w : World) :
    Calls Tryd.prog 32 #[(.int .u32 x), (.int .i64 (n : Int))] w fun e w' => e = .returned (.int .u32 (rotr x n)) ∧ w' = w.drew := by
  refine fin (call32 x n w _ ?_)
  unfold F32
  rintro w1 rfl
  refine ⟨by omega, by unfold InI64; omega, by omega, ?_, rfl⟩
  unfold rotr
  rw [or_comm32]

theorem c31_any (w : World) :
    Calls Tryd.prog 31 #[] w fun e w' => e = .returned (.slice (some ⟨w.heap.size, 0, none⟩) 64 64) ∧ w' = w.alloc (.cells ⟨vs .u32 kk⟩ 41) := by
  refine fin (call31 w _ ?_)
  unfold F31
  rintro w1 rfl
  exact ⟨rfl, rfl⟩

theorem getD_set_eq (L : List Int) (t : Nat) (x : Int) (h : t < L.length) : (L.set t x).getD t 0 = x := by
  simp [List.getD_eq_getElem?_getD, h]
theorem getD_set_ne (L : List Int) (t i : Nat) (x : Int) (h : t ≠ i) : (L.set t x).getD i 0 = L.getD i 0 := by
  simp [List.getD_eq_getElem?_getD, List.getElem?_set_ne h]

theorem rowA_ne (blk : List Int) (t : Nat) (L : List Int) (i : Nat) (h : t ≠ i) : ∀ k, (rowA blk t L k).getD i 0 = L.getD i 0
  | 0 => rfl
  | k + 1 => by rw [rowA, stepA, getD_set_ne _ _ _ _ h, rowA_ne blk t L i h k]
theorem schA_zero (blk : List Int) : ∀ t i, t ≤ i → (schA blk t).getD i 0 = 0
  | 0, i, _ => by
    rw [schA, List.getD_eq_getElem?_getD, List.getElem?_replicate]
    split <;> rfl
  | t + 1, i, h => by rw [schA, rowA_ne _ _ _ _ (by omega), schA_zero blk t i (by omega)]
theorem rowA_four (blk : List Int) (t : Nat) (L : List Int) (h : t < L.length) (h0 : L.getD t 0 = 0) :
    rowA blk t L 4 = L.set t (bits .or .u32 (bits .or .u32 (bits .or .u32 (shlI .u32 (IntKind.u32.wrap (blk.getD (4 * t) 0)) (24 : Int)) (shlI .u32 (IntKind.u32.wrap (blk.getD (4 * t + 1) 0)) (16 : Int))) (shlI .u32 (IntKind.u32.wrap (blk.getD (4 * t + 2) 0)) (8 : Int))) (IntKind.u32.wrap (blk.getD (4 * t + 3) 0))) := by
  rw [word4]
  simp only [rowA, stepA, h, getD_set_eq, List.set_set, h0, Nat.add_zero]
theorem schA_succ (blk : List Int) (t : Nat) (h : t < 64) :
    schA blk (t + 1) = (schA blk t).set t (bits .or .u32 (bits .or .u32 (bits .or .u32 (shlI .u32 (IntKind.u32.wrap (blk.getD (4 * t) 0)) (24 : Int)) (shlI .u32 (IntKind.u32.wrap (blk.getD (4 * t + 1) 0)) (16 : Int))) (shlI .u32 (IntKind.u32.wrap (blk.getD (4 * t + 2) 0)) (8 : Int))) (IntKind.u32.wrap (blk.getD (4 * t + 3) 0))) := by
  rw [schA, rowA_four _ _ _ (by rw [schA_length]; exact h) (schA_zero blk t t (Nat.le_refl _))]

/-- A cell of a slice that shows numbers. -/
theorem sl_get {w : World} {ad : Addr} {k : IntKind} {X : List Int} (h : cellsOn w ad (vs k X)) {v : Int} (hv : v.toNat < X.length) : w.cell? (Addr.add ad (Int.toNat v * 1)) = some (.int k (X.getD v.toNat 0)) := by
  rw [Nat.mul_one]
  exact h _ _ (vs_get hv)

/-- The sums of the words, one after the other. -/
def sums (H X : List Int) : Nat → List Int
  | 0 => []
  | i + 1 => sums H X i ++ [IntKind.u32.wrap (H.getD i 0 + X.getD i 0)]
theorem sums_length (H X : List Int) : ∀ i, (sums H X i).length = i
  | 0 => rfl
  | i + 1 => by rw [sums, List.length_append, sums_length H X i]; rfl
theorem addA_sums (H X : List Int) (hX : X.length = 8) : ∀ i, i ≤ 8 → addA H X i = sums H X i ++ X.drop i
  | 0, _ => rfl
  | i + 1, h => by
    have hl := sums_length H X i
    have e : (sums H X i ++ X.drop i).getD i 0 = X.getD i 0 := by
      simp [List.getD_eq_getElem?_getD, List.getElem?_append, hl]
    rw [addA, addA_sums H X hX i (by omega), e, sums, Int.add_comm (X.getD i 0)]
    have e2 : X.drop i = X.getD i 0 :: X.drop (i + 1) := by
      rw [List.drop_eq_getElem_cons (by omega)]
      simp [List.getD_eq_getElem?_getD, show i < X.length by omega]
    rw [e2, List.set_append_right _ _ (by omega), hl, Nat.sub_self]
    simp
theorem blockW_sums (H blk : List Int) (hH : H.length = 8) : blockW H blk = sums H (rnds (sched blk) H 64) 8 := by
  rw [blockW, addA_sums _ _ (rnds_length _ _ hH _) 8 (Nat.le_refl _), List.drop_eq_nil_of_le (by rw [rnds_length _ _ hH]; omega), List.append_nil]

theorem not32r : (if IntKind.u32.signed = true then (-1 : Int) else IntKind.u32.max) = 4294967295 := by decide
end Go.Proofs.YtmkcffflebdheaaDoor
