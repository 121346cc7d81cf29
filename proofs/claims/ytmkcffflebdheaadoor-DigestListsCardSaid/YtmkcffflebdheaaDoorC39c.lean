/- What rotation and schedule return. -/
import Derived.Test.YtmkcffflebdheaaDoorC39s
import Derived.Test.YtmkcffflebdheaaDoorFm39
set_option linter.unusedVariables false
namespace Go.Proofs.YtmkcffflebdheaaDoor
open Go Go.Vc Go.RowKit

theorem rot_amount : ∀ n : Fin 32, 0 < n → bits .and .u64 (IntKind.u64.wrap ((0 : Int) - ((n.val : Nat) : Int))) 31 = 32 - ((n.val : Nat) : Int) := by decide

theorem c37_any (x : Int) (n : Nat) (h0 : 0 < n) (h1 : n < 32) (w : World) :
    Calls Tryd.prog 37 #[(.int .u32 x), (.int .i64 ((0 : Int) - (n : Int)))] w fun e w' => e = .returned (.int .u32 (rotr x n)) ∧ w' = w := by
  refine (call37 x ((0 : Int) - (n : Int)) w (fun v w' => v = .int .u32 (rotr x n) ∧ w' = w) ?_).mono ?_
  · unfold F37
    have e := rot_amount ⟨n, h1⟩ (by show (0 : Nat) < n; exact h0)
    simp only at e
    rw [e]
    have e2 : IntKind.u64.wrap ((32 : Int) - (32 - (n : Int))) = n := by
      simp [IntKind.wrap, IntKind.bits, IntKind.signed]
      omega
    rw [e2]
    exact ⟨by omega, by omega, rfl, rfl⟩
  · rintro e w' ⟨v, rfl, rfl, rfl⟩
    exact ⟨rfl, rfl⟩

theorem c34_any (x : Int) (n : Nat) (h0 : 0 < n) (h1 : n < 32) (w : World) :
    Calls Tryd.prog 34 #[(.int .u32 x), (.int .i64 (n : Int))] w fun e w' => e = .returned (.int .u32 (rotr x n)) ∧ w' = w := by
  refine (call34 x n w (fun v w' => v = .int .u32 (rotr x n) ∧ w' = w) ?_).mono ?_
  · unfold F34
    refine ⟨by unfold InI64; omega, ?_⟩
    refine (c37_any x n h0 h1 w).mono ?_
    rintro e w' ⟨rfl, rfl⟩
    exact ⟨_, rfl, rfl, rfl⟩
  · rintro e w' ⟨v, rfl, rfl, rfl⟩
    exact ⟨rfl, rfl⟩

theorem c33_any (blk : List Int) (hb : blk.length = 64) (w : World) :
    Calls Tryd.prog 33 #[(.agg ⟨vs .u8 blk⟩)] w fun e w' => e = .returned (.agg ⟨vs .u32 (sched blk)⟩) ∧ Below w.heap.size w w' := by
  refine fin (call33 (vs .u8 blk) w _ ?_)
  unfold F33
  intro w1 hw1 w2 hw2 w3 hw3
  have s1 : w1.heap.size = w.heap.size + 1 := by rw [hw1]; simp
  have s2 : w2.heap.size = w.heap.size + 2 := by rw [hw2]; simp [s1]
  have b1 : Blk w3 w.heap.size 49 (vs .u8 blk) := by rw [hw3, hw2, hw1]; exact ((Blk.new _ _ _).alloc _).alloc _
  have b2 : Blk w3 w1.heap.size 62 z62 := by rw [hw3, hw2]; exact (Blk.new _ _ _).alloc _
  have b3 : Blk w3 w2.heap.size 62 (vs .u32 (schA blk 0)) := by rw [hw3]; exact Blk.new _ _ _
  have f3 : Below w.heap.size w w3 := by
    rw [hw3, hw2, hw1]; exact (((Below.refl _ _).alloc (by simp) _).alloc (by simp) _).alloc (by simp; omega) _
  clear hw1 hw2 hw3
  generalize w1.heap.size = p1 at *
  generalize w2.heap.size = p2 at *
  refine ⟨fun v x => ∃ t : Nat, v = t ∧ t ≤ 16 ∧ Blk x w.heap.size 49 (vs .u8 blk) ∧ Blk x p1 62 z62 ∧ Blk x p2 62 (vs .u32 (schA blk t)) ∧ Below w.heap.size w x, fun v _ => (16 - v).toNat, ⟨0, rfl, by omega, b1, b2, b3, f3⟩, ?_⟩
  rintro v w4 ⟨t, rfl, ht, b1, b2, b3, f3⟩
  rw [ifB_iff]
  simp only [ltI_true, ltI_false]
  constructor
  · intro hlt
    refine ⟨fun v x => ∃ k : Nat, v = k ∧ k ≤ 4 ∧ Blk x w.heap.size 49 (vs .u8 blk) ∧ Blk x p1 62 z62 ∧ Blk x p2 62 (vs .u32 (rowA blk t (schA blk t) k)) ∧ Below w.heap.size w x, fun v _ => (4 - v).toNat, ⟨0, rfl, by omega, b1, b2, b3, f3⟩, ?_⟩
    rintro v w5 ⟨k, rfl, hk, b1, b2, b3, f3⟩
    have hlen : (rowA blk t (schA blk t) k).length = 64 := by rw [rowA_length, schA_length]
    rw [ifB_iff]
    simp only [ltI_true, ltI_false]
    constructor
    · rintro hlt2 w6 rfl
      refine ⟨⟨by omega, by omega⟩, _, b3.drew.getI (by rw [hlen]; omega), by omega, by unfold InI64; omega, by unfold InI64; omega, ⟨by omega, by omega⟩, _, b1.drew.getI (by rw [hb]; omega), ⟨by omega, by omega⟩, b3.drew.okI (by rw [vs_length, hlen]; omega), ?_⟩
      rintro w7 rfl
      refine ⟨by unfold InI64; omega, ⟨k + 1, by simp, by omega, b1.drew.putO (by omega) _ _ _, b2.drew.putO (by omega) _ _ _, ?_, below_put f3.drew (by omega) _ _ _⟩, by omega⟩
      have := b3.drew.putI (t : Int) (bits BinOp.or IntKind.u32 (shlI IntKind.u32 ((rowA blk t (schA blk t) k).getD (Int.toNat (t : Int)) 0) (8 : Int)) (IntKind.u32.wrap (blk.getD (Int.toNat ((4 : Int) * (t : Int) + (k : Int))) 0)))
      have e : Int.toNat ((4 : Int) * (t : Int) + (k : Int)) = 4 * t + k := by omega
      rw [e] at this ⊢
      simpa only [Int.toNat_natCast, rowA, stepA] using this
    · intro hge
      have : k = 4 := by omega
      subst this
      exact ⟨by unfold InI64; omega, ⟨t + 1, by simp, by omega, b1, b2, b3, f3⟩, by omega⟩
  · intro hge
    have : t = 16 := by omega
    subst this
    refine ⟨fun v x => ∃ j : Nat, v = 16 + j ∧ j ≤ 48 ∧ Blk x w.heap.size 49 (vs .u8 blk) ∧ Blk x p1 62 z62 ∧ Blk x p2 62 (vs .u32 (schB blk j)) ∧ Below w.heap.size w x, fun v _ => (64 - v).toNat, ⟨0, rfl, by omega, b1, b2, b3, f3⟩, ?_⟩
    rintro v w5 ⟨j, rfl, hj, b1, b2, b3, f3⟩
    have hlen : (schB blk j).length = 64 := schB_length blk j
    rw [ifB_iff]
    simp only [ltI_true, ltI_false]
    constructor
    · rintro hlt2 w6 rfl
      refine ⟨by unfold InI64; omega, ⟨by omega, by omega⟩, _, b3.drew.getI (by rw [hlen]; omega), by unfold InI64; omega, ⟨by omega, by omega⟩, _, b3.drew.getI (by rw [hlen]; omega), ?_⟩
      refine (c34_any _ 7 (by omega) (by omega) _).mono ?_
      rintro _ _ ⟨rfl, rfl⟩
      refine ⟨_, rfl, ?_⟩
      refine (c34_any _ 18 (by omega) (by omega) _).mono ?_
      rintro _ _ ⟨rfl, rfl⟩
      refine ⟨_, rfl, by omega, ?_⟩
      refine (c34_any _ 17 (by omega) (by omega) _).mono ?_
      rintro _ _ ⟨rfl, rfl⟩
      refine ⟨_, rfl, ?_⟩
      refine (c34_any _ 19 (by omega) (by omega) _).mono ?_
      rintro _ _ ⟨rfl, rfl⟩
      refine ⟨_, rfl, by omega, ?_⟩
      rintro w14 rfl
      refine ⟨by unfold InI64; omega, ⟨by omega, by omega⟩, _, b3.drew.drew.getI (by rw [hlen]; omega), by unfold InI64; omega, ⟨by omega, by omega⟩, _, b3.drew.drew.getI (by rw [hlen]; omega), ⟨by omega, by omega⟩, b3.drew.drew.okI (by rw [vs_length, hlen]; omega), ?_⟩
      rintro w15 rfl
      refine ⟨by unfold InI64; omega, ⟨j + 1, by simp; omega, by omega, b1.drew.drew.putO (by omega) _ _ _, b2.drew.drew.putO (by omega) _ _ _, ?_, below_put f3.drew.drew (by omega) _ _ _⟩, by omega⟩
      have e : schB blk (j + 1) = (schB blk j).set (Int.toNat (16 + (j : Int))) (mix ((schB blk j).getD (Int.toNat (16 + (j : Int) - 16)) 0) ((schB blk j).getD (Int.toNat (16 + (j : Int) - 7)) 0) ((schB blk j).getD (Int.toNat (16 + (j : Int) - 15)) 0) ((schB blk j).getD (Int.toNat (16 + (j : Int) - 2)) 0)) := by
        rw [show Int.toNat (16 + (j : Int)) = 16 + j by omega, show Int.toNat (16 + (j : Int) - 16) = 16 + j - 16 by omega, show Int.toNat (16 + (j : Int) - 7) = 16 + j - 7 by omega, show Int.toNat (16 + (j : Int) - 15) = 16 + j - 15 by omega, show Int.toNat (16 + (j : Int) - 2) = 16 + j - 2 by omega]
        rw [schB, stepB]
      rw [e]
      exact b3.drew.drew.putI _ _
    · intro hge
      have : j = 48 := by omega
      subst this
      replace hlen : (sched blk).length = 64 := hlen
      replace b3 : Blk w5 p2 62 (vs .u32 (sched blk)) := b3
      generalize sched blk = S at *
      refine ⟨vs .u32 S, by rw [vs_length]; exact hlen, b3.on, by rw [vs_length]; exact hlen, b2.ok (by decide), vs_one _ _, ?_⟩
      rintro w16 rfl
      have b2' := b2.stLE (vs := vs .u32 S) (by rw [vs_length]; exact hlen)
      exact ⟨vs .u32 S, by rw [vs_length]; exact hlen, b2'.on, rfl, below_stL _ _ f3 (by show w.heap.size ≤ p1; omega)⟩
end Go.Proofs.YtmkcffflebdheaaDoor
