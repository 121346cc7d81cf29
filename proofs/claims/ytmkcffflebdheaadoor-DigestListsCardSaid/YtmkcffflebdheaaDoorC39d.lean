/- What a block makes of the words. -/
import Derived.Test.YtmkcffflebdheaaDoorC39c
set_option linter.unusedVariables false
namespace Go.Proofs.YtmkcffflebdheaaDoor
open Go Go.Vc Go.RowKit

theorem not32 : (if IntKind.u32.signed = true then (-1 : Int) else IntKind.u32.max) = 4294967295 := by decide

theorem c24_any (H blk : List Int) (hH : H.length = 8) (hb : blk.length = 64) (w : World) (hT : Tab w) :
    Calls Tryd.prog 24 #[(.agg ⟨vs .u32 H⟩), (.agg ⟨vs .u8 blk⟩)] w fun e w' => e = .returned (.agg ⟨vs .u32 (blockW H blk)⟩) ∧ Below w.heap.size w w' := by
  refine fin (call24 (vs .u32 H) (vs .u8 blk) w _ ?_)
  unfold F24
  intro w1 hw1 w2 hw2 w3 hw3
  have s1 : w1.heap.size = w.heap.size + 1 := by rw [hw1]; simp
  have s2 : w2.heap.size = w.heap.size + 2 := by rw [hw2]; simp [s1]
  have s3 : w3.heap.size = w.heap.size + 3 := by rw [hw3]; simp [s2]
  have b1 : Blk w3 w.heap.size 46 (vs .u32 H) := by rw [hw3, hw2, hw1]; exact ((Blk.new _ _ _).alloc _).alloc _
  have b2 : Blk w3 w1.heap.size 49 (vs .u8 blk) := by rw [hw3, hw2]; exact (Blk.new _ _ _).alloc _
  have b3 : Blk w3 w2.heap.size 46 (vs .u32 [0, 0, 0, 0, 0, 0, 0, 0]) := by rw [hw3]; exact Blk.new _ _ _
  have f3 : Below w.heap.size w w3 := by
    rw [hw3, hw2, hw1]; exact (((Below.refl _ _).alloc (by simp) _).alloc (by simp) _).alloc (by simp; omega) _
  clear hw1 hw2 hw3
  generalize w1.heap.size = p1 at *
  generalize w2.heap.size = p2 at *
  refine ⟨vs .u8 blk, by rw [vs_length, hb], b2.on, ?_⟩
  refine (c33_any blk hb w3).mono ?_
  rintro _ w4 ⟨rfl, f34⟩
  have s4 := f34.size
  replace b1 := b1.below f34 b1.lt
  replace b3 := b3.below f34 b3.lt
  replace f3 : Below w.heap.size w w4 := f3.trans (f34.mono (by omega))
  have hS : (sched blk).length = 64 := schB_length blk 48
  refine ⟨vs .u32 (sched blk), by rw [vs_length, hS], rfl, ?_⟩
  intro w5 hw5
  have s5 : w5.heap.size = w4.heap.size + 1 := by rw [hw5]; simp
  replace b1 := b1.alloc (.cells ⟨z62⟩ 62)
  replace b3 := b3.alloc (.cells ⟨z62⟩ 62)
  have b4 := Blk.new w4 z62 62
  replace f3 := f3.alloc (by omega) (.cells ⟨z62⟩ 62)
  rw [← hw5] at b1 b3 b4 f3
  clear hw5
  generalize w4.heap.size = p4 at *
  have eW : blockW H blk = addA H (rnds (sched blk) H 64) 8 := rfl
  rw [eW]
  generalize sched blk = S at *
  refine ⟨by rw [vs_length, hS], b4.ok (by decide), vs_one _ _, ?_⟩
  intro w6 hw6
  have s6 : w6.heap.size = w5.heap.size := by rw [hw6, size_stL]
  replace b1 := b1.stLO (vs .u32 S) 0 (a := ⟨p4, 0, none⟩) (by show w.heap.size ≠ p4; omega)
  replace b3 := b3.stLO (vs .u32 S) 0 (a := ⟨p4, 0, none⟩) (by show p2 ≠ p4; omega)
  replace b4 := b4.stLE (vs := vs .u32 S) (by rw [vs_length, hS]; rfl)
  replace f3 := below_stL (vs .u32 S) (p := ⟨p4, 0, none⟩) 0 f3 (by show w.heap.size ≤ p4; omega)
  rw [← hw6] at b1 b3 b4 f3
  clear hw6
  refine ⟨vs .u32 H, by rw [vs_length, hH], b1.on, ?_⟩
  intro w7 hw7
  have s7 : w7.heap.size = w6.heap.size + 1 := by rw [hw7]; simp
  have b5 := Blk.new w6 (vs .u32 [0, 0, 0, 0, 0, 0, 0, 0]) 46
  replace b1 := b1.alloc (.cells ⟨vs .u32 [0, 0, 0, 0, 0, 0, 0, 0]⟩ 46)
  replace b3 := b3.alloc (.cells ⟨vs .u32 [0, 0, 0, 0, 0, 0, 0, 0]⟩ 46)
  replace b4 := b4.alloc (.cells ⟨vs .u32 [0, 0, 0, 0, 0, 0, 0, 0]⟩ 46)
  replace f3 := f3.alloc (by omega) (.cells ⟨vs .u32 [0, 0, 0, 0, 0, 0, 0, 0]⟩ 46)
  replace hw7 : w7 = w6.alloc (.cells ⟨vs .u32 [0, 0, 0, 0, 0, 0, 0, 0]⟩ 46) := hw7
  rw [← hw7] at b1 b3 b4 b5 f3
  clear hw7
  generalize w6.heap.size = p6 at *
  refine ⟨by rw [vs_length, hH], b5.ok (by decide), vs_one _ _, ?_⟩
  intro w8 hw8
  replace b1 := b1.stLO (vs .u32 H) 0 (a := ⟨p6, 0, none⟩) (by show w.heap.size ≠ p6; omega)
  replace b3 := b3.stLO (vs .u32 H) 0 (a := ⟨p6, 0, none⟩) (by show p2 ≠ p6; omega)
  replace b4 := b4.stLO (vs .u32 H) 0 (a := ⟨p6, 0, none⟩) (by show p4 ≠ p6; omega)
  replace b5 := b5.stLE (vs := vs .u32 H) (by rw [vs_length, hH]; rfl)
  replace f3 := below_stL (vs .u32 H) (p := ⟨p6, 0, none⟩) 0 f3 (by show w.heap.size ≤ p6; omega)
  rw [← hw8] at b1 b3 b4 b5 f3
  clear hw8 b2
  refine ⟨fun v x => ∃ t : Nat, v = t ∧ t ≤ 64 ∧ Blk x w.heap.size 46 (vs .u32 H) ∧ Blk x p2 46 (vs .u32 [0, 0, 0, 0, 0, 0, 0, 0]) ∧ Blk x p4 62 (vs .u32 S) ∧ Blk x p6 46 (vs .u32 (rnds S H t)) ∧ Below w.heap.size w x, fun v _ => (64 - v).toNat, ⟨0, rfl, by omega, b1, b3, b4, b5, f3⟩, ?_⟩
  clear b1 b3 b4 b5 f3
  rintro v w9 ⟨t, rfl, ht, b1, b3, b4, b5, f3⟩
  have hl := rnds_length S H hH t
  rw [ifB_iff]
  simp only [ltI_true, ltI_false, not32]
  constructor
  · rintro hlt w10 rfl
    have hT9 : Tab w9 := hT.below f3 hT.lt
    have g : ∀ (i : Nat), i < 8 → w9.drew.cell? (Addr.add ⟨p6, 0, none⟩ (Int.toNat (i : Int) * 1)) = some (.int .u32 ((rnds S H t).getD i 0)) := fun i hi => b5.drew.getI (v := (i : Int)) (by rw [hl]; omega)
    refine ⟨by omega, _, g 0 (by omega), by omega, _, g 1 (by omega), by omega, _, g 2 (by omega), by omega, _, g 4 (by omega), by omega, _, g 5 (by omega), by omega, _, g 6 (by omega), ?_⟩
    rintro w11 rfl
    refine ⟨by omega, _, g 7 (by omega), ⟨by omega, by omega⟩, _, hT9.get (by omega), ⟨by omega, by omega⟩, _, b4.drew.getI (by rw [hS]; omega), ?_⟩
    refine (c34_any _ 6 (by omega) (by omega) _).mono ?_
    rintro _ _ ⟨rfl, rfl⟩
    refine ⟨_, rfl, Below.refl _ _, ?_⟩
    refine (c34_any _ 11 (by omega) (by omega) _).mono ?_
    rintro _ _ ⟨rfl, rfl⟩
    refine ⟨_, rfl, Below.refl _ _, ?_⟩
    refine (c34_any _ 25 (by omega) (by omega) _).mono ?_
    rintro _ _ ⟨rfl, rfl⟩
    refine ⟨_, rfl, Below.refl _ _, ?_⟩
    refine (c34_any _ 2 (by omega) (by omega) _).mono ?_
    rintro _ _ ⟨rfl, rfl⟩
    refine ⟨_, rfl, ?_⟩
    refine (c34_any _ 13 (by omega) (by omega) _).mono ?_
    rintro _ _ ⟨rfl, rfl⟩
    refine ⟨_, rfl, ?_⟩
    refine (c34_any _ 22 (by omega) (by omega) _).mono ?_
    rintro _ _ ⟨rfl, rfl⟩
    refine ⟨_, rfl, by omega, _, g 3 (by omega), rfl, b5.drew.drew.ok (by rw [vs_length, hl]; omega), ?_, ?_⟩
    · exact vs_one .u32 (rnds S H (t + 1))
    intro w18 hw18
    replace hw18 : w18 = stL ⟨p6, 0, none⟩ 0 (vs .u32 (rnds S H (t + 1))) w9.drew.drew := hw18
    subst hw18
    refine ⟨by unfold InI64; omega, ⟨t + 1, by simp, by omega, b1.drew.drew.stLO _ _ (by show w.heap.size ≠ p6; omega), b3.drew.drew.stLO _ _ (by show p2 ≠ p6; omega), b4.drew.drew.stLO _ _ (by show p4 ≠ p6; omega), b5.drew.drew.stLE (by rw [vs_length, vs_length, hl, rnds_length S H hH]), below_stL _ _ f3.drew.drew (by show w.heap.size ≤ p6; omega)⟩, by omega⟩
  · intro hge
    have : t = 64 := by omega
    subst this
    generalize rnds S H 64 = X at *
    refine ⟨fun v x => ∃ i : Nat, v = i ∧ i ≤ 8 ∧ Blk x w.heap.size 46 (vs .u32 H) ∧ Blk x p2 46 (vs .u32 [0, 0, 0, 0, 0, 0, 0, 0]) ∧ Blk x p6 46 (vs .u32 (addA H X i)) ∧ Below w.heap.size w x, fun v _ => (8 - v).toNat, ⟨0, rfl, by omega, b1, b3, b5, f3⟩, ?_⟩
    clear b1 b3 b4 b5 f3
    rintro v w19 ⟨i, rfl, hi, b1, b3, b5, f3⟩
    have hlA : (addA H X i).length = 8 := by rw [addA_length, hl]
    rw [ifB_iff]
    simp only [ltI_true, ltI_false]
    constructor
    · rintro hlt w20 rfl
      refine ⟨⟨by omega, by omega⟩, _, b5.drew.getI (by rw [hlA]; omega), ⟨by omega, by omega⟩, _, b1.drew.getI (by rw [hH]; omega), ⟨by omega, by omega⟩, b5.drew.okI (by rw [vs_length, hlA]; omega), ?_⟩
      rintro w21 rfl
      exact ⟨by unfold InI64; omega, ⟨i + 1, by simp, by omega, b1.drew.putO (by omega) _ _ _, b3.drew.putO (by omega) _ _ _, b5.drew.putI _ _, below_put f3.drew (by omega) _ _ _⟩, by omega⟩
    · intro hge
      have : i = 8 := by omega
      subst this
      generalize addA H X 8 = Y at *
      refine ⟨vs .u32 Y, by rw [vs_length, hlA], b5.on, by rw [vs_length, hlA], b3.ok (by decide), vs_one _ _, ?_⟩
      rintro w22 rfl
      have b3' := b3.stLE (vs := vs .u32 Y) (by rw [vs_length, hlA]; rfl)
      exact ⟨vs .u32 Y, by rw [vs_length, hlA], b3'.on, rfl, below_stL _ _ f3 (by show w.heap.size ≤ p2; omega)⟩
end Go.Proofs.YtmkcffflebdheaaDoor
