/- The reference's block makes the same words. -/
import Derived.Test.YtmkcffflebdheaaDoorC39r
set_option linter.unusedVariables false
namespace Go.Proofs.YtmkcffflebdheaaDoor
open Go Go.Vc Go.RowKit

def refW (blk : List Int) (j : Nat) : List Int := if j < 16 then schA blk j else schB blk (j - 16)
theorem refW_length (blk : List Int) (j : Nat) : (refW blk j).length = 64 := by
  unfold refW
  split
  · exact schA_length _ _
  · exact schB_length _ _
theorem refW_lo (blk : List Int) (j : Nat) (h : j < 16) : refW blk (j + 1) = schA blk (j + 1) := by
  unfold refW
  split
  · rfl
  · have : j = 15 := by omega
    subst this
    rfl
theorem refW_hi (blk : List Int) (j : Nat) (h : 16 ≤ j) : refW blk (j + 1) = stepB j (refW blk j) := by
  unfold refW
  rw [if_neg (by omega), if_neg (by omega), show j + 1 - 16 = (j - 16) + 1 by omega, schB, show 16 + (j - 16) = j by omega]

theorem zero41 : ∀ i z, Tryd.prog.info? 41 = some i → i.zero = some z → z.cells = ⟨[.int .u32 0]⟩ := by
  intro i z hi hz
  have h : (Tryd.prog.info? 41).bind (·.zero) = some (.int .u32 0) := by kernel_rfl
  rw [hi] at h
  simp only [Option.bind_some] at h
  rw [hz] at h
  cases h
  rfl

theorem c23_any (H blk : List Int) (hH : H.length = 8) (hb : blk.length = 64) (had bad : Addr) (hc bc : Nat) (w : World) (h1 : cellsOn w had (vs .u32 H)) (h2 : cellsOn w bad (vs .u8 blk)) :
    Calls Tryd.prog 23 #[(.slice (some had) 8 hc), (.slice (some bad) 64 bc)] w fun e w' => ∃ a c, e = .returned (.slice a 8 c) ∧ SlV w' a 8 (vs .u32 (blockW H blk)) ∧ Below w.heap.size w w' := by
  refine (call23 (some had) 8 hc (some bad) 64 bc w (fun v w' => ∃ a c, v = .slice a 8 c ∧ SlV w' a 8 (vs .u32 (blockW H blk)) ∧ Below w.heap.size w w') ?_).mono (by rintro e w' ⟨v, rfl, a, c, rfl, h⟩; exact ⟨a, c, rfl, h⟩)
  unfold F23
  simp only [derefP]
  refine (c31_any w).mono ?_
  rintro _ w1 ⟨rfl, hw1⟩
  refine ⟨_, _, _, rfl, ?_⟩
  have s1 : w1.heap.size = w.heap.size + 1 := by rw [hw1]; simp
  have hmk := make_row E42 w1 zero41 .i64 .i64 64 64 (by omega) (by omega) (by omega) (by omega)
  have em : madeCells ⟨[.int .u32 0]⟩ ((64 : Int).toNat * 1) = ⟨vs .u32 (schA blk 0)⟩ := by
    rw [schA]
    kernel_rfl
  rw [em] at hmk
  refine ⟨_, _, _, _, hmk, ?_⟩
  have b1 : Blk (w1.alloc (.cells ⟨vs .u32 (schA blk 0)⟩ 41)) w.heap.size 41 (vs .u32 kk) := by rw [hw1]; exact (Blk.new _ _ _).alloc _
  have b2 := Blk.new w1 (vs .u32 (schA blk 0)) 41
  have f2 : Below w.heap.size w (w1.alloc (.cells ⟨vs .u32 (schA blk 0)⟩ 41)) := by
    rw [hw1]; exact ((Below.refl _ _).alloc (by simp) _).alloc (by simp) _
  have s2 : (w1.alloc (.cells ⟨vs .u32 (schA blk 0)⟩ 41)).heap.size = w.heap.size + 2 := by simp [s1]
  generalize w1.alloc (.cells ⟨vs .u32 (schA blk 0)⟩ 41) = w2 at *
  clear hw1 hmk
  rw [s1] at b2
  rw [s1]
  dsimp only
  refine ⟨fun v x => ∃ j : Nat, v = j ∧ j ≤ 64 ∧ Blk x w.heap.size 41 (vs .u32 kk) ∧ Blk x (w.heap.size + 1) 41 (vs .u32 (refW blk j)) ∧ Below w.heap.size w x, fun v _ => (64 - v).toNat, ⟨0, rfl, by omega, b1, b2, f2⟩, ?_⟩
  clear b1 b2 f2 s2
  rintro v w3 ⟨j, rfl, hj, b1, b2, f2⟩
  have hl := refW_length blk j
  have c1 := h1.below f2 (Nat.le_refl _)
  have c2 := h2.below f2 (Nat.le_refl _)
  rw [ifB_iff]
  simp only [ltI_true, ltI_false]
  constructor
  · intro hlt
    rw [ifB_iff]
    simp only [ltI_true, ltI_false]
    constructor
    · rintro hlo w4 rfl
      have g : ∀ v : Int, v.toNat < 64 → w3.drew.cell? (Addr.add bad (Int.toNat v * 1)) = some (.int .u8 (blk.getD v.toNat 0)) := fun v hv => sl_get (h2.below f2.drew (Nat.le_refl _)) (by omega)
      refine ⟨by unfold InI64; omega, ⟨by omega, by omega⟩, _, g _ (by omega), by omega, by unfold InI64; omega, by unfold InI64; omega, ⟨by omega, by omega⟩, _, g _ (by omega), by omega, by unfold InI64; omega, by unfold InI64; omega, ⟨by omega, by omega⟩, _, g _ (by omega), by omega, by unfold InI64; omega, by unfold InI64; omega, ⟨by omega, by omega⟩, _, g _ (by omega), ⟨by omega, by omega⟩, b2.drew.okI (by rw [vs_length, hl]; omega), ?_⟩
      rintro w5 rfl
      refine ⟨by unfold InI64; omega, ⟨j + 1, by simp, by omega, b1.drew.putO (by omega) _ _ _, ?_, below_put f2.drew (by omega) _ _ _⟩, by omega⟩
      rw [refW_lo blk j (by omega), schA_succ blk j (by omega)]
      have e0 : refW blk j = schA blk j := by unfold refW; rw [if_pos (by omega)]
      rw [e0] at b2
      rw [show Int.toNat (4 * (j : Int)) = 4 * j by omega, show Int.toNat (4 * (j : Int) + 1) = 4 * j + 1 by omega, show Int.toNat (4 * (j : Int) + 2) = 4 * j + 2 by omega, show Int.toNat (4 * (j : Int) + 3) = 4 * j + 3 by omega]
      exact b2.drew.putI (j : Int) _
    · rintro hhi w6 rfl
      refine ⟨by unfold InI64; omega, ⟨by omega, by omega⟩, _, b2.drew.getI (by rw [hl]; omega), by unfold InI64; omega, ⟨by omega, by omega⟩, _, b2.drew.getI (by rw [hl]; omega), ?_⟩
      rintro w7 rfl
      refine ⟨by unfold InI64; omega, ⟨by omega, by omega⟩, _, b2.drew.drew.getI (by rw [hl]; omega), by omega, by unfold InI64; omega, ⟨by omega, by omega⟩, _, b2.drew.drew.getI (by rw [hl]; omega), by omega, ?_⟩
      refine (c32_any _ 7 (by omega) _).mono ?_
      rintro _ _ ⟨rfl, rfl⟩
      refine ⟨_, rfl, (Below.refl _ _).drew, ?_⟩
      refine (c32_any _ 18 (by omega) _).mono ?_
      rintro _ _ ⟨rfl, rfl⟩
      refine ⟨_, rfl, (Below.refl _ _).drew.drew, ?_⟩
      refine (c32_any _ 17 (by omega) _).mono ?_
      rintro _ _ ⟨rfl, rfl⟩
      refine ⟨_, rfl, (Below.refl _ _).drew.drew.drew, ?_⟩
      refine (c32_any _ 19 (by omega) _).mono ?_
      rintro _ _ ⟨rfl, rfl⟩
      refine ⟨_, rfl, (Below.refl _ _).drew.drew.drew.drew, ⟨by omega, by omega⟩, b2.drew.drew.drew.drew.drew.drew.okI (by rw [vs_length, hl]; omega), ?_⟩
      rintro w12 rfl
      refine ⟨by unfold InI64; omega, ⟨j + 1, by simp, by omega, b1.drew.drew.drew.drew.drew.drew.putO (by omega) _ _ _, ?_, below_put f2.drew.drew.drew.drew.drew.drew (by omega) _ _ _⟩, by omega⟩
      rw [refW_hi blk j (by omega)]
      have e : stepB j (refW blk j) = (refW blk j).set (Int.toNat (j : Int)) (mix ((refW blk j).getD (Int.toNat ((j : Int) - 16)) 0) ((refW blk j).getD (Int.toNat ((j : Int) - 7)) 0) ((refW blk j).getD (Int.toNat ((j : Int) - 15)) 0) ((refW blk j).getD (Int.toNat ((j : Int) - 2)) 0)) := by
        rw [stepB, show Int.toNat (j : Int) = j by omega, show Int.toNat ((j : Int) - 16) = j - 16 by omega, show Int.toNat ((j : Int) - 7) = j - 7 by omega, show Int.toNat ((j : Int) - 15) = j - 15 by omega, show Int.toNat ((j : Int) - 2) = j - 2 by omega]
      rw [e]
      exact b2.drew.drew.drew.drew.drew.drew.putI _ _
  · rintro hge w13 hw13
    have : j = 64 := by omega
    subst this
    have eS : refW blk 64 = sched blk := rfl
    rw [eS] at b2 hl
    rw [blockW_sums _ _ hH]
    generalize sched blk = S at *
    have s3 := b2.lt
    -- the words' copy
    have ow := Own.lit (B := w3.heap.size) (w := w3) (Nat.le_refl _) 41 1 [] 0 rfl (by unfold maxLen; omega)
    rw [← hw13] at ow
    have f13 : Below w3.heap.size w3 w13 := by rw [hw13]; exact (Below.refl _ _).alloc (Nat.le_refl _) _
    obtain ⟨va, vl, vc, w14, hrun, rfl, ow14, f14⟩ := ow.app E42 42 (n := 8) (cn := hc) (c1.below f13 (Nat.le_refl _)) (by rw [vs_length, hH]) (vs_one _ _) (by omega) (by unfold maxLen; omega)
    refine ⟨va, _, vc, w14, hrun, ?_⟩
    clear hrun hw13
    have f314 : Below w3.heap.size w3 w14 := f13.trans f14
    replace b1 := b1.below f314 (by omega)
    replace b2 := b2.below f314 (by omega)
    replace f2 : Below w.heap.size w w14 := f2.trans (f314.mono (by omega))
    have hv0 : SlV w14 va 8 (vs .u32 (rnds S H 0)) := by simpa [rnds] using ow14.sl1
    clear ow ow14 f13 f14
    refine ⟨fun a l c v x => ∃ t : Nat, v = t ∧ t ≤ 64 ∧ l = 8 ∧ SlV x a 8 (vs .u32 (rnds S H t)) ∧ Blk x w.heap.size 41 (vs .u32 kk) ∧ Blk x (w.heap.size + 1) 41 (vs .u32 S) ∧ Below w.heap.size w x, fun _ _ _ v _ => (64 - v).toNat, ⟨0, rfl, by omega, rfl, hv0, b1, b2, f2⟩, ?_⟩
    clear b1 b2 f2 hv0 c1 c2 f314 s3
    rintro a l c v w15 ⟨t, rfl, ht, rfl, hv, b1, b2, f2⟩
    have hlr := rnds_length S H hH t
    obtain ⟨vad, rfl, hvc⟩ := hv.on (by omega)
    dsimp only
    rw [ifB_iff]
    simp only [ltI_true, ltI_false, not32r]
    constructor
    · rintro hlt w16 rfl
      have g : ∀ (w' : World) (i : Nat), i < 8 → Below w15.heap.size w15 w' → w'.cell? (Addr.add vad (Int.toNat (i : Int) * 1)) = some (.int .u32 ((rnds S H t).getD i 0)) := fun w' i hi hbw => sl_get (hvc.below hbw (Nat.le_refl _)) (v := (i : Int)) (by rw [hlr]; omega)
      have r0 := Below.refl w15.heap.size w15
      refine ⟨by omega, _, g _ 0 (by omega) r0.drew, by omega, _, g _ 4 (by omega) r0.drew, ?_⟩
      rintro w17 rfl
      refine ⟨by omega, _, g _ 7 (by omega) r0.drew.drew, by omega, _, g _ 5 (by omega) r0.drew.drew, by omega, _, g _ 6 (by omega) r0.drew.drew, ⟨by omega, by omega⟩, _, b1.drew.drew.getI (by show _ < 64; omega), ⟨by omega, by omega⟩, _, b2.drew.drew.getI (by rw [hl]; omega), ?_⟩
      refine (c32_any _ 6 (by omega) _).mono ?_
      rintro _ _ ⟨rfl, rfl⟩
      refine ⟨_, rfl, (Below.refl _ _).drew, ?_⟩
      refine (c32_any _ 11 (by omega) _).mono ?_
      rintro _ _ ⟨rfl, rfl⟩
      refine ⟨_, rfl, (Below.refl _ _).drew.drew, ?_⟩
      refine (c32_any _ 25 (by omega) _).mono ?_
      rintro _ _ ⟨rfl, rfl⟩
      refine ⟨_, rfl, (Below.refl _ _).drew.drew.drew, ?_⟩
      rintro w21 rfl
      refine ⟨by omega, _, g _ 1 (by omega) r0.drew.drew.drew.drew.drew.drew, by omega, _, g _ 2 (by omega) r0.drew.drew.drew.drew.drew.drew, by omega, _, g _ 1 (by omega) r0.drew.drew.drew.drew.drew.drew, by omega, _, g _ 2 (by omega) r0.drew.drew.drew.drew.drew.drew, ?_⟩
      refine (c32_any _ 2 (by omega) _).mono ?_
      rintro _ _ ⟨rfl, rfl⟩
      refine ⟨_, rfl, (Below.refl _ _).drew, ?_⟩
      refine (c32_any _ 13 (by omega) _).mono ?_
      rintro _ _ ⟨rfl, rfl⟩
      refine ⟨_, rfl, (Below.refl _ _).drew.drew, ?_⟩
      refine (c32_any _ 22 (by omega) _).mono ?_
      rintro _ _ ⟨rfl, rfl⟩
      refine ⟨_, rfl, (Below.refl _ _).drew.drew.drew, ?_⟩
      rintro w25 rfl
      have r1 := r0.drew.drew.drew.drew.drew.drew.drew.drew.drew.drew
      refine ⟨by omega, _, g _ 0 (by omega) r1, by omega, _, g _ 1 (by omega) r1, by omega, _, g _ 2 (by omega) r1, by omega, _, g _ 3 (by omega) r1, by omega, _, g _ 4 (by omega) r1, by omega, _, g _ 5 (by omega) r1, by omega, _, g _ 6 (by omega) r1, ?_⟩
      intro w26 hw26
      replace hw26 : w26 = (w15.drew.drew.drew.drew.drew.drew.drew.drew.drew.drew).alloc (.cells ⟨vs .u32 (rnds S H (t + 1))⟩ 41) := hw26
      have hbN := Blk.new (w15.drew.drew.drew.drew.drew.drew.drew.drew.drew.drew) (vs .u32 (rnds S H (t + 1))) 41
      have f15 := (r1.alloc (Nat.le_refl _) (.cells ⟨vs .u32 (rnds S H (t + 1))⟩ 41))
      rw [← hw26] at hbN f15
      have := f2.size
      have hb2 := b2.lt
      refine ⟨by unfold InI64; omega, ⟨t + 1, by simp, by omega, trivial, ⟨by rw [vs_length, rnds_length S H hH], Or.inr ⟨_, rfl, hbN.on⟩⟩, b1.below f15 (by omega), b2.below f15 (by omega), f2.trans (f15.mono (by omega))⟩, by omega⟩
    · intro hge
      have : t = 64 := by omega
      subst this
      generalize rnds S H 64 = X at *
      have s15 := f2.size
      refine ⟨fun a l c v x => ∃ i : Nat, v = i ∧ i ≤ 8 ∧ Own x w15.heap.size 41 1 a l c (vs .u32 (sums H X i)) ∧ Below w15.heap.size w15 x, fun _ _ _ v _ => (8 - v).toNat, ⟨0, rfl, by omega, Own.nil (Nat.le_refl _) _ _, Below.refl _ _⟩, ?_⟩
      rintro oa ol oc v w27 ⟨i, rfl, hi, ow, f27⟩
      have hol : ol = i := by have := ow.length; rw [vs_length, sums_length] at this; omega
      rw [ifB_iff]
      simp only [ltI_true, ltI_false]
      constructor
      · rintro hlt w28 rfl
        have fA := f2.trans (f27.drew.mono s15)
        refine ⟨⟨by omega, by omega⟩, _, sl_get (h1.below fA (Nat.le_refl _)) (by rw [hH]; omega), ⟨by omega, by omega⟩, _, sl_get (hvc.below f27.drew (Nat.le_refl _)) (by rw [hlr]; omega), ?_⟩
        rintro w29 rfl
        refine ⟨(Below.refl _ _).alloc (Nat.le_refl _) _, ?_⟩
        obtain ⟨a', l', c', w30, hrun, rfl, ow', f30⟩ := ow.drew.app1 E42 42 (N := [(.int .u32 (IntKind.u32.wrap (H.getD (Int.toNat (i : Int)) 0 + X.getD (Int.toNat (i : Int)) 0)))]) rfl (vs_one .u32 [_]) (by omega) (by unfold maxLen; omega)
        refine ⟨a', _, c', w30, hrun, by unfold InI64; omega, ⟨i + 1, by simp, by omega, ?_, f27.drew.trans f30⟩, by omega⟩
        have e : vs .u32 (sums H X (i + 1)) = vs .u32 (sums H X i) ++ [(.int .u32 (IntKind.u32.wrap (H.getD (Int.toNat (i : Int)) 0 + X.getD (Int.toNat (i : Int)) 0)))] := by simp [vs, sums]
        rw [e]
        exact ow'
      · intro hge
        have : i = 8 := by omega
        subst this
        subst hol
        exact ⟨oa, oc, rfl, ow.sl1, f2.trans (f27.mono s15)⟩
end Go.Proofs.YtmkcffflebdheaaDoor
