/- The padded bytes, and that their blocks give the same words. -/
import Derived.Test.YtmkcffflebdheaaDoorC39q
set_option linter.unusedVariables false
namespace Go.Proofs.YtmkcffflebdheaaDoor
open Go Go.Vc Go.RowKit

/-- How many zeros stand between the mark and the length. -/
def zeros (n : Nat) : Nat := (119 - n % 64) % 64
def lenB (n : Nat) : Nat → List Int
  | 0 => []
  | i + 1 => lenB n i ++ [IntKind.u8.wrap (shrI .i64 (8 * (n : Int)) (8 * (7 - (i : Int))))]
theorem lenB_length (n : Nat) : ∀ i, (lenB n i).length = i
  | 0 => rfl
  | i + 1 => by rw [lenB, List.length_append, lenB_length n i]; rfl
def padL (B : List Int) : List Int := B ++ [128] ++ List.replicate (zeros B.length) 0 ++ lenB B.length 8
theorem padL_length (B : List Int) : (padL B).length = B.length + 9 + zeros B.length := by
  simp only [padL, List.length_append, List.length_replicate, lenB_length, List.length_cons, List.length_nil]
  omega

theorem c22_any (B : List Int) (ba : Option Addr) (bc : Nat) (hnil : ba = none → bc = 0) (w : World) (hB : SlV w ba B.length (vs .u8 B)) (hbig : B.length ≤ 17592186044416) :
    Calls Tryd.prog 22 #[(.slice ba B.length bc)] w fun e w' => ∃ a l c, e = .returned (.slice a l c) ∧ l = (padL B).length ∧ l ≤ c ∧ SlV w' a l (vs .u8 (padL B)) ∧ Below w.heap.size w w' := by
  refine (call22 ba B.length bc w (fun v w' => ∃ a l c, v = .slice a l c ∧ l = (padL B).length ∧ l ≤ c ∧ SlV w' a l (vs .u8 (padL B)) ∧ Below w.heap.size w w') ?_).mono (by rintro e w' ⟨v, rfl, a, l, c, rfl, h⟩; exact ⟨a, l, c, rfl, h⟩)
  unfold F22
  intro w1 hw1
  have o1 := Own.lit (B := w.heap.size) (w := w) (Nat.le_refl _) 5 1 [] 0 rfl (by unfold maxLen; omega)
  have f1 : Below w.heap.size w w1 := by rw [hw1]; exact (Below.refl _ _).alloc (Nat.le_refl _) _
  rw [← hw1] at o1
  clear hw1
  obtain ⟨a2, l2, c2, w2, hrun, rfl, o2, f2⟩ := o1.appS E22 22 (na := ba) (n := B.length) (cn := bc) (N := vs .u8 B) (by rw [Nat.mul_one]; exact hB.below f1 (Nat.le_refl _)) (fun h => ⟨by rcases hB.2 with h0 | ⟨ad, he, _⟩ <;> simp_all, hnil h⟩) (vs_one _ _) (by omega) (by unfold maxLen; omega)
  refine ⟨a2, _, c2, w2, hrun, ?_⟩
  rintro w3 rfl
  replace f2 := f1.trans f2
  obtain ⟨a3, l3, c3, w4, hrun3, hl3, o4, f4⟩ := o2.app1 E22 22 (N := [(.int .u8 (128 : Int))]) rfl (vs_one .u8 [128]) (by omega) (by unfold maxLen; omega)
  refine ⟨a3, _, c3, w4, hrun3, ?_⟩
  replace f4 := f2.trans f4
  have e4 : [] ++ vs .u8 B ++ [(.int .u8 (128 : Int))] = vs .u8 (B ++ [128] ++ List.replicate 0 0) := by simp [vs]
  rw [e4] at o4
  clear hrun hrun3 o1 o2 f1 f2
  generalize hn : B.length = n at *
  refine ⟨fun a l c x => ∃ k : Nat, k ≤ zeros n ∧ l = n + 1 + k ∧ Own x w.heap.size 5 1 a l c (vs .u8 (B ++ [128] ++ List.replicate k 0)) ∧ Below w.heap.size w x, fun _ l _ _ => 17592186044416 + 1000 - l, ⟨0, by omega, by omega, o4, f4⟩, ?_⟩
  clear o4 f4
  rintro a l c w5 ⟨k, hk, rfl, o5, f5⟩
  refine ⟨by omega, ?_⟩
  have em : Int.tmod ((n + 1 + k : Nat) : Int) 64 = ((n + 1 + k) % 64 : Nat) := by rw [Int.tmod_eq_emod_of_nonneg (by omega)]; omega
  rw [ifB_iff]
  simp only [Bool.not_eq_true', Bool.not_eq_false', eqI_true, eqI_false]
  rw [em]
  unfold zeros at hk
  constructor
  · rintro hne w6 rfl
    obtain ⟨a7, l7, c7, w7, hrun7, hl7, o7, f7⟩ := o5.app1 E22 22 (N := [(.int .u8 (0 : Int))]) rfl (vs_one .u8 [0]) (by omega) (by unfold maxLen; omega)
    refine ⟨a7, l7, c7, w7, hrun7, ⟨k + 1, ?_, by omega, ?_, f5.trans f7⟩, by omega⟩
    · unfold zeros; omega
    · have e : vs .u8 (B ++ [128] ++ List.replicate (k + 1) 0) = vs .u8 (B ++ [128] ++ List.replicate k 0) ++ [(.int .u8 (0 : Int))] := by simp [vs, List.replicate_succ']
      rw [e]
      exact o7
  · intro heq
    have hk2 : k = zeros n := by unfold zeros; omega
    subst hk2
    have hz : zeros n < 64 := by unfold zeros; omega
    refine ⟨by unfold InI64; omega, ?_⟩
    refine ⟨fun a l c v x => ∃ i : Nat, v = 7 - (i : Int) ∧ i ≤ 8 ∧ l = n + 1 + zeros n + i ∧ Own x w.heap.size 5 1 a l c (vs .u8 (B ++ [128] ++ List.replicate (zeros n) 0 ++ lenB n i)) ∧ Below w.heap.size w x, fun _ _ _ v _ => (v + 1).toNat, ⟨0, rfl, by omega, by omega, by simpa [lenB] using o5, f5⟩, ?_⟩
    clear o5 f5
    rintro a l c v w8 ⟨i, rfl, hi, rfl, o8, f8⟩
    rw [ifB_iff]
    simp only [leI_true, leI_false]
    constructor
    · intro hge
      refine ⟨by unfold InI64; omega, by omega, ?_⟩
      rintro w9 rfl
      obtain ⟨a7, l7, c7, w7, hrun7, hl7, o7, f7⟩ := o8.app1 E22 22 (N := [(.int .u8 (IntKind.u8.wrap (shrI .i64 (8 * (n : Int)) (8 * (7 - (i : Int))))))]) rfl (vs_one .u8 [_]) (by omega) (by unfold maxLen; omega)
      refine ⟨a7, l7, c7, w7, hrun7, by unfold InI64; omega, ⟨i + 1, by omega, by omega, by omega, ?_, f8.trans f7⟩, by omega⟩
      have e : vs .u8 (B ++ [128] ++ List.replicate (zeros n) 0 ++ lenB n (i + 1)) = vs .u8 (B ++ [128] ++ List.replicate (zeros n) 0 ++ lenB n i) ++ [(.int .u8 (IntKind.u8.wrap (shrI .i64 (8 * (n : Int)) (8 * (7 - (i : Int))))))] := by simp [vs, lenB]
      rw [e]
      exact o7
    · intro hlt
      have : i = 8 := by omega
      subst this
      have ep : B ++ [128] ++ List.replicate (zeros n) 0 ++ lenB n 8 = padL B := by rw [padL, hn]
      rw [ep] at o8
      refine ⟨a, _, c, rfl, ?_, o8.le, o8.sl1, f8⟩
      rw [padL_length, hn]
      omega
end Go.Proofs.YtmkcffflebdheaaDoor
