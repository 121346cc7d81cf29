/- The examples of the chapter, reckoned; the digest of a string; the number of blocks. -/
import Derived.Test.YtmkcffflebdheaaDoorC39e
set_option linter.unusedVariables false
namespace Go.Proofs.YtmkcffflebdheaaDoor
open Go Go.Vc Go.RowKit
theorem sum_nil : Lib.hasPrefix (sumL []) [101, 51, 98, 48, 99, 52, 52, 50] = true := by kernel_rfl
theorem sum_abc : Lib.hasPrefix (sumL [97, 98, 99]) [98, 97, 55, 56, 49, 54, 98, 102] = true := by kernel_rfl

theorem c11_any (s : ByteArray) (w : World) (hT : Tab w) :
    Calls Tryd.prog 11 #[(.string s)] w fun e w' => e = .returned (.string ⟨(sumL (nums s.data.toList)).toArray⟩) ∧ Below w.heap.size w w' := by
  refine fin (call11 s w _ ?_)
  unfold F11
  obtain ⟨a, c, w1, hrun, hS, hc, f1⟩ := bytes_of (P := Tryd.prog) (w := w) (src := 9) (dst := 22) (s := s) Tryd.underlying9 Tryd.underlying22 Tryd.underlying5
  refine ⟨a, s.size, c, w1, hrun, ?_⟩
  have hl : (nums s.data.toList).length = s.size := by simp
  have hS' : SlV w1 a (nums s.data.toList).length (vs .u8 (nums s.data.toList)) := by rw [hl]; exact hS
  have := c10_any (nums s.data.toList) a c w1 hS' (by omega) (hT.below f1 hT.lt)
  rw [hl] at this
  refine this.mono ?_
  rintro _ w2 ⟨rfl, f2⟩
  exact ⟨_, rfl, rfl, f1.trans (f2.mono f1.size)⟩

theorem c8_any (w : World) (hT : Tab w) :
    Calls Tryd.prog 8 #[] w fun e w' => e = .returned (.bool true) ∧ Below w.heap.size w w' := by
  refine fin (call8 w _ ?_)
  unfold F8
  refine (c10_any [] none 0 w (SlV.nil _ _) (Nat.le_refl _) hT).mono ?_
  rintro _ w1 ⟨rfl, f1⟩
  refine ⟨_, rfl, ?_⟩
  refine (Tryd.strings_HasPrefix _ _ w1).mono ?_
  rintro _ w1 ⟨rfl, rfl⟩
  refine ⟨_, rfl, ?_⟩
  have e1 : Lib.hasPrefix (⟨(sumL []).toArray⟩ : ByteArray).data.toList (bs [101, 51, 98, 48, 99, 52, 52, 50]).data.toList = true := sum_nil
  rw [e1, ifB_iff]
  refine ⟨fun _ => ?_, fun h => by cases h⟩
  refine (c11_any _ w1 (hT.below f1 hT.lt)).mono ?_
  rintro _ w2 ⟨rfl, f2⟩
  refine ⟨_, rfl, ?_⟩
  refine (Tryd.strings_HasPrefix _ _ w2).mono ?_
  rintro _ _ ⟨rfl, rfl⟩
  refine ⟨_, rfl, ?_, f1.trans (f2.mono f1.size)⟩
  have e2 : Lib.hasPrefix (⟨(sumL (nums (bs [97, 98, 99]).data.toList)).toArray⟩ : ByteArray).data.toList (bs [98, 97, 55, 56, 49, 54, 98, 102]).data.toList = true := sum_abc
  rw [e2]

def blocks (n : Int) : Int := if n < 0 then 0 else if 55 < n % 64 then n / 64 + 2 else n / 64 + 1

theorem c12_any (n : Int) (h : InI64 n) (w : World) :
    Calls Tryd.prog 12 #[(.int .i64 n)] w fun e w' => e = .returned (.int .i64 (blocks n)) ∧ w' = w := by
  refine fin (call12 n w _ ?_)
  unfold F12
  unfold InI64 at h
  simp only [ifB_iff, ltI_true, ltI_false]
  unfold blocks
  constructor
  · intro h
    rw [if_pos h]
    exact ⟨rfl, trivial⟩
  · intro h0
    have em : Int.tmod n 64 = n % 64 := Int.tmod_eq_emod_of_nonneg (by omega)
    have ed : Int.tdiv n 64 = n / 64 := Int.tdiv_eq_ediv_of_nonneg (by omega)
    rw [em, ed, if_neg (by omega)]
    unfold InI64
    refine ⟨by omega, fun h => ?_, fun h => ?_⟩
    · rw [if_pos h]
      exact ⟨by omega, by omega, by omega, rfl, trivial⟩
    · rw [if_neg (by omega)]
      exact ⟨by omega, by omega, by omega, rfl, trivial⟩

theorem c4_any (n : Int) (h : InI64 n) (w : World) (hT : Tab w) :
    Calls Tryd.prog 4 #[(.int .i64 n)] w fun e w' => e = .returned (.bool true) ∧ Below w.heap.size w w' := by
  refine fin (call4 n w _ ?_)
  unfold F4
  refine (c8_any w hT).mono ?_
  rintro _ w1 ⟨rfl, f1⟩
  refine ⟨_, rfl, ?_⟩
  rw [ifB_iff]
  refine ⟨fun h => (by cases h), fun _ => ?_⟩
  intro J hJ
  unfold InI64 at h
  simp only [ifB_iff, ltI_true, ltI_false]
  constructor
  · intro h0
    apply hJ
    simp only [ifB_iff, ltI_true, ltI_false]
    refine ⟨fun _ => ⟨fun h => (by omega), fun _ => ?_⟩, fun h => by cases h⟩
    refine (c12_any n h w1).mono ?_
    rintro _ w1 ⟨rfl, rfl⟩
    refine ⟨_, rfl, ?_, f1⟩
    rw [blocks, if_pos h0]
    simp [eqI]
  · intro h0
    apply hJ
    simp only [ifB_iff, ltI_true, ltI_false, leI_true, leI_false]
    refine ⟨fun hbig => ⟨fun _ => ⟨trivial, f1⟩, fun h => (by omega)⟩, fun hsm => ?_⟩
    refine (c12_any n h w1).mono ?_
    rintro _ w1 ⟨rfl, rfl⟩
    have hk : 64 * blocks n ≥ n + 9 ∧ 64 * (blocks n - 1) < n + 9 ∧ blocks (n + 64) = blocks n + 1 ∧ blocks n ≤ n + 2 := by
      have e1 : blocks n = if 55 < n % 64 then n / 64 + 2 else n / 64 + 1 := by rw [blocks, if_neg (by omega)]
      have e2 : blocks (n + 64) = if 55 < n % 64 then n / 64 + 3 else n / 64 + 2 := by
        rw [blocks, if_neg (by omega), show (n + 64) % 64 = n % 64 by omega, show (n + 64) / 64 = n / 64 + 1 by omega, Int.add_assoc, Int.add_assoc]
        rfl
      rw [e1, e2]
      by_cases h55 : 55 < n % 64
      · simp only [if_pos h55]
        refine ⟨by omega, by omega, by omega, by omega⟩
      · simp only [if_neg h55]
        refine ⟨by omega, by omega, by omega, by omega⟩
    obtain ⟨k1, k2, k3, k4⟩ := hk
    refine ⟨_, rfl, ?_⟩
    unfold InI64
    refine ⟨by omega, by omega, fun _ => ⟨by omega, by omega, by omega, fun _ => ⟨by omega, ?_⟩, fun h => (by omega)⟩, fun h => (by omega)⟩
    refine (c12_any (n + 64) (by unfold InI64; omega) w1).mono ?_
    rintro _ w1 ⟨rfl, rfl⟩
    refine ⟨_, rfl, by omega, ?_, f1⟩
    rw [k3]
    simp [eqI]
end Go.Proofs.YtmkcffflebdheaaDoor
