/- The law DigestSums. -/
import Derived.Test.YtmkcffflebdheaaDoorC39l
import Derived.Test.YtmkcffflebdheaaDoorC39k
import Derived.Test.YtmkcffflebdheaaDoorVw5
set_option linter.unusedVariables false
namespace Go.Proofs.YtmkcffflebdheaaDoor
open Go Go.Vc Go.RowKit

theorem strEq_self (s : ByteArray) : strEq s s = true := by simp [strEq]

theorem c3_any (B : List Int) (ba : Option Addr) (bl bc : Nat) (hnil : ba = none → bc = 0) (hwf : ∀ x ∈ B, (Lit.int .u8 x).wf = true) (w : World) (hB : SlV w ba bl (vs .u8 B)) (hc : bl ≤ bc) (hT : Tab w) :
    Calls Tryd.prog 3 #[(.slice ba bl bc)] w fun e w' => e = .returned (.bool true) ∧ Below w.heap.size w w' := by
  have hl : bl = B.length := by have := hB.1; simpa using this.symm
  subst hl
  obtain ⟨l, rfl⟩ := nums_of_wf B hwf
  refine fin (call3 ba (nums l).length bc w _ ?_)
  unfold F3
  refine (c8_any w hT).mono ?_
  rintro _ w1 ⟨rfl, f1⟩
  refine ⟨_, rfl, ?_⟩
  rw [ifB_iff]
  refine ⟨fun h => (by cases h), fun _ => ?_⟩
  simp only [ifB_iff, ltI_true, ltI_false]
  refine ⟨fun _ => ⟨trivial, f1⟩, fun hs => ?_⟩
  refine (c9_any (nums l) ba bc hnil w1 (hB.below f1 (Nat.le_refl _)) (by omega)).mono ?_
  rintro _ w2 ⟨rfl, f2⟩
  replace f2 := f1.trans (f2.mono f1.size)
  refine ⟨_, rfl, ?_⟩
  refine (c10_any (nums l) ba bc w2 (hB.below f2 (Nat.le_refl _)) hc (hT.below f2 hT.lt)).mono ?_
  rintro _ w3 ⟨rfl, f3⟩
  replace f3 := f2.trans (f3.mono f2.size)
  refine ⟨_, rfl, ?_⟩
  rw [digest_eq (nums l) (by omega), strEq_self]
  refine ⟨fun _ => ?_, fun h => (by cases h)⟩
  refine ⟨_, _, string_of Tryd.underlying22 Tryd.underlying5 Tryd.underlying9 (hB.below f3 (Nat.le_refl _)), ?_⟩
  refine (c11_any _ w3 (hT.below f3 hT.lt)).mono ?_
  rintro _ w4 ⟨rfl, f4⟩
  refine ⟨_, rfl, ?_, f3.trans (f4.mono f3.size)⟩
  rw [show nums (⟨l.toArray⟩ : ByteArray).data.toList = nums l by simp, strEq_self]
end Go.Proofs.YtmkcffflebdheaaDoor
