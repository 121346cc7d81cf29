/- Equal, Value, slices of numbers; LambdaForms. -/
import Derived.Test.YtfmjipgcbecamaaDoorC44R
set_option linter.unusedVariables false
namespace Go.Proofs.YtfmjipgcbecamaaDoor
open Go Go.Vc Go.RowKit Go.Syn Go.Lam Go.Sort

/-- cmp.Less. -/
theorem k43 (x y : Int) (g : G) : CallsP Tryd.prog 43 #[.int .i64 x, .int .i64 y] g fun v _ => v = .bool (tf (x < y)) := by
  refine (calls_below (Q := fun v _ => v = .bool (tf (x < y))) (Calls.mono (Tryd.cmp_Less_int2 x y g.w) ?_)).mono ?_
  · rintro e w' ⟨rfl, rfl⟩
    exact ⟨_, rfl, Below.refl _ _, by unfold tf; exact congrArg Value.bool (decide_eq_decide.2 Iff.rfl)⟩
  · rintro v g1 _ ⟨_, h, _⟩
    exact h
/-- slices.IsSorted. -/
theorem k25 {F : List Int} (hF : F.Pairwise (· < ·)) {a : Option Addr} {n c : Nat} {g : G} (h : SlE intE' g a n c F) : CallsP Tryd.prog 25 #[.slice a n c] g fun v _ => v = .bool true := by
  refine call25 a n c g _ ?_
  have hl := h.len
  have hcap := h.cap
  have hnc := h.le
  unfold maxLen at hcap
  unfold F25
  refine ⟨i64 (by omega) (by omega), fun m i g' => i < ((n : Nat) : Int) ∧ i + 1 = ((m : Nat) : Int), ⟨n, by omega, by omega⟩, ?_⟩
  rintro m i g1 le ⟨h1, h2⟩
  refine ifLt (fun q g2 m2 => ⟨⟨by omega, by omega⟩, ?_⟩) (fun q g5 _ => rfl)
  obtain ⟨j, rfl⟩ : ∃ j : Nat, i = ((j + 1 : Nat) : Int) := ⟨(i - 1).toNat, by omega⟩
  have gx := List.getElem?_eq_getElem (show j + 1 < F.length by omega)
  have gy := List.getElem?_eq_getElem (show j < F.length by omega)
  have hlt : F[j] < F[j + 1] := List.pairwise_iff_getElem.1 hF j (j + 1) (by omega) (by omega) (by omega)
  generalize F[j + 1] = x at gx hlt
  generalize F[j] = y at gy hlt
  refine rdN ((h.mono le).exm m2) (j + 1) rfl gx ⟨i64 (by omega) (by omega), ⟨by omega, by omega⟩, rdN ((h.mono le).exm m2) j (by omega) gy ((k43 x y g2).mono ?_)⟩
  rintro v g3 _ rfl
  exact ⟨_, rfl, ifP (fun q => by omega) (fun _ => ⟨i64 (by omega) (by omega), m - 1, by omega, by omega, by omega⟩)⟩
end Go.Proofs.YtfmjipgcbecamaaDoor
