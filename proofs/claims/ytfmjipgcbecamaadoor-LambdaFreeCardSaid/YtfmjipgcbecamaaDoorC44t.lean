/- Equal, Value, slices of numbers; LambdaForms. -/
import Derived.Test.YtfmjipgcbecamaaDoorC44R
set_option linter.unusedVariables false
namespace Go.Proofs.YtfmjipgcbecamaaDoor
open Go Go.Vc Go.RowKit Go.Syn Go.Lam Go.Sort

/-- cmp.Less. -/
theorem k43 (x y : Int) (g : G) : CallsP Tryd.prog 43 #[.int .i64 x, .int .i64 y] g fun v _ => v = .bool (tf (x < y)) := by
  refine (calls_below (Q := fun v _ => v = .bool (tf (x < y))) (Calls.mono (Tryd.cmp_Less_int2 x y g.w) ?_)).mono ?_
  · rintro e w' ⟨rfl, rfl⟩
    exact ⟨_, rfl, Below.refl _ _, by unfold tf; exact congrArg Value.bool (decide_eq_decide.2 Iff.rfl)⟩
  · rintro v g1 _ ⟨_, h, _⟩
    exact h
/-- slices.IsSorted. -/
theorem k25 {F : List Int} (hF : F.Pairwise (· < ·)) {a : Option Addr} {n c : Nat} {g : G} (h : SlE intE' g a n c F) : CallsP Tryd.prog 25 #[.slice a n c] g fun v _ => v = .bool true := by
  refine call25 a n c g _ ?_
  have hl := h.len
  have hcap := h.cap
  have hnc := h.le
  unfold maxLen at hcap
  unfold F25
  refine ⟨i64 (by omega) (by omega), fun m i g' => i < ((n : Nat) : Int) ∧ i + 1 = ((m : Nat) : Int), ⟨n, by omega, by omega⟩, ?_⟩
  rintro m i g1 le ⟨h1, h2⟩
  refine ifLt (fun q g2 m2 => ⟨⟨by omega, by omega⟩, ?_⟩) (fun q g5 _ => rfl)
  obtain ⟨j, rfl⟩ : ∃ j : Nat, i = ((j + 1 : Nat) : Int) := ⟨(i - 1).toNat, by omega⟩
  have gx := List.getElem?_eq_getElem (show j + 1 < F.length by omega)
  have gy := List.getElem?_eq_getElem (show j < F.length by omega)
  have hlt : F[j] < F[j + 1] := List.pairwise_iff_getElem.1 hF j (j + 1) (by omega) (by omega) (by omega)
  generalize F[j + 1] = x at gx hlt
  generalize F[j] = y at gy hlt
  refine rdN ((h.mono le).exm m2) (j + 1) rfl gx ⟨i64 (by omega) (by omega), ⟨by omega, by omega⟩, rdN ((h.mono le).exm m2) j (by omega) gy ((k43 x y g2).mono ?_)⟩
  rintro v g3 _ rfl
  exact ⟨_, rfl, ifP (fun q => by omega) (fun _ => ⟨i64 (by omega) (by omega), m - 1, by omega, by omega, by omega⟩)⟩
/-- slices.Equal of numbers. -/
theorem k26 {xs ys : List Int} {a : Option Addr} {n c : Nat} {b : Option Addr} {m d : Nat} {g : G} (hx : SlE intE' g a n c xs) (hy : SlE intE' g b m d ys) : CallsP Tryd.prog 26 #[.slice a n c, .slice b m d] g fun v _ => v = .bool (tf (xs = ys)) := by
  refine call26 a n c b m d g _ ?_
  have hxl := hx.len
  have hyl := hy.len
  have hcap := hx.cap
  have hnc := hx.le
  unfold maxLen at hcap
  unfold F26
  refine ifNe (fun q g1 _ => vF (fun e => by rw [e] at hxl; omega)) (fun q => ?_)
  refine ⟨fun k i g' => ∃ j : Nat, i = ((j : Nat) : Int) ∧ j + k = n ∧ xs.take j = ys.take j, ⟨n, 0, rfl, by omega, rfl⟩, ?_⟩
  rintro k i g2 le ⟨j, rfl, hj, he⟩
  refine ifLt (fun q2 g3 m3 => ⟨⟨by omega, by omega⟩, ?_⟩) (fun q2 g5 _ => ?_)
  · have gx := List.getElem?_eq_getElem (show j < xs.length by omega)
    have gy := List.getElem?_eq_getElem (show j < ys.length by omega)
    generalize xs[j] = x at gx
    generalize ys[j] = y at gy
    refine rdN ((hx.mono le).exm m3) j rfl gx ⟨⟨by omega, by omega⟩, rdN ((hy.mono le).exm m3) j rfl gy (ifNe (fun e g4 _ => vF (fun h => e ?_)) (fun e => ⟨i64 (by omega) (by omega), k - 1, by omega, j + 1, by omega, by omega, take_eq_succ gx gy he e⟩))⟩
    rw [h, gy] at gx
    cases gx
    rfl
  · rw [List.take_of_length_le (by omega), List.take_of_length_le (by omega)] at he
    rw [tf_of he]
end Go.Proofs.YtfmjipgcbecamaaDoor
