/- LambdaLets. -/
import Derived.Test.YtfmjipgcbecamaaDoorC44o
import Derived.Test.YtfmjipgcbecamaaDoorLlets
set_option linter.unusedVariables false
namespace Go.Proofs.YtfmjipgcbecamaaDoor
open Go Go.Vc Go.RowKit Go.Syn Go.Lam Go.Sort

theorem same_shift {x y : E} {A B : Nat} (h : A ≤ B) (he : evalN B y [] B [] = evalN A x [] A []) (hn : (outO y B).op ≠ 3) : sameEndP (outO x B) (outO y B) := by
  have e : finN y B = finN x A := by unfold finN; rw [he]
  have e2 : (outO y B).op = (finN x A).op := by show (finN y B).op = _; rw [e]
  have e3 := (fin_rel x A B h).1 (by rw [← e2]; exact hn)
  rw [e3]
  unfold sameEndP outO
  rw [e]
  exact ⟨rfl, rfl, rfl, rfl⟩
theorem same_let {x y : E} (hn : (outO (mkE 5 0 [mkE 4 0 [y], x]) 6000).op ≠ 3) : sameEndP (outO (mkE 11 0 [x, y]) 6000) (outO (mkE 5 0 [mkE 4 0 [y], x]) 6000) :=
  same_shift (A := 5999) (by omega) (app_let x y 5998) hn
theorem same_switch {z y : E} (hn : (outO (mkE 9 0 [mkE 8 1 [mkE 6 0 []], z, y]) 6000).op ≠ 3) : sameEndP (outO (mkE 11 0 [mkE 6 0 [], y]) 6000) (outO (mkE 9 0 [mkE 8 1 [mkE 6 0 []], z, y]) 6000) :=
  same_shift (A := 5999) (by omega) (switch_let z y 5997) hn
theorem same_field {x z : E} (hn : (outO (mkE 7 0 [mkE 6 0 [x, mkE 4 0 [z]]]) 6000).op ≠ 3) : sameEndP (outO x 6000) (outO (mkE 7 0 [mkE 6 0 [x, mkE 4 0 [z]]]) 6000) := by
  have he := field_rec x z 5998
  have hr := fin_rel x 5998 6000 (by omega)
  have e0 : finN (mkE 7 0 [mkE 6 0 [x, mkE 4 0 [z]]]) 6000 = finR ((evalN 5998 x [] 5998 []).bind fun t left out => if left = 0 then .stop 3 0 0 out else .ok t (left - 1) out) := by unfold finN; rw [← he]; rfl
  have e1 : finN x 5998 = finR (evalN 5998 x [] 5998 []) := rfl
  have key : sameEndP (outO x 5998) (outO (mkE 7 0 [mkE 6 0 [x, mkE 4 0 [z]]]) 6000) := by
    unfold sameEndP outO at *
    simp only at hn ⊢
    rw [e0] at hn ⊢
    rw [e1]
    revert hn
    cases evalN 5998 x [] 5998 [] with
    | stop op code left out => exact fun _ => ⟨rfl, rfl, rfl, rfl⟩
    | ok t left out =>
      intro hn
      rw [Res.bind_ok] at hn ⊢
      by_cases q : left = 0
      · rw [if_pos q] at hn; exact absurd rfl hn
      · rw [if_neg q]
        cases ho : obsN 400 t 20000 with
        | none => rw [finR_none ho, finR_none ho]; exact ⟨rfl, rfl, rfl, rfl⟩
        | some p => obtain ⟨u, l2⟩ := p; rw [finR_some ho, finR_some ho]; exact ⟨rfl, rfl, rfl, rfl⟩
  have e3 := hr.1 (fun h => hn (by rw [← key.1]; exact h))
  rw [e3]
  exact key
theorem formE_mk {op n : Int} {l : List E} : formE (mkE op n l) ↔ nodeP ⟨op, n, []⟩ l ∧ ∀ y ∈ l, formE y := formE_iff
theorem i64_mk {op n : Int} {l : List E} (hn : n ≤ 9223372036854775807) (h : ∀ y ∈ l, i64E y) : i64E (mkE op n l) := by
  unfold mkE i64E
  exact ⟨hn, i64EL_iff.2 h⟩
/-- Let and application are closed alike. -/
theorem closed_let {x y : E} (hx : sizeE x ≤ 200 ∧ depthE x ≤ 60) (hy : sizeE y ≤ 200 ∧ depthE y ≤ 60) : closedE (mkE 11 0 [x, y]) ↔ formE x ∧ formE y ∧ scopedE 0 x ∧ scopedE 1 y := by
  have hs : scopedE 0 (mkE 11 0 [x, y]) ↔ scopedE 0 x ∧ scopedE 1 y := by
    simp only [scopedE, mkE, FV, FVL, bndN]
    constructor
    · intro h
      refine ⟨fun i hi => h i (.inr (.inl (by simpa using hi))), fun i hi => ?_⟩
      by_cases q : i = 0
      · omega
      · have := h (i - 1) (.inr (.inr (.inl (by simp; rw [show i - 1 + 1 = i by omega]; exact hi))))
        omega
    · rintro ⟨h1, h2⟩ i hi
      simp at hi
      rcases hi with hi | hi
      · exact h1 i hi
      · have := h2 (i + 1) hi
        omega
  unfold closedE validE
  rw [hs, formE_mk]
  have hp : nodeP ⟨11, 0, []⟩ [x, y] := by simp [nodeP]
  have hz : sizeE (mkE 11 0 [x, y]) ≤ 20000 := by simp [mkE, sizeE, sizeEL]; omega
  have hd : depthE (mkE 11 0 [x, y]) ≤ 400 := by simp [mkE, depthE, depthEL]; omega
  constructor
  · rintro ⟨⟨⟨_, h⟩, _, _⟩, h3, h4⟩; exact ⟨h x (by simp), h y (by simp), h3, h4⟩
  · rintro ⟨h1, h2, h3, h4⟩
    refine ⟨⟨⟨hp, fun t ht => ?_⟩, hz, hd⟩, h3, h4⟩
    simp at ht
    rcases ht with rfl | rfl
    · exact h1
    · exact h2
theorem closed_app {x y : E} (hx : sizeE x ≤ 200 ∧ depthE x ≤ 60) (hy : sizeE y ≤ 200 ∧ depthE y ≤ 60) : closedE (mkE 5 0 [mkE 4 0 [y], x]) ↔ formE x ∧ formE y ∧ scopedE 0 x ∧ scopedE 1 y := by
  have hs : scopedE 0 (mkE 5 0 [mkE 4 0 [y], x]) ↔ scopedE 0 x ∧ scopedE 1 y := by
    simp only [scopedE, mkE, FV, FVL, bndN]
    constructor
    · intro h
      refine ⟨fun i hi => h i (by simp; exact .inr hi), fun i hi => ?_⟩
      by_cases q : i = 0
      · omega
      · have := h (i - 1) (by simp; exact .inl (by rw [show i - 1 + 1 = i by omega]; exact hi))
        omega
    · rintro ⟨h1, h2⟩ i hi
      simp at hi
      rcases hi with hi | hi
      · have := h2 (i + 1) hi
        omega
      · exact h1 i hi
  unfold closedE validE
  rw [hs, formE_mk]
  have hp : nodeP ⟨5, 0, []⟩ [mkE 4 0 [y], x] := by simp [nodeP]
  have hp4 : nodeP ⟨4, 0, []⟩ [y] := by simp [nodeP]
  have hz : sizeE (mkE 5 0 [mkE 4 0 [y], x]) ≤ 20000 := by simp [mkE, sizeE, sizeEL]; omega
  have hd : depthE (mkE 5 0 [mkE 4 0 [y], x]) ≤ 400 := by simp [mkE, depthE, depthEL]; omega
  constructor
  · rintro ⟨⟨⟨_, h⟩, _, _⟩, h3, h4⟩; exact ⟨h x (by simp), (formE_mk.1 (h (mkE 4 0 [y]) (by simp))).2 y (by simp), h3, h4⟩
  · rintro ⟨h1, h2, h3, h4⟩
    refine ⟨⟨⟨hp, fun t ht => ?_⟩, hz, hd⟩, h3, h4⟩
    simp at ht
    rcases ht with rfl | rfl
    · exact formE_mk.2 ⟨hp4, fun t ht => by simp at ht; rw [ht]; exact h2⟩
    · exact h1
end Go.Proofs.YtfmjipgcbecamaaDoor
