/- Syntax trees: the fields of a node. -/
import Derived.Test.YtmakoecgogjemaaDoorC03d
set_option linter.unusedVariables false
namespace Go.Proofs.YtmakoecgogjemaaDoor
open Go Go.Vc Go.RowKit Go.Syn

/-- own. -/
theorem k50 (t : Sy) (w : Bool) {na : Option Addr} {nn nc : Nat} {a : Option Addr} {n c : Nat} {g : G} (ht : TabG g) (h : SynI g t na nn nc a n c) (hs : t.dat.s.length ≤ 1048576) (hn : t.dat.names.length ≤ 1048576) :
    CallsP Tryd.prog 50 #[synV t na nn nc a n c, .bool w] g fun v _ => v = .bool (tf (ownP t.dat w)) := by
  refine call50 _ _ _ _ _ _ _ _ _ w g _ ?_
  have hl := h.names.len
  unfold F50
  generalize hd : t.dat = d at *
  refine fun g1 m1 => (k41 d.op g1).mono ?_
  rintro v g2 m2 rfl
  refine ⟨_, _, _, rfl, ?_⟩
  have m02 := m1.trans m2
  intro J hJ
  -- the fields are right
  have key : bareP d → ∀ g3, Ex g2 g3 → J g3 := by
    intro hb g3 m3
    have m03 := m02.trans m3
    have ht3 := ht.exm m03
    have hN := h.names.exm m03
    rw [hd] at hN
    refine hJ g3 ?_
    have vB : ∀ {p : Prop}, (p ↔ ownB d w) → Value.bool (tf p) = .bool (tf (ownP d w)) := fun hp => vP ⟨fun hh => ⟨hb, hp.1 hh⟩, fun hh => hp.2 hh.2⟩
    have vO : ∀ {x : Bool}, (x = true ↔ ownB d w) → Value.bool x = .bool (tf (ownP d w)) := fun hp => by rw [← vB hp, tf_bool]
    refine ifEq (fun h1 => (k56 d.s g3).mono ?_) (fun n1 => ?_)
    · rintro v g4 _ rfl
      exact ⟨_, rfl, fun g5 _ => vB (by unfold ownB; rw [if_pos h1])⟩
    have b1 : ∀ {p q : Prop}, (q ↔ p) → (q ↔ if d.op = 1 then tvarP d.s else p) := fun hp => by rw [if_neg n1]; exact hp
    intro J1 hJ1
    refine oneOf [2, 23, 66, 74] (hJ1 _ _ ?_)
    refine ifP (fun h2 => (k57 d.names true ht3 hN).mono ?_) (fun n2 => ?_)
    · rintro v g7 _ rfl
      exact ⟨_, rfl, fun g8 _ => vB (by unfold ownB; rw [if_neg n1, if_pos h2])⟩
    intro J2 hJ2
    refine oneOf [5, 14, 24, 34, 48, 49, 72, 82] (hJ2 _ _ ?_)
    refine ifP (fun h3 => (k57 d.names false ht3 hN).mono ?_) (fun n3 => ?_)
    · rintro v g7 _ rfl
      exact ⟨_, rfl, fun g8 _ => vB (by unfold ownB; rw [if_neg n1, if_neg n2, if_pos h3])⟩
    intro J3 hJ3
    refine oneOf [12, 41, 61] (hJ3 _ _ ?_)
    refine ifP (fun h4 => (k58 d.s g3 ht3).mono ?_) (fun n4 => ?_)
    · rintro v g7 _ rfl
      exact ⟨_, rfl, fun g8 _ => vB (by unfold ownB; rw [if_neg n1, if_neg n2, if_neg n3, if_pos h4])⟩
    have eB : ownB d w ↔ (if d.op = 13 then -4503599627370496 ≤ d.n ∧ d.n ≤ 4503599627370496 else if d.op = 21 then 0 ≤ d.n ∧ d.n ≤ 4503599627370496 else
  if d.op = 22 then plainP d.s else if d.op = 25 then d.s = [] ∨ lowerP d.s else if d.op = 32 then 1 ≤ d.n ∧ d.n ≤ 12 else
  if d.op = 42 then lowerP d.s ∧ 1 ≤ d.names.length ∧ d.names.length ≤ 9 ∧ ∀ x ∈ d.names, lowerP x else
  if d.op = 43 then ((w = true ∧ d.s = []) ∨ (w = false ∧ lowerP d.s)) ∧ paramsP d.names else if d.op ∈ [44, 62] then lowerP d.s ∧ paramsP d.names else
  if d.op ∈ [45, 46, 47, 50, 63, 64] then upperP d.s else if d.op ∈ [73, 83] then upperP d.s ∧ (d.n = 0 ∨ d.n = 1) else True) := by
      unfold ownB
      rw [if_neg n1, if_neg n2, if_neg n3, if_neg n4]
    refine ifEq (fun h5 => ?_) (fun n5 => ?_)
    · rw [if_pos h5] at eB
      refine ifLe (fun q1 g15 _ => ?_) (fun q1 g16 _ => ?_)
      · rw [tf_le]; exact vB ⟨fun hh => eB.2 ⟨by omega, hh⟩, fun hh => (eB.1 hh).2⟩
      · exact vO ⟨fun hh => (by cases hh), fun hh => by have := (eB.1 hh).1; omega⟩
    rw [if_neg n5] at eB
    refine ifEq (fun h5 => ?_) (fun n5 => ?_)
    · rw [if_pos h5] at eB
      refine ifLe (fun q1 g15 _ => ?_) (fun q1 g16 _ => ?_)
      · rw [tf_le]; exact vB ⟨fun hh => eB.2 ⟨by omega, hh⟩, fun hh => (eB.1 hh).2⟩
      · exact vO ⟨fun hh => (by cases hh), fun hh => by have := (eB.1 hh).1; omega⟩
    rw [if_neg n5] at eB
    refine ifEq (fun h5 => (k59 d.s g3 hs).mono ?_) (fun n5 => ?_)
    · rw [if_pos h5] at eB
      rintro v g7 _ rfl
      exact ⟨_, rfl, fun g8 _ => vB eB.symm⟩
    rw [if_neg n5] at eB
    refine ifEq (fun h5 => ?_) (fun n5 => ?_)
    · rw [if_pos h5] at eB
      rw [show bs [] = bstr [] from rfl, strEq_bstr]
      refine ifP (fun q1 g8 _ => vO ⟨fun _ => eB.2 (.inl q1), fun _ => rfl⟩) (fun q1 => (k58 d.s g3 ht3).mono ?_)
      rintro v g7 _ rfl
      exact ⟨_, rfl, fun g8 _ => vB ⟨fun hh => eB.2 (.inr hh), fun hh => (eB.1 hh).resolve_left q1⟩⟩
    rw [if_neg n5] at eB
    refine ifEq (fun h5 => ?_) (fun n5 => ?_)
    · rw [if_pos h5] at eB
      refine ifLe (fun q1 g15 _ => ?_) (fun q1 g16 _ => ?_)
      · rw [tf_le]; exact vB ⟨fun hh => eB.2 ⟨by omega, hh⟩, fun hh => (eB.1 hh).2⟩
      · exact vO ⟨fun hh => (by cases hh), fun hh => by have := (eB.1 hh).1; omega⟩
    rw [if_neg n5] at eB
    refine ifEq (fun h5 => (k58 d.s g3 ht3).mono ?_) (fun n5 => ?_)
    · rw [if_pos h5] at eB
      rintro v g26 m26 rfl
      refine ⟨_, rfl, ifP (fun q1 => ifLe (fun q2 => ifLe (fun q3 => ?_) (fun q3 g29 _ => ?_)) (fun q2 g30 _ => ?_)) (fun q1 g31 _ => ?_)⟩
      · refine (k35 60 #[] (fun s => ¬ lowerP s) d.names (hN.exm m26) (by omega) ⟨_, Tryd.func60, by kernel_rfl, by kernel_rfl⟩ (fun g' le s _ => k60 s g' ((ht3.exm m26).mono le))).mono ?_
        rintro v g27 _ rfl
        refine ⟨_, rfl, fun g28 _ => ?_⟩
        rw [tf_not]
        exact vB ⟨fun hh => eB.2 ⟨q1, by omega, by omega, fun x hx => Classical.byContradiction fun hn => hh ⟨x, hx, hn⟩⟩, fun hh ⟨x, hx, hn⟩ => hn ((eB.1 hh).2.2.2 x hx)⟩
      · exact vO ⟨fun hh => (by cases hh), fun hh => by have := (eB.1 hh).2.2.1; omega⟩
      · exact vO ⟨fun hh => (by cases hh), fun hh => by have := (eB.1 hh).2.1; omega⟩
      · exact vO ⟨fun hh => (by cases hh), fun hh => absurd (eB.1 hh).1 q1⟩
    rw [if_neg n5] at eB
    refine ifEq (fun h5 => ?_) (fun n5 => ?_)
    · rw [if_pos h5] at eB
      rw [show bs [] = bstr [] from rfl, strEq_bstr]
      have low : w = false → CallsP Tryd.prog 58 #[.string (bstr d.s)] g3 fun v g34 => ∃ x : Bool, v = .bool x ∧ ifB x (CallsP Tryd.prog 61 #[.slice na nn nc] g34 fun v g35 => ∃ y : Bool, v = .bool y ∧ ∀ g36, Ex g35 g36 → Value.bool y = .bool (tf (ownP d w))) (∀ g37, Ex g34 g37 → Value.bool false = .bool (tf (ownP d w))) := by
        intro hw
        refine (k58 d.s g3 ht3).mono ?_
        rintro v g34 m34 rfl
        refine ⟨_, rfl, ifP (fun q1 => (k61 d.names (hN.exm m34) (by omega)).mono ?_) (fun q1 g37 _ => vO ⟨fun hh => (by cases hh), fun hh => ?_⟩)⟩
        · rintro v g35 _ rfl
          exact ⟨_, rfl, fun g36 _ => vB ⟨fun hh => eB.2 ⟨.inr ⟨hw, q1⟩, hh⟩, fun hh => (eB.1 hh).2⟩⟩
        · rcases (eB.1 hh).1 with ⟨e, _⟩ | ⟨_, e⟩
          · rw [hw] at e; cases e
          · exact absurd e q1
      cases w with
      | true =>
        refine ifT (fun _ => ifP (fun q1 => (k61 d.names hN (by omega)).mono ?_) (fun q1 => ifT (fun hh => by cases hh) (fun _ g38 _ => vO ⟨fun hh => (by cases hh), fun hh => ?_⟩))) (fun hh => by cases hh)
        · rintro v g35 _ rfl
          exact ⟨_, rfl, fun g36 _ => vB ⟨fun hh => eB.2 ⟨.inl ⟨rfl, q1⟩, hh⟩, fun hh => (eB.1 hh).2⟩⟩
        · rcases (eB.1 hh).1 with ⟨_, e⟩ | ⟨e, _⟩
          · exact absurd e q1
          · cases e
      | false => exact ifT (fun hh => by cases hh) (fun _ => ifT (fun _ => low rfl) (fun hh => by cases hh))
    rw [if_neg n5] at eB
    intro J4 hJ4
    refine oneOf [44, 62] (hJ4 _ _ ?_)
    refine ifP (fun h5 => (k58 d.s g3 ht3).mono ?_) (fun n5 => ?_)
    · rw [if_pos h5] at eB
      rintro v g45 m45 rfl
      refine ⟨_, rfl, ifP (fun q1 => (k61 d.names (hN.exm m45) (by omega)).mono ?_) (fun q1 g48 _ => vO ⟨fun hh => (by cases hh), fun hh => absurd (eB.1 hh).1 q1⟩)⟩
      rintro v g46 _ rfl
      exact ⟨_, rfl, fun g47 _ => vB ⟨fun hh => eB.2 ⟨q1, hh⟩, fun hh => (eB.1 hh).2⟩⟩
    rw [if_neg n5] at eB
    intro J5 hJ5
    refine oneOf [45, 46, 47, 50, 63, 64] (hJ5 _ _ ?_)
    refine ifP (fun h5 => (k62 d.s g3).mono ?_) (fun n5 => ?_)
    · rw [if_pos h5] at eB
      rintro v g50 _ rfl
      exact ⟨_, rfl, fun g51 _ => vB eB.symm⟩
    rw [if_neg n5] at eB
    intro J6 hJ6
    refine oneOf [73, 83] (hJ6 _ _ ?_)
    refine ifP (fun h5 => (k62 d.s g3).mono ?_) (fun n5 g57 _ => ?_)
    · rw [if_pos h5] at eB
      rintro v g53 _ rfl
      refine ⟨_, rfl, ifP (fun q1 => ifEq (fun q2 g54 _ => vO ⟨fun _ => eB.2 ⟨q1, .inl q2⟩, fun _ => rfl⟩) (fun q2 g55 _ => ?_)) (fun q1 g56 _ => vO ⟨fun hh => (by cases hh), fun hh => absurd (eB.1 hh).1 q1⟩)⟩
      rw [tf_eq]
      exact vB ⟨fun hh => eB.2 ⟨q1, .inr hh⟩, fun hh => (eB.1 hh).2.resolve_left q2⟩
    · rw [if_neg n5] at eB
      exact vO ⟨fun _ => eB.2 trivial, fun _ => rfl⟩
  have no : ¬ bareP d → Value.bool false = .bool (tf (ownP d w)) := fun hh => vF (fun h2 => hh h2.1)
  have hnl : ((0 : Int) < ((nn : Nat) : Int)) ↔ ¬ d.names = [] := by
    rw [← hl]
    cases d.names with
    | nil => simp
    | cons x r => simp
  rw [show bs [] = bstr [] from rfl, strEq_bstr]
  -- the third test
  have last : ((¬ usesN d.op → d.n = 0) ∧ (¬ usesS d.op → d.s = [])) → ifB (!tf (usesL d.op)) (ifB (ltI 0 ((nn : Nat) : Int)) (∀ g60 : G, Ex g2 g60 → Value.bool false = .bool (tf (ownP d w))) (∀ g61 : G, Ex g2 g61 → J g61)) (∀ g62 : G, Ex g2 g62 → J g62) := by
    intro h12
    refine ifPn (fun q1 => ifLt (fun q2 g60 _ => no (fun hh => (hnl.1 q2) (hh.2.2 q1))) (fun q2 => key ⟨h12.1, h12.2, fun _ => ?_⟩)) (fun q1 => key ⟨h12.1, h12.2, fun hh => absurd q1 hh⟩)
    exact Classical.byContradiction fun hh => by have := hnl.2 hh; omega
  have mid : (¬ usesN d.op → d.n = 0) → ifB (!tf (usesS d.op)) (ifB (!tf (d.s = [])) (∀ g60 : G, Ex g2 g60 → Value.bool false = .bool (tf (ownP d w))) (ifB (!tf (usesL d.op)) (ifB (ltI 0 ((nn : Nat) : Int)) (∀ g60 : G, Ex g2 g60 → Value.bool false = .bool (tf (ownP d w))) (∀ g61 : G, Ex g2 g61 → J g61)) (∀ g62 : G, Ex g2 g62 → J g62))) (ifB (!tf (usesL d.op)) (ifB (ltI 0 ((nn : Nat) : Int)) (∀ g60 : G, Ex g2 g60 → Value.bool false = .bool (tf (ownP d w))) (∀ g61 : G, Ex g2 g61 → J g61)) (∀ g62 : G, Ex g2 g62 → J g62)) := by
    intro h1
    exact ifPn (fun q1 => ifPn (fun q2 g60 _ => no (fun hh => q2 (hh.2.1 q1))) (fun q2 => last ⟨h1, fun _ => q2⟩)) (fun q1 => last ⟨h1, fun hh => absurd q1 hh⟩)
  exact ifPn (fun q1 => ifNe (fun q2 g58 _ => no (fun hh => q2 (hh.1 q1))) (fun q2 => mid (fun _ => q2))) (fun q1 => mid (fun hh => absurd q1 hh))
end Go.Proofs.YtmakoecgogjemaaDoor
