/- Scope: what is free where more is bound; trees at a smaller depth. -/
import Derived.Test.YtkocjbgdmocmlaaGreatDoorScomp
set_option linter.unusedVariables false
namespace Go.Syn
open Go Go.Vc

theorem mem_own (d : SynD) (B : List Lab) (s : Lab) : s ∈ ownRef d B ↔ refersO d = some s ∧ s ∉ B := by
  unfold ownRef
  cases h : refersO d with
  | none => simp
  | some x =>
    show s ∈ (if x ∈ B then [] else [x]) ↔ _
    by_cases q : x ∈ B
    · rw [if_pos q]
      constructor
      · intro hh; cases hh
      · rintro ⟨h1, h2⟩; cases h1; exact absurd q h2
    · rw [if_neg q]
      constructor
      · intro hh; cases List.mem_singleton.1 hh; exact ⟨rfl, q⟩
      · rintro ⟨h1, h2⟩; cases h1; simp
theorem free_more : ∀ (t : Sy) (B C : List Lab) (s : Lab), s ∈ freeT t (B ++ C) ↔ s ∈ freeT t B ∧ s ∉ C := by
  intro t
  induction t using Tr.ind with
  | h d l ih =>
    intro B C s
    have hL : ∀ (k : List Sy), (∀ x ∈ k, x ∈ l) → ∀ D : List Lab, (s ∈ freeL k d (D ++ C) ↔ s ∈ freeL k d D ∧ s ∉ C) := by
      intro k
      induction k with
      | nil => intro _ D; simp [freeL]
      | cons x r ihk =>
        intro hm D
        show s ∈ freeT x (D ++ C) ++ freeL r d (D ++ C ++ addOf d x) ↔ s ∈ freeT x D ++ freeL r d (D ++ addOf d x) ∧ s ∉ C
        have e : freeL r d (D ++ C ++ addOf d x) = freeL r d (D ++ addOf d x ++ C) := by
          have key : ∀ (k : List Sy) (E E' : List Lab), (∀ z, z ∈ E ↔ z ∈ E') → freeL k d E = freeL k d E' := by
            intro k
            induction k with
            | nil => intros; rfl
            | cons y k ihy =>
              intro E E' hE
              show freeT y E ++ freeL k d (E ++ addOf d y) = freeT y E' ++ freeL k d (E' ++ addOf d y)
              rw [free_congr y hE, ihy (E ++ addOf d y) (E' ++ addOf d y) (fun z => by rw [List.mem_append, List.mem_append, hE z])]
          exact key r _ _ (fun z => by simp only [List.mem_append]; constructor <;> (rintro ((h | h) | h) <;> simp [h]))
        rw [e, List.mem_append, List.mem_append, ih x (hm x (by simp)) D C s, ihk (fun y hy => hm y (by simp [hy])) (D ++ addOf d x)]
        constructor
        · rintro (⟨h1, h2⟩ | ⟨h1, h2⟩)
          · exact ⟨.inl h1, h2⟩
          · exact ⟨.inr h1, h2⟩
        · rintro ⟨h1 | h1, h2⟩
          · exact .inl ⟨h1, h2⟩
          · exact .inr ⟨h1, h2⟩
    show s ∈ ownRef d (B ++ C) ++ freeL l d (B ++ C ++ extra d) ↔ s ∈ ownRef d B ++ freeL l d (B ++ extra d) ∧ s ∉ C
    have e : freeL l d (B ++ C ++ extra d) = freeL l d (B ++ extra d ++ C) := by
      have key : ∀ (k : List Sy) (E E' : List Lab), (∀ z, z ∈ E ↔ z ∈ E') → freeL k d E = freeL k d E' := by
        intro k
        induction k with
        | nil => intros; rfl
        | cons y k ihy =>
          intro E E' hE
          show freeT y E ++ freeL k d (E ++ addOf d y) = freeT y E' ++ freeL k d (E' ++ addOf d y)
          rw [free_congr y hE, ihy (E ++ addOf d y) (E' ++ addOf d y) (fun z => by rw [List.mem_append, List.mem_append, hE z])]
      exact key l _ _ (fun z => by simp only [List.mem_append]; constructor <;> (rintro ((h | h) | h) <;> simp [h]))
    rw [e, List.mem_append, List.mem_append, hL l (fun _ h => h) (B ++ extra d), mem_own, mem_own, List.mem_append]
    constructor
    · rintro (⟨h1, h2⟩ | ⟨h1, h2⟩)
      · exact ⟨.inl ⟨h1, fun hh => h2 (.inl hh)⟩, fun hh => h2 (.inr hh)⟩
      · exact ⟨.inr h1, h2⟩
    · rintro ⟨⟨h1, h2⟩ | h1, h3⟩
      · exact .inl ⟨h1, fun hh => hh.elim h2 h3⟩
      · exact .inr ⟨h1, h3⟩
theorem walk_down : ∀ (t : Sy) (w : Bool) (n m : Nat), m ≤ n → walkP t w n → walkP t w m := by
  intro t
  induction t using Tr.ind with
  | h d l ih =>
    intro w n m hmn h
    obtain ⟨h1, h2, h3, h4⟩ := walk_iff.1 h
    exact walk_iff.2 ⟨by omega, h2, h3, fun x hx => ih x hx _ (n + 1) (m + 1) (by omega) (h4 x hx)⟩
end Go.Syn
