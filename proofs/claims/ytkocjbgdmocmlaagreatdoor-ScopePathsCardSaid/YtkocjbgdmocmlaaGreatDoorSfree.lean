/- Scope: what is free depends on which labels are bound, and on nothing else. -/
import Derived.Test.YtkocjbgdmocmlaaGreatDoorSsort
set_option linter.unusedVariables false
namespace Go.Syn
open Go Go.Vc

theorem own_congr (d : SynD) {B B' : List Lab} (h : ∀ x, x ∈ B ↔ x ∈ B') : ownRef d B = ownRef d B' := by
  unfold ownRef
  split
  · rfl
  · rename_i s _
    by_cases q : s ∈ B
    · rw [if_pos q, if_pos ((h s).1 q)]
    · rw [if_neg q, if_neg (fun hh => q ((h s).2 hh))]
theorem free_congr : ∀ (t : Sy) {B B' : List Lab}, (∀ x, x ∈ B ↔ x ∈ B') → freeT t B = freeT t B' := by
  intro t
  induction t using Tr.ind with
  | h d l ih =>
    intro B B' h
    show ownRef d B ++ freeL l d (B ++ extra d) = ownRef d B' ++ freeL l d (B' ++ extra d)
    rw [own_congr d h]
    congr 1
    have key : ∀ (k : List Sy), (∀ x ∈ k, x ∈ l) → ∀ (C C' : List Lab), (∀ x, x ∈ C ↔ x ∈ C') → freeL k d C = freeL k d C' := by
      intro k
      induction k with
      | nil => intro _ C C' _; rfl
      | cons t r ihk =>
        intro hm C C' hC
        show freeT t C ++ freeL r d (C ++ addOf d t) = freeT t C' ++ freeL r d (C' ++ addOf d t)
        rw [ih t (hm t (by simp)) hC, ihk (fun x hx => hm x (by simp [hx])) (C ++ addOf d t) (C' ++ addOf d t) (fun x => by rw [List.mem_append, List.mem_append, hC x])]
    exact key l (fun _ h => h) _ _ (fun x => by rw [List.mem_append, List.mem_append, h x])
end Go.Syn
