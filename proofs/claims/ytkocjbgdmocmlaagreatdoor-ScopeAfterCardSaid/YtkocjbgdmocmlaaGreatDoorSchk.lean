/- Scope: the first error of a tree. -/
import Derived.Test.YtkocjbgdmocmlaaGreatDoorScomp
set_option linter.unusedVariables false
namespace Go.Syn
open Go Go.Vc

mutual
/-- The type variables of a tree. -/
def varsT : Sy → List Lab
  | .mk d l => (if d.op = 1 then [d.s] else []) ++ varsL l
def varsL : List Sy → List Lab
  | [] => []
  | t :: r => varsT t ++ varsL r
end
theorem varsL_append (a b : List Sy) : varsL (a ++ b) = varsL a ++ varsL b := by
  induction a with
  | nil => rfl
  | cons x r ih => simp [varsL, ih]
theorem varsL_take {l : List Sy} {j : Nat} {t : Sy} (h : l[j]? = some t) : varsL (l.take (j + 1)) = varsL (l.take j) ++ varsT t := by
  rw [List.take_add_one, h, varsL_append]
  simp [varsL]
theorem varsL_len : ∀ (l : List Sy), (∀ x ∈ l, (varsT x).length ≤ size x) → (varsL l).length ≤ sizeL l
  | [], _ => Nat.le_refl _
  | t :: r, h => by
    have h1 := h t (by simp)
    have h2 := varsL_len r (fun x hx => h x (by simp [hx]))
    simp only [varsL, sizeL, List.length_append]
    omega
theorem vars_len (t : Sy) : (varsT t).length ≤ size t := by
  induction t using Tr.ind with
  | h d l ih =>
    have := varsL_len l ih
    show ((if d.op = 1 then [d.s] else []) ++ varsL l).length ≤ sizeL l + 1
    rw [List.length_append]
    split <;> simp <;> omega
theorem mem_varsL {l : List Sy} {s : Lab} : s ∈ varsL l ↔ ∃ x ∈ l, s ∈ varsT x := by
  induction l with
  | nil => simp [varsL]
  | cons t r ih => simp [varsL, ih]
/-- A node that binds something twice. -/
def badP (d : SynD) (l : List Sy) : Prop := (d.op = 30 ∧ ¬ (bindsT (l.getD 0 noSy)).Nodup) ∨ (d.op = 42 ∧ ¬ d.names.Nodup) ∨ (d.op = 71 ∧ ¬ (bindsL l).Nodup)
/-- The type variables that are permitted in a node's parts. -/
def nextV (d : SynD) (V : Lab → Prop) : Lab → Prop := if d.op = 43 ∨ d.op = 44 then (· ∈ d.names) else if d.op = 61 then fun _ => True else V
mutual
noncomputable def chk : Sy → (Lab → Prop) → Int
  | .mk d l, V => @ite _ (badP d l) (Classical.propDecidable _) 9 (@ite _ (d.op = 1 ∧ ¬ V d.s) (Classical.propDecidable _) 10 (chkL l (nextV d V)))
noncomputable def chkL : List Sy → (Lab → Prop) → Int
  | [], _ => 0
  | t :: r, V => if chk t V ≠ 0 then chk t V else chkL r V
end
noncomputable def chk0 (t : Sy) (root : Bool) (V : Lab → Prop) : Int := @ite _ (root = true ∧ catN t.dat.op = 2 ∧ ¬ (bindsT t).Nodup) (Classical.propDecidable _) 9 (chk t V)
theorem chk0_no (t : Sy) (V : Lab → Prop) : chk0 t false V = chk t V := by unfold chk0; rw [if_neg (fun h => by cases h.1)]
theorem chk_mk (d : SynD) (l : List Sy) (V : Lab → Prop) : chk (.mk d l) V = @ite _ (badP d l) (Classical.propDecidable _) 9 (@ite _ (d.op = 1 ∧ ¬ V d.s) (Classical.propDecidable _) 10 (chkL l (nextV d V))) := rfl
/-- The first error of the parts. -/
theorem chkL_take {l : List Sy} {j : Nat} {t : Sy} (h : l[j]? = some t) {V : Lab → Prop} (h0 : chkL (l.take j) V = 0) : chkL (l.take (j + 1)) V = chk t V ∧ (chk t V ≠ 0 → chkL l V = chk t V) := by
  induction l generalizing j with
  | nil => simp at h
  | cons x r ih =>
    cases j with
    | zero =>
      simp at h
      subst h
      refine ⟨?_, fun hne => ?_⟩
      · show (if chk x V ≠ 0 then chk x V else chkL [] V) = _
        split
        · rfl
        · rename_i hh; exact (Classical.not_not.1 hh).symm
      · show (if chk x V ≠ 0 then chk x V else chkL r V) = _
        rw [if_pos hne]
    | succ j =>
      have h' : r[j]? = some t := by simpa using h
      have h0' : (if chk x V ≠ 0 then chk x V else chkL (r.take j) V) = 0 := h0
      have hx : chk x V = 0 := by
        refine Classical.byContradiction fun hne => ?_
        rw [if_pos hne] at h0'
        exact hne h0'
      rw [if_neg (fun hh => hh hx)] at h0'
      obtain ⟨h1, h2⟩ := ih h' h0'
      refine ⟨?_, fun hne => ?_⟩
      · show (if chk x V ≠ 0 then chk x V else chkL (r.take (j + 1)) V) = _
        rw [if_neg (fun hh => hh hx)]
        exact h1
      · show (if chk x V ≠ 0 then chk x V else chkL r V) = _
        rw [if_neg (fun hh => hh hx)]
        exact h2 hne
theorem chk_congr (t : Sy) : ∀ {V V' : Lab → Prop}, (∀ s ∈ varsT t, (V s ↔ V' s)) → chk t V = chk t V' := by
  induction t using Tr.ind with
  | h d l ih =>
    intro V V' h
    rw [chk_mk, chk_mk]
    have hL : ∀ (k : List Sy), (∀ x ∈ k, x ∈ l) → ∀ (U U' : Lab → Prop), (∀ s ∈ varsL k, (U s ↔ U' s)) → chkL k U = chkL k U' := by
      intro k
      induction k with
      | nil => intros; rfl
      | cons x r ihk =>
        intro hm U U' hU
        have e1 := ih x (hm x (by simp)) (V := U) (V' := U') (fun s hs => hU s (by simp [varsL, hs]))
        have e2 := ihk (fun y hy => hm y (by simp [hy])) U U' (fun s hs => hU s (by simp [varsL, hs]))
        show (if chk x U ≠ 0 then chk x U else chkL r U) = (if chk x U' ≠ 0 then chk x U' else chkL r U')
        rw [e1, e2]
    have hv : varsT (.mk d l) = (if d.op = 1 then [d.s] else []) ++ varsL l := rfl
    have e : chkL l (nextV d V) = chkL l (nextV d V') := by
      refine hL l (fun _ hh => hh) _ _ (fun s hs => ?_)
      unfold nextV
      split
      · exact Iff.rfl
      · split
        · exact Iff.rfl
        · exact h s (by rw [hv, List.mem_append]; exact .inr hs)
    rw [e]
    by_cases hb : badP d l
    · rw [if_pos hb, if_pos hb]
    rw [if_neg hb, if_neg hb]
    by_cases h1 : d.op = 1
    · have hs := h d.s (by rw [hv, if_pos h1]; simp)
      by_cases hV : V d.s
      · rw [if_neg (fun hh => hh.2 hV), if_neg (fun hh => hh.2 (hs.1 hV))]
      · rw [if_pos ⟨h1, hV⟩, if_pos ⟨h1, fun hh => hV (hs.2 hh)⟩]
    · rw [if_neg (fun hh => h1 hh.1), if_neg (fun hh => h1 hh.1)]
/-- The type variables of a well-formed tree have the form of such. -/
theorem vars_form (t : Sy) : ∀ {w : Bool} {n : Nat}, walkP t w n → ∀ s ∈ varsT t, tvarP s := by
  induction t using Tr.ind with
  | h d l ih =>
    intro w n hw s hs
    obtain ⟨_, h2, _, h4⟩ := walk_iff.1 hw
    have hv : varsT (.mk d l) = (if d.op = 1 then [d.s] else []) ++ varsL l := rfl
    rw [hv, List.mem_append] at hs
    rcases hs with hs | hs
    · split at hs
      · rename_i e
        have hb := h2.2
        unfold ownB at hb
        rw [if_pos (show (Tr.mk d l).dat.op = 1 from e)] at hb
        cases List.mem_singleton.1 hs
        exact hb
      · cases hs
    · obtain ⟨x, hx, hsx⟩ := mem_varsL.1 hs
      exact ih x hx (h4 x hx) s hsx
end Go.Syn
