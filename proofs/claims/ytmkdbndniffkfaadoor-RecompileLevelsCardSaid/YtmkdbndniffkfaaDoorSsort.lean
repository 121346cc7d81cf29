/- Ascending lists of strings without doubles. -/
import Derived.Test.YtmkdbndniffkfaaDoorSscope
import Derived.Sort.Walk0
set_option linter.unusedVariables false
namespace Go.Syn
open Go Go.Vc

/-- One string is below another. -/
def klt (a b : Lab) : Prop := Op.bytesLess a b = true
noncomputable instance (a b : Lab) : Decidable (klt a b) := Classical.propDecidable _
theorem strLt_klt (a b : Lab) : strLt (bstr a) (bstr b) = tf (klt a b) := by
  unfold strLt klt tf bstr
  simp
theorem klt_irr : ∀ (a : Lab), Op.bytesLess a a = false
  | [] => rfl
  | x :: r => by simp [Op.bytesLess, klt_irr r]
theorem klt_iff (x y : Lab) : klt x y ↔ x < y := by unfold klt; rw [Go.Proofs.bytesLess_eq]; simp
theorem klt_trans {x y z : Lab} (h : klt x y) (k : klt y z) : klt x z := by
  rw [klt_iff] at *; exact List.lt_trans h k
theorem klt_ne {x y : Lab} (h : klt x y) : x ≠ y := by
  rintro rfl
  rw [klt, klt_irr] at h
  cases h
theorem klt_tri {x y : Lab} (h : ¬ klt x y) (hne : x ≠ y) : klt y x := by
  rw [klt_iff] at *
  rcases List.le_total y x with h1 | h1
  · rcases Classical.em (y < x) with h2 | h2
    · exact h2
    · exact absurd (List.le_antisymm (List.not_lt.1 h2) h1) hne
  · exact absurd (List.le_antisymm h1 (List.not_lt.1 h)) hne
def Srt (l : List Lab) : Prop := l.Pairwise klt
/-- Sorted lists with the same members are equal. -/
theorem srt_eq {l m : List Lab} (hl : Srt l) (hm : Srt m) (h : ∀ x, x ∈ l ↔ x ∈ m) : l = m := by
  unfold Srt at *
  induction l generalizing m with
  | nil =>
    cases m with
    | nil => rfl
    | cons y m => exact absurd ((h y).2 (by simp)) (by simp)
  | cons x l ih =>
    cases m with
    | nil => exact absurd ((h x).1 (by simp)) (by simp)
    | cons y m =>
      obtain ⟨h1, h2⟩ := List.pairwise_cons.1 hl
      obtain ⟨h3, h4⟩ := List.pairwise_cons.1 hm
      have exy : x = y := by
        rcases List.mem_cons.1 ((h x).1 (by simp)) with e | hx
        · exact e
        · rcases List.mem_cons.1 ((h y).2 (by simp)) with e | hy
          · exact e.symm
          · exact absurd rfl (klt_ne (klt_trans (h1 y hy) (h3 x hx)))
      subst exy
      congr 1
      refine ih h2 h4 (fun z => ?_)
      constructor
      · intro hz
        rcases List.mem_cons.1 ((h z).1 (by simp [hz])) with rfl | hz'
        · exact absurd rfl (klt_ne (h1 z hz))
        · exact hz'
      · intro hz
        rcases List.mem_cons.1 ((h z).2 (by simp [hz])) with rfl | hz'
        · exact absurd rfl (klt_ne (h3 z hz))
        · exact hz'
/-- A string more. -/
noncomputable def insS (s : Lab) : List Lab → List Lab
  | [] => [s]
  | x :: r => if klt x s then x :: insS s r else if x = s then x :: r else s :: x :: r
theorem mem_insS {s x : Lab} : ∀ {l : List Lab}, x ∈ insS s l ↔ x = s ∨ x ∈ l
  | [] => by simp [insS]
  | y :: r => by
    unfold insS
    split
    · rw [List.mem_cons, mem_insS, List.mem_cons]
      constructor
      · rintro (h | h | h)
        · exact .inr (.inl h)
        · exact .inl h
        · exact .inr (.inr h)
      · rintro (h | h | h)
        · exact .inr (.inl h)
        · exact .inl h
        · exact .inr (.inr h)
    · split
      · rename_i e
        rw [List.mem_cons]
        constructor
        · exact .inr
        · rintro (h | h)
          · exact .inl (h.trans e.symm)
          · exact h
      · rw [List.mem_cons]
theorem srt_insS {s : Lab} : ∀ {l : List Lab}, Srt l → Srt (insS s l)
  | [], _ => List.pairwise_singleton _ _
  | y :: r, h => by
    obtain ⟨h1, h2⟩ := List.pairwise_cons.1 h
    unfold insS
    split
    · rename_i hlt
      refine List.pairwise_cons.2 ⟨fun z hz => ?_, srt_insS h2⟩
      rcases mem_insS.1 hz with rfl | hz
      · exact hlt
      · exact h1 z hz
    · rename_i hlt
      split
      · exact h
      · rename_i hne
        have hs := klt_tri hlt hne
        refine List.pairwise_cons.2 ⟨fun z hz => ?_, h⟩
        rcases List.mem_cons.1 hz with rfl | hz
        · exact hs
        · exact klt_trans hs (h1 z hz)
/-- The strings of a list, ascending. -/
noncomputable def sortS : List Lab → List Lab
  | [] => []
  | x :: r => insS x (sortS r)
theorem mem_sortS {x : Lab} : ∀ {l : List Lab}, x ∈ sortS l ↔ x ∈ l
  | [] => Iff.rfl
  | y :: r => by rw [sortS, mem_insS, mem_sortS, List.mem_cons]
theorem srt_sortS : ∀ (l : List Lab), Srt (sortS l)
  | [] => List.Pairwise.nil
  | y :: r => srt_insS (srt_sortS r)
end Go.Syn
