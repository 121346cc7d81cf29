/- Sorted and compacted: the strings of a list, ascending; when a list has a string twice. -/
import Derived.Test.YtkocjbgdmocmlaaGreatDoorSfree
import Derived.Test.YtkocjbgdmocmlaaGreatDoorVrow
set_option linter.unusedVariables false
namespace Go.Syn
open Go Go.Vc

theorem insS_same {s : Lab} {l : List Lab} (h : Srt l) (hm : s ∈ l) : insS s l = l := srt_eq (srt_insS h) h (fun z => by
  rw [mem_insS]
  exact ⟨fun hh => hh.elim (fun e => e ▸ hm) id, .inr⟩)
theorem insS_more {s : Lab} : ∀ {l : List Lab}, s ∉ l → (insS s l).length = l.length + 1
  | [], _ => rfl
  | x :: r, h => by
    unfold insS
    split
    · simp only [List.length_cons]
      rw [insS_more (fun hh => h (by simp [hh]))]
    · split
      · rename_i e
        exact absurd (by simp [e]) h
      · rfl
theorem insS_ln (s : Lab) : ∀ (L : List Lab), (insS s L).length ≤ L.length + 1
  | [] => Nat.le_refl _
  | x :: r => by
    have := insS_ln s r
    unfold insS
    repeat' split
    all_goals simp only [List.length_cons]
    all_goals omega
theorem sortS_ln : ∀ (L : List Lab), (sortS L).length ≤ L.length
  | [] => Nat.le_refl _
  | x :: r => by
    have h1 := insS_ln x (sortS r)
    have h2 := sortS_ln r
    show (insS x (sortS r)).length ≤ r.length + 1
    omega
/-- A list without doubles is as long as it is sorted. -/
theorem sortS_nodup : ∀ (L : List Lab), (sortS L).length = L.length ↔ L.Nodup
  | [] => by simp [sortS]
  | x :: r => by
    have h1 := sortS_ln r
    have ih := sortS_nodup r
    show (insS x (sortS r)).length = r.length + 1 ↔ _
    rw [List.nodup_cons]
    by_cases hx : x ∈ r
    · rw [insS_same (srt_sortS r) (mem_sortS.2 hx)]
      constructor
      · intro h; omega
      · exact fun h => absurd hx h.1
    · rw [insS_more (fun hh => hx (mem_sortS.1 hh)), ← ih]
      constructor
      · intro h; exact ⟨hx, by omega⟩
      · intro h; omega
theorem comp_srt (l : List Lab) (hs : l.Pairwise (· ≤ ·)) : ∀ m, m ≤ l.length → Srt (Lib.compactUpTo l.toArray m) ∧ ∀ x, x ∈ Lib.compactUpTo l.toArray m ↔ x ∈ l.take m
  | 0, _ => ⟨List.Pairwise.nil, fun x => by simp [Lib.compactUpTo]⟩
  | m + 1, hm => by
    obtain ⟨h1, h2⟩ := comp_srt l hs m (by omega)
    have gm := List.getElem?_eq_getElem (show m < l.length by omega)
    have em : l.toArray[m]! = l[m]'(by omega) := by simp [getElem!_pos, show m < l.length by omega]
    have ht : l.take (m + 1) = l.take m ++ [l[m]'(by omega)] := by rw [List.take_add_one, gm]; rfl
    rw [Lib.compactUpTo_succ, em, ht]
    by_cases hk : m = 0 ∨ l.toArray[m]! ≠ l.toArray[m - 1]!
    · have hkt : Lib.keeps l.toArray m = true := by
        rcases hk with rfl | hk
        · exact Lib.keeps_lt_one _ _ (by omega)
        · exact Lib.keeps_pos hk
      rw [if_pos hkt]
      refine ⟨List.pairwise_append.2 ⟨h1, List.pairwise_singleton _ _, ?_⟩, fun x => by rw [List.mem_append, List.mem_append, h2 x]⟩
      intro x hx y hy
      cases List.mem_singleton.1 hy
      obtain ⟨i, hi, hxi⟩ := List.getElem_of_mem ((h2 x).1 hx)
      rw [List.length_take] at hi
      rw [List.getElem_take] at hxi
      rcases hk with rfl | hk
      · omega
      rw [em, show l.toArray[m - 1]! = l[m - 1]'(by omega) by simp [getElem!_pos, show m - 1 < l.length by omega]] at hk
      have p1 : l[m - 1]'(by omega) ≤ l[m]'(by omega) := List.pairwise_iff_getElem.1 hs (m - 1) m (by omega) (by omega) (by omega)
      have p2 : x ≤ l[m - 1]'(by omega) := by
        rcases Nat.lt_or_ge i (m - 1) with h | h
        · rw [← hxi]; exact List.pairwise_iff_getElem.1 hs i (m - 1) (by omega) (by omega) h
        · have : i = m - 1 := by omega
          subst this
          rw [← hxi]; exact List.le_refl _
      rw [klt_iff]
      have p3 : l[m - 1]'(by omega) < l[m]'(by omega) := by
        rcases Classical.em (l[m - 1]'(by omega) < l[m]'(by omega)) with h | h
        · exact h
        · exact absurd (List.le_antisymm (List.not_lt.1 h) p1) hk
      exact List.lt_of_le_of_lt p2 p3
    · have hm0 : 0 < m := by omega
      have he : l.toArray[m]! = l.toArray[m - 1]! := Classical.not_not.1 (fun hh => hk (.inr hh))
      rw [if_neg (by rw [Lib.keeps_neg hm0 he]; simp), List.append_nil]
      refine ⟨h1, fun x => ?_⟩
      rw [h2 x, List.mem_append, List.mem_singleton]
      constructor
      · exact .inl
      · rintro (h | h)
        · exact h
        · rw [em, show l.toArray[m - 1]! = l[m - 1]'(by omega) by simp [getElem!_pos, show m - 1 < l.length by omega]] at he
          rw [h, he]
          exact List.mem_take_iff_getElem.2 ⟨m - 1, by omega, rfl⟩
theorem compact_sorted (L : List Lab) : Lib.compact (L.mergeSort fun x y => decide (x ≤ y)) = sortS L := by
  have hp := List.mergeSort_perm L (fun x y => decide (x ≤ y))
  have hs : (L.mergeSort fun x y => decide (x ≤ y)).Pairwise (· ≤ ·) := by
    have := List.pairwise_mergeSort (le := fun (x y : Lab) => decide (x ≤ y)) (fun a b c h1 h2 => by
      simp only [decide_eq_true_eq] at *
      exact List.le_trans h1 h2) (fun a b => by
      simp only [Bool.or_eq_true, decide_eq_true_eq]
      exact List.le_total a b) L
    exact this.imp fun h => by simpa using h
  obtain ⟨h1, h2⟩ := comp_srt _ hs _ (Nat.le_refl _)
  refine srt_eq h1 (srt_sortS L) (fun x => ?_)
  show x ∈ Lib.compactUpTo _ _ ↔ _
  rw [h2 x, List.take_length, mem_sortS]
  exact hp.mem_iff
end Go.Syn
