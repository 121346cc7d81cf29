/- Sorted and compacted: the strings of a list, ascending; when a list has a string twice. -/
import Derived.Test.YtmkdbndniffkfaaDoorSfree
import Derived.Test.YtmkdbndniffkfaaDoorVrow
set_option linter.unusedVariables false
namespace Go.Syn
open Go Go.Vc

theorem insS_same {s : Lab} {l : List Lab} (h : Srt l) (hm : s ∈ l) : insS s l = l := srt_eq (srt_insS h) h (fun z => by
  rw [mem_insS]
  exact ⟨fun hh => hh.elim (fun e => e ▸ hm) id, .inr⟩)
theorem insS_more {s : Lab} : ∀ {l : List Lab}, s ∉ l → (insS s l).length = l.length + 1
  | [], _ => rfl
  | x :: r, h => by
    unfold insS
    split
    · simp only [List.length_cons]
      rw [insS_more (fun hh => h (by simp [hh]))]
    · split
      · rename_i e
        exact absurd (by simp [e]) h
      · rfl
theorem insS_ln (s : Lab) : ∀ (L : List Lab), (insS s L).length ≤ L.length + 1
  | [] => Nat.le_refl _
  | x :: r => by
    have := insS_ln s r
    unfold insS
    repeat' split
    all_goals simp only [List.length_cons]
    all_goals omega
theorem sortS_ln : ∀ (L : List Lab), (sortS L).length ≤ L.length
  | [] => Nat.le_refl _
  | x :: r => by
    have h1 := insS_ln x (sortS r)
    have h2 := sortS_ln r
    show (insS x (sortS r)).length ≤ r.length + 1
    omega
/-- A list without doubles is as long as it is sorted. -/
theorem sortS_nodup : ∀ (L : List Lab), (sortS L).length = L.length ↔ L.Nodup
  | [] => by simp [sortS]
  | x :: r => by
    have h1 := sortS_ln r
    have ih := sortS_nodup r
    show (insS x (sortS r)).length = r.length + 1 ↔ _
    rw [List.nodup_cons]
    by_cases hx : x ∈ r
    · rw [insS_same (srt_sortS r) (mem_sortS.2 hx)]
      constructor
      · intro h; omega
      · exact fun h => absurd hx h.1
    · rw [insS_more (fun hh => hx (mem_sortS.1 hh)), ← ih]
      constructor
      · intro h; exact ⟨hx, by omega⟩
      · intro h; omega
end Go.Syn
