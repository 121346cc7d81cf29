/- How many names the levels have. -/
import Derived.Test.YtmkdbndniffkfaaDoorSyb
import Derived.Test.YtmkdbndniffkfaaDoorScomp
set_option linter.unusedVariables false
namespace Go.Syn
open Go Go.Vc Go.RowKit

theorem sum_one (m : Nat) : ∀ k : Nat, ((List.range k).map fun n => if m = n then 1 else 0).sum = if m < k then 1 else 0
  | 0 => by simp
  | k + 1 => by
    rw [List.range_succ, List.map_append, List.sum_append, sum_one m k]
    by_cases h : m < k
    · rw [if_pos h, if_pos (by omega)]
      simp
      omega
    · rw [if_neg h]
      by_cases e : m = k
      · rw [if_pos (by omega)]; simp [e]
      · rw [if_neg (by omega)]; simp [e]
theorem sum_add (f g : Nat → Nat) : ∀ l : List Nat, (l.map fun n => f n + g n).sum = (l.map f).sum + (l.map g).sum
  | [] => rfl
  | x :: r => by
    have := sum_add f g r
    simp at this ⊢
    omega
theorem sum_rows (f : Lab → Nat) (k : Nat) : ∀ o : List Lab, (∀ s ∈ o, f s < k) → ((List.range k).map fun n => (rowAt f o n).length).sum = o.length
  | [], _ => by
    have : ∀ l : List Nat, (l.map fun n => (rowAt f [] n).length).sum = 0 := by
      intro l
      induction l with
      | nil => rfl
      | cons x r ih => rw [List.map_cons, List.sum_cons, ih]; rfl
    exact this _
  | s :: o, h => by
    have ih := sum_rows f k o (fun x hx => h x (by simp [hx]))
    have e : (fun n => (rowAt f (s :: o) n).length) = fun n => (if f s = n then 1 else 0) + (rowAt f o n).length := by
      funext n
      unfold rowAt
      rw [List.filter_cons]
      by_cases q : f s = n
      · simp [q]; omega
      · simp [q]
    rw [e, sum_add, sum_one, ih, if_pos (h s (by simp))]
    simp
    omega
theorem sort_rowlen {L : List UnitD} {o : List Lab} (h : Ordered L o) (f : Lab → Nat) (n : Nat) : (sortS (rowAt f o n)).length = (rowAt f o n).length :=
  (sortS_nodup _).2 (by unfold rowAt; exact h.af.nd.sublist List.filter_sublist)
/-- What RecompileLevels asks of the rows. -/
theorem levels_count {L : List UnitD} {o : List Lab} (h : Ordered L o) : ((levelsN L o).map List.length).sum = L.length := by
  have hs := sum_rows (levs L o) (levOf (levs L o) o) o (fun s hs => levOf_mem hs)
  rw [← h.len, ← hs]
  unfold levelsN rowsN
  rw [List.map_map, List.map_map]
  refine congrArg List.sum (List.map_congr_left fun n _ => ?_)
  exact sort_rowlen h _ n
theorem levels_row {L : List UnitD} {o : List Lab} (h : Ordered L o) {i : Nat} {row : List Lab} (hr : (levelsN L o)[i]? = some row) : row ≠ [] ∧ Srt row ∧ ∀ s, s ∈ row ↔ s ∈ namesU L ∧ levs L o s = i := by
  unfold levelsN at hr
  rw [List.getElem?_map] at hr
  obtain ⟨r, hr1, rfl⟩ := Option.map_eq_some_iff.1 hr
  have hlt := (List.getElem?_eq_some_iff.1 hr1).1
  rw [rowsN_len] at hlt
  rw [rowsN_get hlt] at hr1
  cases hr1
  refine ⟨fun e => (row_full h).2 hlt ?_, srt_sortS _, fun s => by rw [mem_sortS, mem_rowAt, h.mem]⟩
  refine List.eq_nil_iff_forall_not_mem.2 fun x hx => ?_
  have := mem_sortS.2 hx
  rw [e] at this
  cases this
end Go.Syn
