/- The free variables of an expression, as they are met. -/
import Derived.Test.YthlcdgpemjdgnaaGreatDoorLnode
set_option linter.unusedVariables false
namespace Go.Lam
open Go Go.Vc Go.RowKit Go.Syn
mutual
def frees : E → Nat → List Int
  | .mk d l, k => (if d.op = 1 ∧ ((k : Nat) : Int) ≤ d.n then [d.n - ((k : Nat) : Int)] else []) ++ freesL d.op 0 l k
def freesL : Int → Nat → List E → Nat → List Int
  | _, _, [], _ => []
  | op, j, t :: r, k => frees t (k + bndN op j) ++ freesL op (j + 1) r k
end
theorem freesL_app (op : Int) : ∀ (a b : List E) (j k : Nat), freesL op j (a ++ b) k = freesL op j a k ++ freesL op (j + a.length) b k
  | [], b, j, k => by simp [freesL]
  | t :: a, b, j, k => by
    show frees t (k + bndN op j) ++ freesL op (j + 1) (a ++ b) k = (frees t (k + bndN op j) ++ freesL op (j + 1) a k) ++ _
    rw [freesL_app op a b, List.append_assoc, List.length_cons, show j + 1 + a.length = j + (a.length + 1) by omega]
theorem freesL_take (op : Int) {l : List E} {j : Nat} {t : E} (h : l[j]? = some t) (k : Nat) : freesL op 0 (l.take (j + 1)) k = freesL op 0 (l.take j) k ++ frees t (k + bndN op j) := by
  have hj := (List.getElem?_eq_some_iff.1 h).1
  rw [List.take_add_one, h, Option.toList, freesL_app, List.length_take, show 0 + min j l.length = j by omega]
  simp [freesL]
theorem frees_len (x : E) : ∀ k, (frees x k).length ≤ sizeE x := by
  induction x using Tr.ind with
  | h d l ih =>
    intro k
    have key : ∀ (r : List E) (j : Nat), (∀ t ∈ r, t ∈ l) → (freesL d.op j r k).length ≤ sizeEL r := by
      intro r
      induction r with
      | nil => intro j _; simp [freesL, sizeEL]
      | cons t r ihr =>
        intro j hr
        have h1 := ih t (hr t (by simp)) (k + bndN d.op j)
        have h2 := ihr (j + 1) (fun s hs => hr s (by simp [hs]))
        simp only [freesL, sizeEL, List.length_append]
        omega
    have := key l 0 (fun t h => h)
    simp only [frees, sizeE, List.length_append]
    split <;> simp <;> omega
theorem mem_frees (x : E) : ∀ (k : Nat) (s : Int), s ∈ frees x k ↔ ∃ i : Nat, s = ((i : Nat) : Int) ∧ FV x (i + k) := by
  induction x using Tr.ind with
  | h d l ih =>
    intro k s
    have key : ∀ (r : List E) (j : Nat), (∀ t ∈ r, t ∈ l) → (s ∈ freesL d.op j r k ↔ ∃ i : Nat, s = ((i : Nat) : Int) ∧ FVL d.op j r (i + k)) := by
      intro r
      induction r with
      | nil => intro j _; simp [freesL, FVL]
      | cons t r ihr =>
        intro j hr
        have h1 := ih t (hr t (by simp)) (k + bndN d.op j) s
        have h2 := ihr (j + 1) (fun s hs => hr s (by simp [hs]))
        simp only [freesL, FVL, List.mem_append]
        rw [h1, h2]
        constructor
        · rintro (⟨i, e, h⟩ | ⟨i, e, h⟩)
          · exact ⟨i, e, .inl (by rw [Nat.add_assoc]; exact h)⟩
          · exact ⟨i, e, .inr h⟩
        · rintro ⟨i, e, h | h⟩
          · exact .inl ⟨i, e, by rw [← Nat.add_assoc]; exact h⟩
          · exact .inr ⟨i, e, h⟩
    have hk := key l 0 (fun t h => h)
    rw [frees, List.mem_append, hk]
    constructor
    · rintro (h | ⟨i, e, h⟩)
      · by_cases q : d.op = 1 ∧ ((k : Nat) : Int) ≤ d.n
        · rw [if_pos q] at h
          have e : s = d.n - ((k : Nat) : Int) := by simpa using h
          exact ⟨(d.n - ((k : Nat) : Int)).toNat, by omega, by rw [FV]; exact .inl ⟨q.1, by omega⟩⟩
        · rw [if_neg q] at h; cases h
      · exact ⟨i, e, by rw [FV]; exact .inr h⟩
    · rintro ⟨i, e, h⟩
      rw [FV] at h
      rcases h with ⟨h1, h2⟩ | h
      · left
        rw [if_pos ⟨h1, by omega⟩]
        simp
        omega
      · exact .inr ⟨i, e, h⟩
open Classical in
noncomputable def memF (S : List Int) : Int → Option Value := fun i => if i ∈ S then some (.bool true) else none
end Go.Lam
