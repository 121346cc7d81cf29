/- Which nodes are right, kind by kind. -/
import Derived.Test.YthlcdgpemjdgnaaGreatDoorLamA
set_option linter.unusedVariables false
namespace Go.Lam
open Go Go.Vc Go.RowKit Go.Syn
section
variable {d : ExpD} {l : List E}
theorem node1 (hs : d.op = 3 ∨ d.s = []) (e : d.op = 1) : nodeP d l ↔ l.length = 0 ∧ 0 ≤ d.n ∧ d.n ≤ 9223372036854775807 := by
  unfold nodeP
  constructor
  · rintro ⟨_, h | h | h | h | h | h | h | h | h | h | h⟩ <;> first | (exfalso; omega) | skip
    exact h.2
  · exact fun h => ⟨hs, .inl ⟨e, h⟩⟩
theorem node2 (hs : d.op = 3 ∨ d.s = []) (e : d.op = 2) : nodeP d l ↔ l.length = 0 ∧ -4503599627370496 ≤ d.n ∧ d.n ≤ 4503599627370496 := by
  unfold nodeP
  constructor
  · rintro ⟨_, h | h | h | h | h | h | h | h | h | h | h⟩ <;> first | (exfalso; omega) | skip
    exact h.2
  · exact fun h => ⟨hs, .inr (.inl ⟨e, h⟩)⟩
theorem node3 (hs : d.op = 3 ∨ d.s = []) (e : d.op = 3) : nodeP d l ↔ l.length = 0 ∧ d.n = 0 ∧ d.s.length ≤ 16384 := by
  unfold nodeP
  constructor
  · rintro ⟨_, h | h | h | h | h | h | h | h | h | h | h⟩ <;> first | (exfalso; omega) | skip
    exact h.2
  · exact fun h => ⟨hs, .inr (.inr (.inl ⟨e, h⟩))⟩
theorem node4 (hs : d.op = 3 ∨ d.s = []) (e : d.op = 4) : nodeP d l ↔ l.length = 1 ∧ d.n = 0 := by
  unfold nodeP
  constructor
  · rintro ⟨_, h | h | h | h | h | h | h | h | h | h | h⟩ <;> first | (exfalso; omega) | skip
    exact h.2
  · exact fun h => ⟨hs, .inr (.inr (.inr (.inl ⟨e, h⟩)))⟩
theorem node5 (hs : d.op = 3 ∨ d.s = []) (e : d.op = 5) : nodeP d l ↔ l.length = 2 ∧ d.n = 0 := by
  unfold nodeP
  constructor
  · rintro ⟨_, h | h | h | h | h | h | h | h | h | h | h⟩ <;> first | (exfalso; omega) | skip
    exact h.2
  · exact fun h => ⟨hs, .inr (.inr (.inr (.inr (.inl ⟨.inl e, h⟩))))⟩
theorem node6 (hs : d.op = 3 ∨ d.s = []) (e : d.op = 6) : nodeP d l ↔ l.length ≤ 1000 ∧ d.n = 0 := by
  unfold nodeP
  constructor
  · rintro ⟨_, h | h | h | h | h | h | h | h | h | h | h⟩ <;> first | (exfalso; omega) | skip
    exact h.2
  · exact fun h => ⟨hs, .inr (.inr (.inr (.inr (.inr (.inl ⟨e, h⟩)))))⟩
theorem node7 (hs : d.op = 3 ∨ d.s = []) (e : d.op = 7) : nodeP d l ↔ l.length = 1 ∧ 0 ≤ d.n ∧ d.n ≤ 999 := by
  unfold nodeP
  constructor
  · rintro ⟨_, h | h | h | h | h | h | h | h | h | h | h⟩ <;> first | (exfalso; omega) | skip
    exact h.2
  · exact fun h => ⟨hs, .inr (.inr (.inr (.inr (.inr (.inr (.inl ⟨.inl e, h⟩))))))⟩
theorem node8 (hs : d.op = 3 ∨ d.s = []) (e : d.op = 8) : nodeP d l ↔ l.length = 1 ∧ 0 ≤ d.n ∧ d.n ≤ 999 := by
  unfold nodeP
  constructor
  · rintro ⟨_, h | h | h | h | h | h | h | h | h | h | h⟩ <;> first | (exfalso; omega) | skip
    exact h.2
  · exact fun h => ⟨hs, .inr (.inr (.inr (.inr (.inr (.inr (.inl ⟨.inr e, h⟩))))))⟩
theorem node9 (hs : d.op = 3 ∨ d.s = []) (e : d.op = 9) : nodeP d l ↔ 2 ≤ l.length ∧ l.length ≤ 1001 ∧ d.n = 0 := by
  unfold nodeP
  constructor
  · rintro ⟨_, h | h | h | h | h | h | h | h | h | h | h⟩ <;> first | (exfalso; omega) | skip
    exact h.2
  · exact fun h => ⟨hs, .inr (.inr (.inr (.inr (.inr (.inr (.inr (.inl ⟨e, h⟩)))))))⟩
theorem node10 (hs : d.op = 3 ∨ d.s = []) (e : d.op = 10) : nodeP d l ↔ l.length = 1 ∧ d.n = 0 ∧ ∃ y, l[0]? = some y ∧ y.dat.op = 4 := by
  unfold nodeP
  constructor
  · rintro ⟨_, h | h | h | h | h | h | h | h | h | h | h⟩ <;> first | (exfalso; omega) | skip
    exact h.2
  · exact fun h => ⟨hs, .inr (.inr (.inr (.inr (.inr (.inr (.inr (.inr (.inl ⟨e, h⟩))))))))⟩
theorem node11 (hs : d.op = 3 ∨ d.s = []) (e : d.op = 11) : nodeP d l ↔ l.length = 2 ∧ d.n = 0 := by
  unfold nodeP
  constructor
  · rintro ⟨_, h | h | h | h | h | h | h | h | h | h | h⟩ <;> first | (exfalso; omega) | skip
    exact h.2
  · exact fun h => ⟨hs, .inr (.inr (.inr (.inr (.inl ⟨.inr e, h⟩))))⟩
theorem node12 (hs : d.op = 3 ∨ d.s = []) (e : d.op = 12) : nodeP d l ↔ 1 ≤ d.n ∧ d.n ≤ 14 ∧ l.length = arityN d.n := by
  unfold nodeP
  constructor
  · rintro ⟨_, h | h | h | h | h | h | h | h | h | h | h⟩ <;> first | (exfalso; omega) | skip
    exact h.2
  · exact fun h => ⟨hs, .inr (.inr (.inr (.inr (.inr (.inr (.inr (.inr (.inr (.inl ⟨e, h⟩)))))))))⟩
theorem node13 (hs : d.op = 3 ∨ d.s = []) (e : d.op = 13) : nodeP d l ↔ l.length = 0 ∧ 1 ≤ d.n ∧ d.n ≤ 1000000 := by
  unfold nodeP
  constructor
  · rintro ⟨_, h | h | h | h | h | h | h | h | h | h | h⟩ <;> first | (exfalso; omega) | skip
    exact h.2
  · exact fun h => ⟨hs, .inr (.inr (.inr (.inr (.inr (.inr (.inr (.inr (.inr (.inr (⟨e, h⟩))))))))))⟩
theorem nodeNo (h : ¬ (1 ≤ d.op ∧ d.op ≤ 13)) : ¬ nodeP d l := by
  unfold nodeP
  rintro ⟨_, h | h | h | h | h | h | h | h | h | h | h⟩ <;> omega
mutual
def i64E : E → Prop
  | .mk d l => d.n ≤ 9223372036854775807 ∧ i64EL l
def i64EL : List E → Prop
  | [] => True
  | t :: r => i64E t ∧ i64EL r
end
theorem i64EL_iff : ∀ {l : List E}, i64EL l ↔ ∀ y ∈ l, i64E y
  | [] => by simp [i64EL]
  | t :: r => by simp [i64EL, i64EL_iff (l := r)]
theorem i64E_un {t : E} (h : i64E t) : t.dat.n ≤ 9223372036854775807 ∧ ∀ y ∈ t.kids, i64E y := by
  rw [t.eta, i64E, i64EL_iff] at h
  exact h
end
end Go.Lam
