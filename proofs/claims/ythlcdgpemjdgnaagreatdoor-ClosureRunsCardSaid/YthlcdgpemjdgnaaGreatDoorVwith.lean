/- A copy of a slice with one more element: append(append([]T{}, l...), x), in any order of its steps. -/
import Derived.Test.YthlcdgpemjdgnaaGreatDoorVfa
import Derived.Test.YthlcdgpemjdgnaaGreatDoorVda
set_option linter.unusedVariables false
namespace Go.Vc
open Go Go.RowKit

theorem sameB_of {g0 gy g' : G} {B : Nat} (m : Ex g0 gy) (h : Stp B nobody gy g') (hB : g0.w.heap.size ≤ B) : SameB g0 g' := fun b hb hx => (h.same b (by omega) (fun hh => hh)).trans (m.same b hb hx)
theorem stp_exB {g0 gy g' : G} {B : Nat} (h : Stp B nobody gy g') (m : Ex g0 gy) (hB : g0.w.heap.size ≤ B) : Ex g0 g' :=
  ⟨Nat.le_trans m.size h.le.size, fun b hb hx hh => m.x b hb hx ((h.x b).1 hh), fun b hb hx => sameB_of m h hB b hb hx, fun b hb hx i => (h.d b (by omega) (fun hh => hh) i).trans (m.d b hb hx i)⟩
section
variable {P : Program} {α : Type} {E : El α} {t e : TypeId} {bytes : Nat} {g : G} {xs : List α} {K : Option Addr → Nat → Nat → G → Prop}
/-- The inner append: into a new empty row. -/
theorem with_first (Et : Elem P t e E.m bytes) {g0 g1 gx gy : G} {ea : Option Addr} {en ec : Nat} (hz : g.w.heap.size ≤ g0.w.heap.size) (hE : SlE E g0 ea en ec xs) (m1 : Ex g0 g1) (nx : NewL g1 gx e []) (my : Ex gx gy)
    (hb : en * bytes ≤ 140737488355328) (hm : en ≤ maxLen)
    (hK : ∀ a' n' c' g', n' = en → Ex g0 g' → Le gy g' → OwnE E g' g.w.heap.size e a' n' c' xs → K a' n' c' g') :
    ∃ a' n' c' w', (Builtin.append_ #[t, t] t #[.slice (some ⟨g1.w.heap.size, 0, none⟩) 0 0, .slice ea en ec]).run P gy.w = .ok (.slice a' n' c') w' ∧ ∃ g', g'.w = w' ∧ Stp g.w.heap.size nobody gy g' ∧ SameB g0 g' ∧ K a' n' c' g' := by
  have o1 : OwnE E gx g1.w.heap.size e (some ⟨g1.w.heap.size, 0, none⟩) 0 0 ([] : List α) := OwnE.lit (xs := []) nx Rws.nil (Nat.le_refl _) (by unfold maxLen; simp)
  have m0y : Ex g0 gy := (m1.trans nx.ex).trans my
  obtain ⟨a', c', w', hr, g', hw, hs, ho, st, _⟩ := (o1.exm my).app Et t (nx.ex.trans my).size (hE.exm m0y) (by simpa using hb) (by simpa using hm)
  have hz1 : g.w.heap.size ≤ g1.w.heap.size := Nat.le_trans hz m1.size
  exact ⟨a', _, c', w', hr, g', hw, hs.mono hz1 (fun _ _ h => h), sameB_of m0y hs m1.size, hK a' _ c' g' (by simp) (stp_exB hs m0y m1.size) hs.le (by simpa using ho.base hz1)⟩
/-- The outer append: of one element that lies in a row of its own. -/
theorem with_second (Et : Elem P t e E.m bytes) {gy : G} {a' : Option Addr} {n' c' : Nat} {q : Option Addr} {x : α} (hz : g.w.heap.size ≤ gy.w.heap.size) (ho : OwnE E gy g.w.heap.size e a' n' c' xs) (hq : SlE E gy q 1 1 [x])
    (hb : (n' + 1) * bytes ≤ 140737488355328) (hm : n' + 1 ≤ maxLen)
    (hK : ∀ a2 n2 c2 g', Stp g.w.heap.size nobody gy g' → OwnE E g' g.w.heap.size e a2 n2 c2 (xs ++ [x]) → K a2 n2 c2 g') :
    ∃ a2 n2 c2 w', (Builtin.append_ #[t, t] t #[.slice a' n' c', .slice q 1 1]).run P gy.w = .ok (.slice a2 n2 c2) w' ∧ ∃ g', g'.w = w' ∧ Stp g.w.heap.size nobody gy g' ∧ K a2 n2 c2 g' := by
  obtain ⟨a2, c2, w', hr, g', hw, hs, ho2, _, _⟩ := ho.app Et t hz hq hb hm
  exact ⟨a2, _, c2, w', hr, g', hw, hs, hK a2 _ c2 g' hs ho2⟩
end
end Go.Vc
