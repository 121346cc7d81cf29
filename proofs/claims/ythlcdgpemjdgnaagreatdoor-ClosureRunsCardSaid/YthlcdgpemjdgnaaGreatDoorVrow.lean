/- Rows of one's own that the library writes in place: what a call leaves. -/
import Derived.Test.YthlcdgpemjdgnaaGreatDoorVkeys
import Derived.Shelf.Slices.CompactS
import Derived.Shelf.Slices.Cells
set_option linter.unusedVariables false
namespace Go.Vc
open Go Go.RowKit Go.Sort Go.Shelf Go.Proofs

/-- A mutable block has turned. -/
theorem MutB.turn {g : G} {b : Nat} {e : TypeId} {cur cur' : List Value} (h : MutB g b e cur) {w' : World} (hs : g.w.heap.size ≤ w'.heap.size) (hother : ∀ x, x < g.w.heap.size → x ≠ b → w'.heap[x]? = g.w.heap[x]?)
    (hb : w'.heap[b]? = some (.cells ⟨cur'⟩ e (0, 0))) (h1 : w'.os = g.w.os) (h2 : w'.tape = g.w.tape) (h3 : w'.output = g.w.output) : ∃ g', g'.w = w' ∧ Stp g.w.heap.size (fun x => x = b) g g' ∧ MutB g' b e cur' := by
  let g' : G := ⟨w', g.X, g.D, fun x hx => Nat.lt_of_lt_of_le (g.hX x hx) hs, fun x i hx => Nat.lt_of_lt_of_le (g.hD x i hx) hs⟩
  have hle : Le g g' := by
    refine ⟨hs, ?_, ?_, ?_⟩
    rotate_right
    · rintro x o ⟨ty, fr, k1, k2, k3⟩
      have hne : x ≠ b := fun hh => k3 0 (by rw [hh]; exact h.d 0)
      exact ⟨ty, fr, (hother _ (heap_lt k1) hne).trans k1, k2, k3⟩
    · rintro ad v ⟨k1, k2, k3⟩
      have hx := cell_lt k1
      have hne : ad.block ≠ b := fun hh => k3 (by rw [hh]; exact h.d _)
      exact ⟨by rw [cell_same (w := g.w) (w' := g'.w) (hother _ hx hne)]; exact k1, k2, k3⟩
    · rintro x mm k ⟨k1, k2, k3⟩
      have hne : x ≠ b := fun hh => k3 (by rw [hh]; exact h.d _)
      exact ⟨(hother _ (heap_lt k1) hne).trans k1, k2, k3⟩
  exact ⟨g', rfl, ⟨hle, fun _ => Iff.rfl, fun x hx => hother x (g.hX x hx) (fun hh => h.nx (hh ▸ hx)), h1, h2, h3, fun x hx hn => hother x hx hn, fun _ _ _ _ => Iff.rfl⟩, hb, h.nx, h.d⟩
end Go.Vc
