/- Rows of numbers in a block, read and written at a place that is an Int. -/
import Derived.Test.YtcpclpkcanikiaaVw1
set_option linter.unusedVariables false
namespace Go.Vc
open Go Go.RowKit

/-- A row of numbers of a kind, as values. -/
def vs (k : IntKind) (X : List Int) : List Value := X.map (Value.int k)

@[simp] theorem vs_length (k : IntKind) (X : List Int) : (vs k X).length = X.length := by simp [vs]

theorem vs_get {k : IntKind} {X : List Int} {i : Nat} (h : i < X.length) : (vs k X)[i]? = some (.int k (X.getD i 0)) := by
  unfold vs
  rw [List.getElem?_map, List.getElem?_eq_getElem h]
  simp [List.getD_eq_getElem?_getD, h]

theorem vs_set (k : IntKind) (X : List Int) (i : Nat) (x : Int) : (vs k X).set i (.int k x) = vs k (X.set i x) := by
  simp [vs, List.map_set]

theorem vs_one (k : IntKind) (X : List Int) : ∀ u ∈ vs k X, u.oneCell' = true := by
  intro u hu
  simp only [vs, List.mem_map] at hu
  obtain ⟨x, _, rfl⟩ := hu
  rfl

namespace Blk
variable {w w' : World} {b b' : Nat} {t t' : TypeId} {L L' : List Value} {k : IntKind} {X : List Int}

theorem getI (h : Blk w b t (vs k X)) {v : Int} (hv : v.toNat < X.length) : w.cell? (Addr.add ⟨b, 0, none⟩ (Int.toNat v * 1)) = some (.int k (X.getD v.toNat 0)) := by
  rw [h.cellA, Nat.mul_one, vs_get hv]

theorem okI (h : Blk w b t L) {v : Int} (hv : v.toNat < L.length) : stOk1 w (Addr.add ⟨b, 0, none⟩ (Int.toNat v * 1)) := h.ok1 (by omega)

theorem putI (h : Blk w b t (vs k X)) (v : Int) (x : Int) : Blk (w.setCell (Addr.add ⟨b, 0, none⟩ (Int.toNat v * 1)) (.int k x)) b t (vs k (X.set v.toNat x)) := by
  have := h.setA (v.toNat * 1) (.int k x)
  rw [Nat.mul_one, vs_set] at this
  rw [Nat.mul_one]
  exact this

theorem putO (h : Blk w b t L) {b2 : Nat} (hb : b ≠ b2) (o i : Nat) (v : Value) : Blk (w.setCell (Addr.add ⟨b2, o, none⟩ i) v) b t L := by
  rw [add_row]
  exact h.setO hb v

end Blk

theorem below_put {B : Nat} {a w : World} (h : Below B a w) {b : Nat} (hb : B ≤ b) (o i : Nat) (v : Value) : Below B a (w.setCell (Addr.add ⟨b, o, none⟩ i) v) := by
  rw [add_row]
  exact h.setCell hb v

/-- A call that returns a value of which all is known. -/
theorem fin {P : Program} {f : FuncId} {args : Array Value} {w : World} {v : Value} {Q : World → Prop}
    (h : Calls P f args w fun e w' => ∃ u, e = .returned u ∧ (u = v ∧ Q w')) : Calls P f args w fun e w' => e = .returned v ∧ Q w' := by
  refine h.mono ?_
  rintro e w' ⟨u, rfl, rfl, hq⟩
  exact ⟨rfl, hq⟩

end Go.Vc
