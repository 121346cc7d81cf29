/- Rows of cells in a world: a block that holds a row, under allocation, draws and stores. -/
import Derived.Test.YtcpclpkcanikiaaVc12
set_option linter.unusedVariables false
namespace Go.Vc
open Go Go.RowKit

/-- The block b holds the row L, and nothing of it is frozen. -/
def Blk (w : World) (b : Nat) (t : TypeId) (L : List Value) : Prop := w.heap[b]? = some (.cells ⟨L⟩ t (0, 0))

theorem add_zero_row (b n : Nat) : Addr.add ⟨b, 0, none⟩ n = ⟨b, n, none⟩ := by
  unfold Addr.add
  split
  · simp_all
  · simp

theorem add_row (b o n : Nat) : Addr.add ⟨b, o, none⟩ n = ⟨b, o + n, none⟩ := by
  unfold Addr.add
  split
  · simp_all
  · simp

namespace Blk
variable {w w' : World} {b b' : Nat} {t t' : TypeId} {L L' : List Value}

theorem lt (h : Blk w b t L) : b < w.heap.size := by
  by_cases hb : b < w.heap.size
  · exact hb
  · unfold Blk at h
    rw [Array.getElem?_eq_none (by omega)] at h
    simp at h

theorem cell (h : Blk w b t L) (i : Nat) : w.cell? ⟨b, i, none⟩ = L[i]? := by
  unfold World.cell?
  rw [h]
  simp

theorem cellA (h : Blk w b t L) (i : Nat) : w.cell? (Addr.add ⟨b, 0, none⟩ i) = L[i]? := by
  rw [add_zero_row, h.cell]

theorem frozen (h : Blk w b t L) (i : Nat) : w.frozen? ⟨b, i, none⟩ = false := by
  unfold World.frozen?
  rw [h]
  simp

theorem ok1 (h : Blk w b t L) {i : Nat} (hi : i < L.length) : stOk1 w (Addr.add ⟨b, 0, none⟩ i) := by
  rw [add_zero_row]
  refine ⟨?_, h.frozen i⟩
  rw [h.cell]
  simp [hi]

theorem ok (h : Blk w b t L) {n : Nat} (hn : n ≤ L.length) : stOk w ⟨b, 0, none⟩ n := by
  intro i hi
  exact h.ok1 (by omega)

theorem on (h : Blk w b t L) : cellsOn w ⟨b, 0, none⟩ L := by
  intro i v hv
  rw [h.cellA, hv]

theorem new (w : World) (L : List Value) (t : TypeId) : Blk (w.alloc (.cells ⟨L⟩ t)) w.heap.size t L := by
  unfold Blk
  show (w.heap.push _)[w.heap.size]? = _
  simp

theorem alloc (h : Blk w b t L) (o : Obj) : Blk (w.alloc o) b t L := by
  unfold Blk
  rw [Below.heap_alloc w o b h.lt, h]

theorem drew (h : Blk w b t L) : Blk w.drew b t L := h

theorem setO (h : Blk w b t L) {a : Addr} (hb : b ≠ a.block) (v : Value) : Blk (w.setCell a v) b t L := by
  unfold Blk
  rw [Below.heap_setCell w a v b hb, h]

theorem below (h : Blk w b t L) {B : Nat} (hw : Below B w w') (hb : b < B) : Blk w' b t L := by
  unfold Blk
  rw [hw.block b hb, h]

theorem setE (h : Blk w b t L) (i : Nat) (v : Value) : Blk (w.setCell ⟨b, i, none⟩ v) b t (L.set i v) := by
  unfold Blk
  show (w.heap.modify b _)[b]? = _
  rw [Array.getElem?_modify]
  simp only [↓reduceIte]
  rw [h]
  simp

theorem setA (h : Blk w b t L) (i : Nat) (v : Value) : Blk (w.setCell (Addr.add ⟨b, 0, none⟩ i) v) b t (L.set i v) := by
  rw [add_zero_row]
  exact h.setE i v

theorem stLO : ∀ (vs : List Value) {w : World} (i : Nat), Blk w b t L → ∀ {a : Addr}, b ≠ a.block → Blk (stL a i vs w) b t L
  | [], _, _, h, _, _ => h
  | v :: r, w, i, h, a, hb => stLO r (i + 1) (h.setO (a := a.add i) (by unfold Addr.add; split <;> exact hb) v) hb

theorem stLR (vs : List Value) : ∀ (i : Nat) {w : World} (L : List Value), Blk w b t L → i + vs.length ≤ L.length → Blk (stL ⟨b, 0, none⟩ i vs w) b t (L.take i ++ (vs ++ L.drop (i + vs.length))) := by
  induction vs with
  | nil => intro i w L h _; simpa [stL] using h
  | cons v r ih =>
    intro i w L h hi
    simp only [List.length_cons] at hi
    have h1 := ih (i + 1) (L.set i v) (h.setA i v) (by simp; omega)
    have e : (L.set i v).take (i + 1) ++ (r ++ (L.set i v).drop (i + 1 + r.length)) = L.take i ++ ((v :: r) ++ L.drop (i + (v :: r).length)) := by
      rw [List.drop_set_of_lt (by omega), List.length_cons, show i + (r.length + 1) = i + 1 + r.length by omega, List.take_add_one, List.take_set_of_le (Nat.le_refl i), List.getElem?_set_self (by omega)]
      simp
    rw [e] at h1
    exact h1

theorem stLE (h : Blk w b t L) {vs : List Value} (hl : vs.length = L.length) : Blk (stL ⟨b, 0, none⟩ 0 vs w) b t vs := by
  have h1 := stLR vs 0 L h (by omega)
  rw [List.drop_eq_nil_of_le (by omega)] at h1
  simpa using h1

theorem inj (h : Blk w b t L) (h' : Blk w b t' L') : L = L' := by
  unfold Blk at h h'
  rw [h] at h'
  simp at h'
  exact h'.1

end Blk

theorem size_stL (a : Addr) : ∀ (vs : List Value) (i : Nat) (w : World), (stL a i vs w).heap.size = w.heap.size
  | [], _, _ => rfl
  | v :: r, i, w => by rw [stL, size_stL a r, World.size_setCell]

theorem below_stL {B : Nat} {a : World} (vs : List Value) : ∀ {p : Addr} (i : Nat) {w : World}, Below B a w → B ≤ p.block → Below B a (stL p i vs w) := by
  induction vs with
  | nil => intro p i w h _; exact h
  | cons v r ih => intro p i w h hp; exact ih (i + 1) (h.setCell (p := p.add i) (by unfold Addr.add; split <;> exact hp) v) hp

end Go.Vc
