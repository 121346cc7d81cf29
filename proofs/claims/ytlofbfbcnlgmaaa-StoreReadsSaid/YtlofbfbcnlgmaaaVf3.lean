/- Mutable blocks: a variable that is captured, or behind a pointer. -/
import Derived.Test.YtlofbfbcnlgmaaaVf2
set_option linter.unusedVariables false
namespace Go.Vc
open Go Go.RowKit

/-- Block b is a mutable row that holds L. -/
structure MutB (g : G) (b : Nat) (t : TypeId) (L : List Value) : Prop where
  blk : Blk g.w b t L
  nx : ¬ g.X b
  d : ∀ i, g.D b i
theorem NewD.mut {g g' : G} {e : TypeId} {L : List Value} (h : NewD g g' e L) : MutB g' g.w.heap.size e L := ⟨h.blk, h.nx, h.d⟩
namespace MutB
variable {g g' : G} {b : Nat} {t : TypeId} {L : List Value}
theorem lt (h : MutB g b t L) : b < g.w.heap.size := h.blk.lt
theorem but (h : MutB g b t L) {p : Nat → Prop} (k : But p g g') (hp : ¬ p b) : MutB g' b t L :=
  ⟨by unfold Blk; rw [k.same b h.lt h.nx hp]; exact h.blk, k.x b h.lt h.nx, fun i => (k.d b h.lt h.nx hp i).2 (h.d i)⟩
theorem ex (h : MutB g b t L) (k : Ex g g') : MutB g' b t L := h.but (k.but nobody) (fun h => h)
theorem rd0 (h : MutB g b t L) {v : Value} (hv : L[0]? = some v) : g.w.cell? ⟨b, 0, none⟩ = some v := by rw [h.blk.cell]; exact hv
theorem rd (h : MutB g b t L) {j : Nat} {v : Value} (hv : L[j]? = some v) : g.w.cell? (Addr.add ⟨b, 0, none⟩ j) = some v := by rw [h.blk.cellA]; exact hv
theorem ok (h : MutB g b t L) {j n : Nat} (hj : j + n ≤ L.length) : stOk g.w (Addr.add ⟨b, 0, none⟩ j) n := by
  intro i hi
  rw [addr_add_add]
  exact h.blk.ok1 (by omega)
theorem ok0 (h : MutB g b t L) {n : Nat} (hj : n ≤ L.length) : stOk g.w ⟨b, 0, none⟩ n := h.blk.ok hj
theorem nxA (h : MutB g b t L) (j : Nat) : ¬ g.X (Addr.block (Addr.add ⟨b, 0, none⟩ j)) := by rw [add_block]; exact h.nx
theorem mutA (h : MutB g b t L) (j n : Nat) : mutAt g (Addr.add ⟨b, 0, none⟩ j) n := by
  intro i _
  rw [addr_add_add, add_block]
  exact h.d _
theorem mut0 (h : MutB g b t L) (n : Nat) : mutAt g ⟨b, 0, none⟩ n := by
  intro i _
  rw [add_block]
  exact h.d _
/-- Behind a store. -/
theorem st (h : MutB g b t L) {j : Nat} {N : List Value} (k : StG false g (Addr.add ⟨b, 0, none⟩ j) N g') : MutB g' b t (setsAt L j N) ∧ But (fun x => x = b) g g' := by
  have hD : ∀ x i, g'.D x i ↔ g.D x i := fun x i => by
    rw [k.d]
    constructor
    · exact fun h => h.1
    · exact fun h => ⟨h, fun hf => by cases hf⟩
  have hb : Blk g'.w b t (setsAt L j N) := by
    rw [k.w, add_row, Nat.zero_add]
    exact blk_stL (w := g.w) j N 0 L h.blk
  refine ⟨⟨hb, fun hx => h.nx ((k.x b).1 hx), fun i => (hD b i).2 (h.d i)⟩, ?_⟩
  refine ⟨by rw [k.w, size_stL]; exact Nat.le_refl _, fun x _ hx hx' => hx ((k.x x).1 hx'), fun x _ _ hx => ?_, fun x _ _ _ i => hD x i⟩
  rw [k.w]
  exact heap_stL _ _ _ _ _ (by rw [add_block]; exact hx)
theorem st0 (h : MutB g b t L) {N : List Value} (k : StG false g ⟨b, 0, none⟩ N g') : MutB g' b t (setsAt L 0 N) ∧ But (fun x => x = b) g g' := by
  have k' : StG false g (Addr.add ⟨b, 0, none⟩ 0) N g' := by rw [add_zero_row]; exact k
  exact h.st k'
end MutB
/-- A store that lays a variable for good. -/
theorem MutB.pub {g g' : G} {b : Nat} {t : TypeId} {L N : List Value} (h : MutB g b t L) (k : StG true g ⟨b, 0, none⟩ N g') (hl : N.length = L.length) :
    (∀ i v, N[i]? = some v → Live g' (Addr.add ⟨b, 0, none⟩ i) v) ∧ But (fun x => x = b) g g' := by
  have hb : Blk g'.w b t N := by
    rw [k.w]
    exact h.blk.stLE hl
  refine ⟨fun i v hi => ?_, ?_⟩
  · have hlt := (List.getElem?_eq_some_iff.1 hi).1
    rw [add_row, Nat.zero_add]
    refine ⟨?_, fun hx => h.nx ((k.x b).1 hx), fun hd => ?_⟩
    · rw [hb.cell]; exact hi
    · have := ((k.d _ _).1 hd).2 rfl i hlt
      rw [add_row] at this
      exact this ⟨rfl, (Nat.zero_add i).symm⟩
  · refine ⟨by rw [k.w, size_stL]; exact Nat.le_refl _, fun x _ hx hx' => hx ((k.x x).1 hx'), fun x _ _ hx => ?_, fun x _ _ hx i => ?_⟩
    · rw [k.w]
      exact heap_stL _ _ _ _ _ hx
    · rw [k.d]
      constructor
      · exact fun h => h.1
      · refine fun h => ⟨h, fun _ j _ hh => hx ?_⟩
        have := hh.1
        rw [add_block] at this
        exact this
theorem MutB.pub1 {g g' : G} {b : Nat} {t : TypeId} {u v : Value} (h : MutB g b t [u]) (k : StG true g ⟨b, 0, none⟩ [v] g') : Live g' ⟨b, 0, none⟩ v ∧ But (fun x => x = b) g g' := by
  obtain ⟨h1, h2⟩ := h.pub k rfl
  have := h1 0 v rfl
  rw [add_zero_row] at this
  exact ⟨this, h2⟩
/-- A mutable or private block is none of a live fact's. -/
theorem But.le {g g' : G} {p : Nat → Prop} (h : But p g g') (hp : ∀ b, p b → ∀ i, g.D b i) : Le g g' := by
  refine ⟨h.size, ?_, ?_⟩
  · rintro a v ⟨h1, h2, h3⟩
    have hlt := cell_lt h1
    have hn : ¬ p a.block := fun hh => h3 (hp _ hh _)
    exact ⟨by rw [cell_same (h.same _ hlt h2 hn)]; exact h1, h.x _ hlt h2, fun hd => h3 ((h.d _ hlt h2 hn _).1 hd)⟩
  · rintro b m n ⟨h1, h2, h3⟩
    have hlt := heap_lt h1
    have hn : ¬ p b := fun hh => h3 (hp _ hh _)
    exact ⟨by rw [h.same _ hlt h2 hn]; exact h1, h.x _ hlt h2, fun hd => h3 ((h.d _ hlt h2 hn _).1 hd)⟩
/-- An own row's block. -/
theorem OwnG.ne {g : G} {B : Nat} {e : TypeId} {m : Nat} {a : Option Addr} {l c : Nat} {L : List Value} (h : OwnG g B e m a l c L) {b : Nat} (hb : b < B) : ¬ blkOf a b := by
  rintro ⟨ad, rfl, rfl⟩
  rcases h.row with ⟨h0, _⟩ | ⟨x, cur, h1, h2, _⟩
  · cases h0
  · cases h1
    exact absurd h2 (by simp; omega)
theorem OwnG.lt {g : G} {B : Nat} {e : TypeId} {m : Nat} {a : Option Addr} {l c : Nat} {L : List Value} (h : OwnG g B e m a l c L) {b : Nat} (hb : blkOf a b) : b < g.w.heap.size := by
  obtain ⟨ad, rfl, rfl⟩ := hb
  rcases h.row with ⟨h0, _⟩ | ⟨x, cur, h1, h2, h3, _⟩
  · cases h0
  · cases h1
    exact heap_lt h3
theorem OwnG.ge {g : G} {B : Nat} {e : TypeId} {m : Nat} {a : Option Addr} {l c : Nat} {L : List Value} (h : OwnG g B e m a l c L) {b : Nat} (hb : blkOf a b) : B ≤ b := by
  obtain ⟨ad, rfl, rfl⟩ := hb
  rcases h.row with ⟨h0, _⟩ | ⟨x, cur, h1, h2, h3, _⟩
  · cases h0
  · cases h1
    exact h2
end Go.Vc
