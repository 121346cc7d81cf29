/- Worlds with private blocks and mutable cells: what a step may turn; calls. -/
import Derived.Test.YtlofbfbcnlgmaaaVw6
set_option linter.unusedVariables false
namespace Go.Vc
open Go Go.RowKit

/-- A world; X: its private blocks; D: its mutable cells. -/
structure G where
  w : World
  X : Nat → Prop
  D : Nat → Nat → Prop
  hX : ∀ b, X b → b < w.heap.size
  hD : ∀ b i, D b i → b < w.heap.size

abbrev G.size (g : G) : Nat := g.w.heap.size
def nobody : Nat → Prop := fun _ => False

/-- Nothing that is not private has turned. -/
structure Ex (g g' : G) : Prop where
  size : g.w.heap.size ≤ g'.w.heap.size
  x : ∀ b, b < g.w.heap.size → ¬ g.X b → ¬ g'.X b
  same : ∀ b, b < g.w.heap.size → ¬ g.X b → g'.w.heap[b]? = g.w.heap[b]?
  d : ∀ b, b < g.w.heap.size → ¬ g.X b → ∀ i, (g'.D b i ↔ g.D b i)

/-- A cell that is neither private nor mutable. -/
def Live (g : G) (a : Addr) (v : Value) : Prop := g.w.cell? a = some v ∧ ¬ g.X a.block ∧ ¬ g.D a.block a.off
/-- A map that is neither private nor mutable. -/
def LiveM (g : G) (b : Nat) (m : Array MapEntry) (n : Nat) : Prop := g.w.heap[b]? = some (.map m n) ∧ ¬ g.X b ∧ ¬ g.D b 0

/-- Nothing that is neither private nor mutable has turned. -/
structure Le (g g' : G) : Prop where
  size : g.w.heap.size ≤ g'.w.heap.size
  cell : ∀ a v, Live g a v → Live g' a v
  obj : ∀ b m n, LiveM g b m n → LiveM g' b m n

theorem heap_lt {w : World} {b : Nat} {o : Obj} (h : w.heap[b]? = some o) : b < w.heap.size := (Array.getElem?_eq_some_iff.1 h).1
theorem cell_lt {w : World} {a : Addr} {v : Value} (h : w.cell? a = some v) : a.block < w.heap.size := World.block_lt_of_cell? w _ h
theorem cell_same {w w' : World} {a : Addr} (h : w'.heap[a.block]? = w.heap[a.block]?) : w'.cell? a = w.cell? a := World.cell?_of_block (w := w) h

namespace Ex
theorem refl (g : G) : Ex g g := ⟨Nat.le_refl _, fun _ _ h => h, fun _ _ _ => rfl, fun _ _ _ _ => Iff.rfl⟩
theorem trans {a b c : G} (h : Ex a b) (k : Ex b c) : Ex a c :=
  ⟨Nat.le_trans h.size k.size, fun b hb hx => k.x b (Nat.lt_of_lt_of_le hb h.size) (h.x b hb hx),
   fun b hb hx => (k.same b (Nat.lt_of_lt_of_le hb h.size) (h.x b hb hx)).trans (h.same b hb hx),
   fun b hb hx i => (k.d b (Nat.lt_of_lt_of_le hb h.size) (h.x b hb hx) i).trans (h.d b hb hx i)⟩
theorem le {g g' : G} (h : Ex g g') : Le g g' := by
  refine ⟨h.size, ?_, ?_⟩
  · rintro a v ⟨h1, h2, h3⟩
    have hlt := cell_lt h1
    exact ⟨by rw [cell_same (h.same _ hlt h2)]; exact h1, h.x _ hlt h2, fun hd => h3 ((h.d _ hlt h2 _).1 hd)⟩
  · rintro b m n ⟨h1, h2, h3⟩
    have hlt := heap_lt h1
    exact ⟨by rw [h.same _ hlt h2]; exact h1, h.x _ hlt h2, fun hd => h3 ((h.d _ hlt h2 _).1 hd)⟩
end Ex
namespace Le
theorem refl (g : G) : Le g g := (Ex.refl g).le
theorem trans {a b c : G} (h : Le a b) (k : Le b c) : Le a c := ⟨Nat.le_trans h.size k.size, fun a v hl => k.cell _ _ (h.cell _ _ hl), fun b m n hl => k.obj _ _ _ (h.obj _ _ _ hl)⟩
end Le
theorem Live.mono {g g' : G} {a : Addr} {v : Value} (h : Live g a v) (m : Le g g') : Live g' a v := m.cell _ _ h
theorem LiveM.mono {g g' : G} {b : Nat} {x : Array MapEntry} {n : Nat} (h : LiveM g b x n) (m : Le g g') : LiveM g' b x n := m.obj _ _ _ h

/-- A step that turns nothing below B but blocks of M, and no private block. -/
structure Stp (B : Nat) (M : Nat → Prop) (g g' : G) : Prop where
  le : Le g g'
  x : ∀ b, g'.X b ↔ g.X b
  keepX : ∀ b, g.X b → g'.w.heap[b]? = g.w.heap[b]?
  os : g'.w.os = g.w.os
  tape : g'.w.tape = g.w.tape
  output : g'.w.output = g.w.output
  same : ∀ b, b < B → ¬ M b → g'.w.heap[b]? = g.w.heap[b]?
  d : ∀ b, b < B → ¬ M b → ∀ i, (g'.D b i ↔ g.D b i)

namespace Stp
variable {B B' : Nat} {M M' : Nat → Prop} {a b c g g' : G}
theorem refl (B : Nat) (M : Nat → Prop) (g : G) : Stp B M g g := ⟨Le.refl g, fun _ => Iff.rfl, fun _ _ => rfl, rfl, rfl, rfl, fun _ _ _ => rfl, fun _ _ _ _ => Iff.rfl⟩
theorem trans (h : Stp B M a b) (k : Stp B M b c) : Stp B M a c :=
  ⟨h.le.trans k.le, fun x => (k.x x).trans (h.x x), fun x hx => (k.keepX x ((h.x x).2 hx)).trans (h.keepX x hx), k.os.trans h.os, k.tape.trans h.tape, k.output.trans h.output,
   fun x hx hm => (k.same x hx hm).trans (h.same x hx hm), fun x hx hm i => (k.d x hx hm i).trans (h.d x hx hm i)⟩
theorem mono (h : Stp B' M' g g') (hB : B ≤ B') (hM : ∀ b, b < B → M' b → M b) : Stp B M g g' :=
  ⟨h.le, h.x, h.keepX, h.os, h.tape, h.output, fun b hb hm => h.same b (by omega) (fun hm' => hm (hM b hb hm')), fun b hb hm => h.d b (by omega) (fun hm' => hm (hM b hb hm'))⟩
theorem ex (h : Stp g.size nobody g g') : Ex g g' :=
  ⟨h.le.size, fun b _ hx hx' => hx ((h.x b).1 hx'), fun b hb _ => h.same b hb (fun h => h), fun b hb _ => h.d b hb (fun h => h)⟩
end Stp

/-- A call that returns: it turns nothing that lay there but blocks of M, and nothing private. -/
def CallsG (P : Program) (k : FuncId) (args : Array Value) (g : G) (M : Nat → Prop) (Q : Value → G → Prop) : Prop :=
  Calls P k args g.w fun e w' => ∃ v g', e = .returned v ∧ g'.w = w' ∧ Stp g.size M g g' ∧ Q v g'
/-- A call that turns nothing that lay there. -/
abbrev CallsP (P : Program) (k : FuncId) (args : Array Value) (g : G) (Q : Value → G → Prop) : Prop := CallsG P k args g nobody Q

theorem CallsG.mono {P : Program} {k : FuncId} {args : Array Value} {g : G} {M : Nat → Prop} {Q Q' : Value → G → Prop} (h : CallsG P k args g M Q) (hq : ∀ v g', Stp g.size M g g' → Q v g' → Q' v g') : CallsG P k args g M Q' :=
  Calls.mono h fun e w' he => by
    obtain ⟨v, g', h1, h2, h3, h4⟩ := he
    exact ⟨v, g', h1, h2, h3, hq v g' h3 h4⟩
theorem CallsP.mono {P : Program} {k : FuncId} {args : Array Value} {g : G} {Q Q' : Value → G → Prop} (h : CallsP P k args g Q) (hq : ∀ v g', Ex g g' → Q v g' → Q' v g') : CallsP P k args g Q' :=
  CallsG.mono h fun v g' hs => hq v g' hs.ex

/-! ### New blocks -/
structure NewD (g g' : G) (e : TypeId) (L : List Value) : Prop where
  ex : Ex g g'
  blk : g'.w.heap[g.w.heap.size]? = some (.cells ⟨L⟩ e (0, 0))
  nx : ¬ g'.X g.w.heap.size
  d : ∀ i, g'.D g.w.heap.size i
structure NewL (g g' : G) (e : TypeId) (L : List Value) : Prop where
  ex : Ex g g'
  blk : g'.w.heap[g.w.heap.size]? = some (.cells ⟨L⟩ e (0, 0))
  nx : ¬ g'.X g.w.heap.size
  d : ∀ i, ¬ g'.D g.w.heap.size i
structure NewM (g g' : G) : Prop where
  ex : Ex g g'
  blk : g'.w.heap[g.w.heap.size]? = some (.map #[] 0)
  nx : ¬ g'.X g.w.heap.size
  d : g'.D g.w.heap.size 0
/-- Cells of a mutable row are written; with 'pub' they are mutable no more. -/
structure StG (pub : Bool) (g : G) (ad : Addr) (L : List Value) (g' : G) : Prop where
  w : g'.w = stL ad 0 L g.w
  x : ∀ b, g'.X b ↔ g.X b
  d : ∀ b i, g'.D b i ↔ (g.D b i ∧ (pub = true → ∀ j, j < L.length → ¬ (b = (ad.add j).block ∧ i = (ad.add j).off)))
def mutAt (g : G) (ad : Addr) (n : Nat) : Prop := ∀ j, j < n → g.D (ad.add j).block (ad.add j).off

/-- The world with one more object. -/
def G.push (g : G) (o : Obj) (x : Bool) (d : Bool) : G where
  w := g.w.alloc o
  X b := g.X b ∨ (x = true ∧ b = g.w.heap.size)
  D b i := g.D b i ∨ (d = true ∧ b = g.w.heap.size)
  hX b h := by
    rcases h with h | ⟨_, h⟩
    · have := g.hX b h; simp; omega
    · simp; omega
  hD b i h := by
    rcases h with h | ⟨_, h⟩
    · have := g.hD b i h; simp; omega
    · simp; omega

theorem push_ex (g : G) (o : Obj) (x d : Bool) : Ex g (g.push o x d) := by
  refine ⟨by show _ ≤ (g.w.alloc o).heap.size; simp, ?_, fun b hb _ => Below.heap_alloc _ _ _ hb, ?_⟩
  · rintro b hb hx (h | ⟨_, h⟩)
    · exact hx h
    · omega
  · intro b hb _ i
    constructor
    · rintro (h | ⟨_, h⟩)
      · exact h
      · omega
    · exact Or.inl
theorem push_stp {g : G} {B : Nat} (hB : B ≤ g.size) (o : Obj) (d : Bool) (M : Nat → Prop) : Stp B M g (g.push o false d) := by
  have hB' : B ≤ g.w.heap.size := hB
  refine ⟨(push_ex g o false d).le, ?_, fun b hb => Below.heap_alloc _ _ _ (g.hX b hb), rfl, rfl, rfl, fun b hb _ => Below.heap_alloc _ _ _ (by omega), ?_⟩
  · intro b
    constructor
    · rintro (h | ⟨h, _⟩)
      · exact h
      · cases h
    · exact Or.inl
  · intro b hb _ i
    constructor
    · rintro (h | ⟨_, h⟩)
      · exact h
      · omega
    · exact Or.inl
theorem push_at (g : G) (o : Obj) (x d : Bool) : (g.push o x d).w.heap[g.w.heap.size]? = some o := by
  show (g.w.heap.push o)[g.w.heap.size]? = _
  simp
theorem newX (g : G) : ¬ (g.X g.w.heap.size ∨ (false = true ∧ g.w.heap.size = g.w.heap.size)) := by
  rintro (h | ⟨h, _⟩)
  · exact absurd (g.hX _ h) (by simp)
  · cases h
theorem newDd (g : G) (i : Nat) : ¬ (g.D g.w.heap.size i ∨ (false = true ∧ g.w.heap.size = g.w.heap.size)) := by
  rintro (h | ⟨h, _⟩)
  · exact absurd (g.hD _ _ h) (by simp)
  · cases h
theorem push_newD (g : G) (e : TypeId) (L : List Value) : NewD g (g.push (.cells ⟨L⟩ e) false true) e L :=
  ⟨push_ex _ _ _ _, push_at _ _ _ _, newX g, fun i => Or.inr ⟨rfl, rfl⟩⟩
theorem push_newL (g : G) (e : TypeId) (L : List Value) : NewL g (g.push (.cells ⟨L⟩ e) false false) e L :=
  ⟨push_ex _ _ _ _, push_at _ _ _ _, newX g, fun i => newDd g i⟩
theorem push_newM (g : G) : NewM g (g.push (.map #[] 0) false true) :=
  ⟨push_ex _ _ _ _, push_at _ _ _ _, newX g, Or.inr ⟨rfl, rfl⟩⟩

theorem heap_stL (a : Addr) : ∀ (L : List Value) (i : Nat) (w : World) (b : Nat), b ≠ a.block → (stL a i L w).heap[b]? = w.heap[b]?
  | [], _, _, _, _ => rfl
  | v :: r, i, w, b, hb => by
    rw [stL, heap_stL a r (i + 1) _ b hb, Below.heap_setCell _ _ _ _ (by unfold Addr.add; split <;> exact hb)]
theorem stL_os (a : Addr) : ∀ (L : List Value) (i : Nat) (w : World), (stL a i L w).os = w.os ∧ (stL a i L w).tape = w.tape ∧ (stL a i L w).output = w.output
  | [], _, _ => ⟨rfl, rfl, rfl⟩
  | v :: r, i, w => by
    rw [stL]
    have := stL_os a r (i + 1) (w.setCell (a.add i) v)
    exact this
theorem cell_stL (a : Addr) (p : Addr) : ∀ (L : List Value) (i : Nat) (w : World), (∀ j, j < L.length → a.add (i + j) ≠ p) → (stL a i L w).cell? p = w.cell? p
  | [], _, _, _ => rfl
  | v :: r, i, w, h => by
    rw [stL, cell_stL a p r (i + 1) _ (fun j hj => by rw [show i + 1 + j = i + (j + 1) by omega]; exact h (j + 1) (by simp; omega)), World.cell?_setCell_other _ _ _ _ (by have := h 0 (by simp); rwa [Nat.add_zero] at this)]

/-- The world behind a store. -/
def G.store (g : G) (pub : Bool) (ad : Addr) (L : List Value) : G where
  w := stL ad 0 L g.w
  X := g.X
  D b i := g.D b i ∧ (pub = true → ∀ j, j < L.length → ¬ (b = (ad.add j).block ∧ i = (ad.add j).off))
  hX b h := by rw [size_stL]; exact g.hX b h
  hD b i h := by rw [size_stL]; exact g.hD b i h.1
theorem store_stG (g : G) (pub : Bool) (ad : Addr) (L : List Value) : StG pub g ad L (g.store pub ad L) := ⟨rfl, fun _ => Iff.rfl, fun _ _ => Iff.rfl⟩
theorem add_block (a : Addr) (n : Nat) : (a.add n).block = a.block := by unfold Addr.add; split <;> rfl

theorem store_stp {g : G} {B : Nat} {M : Nat → Prop} {pub : Bool} {ad : Addr} {L : List Value} (hx : ¬ g.X ad.block) (hm : mutAt g ad L.length) (hB : ad.block < B → M ad.block) : Stp B M g (g.store pub ad L) := by
  obtain ⟨h1, h2, h3⟩ := stL_os ad L 0 g.w
  refine ⟨⟨by show _ ≤ (stL ad 0 L g.w).heap.size; rw [size_stL]; exact Nat.le_refl _, ?_, ?_⟩, fun _ => Iff.rfl, ?_, h1, h2, h3, ?_, ?_⟩
  · rintro a v ⟨hc, hxa, hd⟩
    refine ⟨?_, hxa, fun h => hd h.1⟩
    show (stL ad 0 L g.w).cell? a = _
    rw [cell_stL _ _ _ _ _ (fun j hj he => hd (by rw [← he, Nat.zero_add]; exact hm j hj))]
    exact hc
  · rintro b m n ⟨hc, hxb, hd⟩
    refine ⟨?_, hxb, fun h => hd h.1⟩
    show (stL ad 0 L g.w).heap[b]? = _
    -- a map's block holds no cells; a store there turns nothing
    have key : ∀ (L : List Value) (i : Nat) (w : World), w.heap[b]? = some (.map m n) → (stL ad i L w).heap[b]? = some (.map m n) := by
      intro L
      induction L with
      | nil => intro i w h; exact h
      | cons v r ih =>
        intro i w h
        rw [stL]
        refine ih _ _ ?_
        by_cases hb : b = (ad.add i).block
        · show (w.heap.modify _ _)[b]? = _
          rw [Array.getElem?_modify, if_pos hb.symm, h]
          rfl
        · rw [Below.heap_setCell _ _ _ _ hb]; exact h
    exact key L 0 g.w hc
  · intro b hb
    show (stL ad 0 L g.w).heap[b]? = _
    rw [heap_stL _ _ _ _ _ (fun e => hx (e ▸ hb))]
  · intro b hb hM
    show (stL ad 0 L g.w).heap[b]? = _
    rw [heap_stL _ _ _ _ _ (fun e => hM (by rw [e]; exact hB (e ▸ hb)))]
  · intro b hb hM i
    constructor
    · exact fun h => h.1
    · intro h
      refine ⟨h, fun _ j hj hh => hM ?_⟩
      rw [hh.1, add_block]
      exact hB (by have := hh.1; rw [add_block] at this; omega)

/-- A run of an effect that the prover describes. -/
def RunG {α : Type} (P : Program) (s : Sem α) (B : Nat) (M : Nat → Prop) (g : G) (x : α) (K : G → Prop) : Prop := ∃ g', s.run P g.w = .ok x g'.w ∧ Stp B M g g' ∧ K g'

end Go.Vc
