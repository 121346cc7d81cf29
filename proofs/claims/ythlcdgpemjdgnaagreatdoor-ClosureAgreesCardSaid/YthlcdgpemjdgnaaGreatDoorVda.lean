/- Joined texts. -/
import Derived.Test.YthlcdgpemjdgnaaGreatDoorVwa
import Derived.Deep.LoopGhost
/- Worlds with private blocks and mutable cells: what a step may turn; calls. -/
set_option linter.unusedVariables false
namespace Go.Vc
open Go Go.RowKit
structure G where
  w : World
  X : Nat → Prop
  D : Nat → Nat → Prop
  hX : ∀ b, X b → b < w.heap.size
  hD : ∀ b i, D b i → b < w.heap.size
abbrev G.size (g : G) : Nat := g.w.heap.size
def nobody : Nat → Prop := fun _ => False
structure Ex (g g' : G) : Prop where
  size : g.w.heap.size ≤ g'.w.heap.size
  x : ∀ b, b < g.w.heap.size → ¬ g.X b → ¬ g'.X b
  same : ∀ b, b < g.w.heap.size → ¬ g.X b → g'.w.heap[b]? = g.w.heap[b]?
  d : ∀ b, b < g.w.heap.size → ¬ g.X b → ∀ i, (g'.D b i ↔ g.D b i)
def Live (g : G) (a : Addr) (v : Value) : Prop := g.w.cell? a = some v ∧ ¬ g.X a.block ∧ ¬ g.D a.block a.off
def LiveM (g : G) (b : Nat) (m : Array MapEntry) (n : Nat) : Prop := g.w.heap[b]? = some (.map m n) ∧ ¬ g.X b ∧ ¬ g.D b 0
def LiveO (g : G) (b : Nat) (c : Array Value) : Prop := ∃ e fr, g.w.heap[b]? = some (.cells c e fr) ∧ ¬ g.X b ∧ ∀ i, ¬ g.D b i
structure Le (g g' : G) : Prop where
  size : g.w.heap.size ≤ g'.w.heap.size
  cell : ∀ a v, Live g a v → Live g' a v
  obj : ∀ b m n, LiveM g b m n → LiveM g' b m n
  blk : ∀ b o, LiveO g b o → LiveO g' b o
theorem heap_lt {w : World} {b : Nat} {o : Obj} (h : w.heap[b]? = some o) : b < w.heap.size := (Array.getElem?_eq_some_iff.1 h).1
theorem cell_lt {w : World} {a : Addr} {v : Value} (h : w.cell? a = some v) : a.block < w.heap.size := World.block_lt_of_cell? w _ h
theorem cell_same {w w' : World} {a : Addr} (h : w'.heap[a.block]? = w.heap[a.block]?) : w'.cell? a = w.cell? a := World.cell?_of_block (w := w) h
namespace Ex
theorem refl (g : G) : Ex g g := ⟨Nat.le_refl _, fun _ _ h => h, fun _ _ _ => rfl, fun _ _ _ _ => Iff.rfl⟩
theorem trans {a b c : G} (h : Ex a b) (k : Ex b c) : Ex a c :=
  ⟨Nat.le_trans h.size k.size, fun b hb hx => k.x b (Nat.lt_of_lt_of_le hb h.size) (h.x b hb hx),
   fun b hb hx => (k.same b (Nat.lt_of_lt_of_le hb h.size) (h.x b hb hx)).trans (h.same b hb hx),
   fun b hb hx i => (k.d b (Nat.lt_of_lt_of_le hb h.size) (h.x b hb hx) i).trans (h.d b hb hx i)⟩
theorem le {g g' : G} (h : Ex g g') : Le g g' := by
  refine ⟨h.size, ?_, ?_, fun b o ⟨ty, fr, h1, h2, h3⟩ => ⟨ty, fr, by rw [h.same _ (heap_lt h1) h2]; exact h1, h.x _ (heap_lt h1) h2, fun i hd => h3 i ((h.d _ (heap_lt h1) h2 _).1 hd)⟩⟩
  · rintro a v ⟨h1, h2, h3⟩
    have hlt := cell_lt h1
    exact ⟨by rw [cell_same (h.same _ hlt h2)]; exact h1, h.x _ hlt h2, fun hd => h3 ((h.d _ hlt h2 _).1 hd)⟩
  · rintro b m n ⟨h1, h2, h3⟩
    have hlt := heap_lt h1
    exact ⟨by rw [h.same _ hlt h2]; exact h1, h.x _ hlt h2, fun hd => h3 ((h.d _ hlt h2 _).1 hd)⟩
end Ex
namespace Le
theorem refl (g : G) : Le g g := (Ex.refl g).le
theorem trans {a b c : G} (h : Le a b) (k : Le b c) : Le a c := ⟨Nat.le_trans h.size k.size, fun a v hl => k.cell _ _ (h.cell _ _ hl), fun b m n hl => k.obj _ _ _ (h.obj _ _ _ hl), fun b o hl => k.blk _ _ (h.blk _ _ hl)⟩
end Le
theorem Live.mono {g g' : G} {a : Addr} {v : Value} (h : Live g a v) (m : Le g g') : Live g' a v := m.cell _ _ h
theorem LiveO.mono {g g' : G} {b : Nat} {o : Array Value} (h : LiveO g b o) (m : Le g g') : LiveO g' b o := m.blk _ _ h
theorem LiveM.mono {g g' : G} {b : Nat} {x : Array MapEntry} {n : Nat} (h : LiveM g b x n) (m : Le g g') : LiveM g' b x n := m.obj _ _ _ h
structure Stp (B : Nat) (M : Nat → Prop) (g g' : G) : Prop where
  le : Le g g'
  x : ∀ b, g'.X b ↔ g.X b
  keepX : ∀ b, g.X b → g'.w.heap[b]? = g.w.heap[b]?
  os : g'.w.os = g.w.os
  tape : g'.w.tape = g.w.tape
  output : g'.w.output = g.w.output
  same : ∀ b, b < B → ¬ M b → g'.w.heap[b]? = g.w.heap[b]?
  d : ∀ b, b < B → ¬ M b → ∀ i, (g'.D b i ↔ g.D b i)
namespace Stp
variable {B B' : Nat} {M M' : Nat → Prop} {a b c g g' : G}
theorem refl (B : Nat) (M : Nat → Prop) (g : G) : Stp B M g g := ⟨Le.refl g, fun _ => Iff.rfl, fun _ _ => rfl, rfl, rfl, rfl, fun _ _ _ => rfl, fun _ _ _ _ => Iff.rfl⟩
theorem trans (h : Stp B M a b) (k : Stp B M b c) : Stp B M a c :=
  ⟨h.le.trans k.le, fun x => (k.x x).trans (h.x x), fun x hx => (k.keepX x ((h.x x).2 hx)).trans (h.keepX x hx), k.os.trans h.os, k.tape.trans h.tape, k.output.trans h.output,
   fun x hx hm => (k.same x hx hm).trans (h.same x hx hm), fun x hx hm i => (k.d x hx hm i).trans (h.d x hx hm i)⟩
theorem mono (h : Stp B' M' g g') (hB : B ≤ B') (hM : ∀ b, b < B → M' b → M b) : Stp B M g g' :=
  ⟨h.le, h.x, h.keepX, h.os, h.tape, h.output, fun b hb hm => h.same b (by omega) (fun hm' => hm (hM b hb hm')), fun b hb hm => h.d b (by omega) (fun hm' => hm (hM b hb hm'))⟩
theorem ex (h : Stp g.size nobody g g') : Ex g g' :=
  ⟨h.le.size, fun b _ hx hx' => hx ((h.x b).1 hx'), fun b hb _ => h.same b hb (fun h => h), fun b hb _ => h.d b hb (fun h => h)⟩
end Stp
def CallsG (P : Program) (k : FuncId) (args : Array Value) (g : G) (M : Nat → Prop) (Q : Value → G → Prop) : Prop :=
  Calls P k args g.w fun e w' => ∃ v g', e = .returned v ∧ g'.w = w' ∧ Stp g.size M g g' ∧ Q v g'
abbrev CallsP (P : Program) (k : FuncId) (args : Array Value) (g : G) (Q : Value → G → Prop) : Prop := CallsG P k args g nobody Q
theorem CallsG.mono {P : Program} {k : FuncId} {args : Array Value} {g : G} {M : Nat → Prop} {Q Q' : Value → G → Prop} (h : CallsG P k args g M Q) (hq : ∀ v g', Stp g.size M g g' → Q v g' → Q' v g') : CallsG P k args g M Q' :=
  Calls.mono h fun e w' he => by
    obtain ⟨v, g', h1, h2, h3, h4⟩ := he
    exact ⟨v, g', h1, h2, h3, hq v g' h3 h4⟩
theorem CallsP.mono {P : Program} {k : FuncId} {args : Array Value} {g : G} {Q Q' : Value → G → Prop} (h : CallsP P k args g Q) (hq : ∀ v g', Ex g g' → Q v g' → Q' v g') : CallsP P k args g Q' :=
  CallsG.mono h fun v g' hs => hq v g' hs.ex
def CallsX (P : Program) (k : FuncId) (args : Array Value) (g : G) (M : Nat → Prop) (Q : Value → G → Prop) (R : List PanicEntry → G → Prop) : Prop :=
  Calls P k args g.w fun e w' => ∃ g', g'.w = w' ∧ Stp g.size M g g' ∧ ((∃ v, e = .returned v ∧ Q v g') ∨ ∃ ch, e = .panicked ch ∧ R ch g')
theorem CallsX.mono {P : Program} {k : FuncId} {args : Array Value} {g : G} {M : Nat → Prop} {Q Q' : Value → G → Prop} {R R' : List PanicEntry → G → Prop} (h : CallsX P k args g M Q R)
    (hq : ∀ v g', Stp g.size M g g' → Q v g' → Q' v g') (hr : ∀ ch g', Stp g.size M g g' → R ch g' → R' ch g') : CallsX P k args g M Q' R' :=
  Calls.mono h fun e w' he => by
    obtain ⟨g', h1, h2, h3⟩ := he
    rcases h3 with ⟨v, h3, h4⟩ | ⟨ch, h3, h4⟩
    · exact ⟨g', h1, h2, .inl ⟨v, h3, hq v g' h2 h4⟩⟩
    · exact ⟨g', h1, h2, .inr ⟨ch, h3, hr ch g' h2 h4⟩⟩
theorem CallsG.x {P : Program} {k : FuncId} {args : Array Value} {g : G} {M : Nat → Prop} {Q : Value → G → Prop} {R : List PanicEntry → G → Prop} (h : CallsG P k args g M Q) : CallsX P k args g M Q R :=
  Calls.mono h fun e w' he => by
    obtain ⟨v, g', h1, h2, h3, h4⟩ := he
    exact ⟨g', h2, h3, .inl ⟨v, h1, h4⟩⟩
theorem CallsX.g {P : Program} {k : FuncId} {args : Array Value} {g : G} {M : Nat → Prop} {Q : Value → G → Prop} {R : List PanicEntry → G → Prop} (h : CallsX P k args g M Q R) (hr : ∀ ch g', R ch g' → False) : CallsG P k args g M Q :=
  Calls.mono h fun e w' he => by
    obtain ⟨g', h1, h2, h3⟩ := he
    rcases h3 with ⟨v, h3, h4⟩ | ⟨ch, h3, h4⟩
    · exact ⟨v, g', h3, h1, h2, h4⟩
    · exact (hr ch g' h4).elim
structure NewD (g g' : G) (e : TypeId) (L : List Value) : Prop where
  ex : Ex g g'
  blk : g'.w.heap[g.w.heap.size]? = some (.cells ⟨L⟩ e (0, 0))
  nx : ¬ g'.X g.w.heap.size
  d : ∀ i, g'.D g.w.heap.size i
structure NewL (g g' : G) (e : TypeId) (L : List Value) : Prop where
  ex : Ex g g'
  blk : g'.w.heap[g.w.heap.size]? = some (.cells ⟨L⟩ e (0, 0))
  nx : ¬ g'.X g.w.heap.size
  d : ∀ i, ¬ g'.D g.w.heap.size i
structure NewM (g g' : G) : Prop where
  ex : Ex g g'
  blk : g'.w.heap[g.w.heap.size]? = some (.map #[] 0)
  nx : ¬ g'.X g.w.heap.size
  d : g'.D g.w.heap.size 0
structure StG (pub : Bool) (g : G) (ad : Addr) (L : List Value) (g' : G) : Prop where
  w : g'.w = stL ad 0 L g.w
  x : ∀ b, g'.X b ↔ g.X b
  d : ∀ b i, g'.D b i ↔ (g.D b i ∧ (pub = true → ∀ j, j < L.length → ¬ (b = (ad.add j).block ∧ i = (ad.add j).off)))
def mutAt (g : G) (ad : Addr) (n : Nat) : Prop := ∀ j, j < n → g.D (ad.add j).block (ad.add j).off
def G.push (g : G) (o : Obj) (x : Bool) (d : Bool) : G where
  w := g.w.alloc o
  X b := g.X b ∨ (x = true ∧ b = g.w.heap.size)
  D b i := g.D b i ∨ (d = true ∧ b = g.w.heap.size)
  hX b h := by
    rcases h with h | ⟨_, h⟩
    · have := g.hX b h; simp; omega
    · simp; omega
  hD b i h := by
    rcases h with h | ⟨_, h⟩
    · have := g.hD b i h; simp; omega
    · simp; omega
theorem push_ex (g : G) (o : Obj) (x d : Bool) : Ex g (g.push o x d) := by
  refine ⟨by show _ ≤ (g.w.alloc o).heap.size; simp, ?_, fun b hb _ => Below.heap_alloc _ _ _ hb, ?_⟩
  · rintro b hb hx (h | ⟨_, h⟩)
    · exact hx h
    · omega
  · intro b hb _ i
    constructor
    · rintro (h | ⟨_, h⟩)
      · exact h
      · omega
    · exact Or.inl
theorem push_stp {g : G} {B : Nat} (hB : B ≤ g.size) (o : Obj) (d : Bool) (M : Nat → Prop) : Stp B M g (g.push o false d) := by
  have hB' : B ≤ g.w.heap.size := hB
  refine ⟨(push_ex g o false d).le, ?_, fun b hb => Below.heap_alloc _ _ _ (g.hX b hb), rfl, rfl, rfl, fun b hb _ => Below.heap_alloc _ _ _ (by omega), ?_⟩
  · intro b
    constructor
    · rintro (h | ⟨h, _⟩)
      · exact h
      · cases h
    · exact Or.inl
  · intro b hb _ i
    constructor
    · rintro (h | ⟨_, h⟩)
      · exact h
      · omega
    · exact Or.inl
theorem push_at (g : G) (o : Obj) (x d : Bool) : (g.push o x d).w.heap[g.w.heap.size]? = some o := by
  show (g.w.heap.push o)[g.w.heap.size]? = _
  simp
theorem newX (g : G) : ¬ (g.X g.w.heap.size ∨ (false = true ∧ g.w.heap.size = g.w.heap.size)) := by
  rintro (h | ⟨h, _⟩)
  · exact absurd (g.hX _ h) (by simp)
  · cases h
theorem newDd (g : G) (i : Nat) : ¬ (g.D g.w.heap.size i ∨ (false = true ∧ g.w.heap.size = g.w.heap.size)) := by
  rintro (h | ⟨h, _⟩)
  · exact absurd (g.hD _ _ h) (by simp)
  · cases h
theorem push_newD (g : G) (e : TypeId) (L : List Value) : NewD g (g.push (.cells ⟨L⟩ e) false true) e L :=
  ⟨push_ex _ _ _ _, push_at _ _ _ _, newX g, fun i => Or.inr ⟨rfl, rfl⟩⟩
theorem push_newL (g : G) (e : TypeId) (L : List Value) : NewL g (g.push (.cells ⟨L⟩ e) false false) e L :=
  ⟨push_ex _ _ _ _, push_at _ _ _ _, newX g, fun i => newDd g i⟩
theorem push_newM (g : G) : NewM g (g.push (.map #[] 0) false true) :=
  ⟨push_ex _ _ _ _, push_at _ _ _ _, newX g, Or.inr ⟨rfl, rfl⟩⟩
theorem heap_stL (a : Addr) : ∀ (L : List Value) (i : Nat) (w : World) (b : Nat), b ≠ a.block → (stL a i L w).heap[b]? = w.heap[b]?
  | [], _, _, _, _ => rfl
  | v :: r, i, w, b, hb => by
    rw [stL, heap_stL a r (i + 1) _ b hb, Below.heap_setCell _ _ _ _ (by unfold Addr.add; split <;> exact hb)]
theorem stL_os (a : Addr) : ∀ (L : List Value) (i : Nat) (w : World), (stL a i L w).os = w.os ∧ (stL a i L w).tape = w.tape ∧ (stL a i L w).output = w.output
  | [], _, _ => ⟨rfl, rfl, rfl⟩
  | v :: r, i, w => by
    rw [stL]
    have := stL_os a r (i + 1) (w.setCell (a.add i) v)
    exact this
theorem cell_stL (a : Addr) (p : Addr) : ∀ (L : List Value) (i : Nat) (w : World), (∀ j, j < L.length → a.add (i + j) ≠ p) → (stL a i L w).cell? p = w.cell? p
  | [], _, _, _ => rfl
  | v :: r, i, w, h => by
    rw [stL, cell_stL a p r (i + 1) _ (fun j hj => by rw [show i + 1 + j = i + (j + 1) by omega]; exact h (j + 1) (by simp; omega)), World.cell?_setCell_other _ _ _ _ (by have := h 0 (by simp); rwa [Nat.add_zero] at this)]
def G.store (g : G) (pub : Bool) (ad : Addr) (L : List Value) : G where
  w := stL ad 0 L g.w
  X := g.X
  D b i := g.D b i ∧ (pub = true → ∀ j, j < L.length → ¬ (b = (ad.add j).block ∧ i = (ad.add j).off))
  hX b h := by rw [size_stL]; exact g.hX b h
  hD b i h := by rw [size_stL]; exact g.hD b i h.1
theorem store_stG (g : G) (pub : Bool) (ad : Addr) (L : List Value) : StG pub g ad L (g.store pub ad L) := ⟨rfl, fun _ => Iff.rfl, fun _ _ => Iff.rfl⟩
theorem add_block (a : Addr) (n : Nat) : (a.add n).block = a.block := by unfold Addr.add; split <;> rfl
theorem store_stp {g : G} {B : Nat} {M : Nat → Prop} {pub : Bool} {ad : Addr} {L : List Value} (hx : ¬ g.X ad.block) (hm : mutAt g ad L.length) (hB : ad.block < B → M ad.block) : Stp B M g (g.store pub ad L) := by
  obtain ⟨h1, h2, h3⟩ := stL_os ad L 0 g.w
  refine ⟨⟨by show _ ≤ (stL ad 0 L g.w).heap.size; rw [size_stL]; exact Nat.le_refl _, ?_, ?_, fun b o ⟨ty, fr, hc, hxb, hd⟩ => ⟨ty, fr, ?_, hxb, fun i h => hd i h.1⟩⟩, fun _ => Iff.rfl, ?_, h1, h2, h3, ?_, ?_⟩
  · rintro a v ⟨hc, hxa, hd⟩
    refine ⟨?_, hxa, fun h => hd h.1⟩
    show (stL ad 0 L g.w).cell? a = _
    rw [cell_stL _ _ _ _ _ (fun j hj he => hd (by rw [← he, Nat.zero_add]; exact hm j hj))]
    exact hc
  · rintro b m n ⟨hc, hxb, hd⟩
    refine ⟨?_, hxb, fun h => hd h.1⟩
    show (stL ad 0 L g.w).heap[b]? = _
    -- a map's block holds no cells; a store there turns nothing
    have key : ∀ (L : List Value) (i : Nat) (w : World), w.heap[b]? = some (.map m n) → (stL ad i L w).heap[b]? = some (.map m n) := by
      intro L
      induction L with
      | nil => intro i w h; exact h
      | cons v r ih =>
        intro i w h
        rw [stL]
        refine ih _ _ ?_
        by_cases hb : b = (ad.add i).block
        · show (w.heap.modify _ _)[b]? = _
          rw [Array.getElem?_modify, if_pos hb.symm, h]
          rfl
        · rw [Below.heap_setCell _ _ _ _ hb]; exact h
    exact key L 0 g.w hc
  · by_cases hb : b = ad.block
    · cases L with
      | nil => exact hc
      | cons v r => exact absurd (hm 0 (by simp)) (by rw [add_block, ← hb]; exact hd _)
    · show (stL ad 0 L g.w).heap[b]? = _
      rw [heap_stL _ _ _ _ _ hb]
      exact hc
  · intro b hb
    show (stL ad 0 L g.w).heap[b]? = _
    rw [heap_stL _ _ _ _ _ (fun e => hx (e ▸ hb))]
  · intro b hb hM
    show (stL ad 0 L g.w).heap[b]? = _
    rw [heap_stL _ _ _ _ _ (fun e => hM (by rw [e]; exact hB (e ▸ hb)))]
  · intro b hb hM i
    constructor
    · exact fun h => h.1
    · intro h
      refine ⟨h, fun _ j hj hh => hM ?_⟩
      rw [hh.1, add_block]
      exact hB (by have := hh.1; rw [add_block] at this; omega)
end Go.Vc
/- Frames with private variables: the conditions of operations, and that they are sound. -/
set_option linter.unusedVariables false
namespace Go.Vc
open Go Go.RowKit
structure Cfg where
  P : Program
  tt : List TI
  fns : List Nat
  pv : List Nat
  pt : List (Nat × Nat)
  pub : List Nat
  tch : List Nat
  tchV : Bool
  pubAll : Bool
  pn : Option (List PanicEntry → G → Prop)
  pnf : List Nat
  pnV : Bool
abbrev PE := List (Nat × Option (Nat × Nat))
abbrev PS := List (Nat × List Value)
def plook : PE → Nat → Option (Nat × Nat)
  | [], _ => none
  | (d, e) :: r, t => match Nat.beq d t with
    | true => e
    | false => plook r t
def slook : PS → Nat → Option (List Value)
  | [], _ => none
  | (d, e) :: r, t => match Nat.beq d t with
    | true => some e
    | false => slook r t
def killE (p : Nat) : Option (Nat × Nat) → Option (Nat × Nat)
  | none => none
  | some (q, o) => match Nat.beq q p with
    | true => none
    | false => some (q, o)
def killP (p : Nat) : PE → PE
  | [] => []
  | (t, e) :: r => (t, killE p e) :: killP p r
structure St where
  fr : Env
  pe : PE
  ps : PS
  dirty : Bool
def putPE (d : Option Tmp) (e : Option (Nat × Nat)) (pe : PE) : PE := match d with
  | none => pe
  | some d => (d, e) :: pe
def St.put (st : St) (d : Option Tmp) (v : Value) : St := ⟨putE d (some v) st.fr, putPE d none st.pe, st.ps, st.dirty⟩
def St.ptr (st : St) (d : Option Tmp) (p o : Nat) : St := ⟨putE d none st.fr, putPE d (some (p, o)) st.pe, st.ps, st.dirty⟩
def St.newP (st : St) (d : Nat) (L : List Value) : St := ⟨(d, none) :: st.fr, (d, some (d, 0)) :: killP d st.pe, (d, L) :: st.ps, true⟩
def St.setP (st : St) (p : Nat) (L : List Value) : St := ⟨st.fr, st.pe, (p, L) :: st.ps, true⟩
def oneB : Value → Bool
  | .agg _ => false
  | .tuple _ => false
  | _ => true
def onesB : List Value → Bool
  | [] => true
  | v :: r => oneB v && onesB r
def loadP (tt : List TI) (t : TypeId) (cs : List Value) (off : Nat) : Option Value := match tfind tt t with
  | some ti => match isAggD ti.und with
    | true => match Nat.beq ((cs.drop off).take ti.size).length ti.size with
      | true => some (.agg ⟨(cs.drop off).take ti.size⟩)
      | false => none
    | false => cs[off]?
  | none => none
def stP (tt : List TI) (t : TypeId) (cs : List Value) (off : Nat) (v : Value) : Option (List Value) := match tfind tt t with
  | some ti => match Nat.beq (cellsL v).length ti.size && (Nat.ble (off + (cellsL v).length) cs.length && onesB (cellsL v)) with
    | true => some (setsAt cs off (cellsL v))
    | false => none
  | none => none
def fldP (tt : List TI) (t : TypeId) (f : Nat) : Option Nat := match tfind tt t with
  | some ti => match ti.und with
    | .struct fs => match fs[f]? with
      | some fd => match tfind tt fd.type with
        | some fi => match Nat.beq fi.size 0 with
          | true => none
          | false => some fd.offset
        | none => none
      | none => none
    | _ => none
  | none => none
def zeroC (tt : List TI) (t : TypeId) : Option (List Value) := match tfind tt t with
  | some ti => match ti.zero with
    | some z => some (cellsL z)
    | none => none
  | none => none
def ptOf : List (Nat × Nat) → Nat → Option Nat
  | [], _ => none
  | (d, e) :: r, t => match Nat.beq d t with
    | true => some e
    | false => ptOf r t
def eqO (a : Option Nat) (b : Nat) : Bool := match a with
  | some a => Nat.beq a b
  | none => false
def plookO (pe : PE) (x : Operand) : Option (Nat × Nat) := match x with
  | .tmp s => plook pe s
  | _ => none
def tmpO (x : Operand) : Nat := match x with
  | .tmp s => s
  | _ => 0
def prvOp (c : Cfg) (o : Oper) (st : St) : Option (Option St) := match o.op with
  | .alloc e => match o.dst with
    | some d => match memN c.pv d with
      | true => match zeroC c.tt e with
        | some L => some (some (st.newP d L))
        | none => some none
      | false => none
    | none => none
  | .box e x => match o.dst with
    | some d => match memN c.pv d with
      | true => match ev st.fr x with
        | some v => some (some (st.newP d (cellsL v)))
        | none => some none
      | false => none
    | none => none
  | .load t x => match plookO st.pe x with
    | some (p, off) => match slook st.ps p with
      | some cs => match loadP c.tt t cs off with
        | some v => some (some (st.put o.dst v))
        | none => some none
      | none => some none
    | none => none
  | .store t x y => match plookO st.pe x with
    | some (p, off) => match slook st.ps p with
      | some cs => match ev st.fr y with
        | some v => match stP c.tt t cs off v with
          | some L => match eqO (ptOf c.pt (tmpO x)) p with
            | true => some (some ((st.setP p L).put o.dst undef))
            | false => some none
          | none => some none
        | none => some none
      | none => some none
    | none => none
  | .fieldAddr t x f => match plookO st.pe x with
    | some (p, off) => match fldP c.tt t f with
      | some k => some (some (st.ptr o.dst p (off + k)))
      | none => some none
    | none => none
  | .nilCheck x => match plookO st.pe x with
    | some (p, off) => some (some (st.ptr o.dst p off))
    | none => none
  | .move x => match plookO st.pe x with
    | some (p, off) => some (some (st.ptr o.dst p off))
    | none => none
  | .assign x => match plookO st.pe x with
    | some (p, off) => some (some (st.ptr o.dst p off))
    | none => none
  | _ => none
def effB (tt : List TI) (o : Oper) : Bool := match o.op with
  | .convert s d _ => convEff tt s d
  | .call c => match c.callee with
    | .builtin .len => match c.argTypes.toList with
      | t :: _ => match tfind tt t with
        | some ti => match ti.und with
          | .map _ _ => true
          | _ => false
        | none => false
      | [] => false
    | _ => isEff o.op
  | op => isEff op
def storeG (tt : List TI) (B : Nat) (M : Nat → Prop) (pub : Bool) (t : TypeId) (ad : Addr) (v : Value) (g : G) (K : G → Prop) : Prop := match tfind tt t with
  | some ti => match Nat.beq (cellsL v).length ti.size && onesB (cellsL v) with
    | true => stOk g.w ad ti.size ∧ ¬ g.X ad.block ∧ mutAt g ad ti.size ∧ (ad.block < B → M ad.block) ∧ ∀ g', StG pub g ad (cellsL v) g' → K g'
    | false => False
  | none => False
def bSliceG (tt : List TI) (t : TypeId) (len : Nat) (parts : List (Nat × Value)) (mt : Bool) (g : G) (K : Value → G → Prop) : Prop := match tfind tt t with
  | some ti => match ti.und with
    | .slice e => match tfind tt e with
      | some ei => withV ei.zero fun z => match Nat.ble (len * ei.size) 16777216 with
        | true => withL (fillL (fun i => some (i * ei.size, ei.size)) (zeroL (zl0 (cellsL z) (len * ei.size)) (len * ei.size)) parts) fun cs =>
            match mt with
            | false => ∀ g', NewL g g' e cs → K (.slice (some ⟨g.w.heap.size, 0, none⟩) len len) g'
            | true => ∀ g', NewD g g' e cs → K (.slice (some ⟨g.w.heap.size, 0, none⟩) len len) g'
        | false => False
      | none => False
    | _ => False
  | none => False
def retG (sh : Sh) (K : Value → G → Prop) : Value → G → Prop := fun v g' => exS sh fun u => v = u ∧ K u g'
def othG (c : Cfg) (B : Nat) (M : Nat → Prop) (fr : Env) (o : Oper) (g : G) (K : Value → G → Prop) : Prop :=
  effVC c.P c.tt c.fns fr o g.w none fun v w' => ∃ g', g'.w = w' ∧ Stp B M g g' ∧ K v g'
def callK (c : Cfg) (B : Nat) (M : Nat → Prop) (touch pan : Bool) (k : FuncId) (args : Array Value) (g : G) (Q : Value → G → Prop) : Prop := match pan with
  | false => match touch with
    | false => CallsP c.P k args g Q
    | true => ∃ M1 : Nat → Prop, (∀ b, b < B → M1 b → M b) ∧ CallsG c.P k args g M1 Q
  | true => match c.pn with
    | none => False
    | some R => match touch with
      | false => CallsX c.P k args g nobody Q fun ch g' => ∀ g'', Ex g' g'' → R ch g''
      | true => ∃ M1 : Nat → Prop, (∀ b, b < B → M1 b → M b) ∧ CallsX c.P k args g M1 Q fun ch g' => ∀ g'', Ex g' g'' → R ch g''
def callG (c : Cfg) (B : Nat) (M : Nat → Prop) (fr : Env) (o : Oper) (cl : Call) (g : G) (K : Value → G → Prop) : Prop := match cl.callee with
  | .value f => match f with
    | .func k => match memN c.fns k with
      | true => withL (evL fr cl.args.toList) fun vs => shOf c.tt o.type fun sh => callK c B M (memN c.tch k) (memN c.pnf k) k ⟨vs⟩ g (retG sh K)
      | false => othG c B M fr o g K
    | f => withV (ev fr f) fun v => match v with
      | .func fn first cap => match fn with
        | .func k => match first with
          | ⟨[]⟩ => withL (evL fr cl.args.toList) fun vs => shOf c.tt o.type fun sh => Enters c.P k ∧ callK c B M c.tchV c.pnV k (⟨vs⟩ ++ cap) g (retG sh K)
          | _ => False
        | _ => False
      | _ => False
  | _ => othG c B M fr o g K
def itSh (c : Cfg) (x : Operand) (K : ShE → ShE → Prop) : Prop := match ptOf c.pt (1000000 + tmpO x) with
  | some t => match tfind c.tt t with
    | some ti => match ti.und with
      | .map k e => match tfind c.tt k with
        | some ki => match tfind c.tt e with
          | some ei => match ki.sh with
            | .e ks => match ei.sh with
              | .e es => K ks es
              | _ => False
            | _ => False
          | none => False
        | none => False
      | _ => False
    | none => False
  | none => False
theorem itSh_some {c : Cfg} {x : Operand} {K : ShE → ShE → Prop} (h : itSh c x K) : ∃ ks es, K ks es := by
  unfold itSh at h
  split at h <;> try exact h.elim
  split at h <;> try exact h.elim
  split at h <;> try exact h.elim
  split at h <;> try exact h.elim
  split at h <;> try exact h.elim
  split at h <;> try exact h.elim
  split at h <;> try exact h.elim
  exact ⟨_, _, h⟩
def nextG (c : Cfg) (B : Nat) (M : Nat → Prop) (fr : Env) (o : Oper) (x : Operand) (s : Bool) (g : G) (K : Value → G → Prop) : Prop := withV (ev fr x) fun a =>
  (∃ w', (Instr.next a s o.type).run c.P g.w = .ok (.tuple ⟨[.bool false]⟩) w' ∧ ∃ g', g'.w = w' ∧ Stp B M g g' ∧ K (.tuple ⟨[.bool false]⟩) g') ∨ match s with
    | true => RunV c.P (Instr.next a s o.type) (.tup [.one .bool, .one (.int .i64), .one (.int .i32)]) g.w fun v w' => ∃ g', g'.w = w' ∧ Stp B M g g' ∧ K v g'
    | false => itSh c x fun ks es => RunV c.P (Instr.next a s o.type) (.tup [.one .bool, ks, es]) g.w fun v w' => ∃ g', g'.w = w' ∧ Stp B M g g' ∧ K v g'
def entryG (c : Cfg) (B : Nat) (M : Nat → Prop) (fr : Env) (o : Oper) (x : Operand) (g : G) (K : Value → G → Prop) : Prop := withV (ev fr x) fun a =>
  itSh c x fun ks es => RunV c.P (Instr.entry a) (.tup [ks, es]) g.w fun v w' => ∃ g', g'.w = w' ∧ Stp B M g g' ∧ K v g'
def dstO (o : Option Tmp) : Nat := match o with
  | some d => d
  | none => 0
def effG (c : Cfg) (B : Nat) (M : Nat → Prop) (fr : Env) (o : Oper) (g : G) (K : Value → G → Prop) : Prop := match o.op with
  | .alloc e => zeroV c.tt e fun z => ∀ g', NewD g g' e (cellsL z) → K (.pointer (some ⟨g.w.heap.size, 0, none⟩)) g'
  | .box e x => withV (ev fr x) fun v => match memN c.pub (dstO o.dst) with
    | true => ∀ g', NewL g g' e (cellsL v) → K (.pointer (some ⟨g.w.heap.size, 0, none⟩)) g'
    | false => ∀ g', NewD g g' e (cellsL v) → K (.pointer (some ⟨g.w.heap.size, 0, none⟩)) g'
  | .build t parts => withP (evP fr parts.toList) fun ps => buildVC c.tt t ps fun v => K v g
  | .buildSlice t len parts => withP (evP fr parts.toList) fun ps => bSliceG c.tt t len ps (memN c.pub (dstO o.dst)) g K
  | .load t x => withV (ev fr x) fun v => match v with
    | .pointer a => derefP a fun ad => loadVC c.tt t ad g.w fun v => K v g
    | _ => False
  | .store t x y => withV (ev fr x) fun v => withV (ev fr y) fun u => match v with
    | .pointer a => derefP a fun ad => storeG c.tt B M (memN c.pub (tmpO x)) t ad u g fun g' => K undef g'
    | _ => False
  | .makeMap _ r => match r with
    | none => ∀ g', NewM g g' → K (.map (some g.w.heap.size)) g'
    | some _ => False
  | .call cl => callG c B M fr o cl g K
  | .next x s => nextG c B M fr o x s g K
  | .entry x => entryG c B M fr o x g K
  | .panic x => withV (ev fr x) fun v => match v with
    | .iface t u => match c.pn with
      | none => False
      | some R => ∀ g', Ex g g' → R [{ v := .iface t u, recovered := false }] g'
    | _ => False
  | _ => othG c B M fr o g K
def flushG (st : St) (g : G) (K : St → G → Prop) : Prop := match st.dirty with
  | true => ∀ g', Ex g g' → K ⟨st.fr, st.pe, st.ps, false⟩ g'
  | false => K st g
def opG (c : Cfg) (B : Nat) (M : Nat → Prop) (o : Oper) (st : St) (g : G) (K : St → G → Prop) : Prop := match prvOp c o st with
  | some r => match r with
    | some st' => K st' g
    | none => False
  | none => match effB c.tt o with
    | false => pureVC c.tt st.fr o fun v => K (st.put o.dst v) g
    | true => flushG st g fun st g => effG c B M st.fr o g fun v g' => K (st.put o.dst v) g'
section
variable {c : Cfg} {B : Nat} {M : Nat → Prop}
theorem onesB_use : ∀ {l : List Value}, onesB l = true → ∀ u ∈ l, u.oneCell' = true
  | [], _, _, h => by cases h
  | v :: r, h, u, hu => by
    simp only [onesB, Bool.and_eq_true] at h
    rcases List.mem_cons.1 hu with rfl | hu
    · have := h.1
      cases u <;> first | rfl | cases this
    · exact onesB_use h.2 u hu
theorem storeAt_run {P : Program} {tt : List TI} (T : TOk P tt) {t : TypeId} {ti : TI} (ht : tfind tt t = some ti) {a : Addr} {v : Value} {w : World} (hl : (cellsL v).length = ti.size) (hs : stOk w a ti.size) (h1 : ∀ u ∈ cellsL v, u.oneCell' = true) :
    (Instr.storeAt t (.pointer (some a)) v).run P w = .ok () (stL a 0 (cellsL v) w) := by
  have F := T.fact ht
  have hr : (storeCells a (cellsL v)).run P w = .ok () (stL a 0 (cellsL v) w) := stL_sound (fun j hj => by rw [Nat.zero_add]; exact hs j (by omega)) h1
  rw [cellsL_eq] at hl hr ⊢
  have hl' : v.cells.size = ti.size := by simpa using hl
  simp [Instr.storeAt, Instr.sureAddr, storeVar, F.run_size, hl', hr]
theorem loadAt_run {P : Program} {tt : List TI} (T : TOk P tt) {t : TypeId} {ad : Addr} {v : Value} {w : World} {cs : List Value} {off : Nat} (h : loadP tt t cs off = some v) (hc : ∀ j u, cs[off + j]? = some u → w.cell? (ad.add j) = some u) :
    (Instr.loadAt t (.pointer (some ad))).run P w = .ok v w := by
  unfold loadP at h
  cases hs : tfind tt t <;> simp only [hs] at h
  · cases h
  · rename_i ti
    have F := T.fact hs
    cases ha : isAggD ti.und <;> simp only [ha] at h
    · have e := hc 0 v (by simpa using h)
      rw [Addr.add_zero'] at e
      simp [Instr.loadAt, Instr.sureAddr, loadVar, F.run_agg, ha, e]
    · cases hl : Nat.beq ((cs.drop off).take ti.size).length ti.size <;> simp only [hl] at h
      · cases h
      · have hl' := Nat.eq_of_beq_eq_true hl
        obtain rfl := Option.some.inj h
        have := run_loadCells_list (P := P) w ad ((cs.drop off).take ti.size) (fun j u hu => by
          have hj : j < ti.size := by
            have := (List.getElem?_eq_some_iff.1 hu).1
            omega
          rw [List.getElem?_take, if_pos hj, List.getElem?_drop] at hu
          exact hc j u hu)
        rw [hl'] at this
        simp [Instr.loadAt, Instr.sureAddr, loadVar, F.run_agg, ha, F.run_size, this]
def NxG (B : Nat) (M : Nat → Prop) (o : Oper) (a : Act) (g : G) (K : Value → G → Prop) : Act → World → Prop := Nx o a fun v w' => ∃ g', g'.w = w' ∧ Stp B M g g' ∧ K v g'
theorem oth_sound (T : TOk c.P c.tt) (F : FOk c.P c.fns) {n : Nat} {fr : Env} {a : Act} (hA : Agree n fr a) {o : Oper} {g : G} {K : Value → G → Prop} {Q : Exit → Act → World → Prop} (h : othG c B M fr o g K) : o.wp c.P a g.w (NxG B M o a g K) Q :=
  eff_sound T F hA h (fun p c w hp => by cases hp)
theorem exS_imp : ∀ {sh : Sh} {Q Q' : Value → Prop}, (∀ v, Q v → Q' v) → exS sh Q → exS sh Q' := by
  have k1 : ∀ {s : Sh1} {Q Q' : Value → Prop}, (∀ v, Q v → Q' v) → ex1 s Q → ex1 s Q' := by
    intro s Q Q' hq h
    cases s
    case sl => obtain ⟨a, l, c, h⟩ := h; exact ⟨a, l, c, hq _ h⟩
    case fn => obtain ⟨a, c, h⟩ := h; exact ⟨a, c, hq _ h⟩
    all_goals (obtain ⟨a, h⟩ := h; exact ⟨a, hq _ h⟩)
  have kN : ∀ {l : List Sh1} {Q Q' : List Value → Prop}, (∀ v, Q v → Q' v) → exN l Q → exN l Q' := by
    intro l
    induction l with
    | nil => intro Q Q' hq h; exact hq _ h
    | cons s r ih => intro Q Q' hq h; exact k1 (fun v hv => ih (fun vs => hq (v :: vs)) hv) h
  have kE : ∀ {s : ShE} {Q Q' : Value → Prop}, (∀ v, Q v → Q' v) → exE s Q → exE s Q' := by
    intro s Q Q' hq h
    cases s with
    | one s => exact k1 hq h
    | agg l => exact kN (fun vs => hq _) h
    | arr n => obtain ⟨vs, hl, h⟩ := h; exact ⟨vs, hl, hq _ h⟩
  have kT : ∀ {l : List ShE} {Q Q' : List Value → Prop}, (∀ v, Q v → Q' v) → exT l Q → exT l Q' := by
    intro l
    induction l with
    | nil => intro Q Q' hq h; exact hq _ h
    | cons s r ih => intro Q Q' hq h; exact kE (fun v hv => ih (fun vs => hq (v :: vs)) hv) h
  intro sh Q Q' hq h
  cases sh with
  | e s => exact kE hq h
  | tup l => exact kT (fun vs => hq _) h
theorem calls_ret {P : Program} {k : FuncId} {args : Array Value} {g : G} {M1 : Nat → Prop} {sh : Sh} {K : Value → G → Prop} (hB : B ≤ g.size) (hM : ∀ b, b < B → M1 b → M b) (h : CallsG P k args g M1 (retG sh K)) :
    Calls P k args g.w (RetP sh none fun v w' => ∃ g', g'.w = w' ∧ Stp B M g g' ∧ K v g') := by
  refine Calls.mono h fun e w' he => ?_
  obtain ⟨v, g', rfl, rfl, hs, hr⟩ := he
  have hs' : Stp B M g g' := hs.mono hB hM
  exact exS_imp (fun u hu => ⟨by rw [hu.1], g', rfl, hs', hu.2⟩) hr
theorem calls_retX {P : Program} {k : FuncId} {args : Array Value} {g : G} {M1 : Nat → Prop} {sh : Sh} {K : Value → G → Prop} {R : List PanicEntry → G → Prop} (hB : B ≤ g.size) (hM : ∀ b, b < B → M1 b → M b) (h : CallsX P k args g M1 (retG sh K) R) :
    Calls P k args g.w (RetP sh (some fun ch w' => ∃ g', g'.w = w' ∧ Stp B M g g' ∧ R ch g') fun v w' => ∃ g', g'.w = w' ∧ Stp B M g g' ∧ K v g') := by
  refine Calls.mono h fun e w' he => ?_
  obtain ⟨g', rfl, hs, h⟩ := he
  have hs' : Stp B M g g' := hs.mono hB hM
  rcases h with ⟨v, rfl, hr⟩ | ⟨ch, rfl, hr⟩
  · exact .inl (exS_imp (fun u hu => ⟨by rw [hu.1], g', rfl, hs', hu.2⟩) hr)
  · exact .inr ⟨ch, rfl, g', rfl, hs', hr⟩
def QX (c : Cfg) (B : Nat) (M : Nat → Prop) (g : G) (a : Act) (Q : Exit → Act → World → Prop) : Prop := ∀ R, c.pn = some R → ∀ ch g', Stp B M g g' → (∀ g'', Ex g' g'' → R ch g'') → Q (.panic ch) a g'.w
theorem callK_use {P : Program} {k : FuncId} {args : Array Value} {g : G} {sh : Sh} {K : Value → G → Prop} {touch pan : Bool} {a : Act} {Q : Exit → Act → World → Prop} (hP : c.P = P) (hB : B ≤ g.size) (hQ : QX c B M g a Q) (h : callK c B M touch pan k args g (retG sh K)) :
    ∃ pn, Calls P k args g.w (RetP sh pn fun v w' => ∃ g', g'.w = w' ∧ Stp B M g g' ∧ K v g') ∧ QPn pn Q a := by
  subst hP
  cases pan with
  | false =>
    refine ⟨none, ?_, fun p c w hp => by cases hp⟩
    cases touch with
    | false => exact calls_ret hB (fun b _ h => h.elim) h
    | true => obtain ⟨M1, hM, h⟩ := h; exact calls_ret hB hM h
  | true =>
    unfold callK at h
    cases hp : c.pn with
    | none => simp only [hp] at h
    | some R =>
      simp only [hp] at h
      refine ⟨some fun ch w' => ∃ g', g'.w = w' ∧ Stp B M g g' ∧ ∀ g'', Ex g' g'' → R ch g'', ?_, ?_⟩
      · cases touch with
        | false => exact calls_retX hB (fun b _ h => h.elim) h
        | true => obtain ⟨M1, hM, h⟩ := h; exact calls_retX hB hM h
      · rintro p ch w e hh
        cases e
        obtain ⟨g', rfl, hs, hr⟩ := hh
        exact hQ R hp ch g' hs hr
theorem effG_sound (T : TOk c.P c.tt) (F : FOk c.P c.fns) {n : Nat} {fr : Env} {a : Act} (hA : Agree n fr a) {o : Oper} {g : G} (hB : B ≤ g.size) {K : Value → G → Prop} {Q : Exit → Act → World → Prop}
    (h : effG c B M fr o g K) (hQ : QX c B M g a Q) : o.wp c.P a g.w (NxG B M o a g K) Q := by
  obtain ⟨dst, op, type, pos, after, guard⟩ := o
  cases op
  case alloc e =>
    simp only [effG, zeroV] at h
    cases hs : tfind c.tt e <;> simp only [hs] at h
    obtain ⟨z, hz, hK⟩ := withV_some h
    refine upon_of_value ?_ ⟨_, rfl, push_stp hB _ _ _, hK _ (push_newD _ _ _)⟩
    simp [execOp, Instr.alloc, (T.fact hs).run_zero hz, newVar, newRow, cellsL_eq, G.push]
  case box e x =>
    simp only [effG] at h
    obtain ⟨v, hv, hK⟩ := withV_some h
    cases hp : memN c.pub (dstO dst) <;> simp only [hp] at hK
    · refine upon_of_value ?_ ⟨_, rfl, push_stp hB _ _ _, hK _ (push_newD _ _ _)⟩
      simp [execOp, Instr.box, newVar, newRow, cellsL_eq, hA.ev hv, G.push]
    · refine upon_of_value ?_ ⟨_, rfl, push_stp hB _ _ _, hK _ (push_newL _ _ _)⟩
      simp [execOp, Instr.box, newVar, newRow, cellsL_eq, hA.ev hv, G.push]
  case build t parts =>
    simp only [effG] at h
    obtain ⟨ps, hp, h⟩ := withP_some h
    obtain ⟨v, h1, h2⟩ := buildVC_sound (P := c.P) T h
    refine upon_of_value ?_ ⟨g, rfl, Stp.refl _ _ _, h2⟩
    simp [execOp, evP_arr hA hp, h1]
  case buildSlice t len parts =>
    simp only [effG] at h
    obtain ⟨ps, hp, h⟩ := withP_some h
    have h' : bSliceVC c.tt t len ps g.w fun v w' => ∃ g', g'.w = w' ∧ Stp B M g g' ∧ K v g' := by
      unfold bSliceG at h
      unfold bSliceVC
      cases hs : tfind c.tt t <;> simp only [hs] at h ⊢
      rename_i ti
      cases hu : ti.und <;> simp only [hu] at h ⊢
      rename_i e
      cases he : tfind c.tt e <;> simp only [he] at h ⊢
      rename_i ei
      obtain ⟨z, hz, h⟩ := withV_some h
      rw [hz]
      show match Nat.ble (len * ei.size) 16777216 with | true => _ | false => False
      cases hb : Nat.ble (len * ei.size) 16777216 <;> simp only [hb] at h ⊢
      obtain ⟨cs, hf, hK⟩ := withL_some h
      rw [hf]
      intro w' hw'
      subst hw'
      cases hp : memN c.pub (dstO dst) <;> simp only [hp] at hK
      · exact ⟨_, rfl, push_stp hB (.cells ⟨cs⟩ e) _ _, hK _ (push_newL _ _ _)⟩
      · exact ⟨_, rfl, push_stp hB (.cells ⟨cs⟩ e) _ _, hK _ (push_newD _ _ _)⟩
    obtain ⟨v, w', h1, h2⟩ := bSliceVC_sound (P := c.P) T h'
    refine upon_of_value ?_ h2
    simp [execOp, evP_arr hA hp, h1]
  case load t x =>
    simp only [effG] at h
    obtain ⟨v, hv, h⟩ := withV_some h
    cases v <;> simp only at h
    obtain ⟨ad, rfl, h⟩ := derefP_some h
    obtain ⟨v, h1, h2, _⟩ := loadVC_sound (P := c.P) T h
    refine upon_of_value ?_ ⟨g, rfl, Stp.refl _ _ _, h2⟩
    simp [execOp, hA.ev hv, h1]
  case store t x y =>
    simp only [effG] at h
    replace h := withV_some h
    obtain ⟨v, hv, h⟩ := h
    replace h := withV_some h
    obtain ⟨u, hu, h⟩ := h
    cases v <;> simp only at h
    replace h := derefP_some h
    obtain ⟨ad, rfl, h⟩ := h
    unfold storeG at h
    cases hs : tfind c.tt t <;> simp only [hs] at h
    rename_i ti
    cases hb : (Nat.beq (cellsL u).length ti.size && onesB (cellsL u)) <;> simp only [hb] at h
    simp only [Bool.and_eq_true] at hb
    have hl := Nat.eq_of_beq_eq_true hb.1
    obtain ⟨h1, h2, h3, h4, h5⟩ := h
    have hr := storeAt_run T hs hl h1 (onesB_use hb.2)
    refine upon_of_skip ?_ ⟨_, rfl, store_stp (pub := memN c.pub (tmpO x)) h2 (by rw [hl]; exact h3) h4, h5 _ (store_stG _ _ _ _)⟩
    simp [execOp, hA.ev hv, hA.ev hu, hr, G.store]
  case next x s =>
    replace h : nextG c B M fr { dst, op := .next x s, type, pos, after, guard } x s g K := h
    unfold nextG at h
    obtain ⟨v, hv, h⟩ := withV_some h
    have key : ∀ {sh : Sh}, (RunV c.P (Instr.next v s type) sh g.w fun v w' => ∃ g', g'.w = w' ∧ Stp B M g g' ∧ K v g') → Oper.wp c.P { dst, op := .next x s, type, pos, after, guard } a g.w (NxG B M { dst, op := .next x s, type, pos, after, guard } a g K) Q := by
      intro sh h
      obtain ⟨v', w', h1, h2⟩ := exS_some h
      refine upon_of_value ?_ h2
      simp [execOp, hA.ev hv, h1]
    rcases h with ⟨w', h1, h2⟩ | h
    · refine upon_of_value ?_ h2
      simp [execOp, hA.ev hv, h1]
    · cases s <;> simp only at h
      · obtain ⟨ks, es, h⟩ := itSh_some h
        exact key h
      · exact key h
  case entry x =>
    replace h : entryG c B M fr { dst, op := .entry x, type, pos, after, guard } x g K := h
    unfold entryG at h
    obtain ⟨v, hv, h⟩ := withV_some h
    obtain ⟨ks, es, h⟩ := itSh_some h
    obtain ⟨v', w', h1, h2⟩ := exS_some h
    refine upon_of_value ?_ h2
    simp [execOp, hA.ev hv, h1]
  case makeMap t r =>
    simp only [effG] at h
    cases r <;> simp only at h
    refine upon_of_value ?_ ⟨_, rfl, push_stp hB _ _ _, h _ (push_newM _)⟩
    simp [execOp, Instr.makeMap, G.push]
  case panic x =>
    replace h : (withV (ev fr x) fun v => match v with
      | .iface t u => match c.pn with
        | none => False
        | some R => ∀ g', Ex g g' → R [{ v := .iface t u, recovered := false }] g'
      | _ => False) := h
    obtain ⟨v, hv, h⟩ := withV_some h
    cases v <;> simp only at h
    rename_i t u
    cases hp : c.pn <;> simp only [hp] at h
    rename_i R
    have : (execOp a.eval { dst, op := .panic x, type, pos, after, guard }).run c.P g.w = .halt (.panic (.iface t u)) g.w := by
      simp [execOp, hA.ev hv, Instr.panic]
    unfold Oper.wp
    rw [this]
    exact hQ R hp _ g (Stp.refl _ _ _) h
  case call cl =>
    replace h : callG c B M fr { dst, op := .call cl, type, pos, after, guard } cl g K := h
    obtain ⟨callee, args, argTypes⟩ := cl
    unfold callG at h
    cases callee <;> simp only at h
    case value f =>
      have closure : (withV (ev fr f) fun v => match v with
          | .func fn first cap => match fn with
            | .func k => match first with
              | ⟨[]⟩ => withL (evL fr args.toList) fun vs => shOf c.tt type fun sh => Enters c.P k ∧ callK c B M c.tchV c.pnV k (⟨vs⟩ ++ cap) g (retG sh K)
              | _ => False
            | _ => False
          | _ => False) → (match f with
            | .func k => False
            | f => True) → Oper.wp c.P { dst, op := .call { callee := .value f, args, argTypes }, type, pos, after, guard } a g.w (NxG B M { dst, op := .call { callee := .value f, args, argTypes }, type, pos, after, guard } a g K) Q := by
        intro h hf
        obtain ⟨v, hv, h⟩ := withV_some h
        cases v <;> simp only at h
        rename_i fn first cap
        cases fn <;> simp only at h
        rename_i k
        rcases first with ⟨_ | ⟨x, xs⟩⟩
        · simp only at h
          obtain ⟨vs, hvs, h⟩ := withL_some h
          unfold shOf at h
          cases hs : tfind c.tt type <;> simp only [hs] at h
          obtain ⟨he, hc⟩ := h
          obtain ⟨pn, hc, hQ'⟩ := callK_use rfl hB hQ hc
          refine eff_sound (n := n) (pn := pn) T F hA (o := { dst, op := .call { callee := .value f, args, argTypes }, type, pos, after, guard }) ?_ hQ'
          have : callVC c.P c.tt c.fns fr { callee := .value f, args, argTypes } type g.w pn fun v w' => ∃ g', g'.w = w' ∧ Stp B M g g' ∧ K v g' := by
            unfold callVC
            cases f
            case func k => exact hf.elim
            all_goals
              show withV _ _
              rw [hv]
              show withL _ _
              rw [hvs]
              simp only [withL, shOf, hs]
              exact ⟨he, hc⟩
          exact this
        · exact h.elim
      cases f <;> simp only at h
      case func k =>
        cases hm : memN c.fns k <;> simp only [hm] at h
        · exact oth_sound T F hA h
        · obtain ⟨vs, hvs, h⟩ := withL_some h
          unfold shOf at h
          cases hs : tfind c.tt type <;> simp only [hs] at h
          obtain ⟨pn, hc, hQ'⟩ := callK_use rfl hB hQ h
          refine eff_sound (n := n) (pn := pn) T F hA (o := { dst, op := .call { callee := .value (.func k), args, argTypes }, type, pos, after, guard }) ?_ hQ'
          have : callVC c.P c.tt c.fns fr { callee := .value (.func k), args, argTypes } type g.w pn fun v w' => ∃ g', g'.w = w' ∧ Stp B M g g' ∧ K v g' := by
            unfold callVC
            show withL _ _
            rw [hvs]
            simp only [withL, shOf, hs, hm]
            exact hc
          exact this
      all_goals exact closure h trivial
    all_goals exact oth_sound T F hA h
  all_goals exact oth_sound T F hA h
end
end Go.Vc
/- The conditions of operations on frames with private variables are sound. -/
set_option linter.unusedVariables false
namespace Go.Vc
open Go Go.RowKit
structure Kp (g0 : G) (M : Nat → Prop) (g : G) : Prop where
  le : Le g0 g
  x : ∀ b, g0.X b → g.X b
  keepX : ∀ b, g0.X b → g.w.heap[b]? = g0.w.heap[b]?
  os : g.w.os = g0.w.os
  tape : g.w.tape = g0.w.tape
  output : g.w.output = g0.w.output
  same : ∀ b, b < g0.size → ¬ M b → g.w.heap[b]? = g0.w.heap[b]?
  d : ∀ b, b < g0.size → ¬ M b → ∀ i, (g.D b i ↔ g0.D b i)
theorem Kp.refl (g : G) (M : Nat → Prop) : Kp g M g := ⟨Le.refl g, fun _ h => h, fun _ _ => rfl, rfl, rfl, rfl, fun _ _ _ => rfl, fun _ _ _ _ => Iff.rfl⟩
theorem Kp.step {g0 g g' : G} {M : Nat → Prop} (h : Kp g0 M g) (k : Stp g0.size M g g') : Kp g0 M g' :=
  ⟨h.le.trans k.le, fun b hb => (k.x b).2 (h.x b hb), fun b hb => (k.keepX b (h.x b hb)).trans (h.keepX b hb), k.os.trans h.os, k.tape.trans h.tape, k.output.trans h.output,
   fun b hb hm => (k.same b hb hm).trans (h.same b hb hm), fun b hb hm i => (k.d b hb hm i).trans (h.d b hb hm i)⟩
structure PAg (B : Nat) (st : St) (β : Nat → Nat) (g : G) (a : Act) : Prop where
  ptr : ∀ t p o, plook st.pe t = some (p, o) → a.tmps.getD t undef = .pointer (some ⟨β p, o, none⟩)
  cell : ∀ p cs, slook st.ps p = some cs → B ≤ β p ∧ g.X (β p) ∧ ∃ ty, Blk g.w (β p) ty cs
  inj : ∀ p q cs cs', slook st.ps p = some cs → slook st.ps q = some cs' → β p = β q → p = q
def Exx (g g' : G) : Prop := Ex g g' ∧ ∀ b, g.X b → g'.X b
theorem Exx.refl (g : G) : Exx g g := ⟨Ex.refl g, fun _ h => h⟩
theorem Exx.trans {a b c : G} (h : Exx a b) (k : Exx b c) : Exx a c := ⟨h.1.trans k.1, fun x hx => k.2 x (h.2 x hx)⟩
structure OkS (g0 : G) (M : Nat → Prop) (n : Nat) (st : St) (g : G) (a : Act) (w : World) : Prop where
  agree : Agree n st.fr a
  ex : ∃ (gr : G) (β : Nat → Nat), gr.w = w ∧ Exx g gr ∧ (st.dirty = false → gr = g) ∧ Kp g0 M gr ∧ PAg g0.size st β gr a
def wpO (c : Cfg) (o : Oper) : List Nat := match o.op with
  | .alloc _ => match o.dst with
    | some d => match memN c.pv d with
      | true => [d]
      | false => []
    | none => []
  | .box _ _ => match o.dst with
    | some d => match memN c.pv d with
      | true => [d]
      | false => []
    | none => []
  | .store _ x _ => match ptOf c.pt (tmpO x) with
    | some p => [p]
    | none => []
  | _ => []
structure ExtSt (W Wp : List Nat) (st st' : St) : Prop where
  fr : ExtE W st.fr st'.fr
  pe : ∀ t p o, t ∉ W → p ∉ Wp → plook st.pe t = some (p, o) → plook st'.pe t = some (p, o)
  ps : ∀ p cs, p ∉ Wp → slook st.ps p = some cs → slook st'.ps p = some cs
theorem ExtSt.refl (W Wp : List Nat) (st : St) : ExtSt W Wp st st := ⟨ExtE.refl _ _, fun _ _ _ _ _ h => h, fun _ _ _ h => h⟩
theorem ExtSt.trans {W W' V V' : List Nat} {a b c : St} (h : ExtSt W V a b) (k : ExtSt W' V' b c) : ExtSt (W ++ W') (V ++ V') a c := by
  refine ⟨h.fr.trans k.fr, ?_, ?_⟩
  · intro t p o ht hp hl
    simp only [List.mem_append, not_or] at ht hp
    exact k.pe t p o ht.2 hp.2 (h.pe t p o ht.1 hp.1 hl)
  · intro p cs hp hl
    simp only [List.mem_append, not_or] at hp
    exact k.ps p cs hp.2 (h.ps p cs hp.1 hl)
theorem ExtSt.mono {W W' V V' : List Nat} {a b : St} (h : ExtSt W V a b) (hW : ∀ t, t ∈ W → t ∈ W') (hV : ∀ t, t ∈ V → t ∈ V') : ExtSt W' V' a b :=
  ⟨h.fr.mono hW, fun t p o ht hp => h.pe t p o (fun m => ht (hW t m)) (fun m => hp (hV p m)), fun p cs hp => h.ps p cs (fun m => hp (hV p m))⟩
theorem nbeq (a b : Nat) : Nat.beq a b = decide (a = b) := by
  by_cases h : a = b
  · subst h; simp
  · have : Nat.beq a b = false := by
      cases hb : Nat.beq a b with
      | false => rfl
      | true => exact absurd (Nat.eq_of_beq_eq_true hb) h
    simp [this, h]
theorem plook_cons (d : Nat) (e : Option (Nat × Nat)) (r : PE) (t : Nat) : plook ((d, e) :: r) t = if d = t then e else plook r t := by
  show (match Nat.beq d t with | true => e | false => plook r t) = _
  rw [nbeq]
  by_cases h : d = t <;> simp [h]
theorem slook_cons (d : Nat) (e : List Value) (r : PS) (t : Nat) : slook ((d, e) :: r) t = if d = t then some e else slook r t := by
  show (match Nat.beq d t with | true => some e | false => slook r t) = _
  rw [nbeq]
  by_cases h : d = t <;> simp [h]
theorem plook_kill (d : Nat) : ∀ (pe : PE) (t : Nat), plook (killP d pe) t = killE d (plook pe t)
  | [], _ => rfl
  | (x, e) :: r, t => by
    rw [killP, plook_cons, plook_cons, plook_kill d r t]
    by_cases h : x = t <;> simp [h]
theorem killE_some {d : Nat} {e : Option (Nat × Nat)} {p o : Nat} : killE d e = some (p, o) ↔ e = some (p, o) ∧ p ≠ d := by
  cases e with
  | none => simp [killE]
  | some q =>
    obtain ⟨q, k⟩ := q
    show (match Nat.beq q d with | true => none | false => some (q, k)) = _ ↔ _
    rw [nbeq]
    by_cases h : q = d
    · subst h
      constructor
      · intro hh; simp at hh
      · rintro ⟨h1, h2⟩
        simp only [Option.some.injEq, Prod.mk.injEq] at h1
        exact absurd h1.1.symm h2
    · simp only [h, decide_false, Option.some.injEq, Prod.mk.injEq]
      constructor
      · rintro ⟨rfl, rfl⟩; exact ⟨⟨rfl, rfl⟩, h⟩
      · rintro ⟨h1, _⟩; exact h1
theorem getD_put (a : Act) (d : Option Tmp) (v : Value) (t : Nat) (h : d ≠ some t) : (a.put d v).tmps.getD t undef = a.tmps.getD t undef := by
  cases d with
  | none => rfl
  | some d =>
    have hne : d ≠ t := fun e => h (by rw [e])
    simp [Act.put, Array.getElem?_setIfInBounds_ne hne]
theorem getD_put_same {n : Nat} {a : Act} (hs : a.tmps.size = n) {d : Tmp} (hd : dOk n (some d) = true) (v : Value) : (a.put (some d) v).tmps.getD d undef = v := by
  have hd' : d < a.tmps.size := by
    have : d < n := by simpa [dOk] using hd
    rw [hs]; exact this
  simp [Act.put, hd']
namespace PAg
variable {B : Nat} {st : St} {β : Nat → Nat} {g g' : G} {a : Act}
theorem put (h : PAg B st β g a) (d : Option Tmp) (v u : Value) : PAg B (st.put d u) β g (a.put d v) := by
  refine ⟨?_, h.cell, h.inj⟩
  intro t p o ht
  cases d with
  | none => exact h.ptr t p o ht
  | some d =>
    have ht : plook ((d, none) :: st.pe) t = some (p, o) := ht
    rw [plook_cons] at ht
    by_cases e : d = t
    · simp [e] at ht
    · simp only [e, if_false] at ht
      rw [getD_put _ _ _ _ (fun hh => e (Option.some.inj hh))]
      exact h.ptr t p o ht
theorem step (h : PAg B st β g a) (hx : ∀ b, g.X b → g'.X b) (hk : ∀ b, g.X b → g'.w.heap[b]? = g.w.heap[b]?) : PAg B st β g' a :=
  ⟨h.ptr, fun p cs hp => by
    obtain ⟨h1, h2, ty, h3⟩ := h.cell p cs hp
    exact ⟨h1, hx _ h2, ty, by unfold Blk; rw [hk _ h2]; exact h3⟩, h.inj⟩
theorem fr (h : PAg B st β g a) (fr' : Env) (dirty' : Bool) : PAg B ⟨fr', st.pe, st.ps, dirty'⟩ β g a := ⟨h.ptr, h.cell, h.inj⟩
end PAg
theorem blk_stL {w : World} {b : Nat} {t : TypeId} (off : Nat) (vs : List Value) : ∀ (i : Nat) {w : World} (L : List Value), Blk w b t L → Blk (stL ⟨b, off, none⟩ i vs w) b t (setsAt L (off + i) vs) := by
  induction vs with
  | nil => intro i w L h; exact h
  | cons v r ih =>
    intro i w L h
    rw [stL, setsAt]
    have : Blk (w.setCell (Addr.add ⟨b, off, none⟩ i) v) b t (L.set (off + i) v) := by rw [add_row]; exact h.setE _ _
    exact ih (i + 1) _ this
section
variable {c : Cfg} {g0 : G} {M : Nat → Prop} {n : Nat}
theorem flush_use {st : St} {g : G} {a : Act} {w : World} {K : St → G → Prop} (hok : OkS g0 M n st g a w) (h : flushG st g K) :
    ∃ g' β, g'.w = w ∧ Exx g g' ∧ Kp g0 M g' ∧ PAg g0.size st β g' a ∧ K ⟨st.fr, st.pe, st.ps, false⟩ g' := by
  obtain ⟨gr, β, h1, h2, h3, h4, h5⟩ := hok.ex
  unfold flushG at h
  cases hd : st.dirty <;> simp only [hd] at h
  · obtain rfl := h3 hd
    refine ⟨gr, β, h1, h2, h4, h5, ?_⟩
    obtain ⟨fr, pe, ps, dirty⟩ := st
    cases hd
    exact h
  · exact ⟨gr, β, h1, h2, h4, h5, h gr h2.1⟩
theorem extSt_put (st : St) (d : Option Tmp) (v : Value) (Wp : List Nat) : ExtSt d.toList Wp st (st.put d v) := by
  refine ⟨ExtE.put _ _ _, ?_, fun _ _ _ h => h⟩
  intro t p o ht _ hl
  cases d with
  | none => exact hl
  | some d =>
    show plook ((d, none) :: st.pe) t = _
    rw [plook_cons, if_neg (fun e => ht (by simp [e]))]
    exact hl
theorem extSt_ptr (st : St) (d : Option Tmp) (p o : Nat) (Wp : List Nat) : ExtSt d.toList Wp st (st.ptr d p o) := by
  refine ⟨ExtE.put _ _ _, ?_, fun _ _ _ h => h⟩
  intro t p' o' ht _ hl
  cases d with
  | none => exact hl
  | some d =>
    show plook ((d, some (p, o)) :: st.pe) t = _
    rw [plook_cons, if_neg (fun e => ht (by simp [e]))]
    exact hl
def BehO (c : Cfg) (g0 : G) (M : Nat → Prop) (n : Nat) (o : Oper) (st : St) (g : G) (a : Act) (K : St → G → Prop) : Act → World → Prop :=
  fun a' w' => ∃ v st' g', a' = a.put o.dst v ∧ OkS g0 M n st' g' a' w' ∧ Le g g' ∧ ExtSt o.dst.toList (wpO c o) st st' ∧ K st' g'
theorem ptr_ok {st : St} {g gr : G} {a : Act} {β : Nat → Nat} {o : Oper} {K : St → G → Prop} {p off : Nat} (hA : Agree n st.fr a) (hd : dOk n o.dst = true) (h2 : Exx g gr) (h3 : st.dirty = false → gr = g) (h4 : Kp g0 M gr)
    (h5 : PAg g0.size st β gr a) {Q : Exit → Act → World → Prop} (hrun : (execOp a.eval o).run c.P gr.w = .ok (.value (.pointer (some ⟨β p, off, none⟩))) gr.w) (hK : K (st.ptr o.dst p off) g) :
    o.wp c.P a gr.w (BehO c g0 M n o st g a K) Q := by
  refine Oper.wp_mono (K := Nx o a fun v w' => v = .pointer (some ⟨β p, off, none⟩) ∧ w' = gr.w) ?_ (upon_of_value hrun ⟨rfl, rfl⟩)
  rintro a' w' ⟨v, rfl, rfl, rfl⟩
  refine ⟨_, st.ptr o.dst p off, g, rfl, ⟨?_, gr, β, rfl, h2, h3, h4, ?_, h5.cell, h5.inj⟩, Le.refl g, extSt_ptr _ _ _ _ _, hK⟩
  · exact hA.forget _
  · intro t p' o' ht
    cases hdst : o.dst with
    | none =>
      have : plook st.pe t = some (p', o') := by simpa [St.ptr, putPE, hdst] using ht
      exact h5.ptr t p' o' this
    | some d =>
      have ht : plook ((d, some (p, off)) :: st.pe) t = some (p', o') := by simpa [St.ptr, putPE, hdst] using ht
      rw [plook_cons] at ht
      by_cases e : d = t
      · subst e
        simp only [if_true, Option.some.injEq, Prod.mk.injEq] at ht
        obtain ⟨rfl, rfl⟩ := ht
        exact getD_put_same hA.size (by rw [hdst] at hd; exact hd) _
      · simp only [e, if_false] at ht
        rw [getD_put _ _ _ _ (fun hh => e (Option.some.inj hh))]
        exact h5.ptr t p' o' ht
theorem new_ok {st : St} {g gr : G} {a : Act} {β : Nat → Nat} {o : Oper} {K : St → G → Prop} {d : Nat} {L : List Value} {e : TypeId} (hA : Agree n st.fr a) (hdst : o.dst = some d) (hd : dOk n o.dst = true) (h2 : Exx g gr) (h4 : Kp g0 M gr)
    (h5 : PAg g0.size st β gr a) {Q : Exit → Act → World → Prop} (hrun : (execOp a.eval o).run c.P gr.w = .ok (.value (.pointer (some ⟨gr.w.heap.size, 0, none⟩))) (gr.w.alloc (.cells ⟨L⟩ e))) (hw : d ∈ wpO c o) (hK : K (st.newP d L) g) :
    o.wp c.P a gr.w (BehO c g0 M n o st g a K) Q := by
  refine Oper.wp_mono (K := Nx o a fun v w' => v = .pointer (some ⟨gr.w.heap.size, 0, none⟩) ∧ w' = gr.w.alloc (.cells ⟨L⟩ e)) ?_ (upon_of_value hrun ⟨rfl, rfl⟩)
  rintro a' w' ⟨v, rfl, rfl, rfl⟩
  have hgs : g0.w.heap.size ≤ gr.w.heap.size := h4.le.size
  refine ⟨_, st.newP d L, g, rfl, ⟨?_, gr.push (.cells ⟨L⟩ e) true false, fun q => if q = d then gr.w.heap.size else β q, rfl, h2.trans ⟨push_ex _ _ _ _, fun b hb => Or.inl hb⟩, (fun h => by cases h), ?_, ?_, ?_, ?_⟩, Le.refl g, ?_, hK⟩
  · have := hA.forget (d := o.dst) (.pointer (some ⟨gr.w.heap.size, 0, none⟩))
    rw [hdst] at this ⊢
    exact this
  · refine ⟨h4.le.trans (push_ex _ _ _ _).le, fun b hb => Or.inl (h4.x b hb), fun b hb => ?_, h4.os, h4.tape, h4.output, fun b hb hm => ?_, fun b hb hm i => ?_⟩
    · exact (Below.heap_alloc _ _ _ (gr.hX b (h4.x b hb))).trans (h4.keepX b hb)
    · have hb' : b < g0.w.heap.size := hb
      exact (Below.heap_alloc _ _ _ (by omega)).trans (h4.same b hb hm)
    · rw [← h4.d b hb hm i]
      constructor
      · rintro (h | ⟨h, _⟩)
        · exact h
        · cases h
      · exact Or.inl
  · intro t p o' ht
    have ht : plook ((d, some (d, 0)) :: killP d st.pe) t = some (p, o') := ht
    rw [plook_cons] at ht
    rw [hdst]
    by_cases e' : d = t
    · subst e'
      simp only [if_true, Option.some.injEq, Prod.mk.injEq] at ht
      obtain ⟨rfl, rfl⟩ := ht
      rw [if_pos rfl]
      exact getD_put_same hA.size (by rw [hdst] at hd; exact hd) _
    · simp only [e', if_false] at ht
      rw [plook_kill, killE_some] at ht
      rw [getD_put _ _ _ _ (fun hh => e' (Option.some.inj hh)), if_neg ht.2]
      exact h5.ptr t p o' ht.1
  · intro p cs hp
    have hp : slook ((d, L) :: st.ps) p = some cs := hp
    rw [slook_cons] at hp
    by_cases e' : d = p
    · subst e'
      simp only [if_true, Option.some.injEq] at hp
      subst hp
      rw [if_pos rfl]
      exact ⟨hgs, Or.inr ⟨rfl, rfl⟩, e, push_at _ _ _ _⟩
    · simp only [e', if_false] at hp
      rw [if_neg (fun hh => e' hh.symm)]
      obtain ⟨h6, h7, ty, h8⟩ := h5.cell p cs hp
      exact ⟨h6, Or.inl h7, ty, h8.alloc _⟩
  · intro p q cs cs' hp hq he
    have hp : slook ((d, L) :: st.ps) p = some cs := hp
    have hq : slook ((d, L) :: st.ps) q = some cs' := hq
    rw [slook_cons] at hp hq
    have old : ∀ {q : Nat} {cs' : List Value}, slook st.ps q = some cs' → β q ≠ gr.w.heap.size := fun h hh => by
      obtain ⟨_, h7, _⟩ := h5.cell _ _ h
      have := gr.hX _ h7
      omega
    by_cases e1 : p = d
    · by_cases e2 : q = d
      · rw [e1, e2]
      · simp only [e1, e2, if_true, if_false] at he
        rw [if_neg (fun hh => e2 hh.symm)] at hq
        exact absurd he.symm (old hq)
    · rw [if_neg (fun hh => e1 hh.symm)] at hp
      by_cases e2 : q = d
      · simp only [e1, e2, if_true, if_false] at he
        exact absurd he (old hp)
      · simp only [e1, e2, if_false] at he
        rw [if_neg (fun hh => e2 hh.symm)] at hq
        exact h5.inj p q cs cs' hp hq he
  · rw [hdst]
    refine ⟨fun t v ht hv => ?_, ?_, ?_⟩
    · show look ((d, none) :: st.fr) t = _
      rw [look_cons, if_neg (fun e => ht (by simp [e]))]
      exact hv
    · intro t p o' ht hp hl
      show plook ((d, some (d, 0)) :: killP d st.pe) t = _
      rw [plook_cons, if_neg (fun e => ht (by simp [e])), plook_kill, killE_some]
      exact ⟨hl, fun e => hp (e ▸ hw)⟩
    · intro p cs hp hl
      show slook ((d, L) :: st.ps) p = _
      rw [slook_cons, if_neg (fun e : d = p => hp (e ▸ hw))]
      exact hl
def PnQ (c : Cfg) (g0 : G) (M : Nat → Prop) (Q : Exit → Act → World → Prop) : Prop := ∀ R, c.pn = some R → ∀ (a : Act) ch g', a.defers = [] → Kp g0 M g' → (∀ g'', Ex g' g'' → R ch g'') → Q (.panic ch) a g'.w
theorem opG_sound (T : TOk c.P c.tt) (F : FOk c.P c.fns) {st : St} {g : G} {a : Act} {w : World} {o : Oper} {K : St → G → Prop} {Q : Exit → Act → World → Prop}
    (hok : OkS g0 M n st g a w) (hd : dOk n o.dst = true) (hQ : PnQ c g0 M Q) (h : opG c g0.size M o st g K) : o.wp c.P a w (BehO c g0 M n o st g a K) Q := by
  have hA := hok.agree
  unfold opG at h
  cases hp : prvOp c o st with
  | none =>
    simp only [hp] at h
    cases he : effB c.tt o <;> simp only [he] at h
    · obtain ⟨v, h1, h2⟩ := pure_sound (P := c.P) T hA h
      obtain ⟨gr, β, rfl, h3, h4, h5, h6⟩ := hok.ex
      refine Oper.wp_mono (K := Nx o a fun v' w' => v' = v ∧ w' = gr.w) ?_ (upon_of_value (h1 _) ⟨rfl, rfl⟩)
      rintro a' w' ⟨v, rfl, rfl, rfl⟩
      exact ⟨v, st.put o.dst v, g, rfl, ⟨hA.put hd _, gr, β, rfl, h3, h4, h5, h6.put _ _ _⟩, Le.refl g, extSt_put _ _ _ _, h2⟩
    · obtain ⟨g', β, rfl, h2, h3, h4, h5⟩ := flush_use hok h
      refine Oper.wp_mono ?_ (effG_sound T F hA h3.le.size h5 (fun R hR ch g' hs hk => hQ R hR a ch g' hA.defers (h3.step hs) hk))
      rintro a' w' ⟨v, rfl, g'', rfl, hs, hK⟩
      have e := extSt_put ⟨st.fr, st.pe, st.ps, false⟩ o.dst v (wpO c o)
      exact ⟨v, (⟨st.fr, st.pe, st.ps, false⟩ : St).put o.dst v, g'', rfl, ⟨hA.put hd _, g'', β, rfl, Exx.refl _, fun _ => rfl, h3.step hs, ((h4.step (fun b hb => (hs.x b).2 hb) hs.keepX).fr _ _).put _ _ _⟩, h2.1.le.trans hs.le,
        ⟨e.fr, e.pe, e.ps⟩, hK⟩
  | some r =>
    simp only [hp] at h
    cases r with
    | none => exact h.elim
    | some st' =>
    simp only at h
    obtain ⟨gr, β, rfl, h2, h3, h4, h5⟩ := hok.ex
    unfold prvOp at hp
    cases hop : o.op <;> simp only [hop] at hp
    case alloc e =>
      cases hdst : o.dst <;> simp only [hdst] at hp
      · cases hp
      rename_i d
      cases hm : memN c.pv d <;> simp only [hm] at hp
      · cases hp
      cases hz : zeroC c.tt e <;> simp only [hz] at hp
      · cases hp
      rename_i L
      simp only [Option.some.injEq] at hp
      subst hp
      unfold zeroC at hz
      cases hs : tfind c.tt e <;> simp only [hs] at hz
      · cases hz
      rename_i ti
      cases hzz : ti.zero <;> simp only [hzz] at hz
      · cases hz
      rename_i z
      obtain rfl := Option.some.inj hz
      refine new_ok (e := e) hA hdst hd h2 h4 h5 ?_ (by simp [wpO, hop, hdst, hm]) h
      simp [execOp, hop, Instr.alloc, (T.fact hs).run_zero hzz, newVar, newRow, cellsL_eq]
    case box e x =>
      cases hdst : o.dst <;> simp only [hdst] at hp
      · cases hp
      rename_i d
      cases hm : memN c.pv d <;> simp only [hm] at hp
      · cases hp
      cases hz : ev st.fr x <;> simp only [hz] at hp
      · cases hp
      rename_i v
      simp only [Option.some.injEq] at hp
      subst hp
      refine new_ok (e := e) hA hdst hd h2 h4 h5 ?_ (by simp [wpO, hop, hdst, hm]) h
      simp [execOp, hop, Instr.box, newVar, newRow, cellsL_eq, hA.ev hz]
    case load t x =>
      cases x <;> simp only [plookO] at hp
      case tmp s =>
        cases hq : plook st.pe s <;> simp only [hq] at hp
        · cases hp
        rename_i q
        obtain ⟨p, off⟩ := q
        cases hs : slook st.ps p <;> simp only [hs] at hp
        · cases hp
        rename_i cs
        cases hl : loadP c.tt t cs off <;> simp only [hl] at hp
        · cases hp
        rename_i v
        simp only [Option.some.injEq] at hp
        subst hp
        obtain ⟨_, _, ty, hb⟩ := h5.cell p cs hs
        have hev : a.eval (.tmp s) = .pointer (some ⟨β p, off, none⟩) := h5.ptr s p off hq
        have hr := loadAt_run (P := c.P) T hl (ad := ⟨β p, off, none⟩) (w := gr.w) (fun j u hu => by rw [add_row, hb.cell]; exact hu)
        refine Oper.wp_mono (K := Nx o a fun v' w' => v' = v ∧ w' = gr.w) ?_ (upon_of_value ?_ ⟨rfl, rfl⟩)
        · rintro a' w' ⟨v, rfl, rfl, rfl⟩
          exact ⟨v, st.put o.dst v, g, rfl, ⟨hA.put hd _, gr, β, rfl, h2, h3, h4, h5.put _ _ _⟩, Le.refl g, extSt_put _ _ _ _, h⟩
        · simp [execOp, hop, hev, hr]
      all_goals cases hp
    case store t x y =>
      cases x <;> simp only [plookO] at hp
      case tmp s =>
        cases hq : plook st.pe s <;> simp only [hq] at hp
        · cases hp
        rename_i q
        obtain ⟨p, off⟩ := q
        cases hs : slook st.ps p <;> simp only [hs] at hp
        · cases hp
        rename_i cs
        cases hy : ev st.fr y <;> simp only [hy] at hp
        · cases hp
        rename_i v
        cases hl : stP c.tt t cs off v <;> simp only [hl] at hp
        · cases hp
        rename_i L
        cases hpt : eqO (ptOf c.pt (tmpO (.tmp s))) p <;> simp only [hpt] at hp
        · cases hp
        simp only [Option.some.injEq] at hp
        subst hp
        unfold stP at hl
        cases htf : tfind c.tt t <;> simp only [htf] at hl
        · cases hl
        rename_i ti
        cases hbb : (Nat.beq (cellsL v).length ti.size && (Nat.ble (off + (cellsL v).length) cs.length && onesB (cellsL v))) <;> simp only [hbb] at hl
        · cases hl
        obtain rfl := Option.some.inj hl
        simp only [Bool.and_eq_true] at hbb
        have hlen := Nat.eq_of_beq_eq_true hbb.1
        have hle := Nat.le_of_ble_eq_true hbb.2.1
        obtain ⟨hB, hX, ty, hb⟩ := h5.cell p cs hs
        have hev : a.eval (.tmp s) = .pointer (some ⟨β p, off, none⟩) := h5.ptr s p off hq
        have hr := storeAt_run (P := c.P) (w := gr.w) (a := ⟨β p, off, none⟩) T htf hlen (fun j hj => by
          rw [add_row]
          refine ⟨?_, hb.frozen _⟩
          rw [hb.cell, List.getElem?_eq_getElem (by omega)]
          rfl) (onesB_use hbb.2.2)
        have hpt' : ptOf c.pt s = some p := by
          have : eqO (ptOf c.pt s) p = true := hpt
          cases hh : ptOf c.pt s with
          | none => rw [hh] at this; cases this
          | some k => rw [hh] at this; rw [Nat.eq_of_beq_eq_true this]
        have hwp : wpO c o = [p] := by simp [wpO, hop, tmpO, hpt']
        refine Oper.wp_mono (K := Nx o a fun v' w' => v' = undef ∧ w' = (gr.store false ⟨β p, off, none⟩ (cellsL v)).w) ?_ (upon_of_skip ?_ ⟨rfl, rfl⟩)
        · rintro a' w' ⟨v', rfl, rfl, rfl⟩
          have hex : Ex gr (gr.store false ⟨β p, off, none⟩ (cellsL v)) := by
            refine ⟨by show _ ≤ (stL _ 0 _ gr.w).heap.size; rw [size_stL]; exact Nat.le_refl _, fun b hb hx => hx, fun b hb hx => heap_stL _ _ _ _ _ (fun e => hx (by rw [e]; exact hX)), fun b hb hx i => ?_⟩
            constructor
            · exact fun h => h.1
            · exact fun h => ⟨h, fun hf => (by cases hf)⟩
          obtain ⟨o1, o2, o3⟩ := stL_os ⟨β p, off, none⟩ (cellsL v) 0 gr.w
          have hB' : g0.w.heap.size ≤ β p := hB
          refine ⟨undef, (st.setP p _).put o.dst undef, g, rfl, ⟨hA.put hd _, _, β, rfl, h2.trans ⟨hex, fun b hb => hb⟩, fun hf => (by cases hf), ?_, PAg.put (st := st.setP p (setsAt cs off (cellsL v))) ⟨h5.ptr, ?_, ?_⟩ _ _ _⟩, Le.refl g, ?_, h⟩
          · refine ⟨h4.le.trans hex.le, h4.x, fun b hb => ?_, o1.trans h4.os, o2.trans h4.tape, o3.trans h4.output, fun b hb hm => ?_, fun b hb hm i => ?_⟩
            · refine (heap_stL _ _ _ _ _ (fun e => ?_)).trans (h4.keepX b hb)
              have := g0.hX b hb
              have e' : b = β p := e
              omega
            · have hb' : b < g0.w.heap.size := hb
              refine (heap_stL _ _ _ _ _ (fun e => ?_)).trans (h4.same b hb hm)
              have e' : b = β p := e
              omega
            · rw [← h4.d b hb hm i]
              constructor
              · exact fun h => h.1
              · exact fun h => ⟨h, fun hf => (by cases hf)⟩
          · intro q cs' hq'
            have hq' : slook ((p, setsAt cs off (cellsL v)) :: st.ps) q = some cs' := hq'
            rw [slook_cons] at hq'
            by_cases e : p = q
            · subst e
              simp only [if_true, Option.some.injEq] at hq'
              subst hq'
              exact ⟨hB, hX, ty, blk_stL (w := gr.w) off (cellsL v) 0 cs hb⟩
            · simp only [e, if_false] at hq'
              obtain ⟨h6, h7, ty', h8⟩ := h5.cell q cs' hq'
              refine ⟨h6, h7, ty', ?_⟩
              unfold Blk
              rw [show (gr.store false ⟨β p, off, none⟩ (cellsL v)).w.heap[β q]? = gr.w.heap[β q]? from heap_stL _ _ _ _ _ (fun e2 => e (h5.inj p q cs cs' hs hq' e2.symm))]
              exact h8
          · intro q r cs' cs'' hq' hr' he
            have ex : ∀ {q : Nat} {cs' : List Value}, slook ((p, setsAt cs off (cellsL v)) :: st.ps) q = some cs' → ∃ cs'', slook st.ps q = some cs'' := by
              intro q cs' hq'
              rw [slook_cons] at hq'
              by_cases e : p = q
              · subst e; exact ⟨cs, hs⟩
              · simp only [e, if_false] at hq'; exact ⟨cs', hq'⟩
            obtain ⟨c1, hc1⟩ := ex hq'
            obtain ⟨c2, hc2⟩ := ex hr'
            exact h5.inj q r c1 c2 hc1 hc2 he
          · have hx1 : ExtSt [] [p] st (st.setP p (setsAt cs off (cellsL v))) := by
              refine ⟨ExtE.refl _ _, fun _ _ _ _ _ h => h, fun q cs' hq' hl' => ?_⟩
              show slook ((p, _) :: st.ps) q = _
              rw [slook_cons, if_neg (fun e => hq' (by simp [e]))]
              exact hl'
            rw [hwp]
            simpa using hx1.trans (extSt_put (st.setP p (setsAt cs off (cellsL v))) o.dst undef [])
        · simp [execOp, hop, hev, hA.ev hy, hr, G.store]
      all_goals cases hp
    case fieldAddr t x f =>
      cases x <;> simp only [plookO] at hp
      case tmp s =>
        cases hq : plook st.pe s <;> simp only [hq] at hp
        · cases hp
        rename_i q
        obtain ⟨p, off⟩ := q
        cases hf : fldP c.tt t f <;> simp only [hf] at hp
        · cases hp
        rename_i k
        simp only [Option.some.injEq] at hp
        subst hp
        have hev : a.eval (.tmp s) = .pointer (some ⟨β p, off, none⟩) := h5.ptr s p off hq
        have hA2 : Agree n ((s, some (.pointer (some ⟨β p, off, none⟩))) :: st.fr) a := by
          refine ⟨hA.size, hA.defers, fun t' u hu => ?_⟩
          rw [look_cons] at hu
          by_cases e : s = t'
          · subst e
            simp only [if_true, Option.some.injEq] at hu
            rw [← hu]
            exact hev
          · simp only [e, if_false] at hu
            exact hA.at_ t' u hu
        have hpure : pureVC c.tt ((s, some (.pointer (some ⟨β p, off, none⟩))) :: st.fr) o fun v => v = .pointer (some ⟨β p, off + k, none⟩) := by
          unfold pureVC
          simp only [hop]
          have e1 : ev ((s, some (.pointer (some ⟨β p, off, none⟩))) :: st.fr) (.tmp s) = some (.pointer (some ⟨β p, off, none⟩)) := by
            show look _ s = _
            rw [look_cons, if_pos rfl]
          rw [e1]
          simp only [withV]
          unfold fldP at hf
          unfold fldAddrVC
          cases hs : tfind c.tt t <;> simp only [hs] at hf ⊢
          · cases hf
          rename_i ti
          cases hu : ti.und <;> simp only [hu] at hf ⊢
          case struct fs =>
            cases hfd : fs[f]? <;> simp only [hfd] at hf ⊢
            · cases hf
            rename_i fd
            unfold tsize
            cases hfi : tfind c.tt fd.type <;> simp only [hfi] at hf ⊢
            · cases hf
            rename_i fi
            cases hz : Nat.beq fi.size 0 <;> simp only [hz] at hf ⊢
            · obtain rfl := Option.some.inj hf
              show Value.pointer (some (Addr.add ⟨β p, off, none⟩ fd.offset)) = _
              rw [add_row]
            · cases hf
          all_goals cases hf
        obtain ⟨v, hr, rfl⟩ := pure_sound (P := c.P) T hA2 hpure
        exact ptr_ok hA hd h2 h3 h4 h5 (hr _) h
      all_goals cases hp
    case nilCheck x =>
      cases x <;> simp only [plookO] at hp
      case tmp s =>
        cases hq : plook st.pe s <;> simp only [hq] at hp
        · cases hp
        rename_i q
        obtain ⟨p, off⟩ := q
        simp only [Option.some.injEq] at hp
        subst hp
        have hev : a.eval (.tmp s) = .pointer (some ⟨β p, off, none⟩) := h5.ptr s p off hq
        refine ptr_ok hA hd h2 h3 h4 h5 ?_ h
        simp [execOp, hop, hev]
      all_goals cases hp
    case move x =>
      cases x <;> simp only [plookO] at hp
      case tmp s =>
        cases hq : plook st.pe s <;> simp only [hq] at hp
        · cases hp
        rename_i q
        obtain ⟨p, off⟩ := q
        simp only [Option.some.injEq] at hp
        subst hp
        have hev : a.eval (.tmp s) = .pointer (some ⟨β p, off, none⟩) := h5.ptr s p off hq
        refine ptr_ok hA hd h2 h3 h4 h5 ?_ h
        simp [execOp, hop, hev]
      all_goals cases hp
    case assign x =>
      cases x <;> simp only [plookO] at hp
      case tmp s =>
        cases hq : plook st.pe s <;> simp only [hq] at hp
        · cases hp
        rename_i q
        obtain ⟨p, off⟩ := q
        simp only [Option.some.injEq] at hp
        subst hp
        have hev : a.eval (.tmp s) = .pointer (some ⟨β p, off, none⟩) := h5.ptr s p off hq
        refine ptr_ok hA hd h2 h3 h4 h5 ?_ h
        simp [execOp, hop, hev]
      all_goals cases hp
    all_goals cases hp
end
end Go.Vc
/- Lists of operations, and regions that draw their order, on frames with private variables. -/
set_option linter.unusedVariables false
namespace Go.Vc
open Go Go.RowKit
def St.withFr (st : St) (fr : Env) : St := ⟨fr, st.pe, st.ps, st.dirty⟩
def guardG (ops : List Oper) (o : Oper) (st : St) (Y N : St → Prop) : Prop := guardVC ops o st.fr (fun fr => Y ⟨fr, st.pe, st.ps, st.dirty⟩) (fun fr => N ⟨fr, st.pe, st.ps, st.dirty⟩)
def vcOpsG (c : Cfg) (B : Nat) (M : Nat → Prop) (n : Nat) (ops : List Oper) (N : St → G → Prop) : List Oper → St → G → Prop
  | [], st, g => N st g
  | o :: r, st, g => match dOk n o.dst with
    | false => False
    | true => guardG ops o st (fun st => opG c B M o st g fun st g => vcOpsG c B M n ops N r st g) fun st => vcOpsG c B M n ops N r (st.put o.dst undef) g
def quietP : Op → Bool
  | .alloc _ => false
  | .box _ _ => false
  | .store _ _ _ => false
  | _ => true
def mrB (MR : Option (Nat → Prop)) (ad : Addr) (Q : Prop) : Prop := match MR with
  | none => Q
  | some m => ¬ m ad.block ∧ Q
def SENT : Nat := 1000000
def nxB (b : Bool) (g1 : G) (ad : Addr) (Q : Prop) : Prop := match b with
  | true => ¬ g1.X ad.block ∧ Q
  | false => Q
def isLoad : Op → Bool
  | .load _ _ => true
  | _ => false
def opnd0 : Op → Operand
  | .load _ x => x
  | _ => .const undef
def pOf (pe : PE) (x : Operand) : Nat := match plookO pe x with
  | some (p, _) => p
  | none => 0
def quietN (nw : List Nat) (o : Oper) (st : St) : Bool := match quietP o.op with
  | false => false
  | true => match isLoad o.op with
    | true => !memN nw (pOf st.pe (opnd0 o.op))
    | false => true
def quietG (c : Cfg) (MR : Option (Nat → Prop)) (g1 : G) (nw : List Nat) (o : Oper) (st : St) (K : St → Prop) : Prop := match prvOp c o st with
  | some r => match quietN nw o st with
    | true => match r with
      | some st' => K st'
      | none => False
    | false => False
  | none => match o.op with
    | .load t x => withV (ev st.fr x) fun v => match v with
      | .pointer a => derefP a fun ad => nxB (memN nw SENT) g1 ad (mrB MR ad (loadVC c.tt t ad g1.w fun v => K (st.put o.dst v)))
      | _ => False
    | _ => pureVC c.tt st.fr o fun v => K (st.put o.dst v)
def SameB (g1 g' : G) : Prop := ∀ b, b < g1.w.heap.size → ¬ g1.X b → g'.w.heap[b]? = g1.w.heap[b]?
def SameBut (m : Nat → Prop) (g1 g' : G) : Prop := ∀ b, b < g1.w.heap.size → ¬ g1.X b → ¬ m b → g'.w.heap[b]? = g1.w.heap[b]?
def clsG (MR : Option (Nat → Prop)) (g1 g' : G) (Q : Prop) : Prop := match MR with
  | none => SameB g1 g' ∧ Q
  | some m => SameBut m g1 g' ∧ Q
def autoC (c : Cfg) (cl : Call) : Bool := match cl.callee with
  | .value f => match f with
    | .func k => match memN c.fns k with
      | true => !memN c.tch k
      | false => false
    | _ => !c.tchV
  | _ => false
def autoO (c : Cfg) (o : Oper) : Bool := match o.op with
  | .alloc _ => true
  | .box _ _ => true
  | .build _ _ => true
  | .buildSlice _ _ _ => true
  | .load _ _ => true
  | .makeMap _ _ => true
  | .call cl => autoC c cl
  | _ => false
def layO : Op → Bool
  | .alloc _ => true
  | .box _ _ => true
  | _ => false
def flushM (b : Bool) (st : St) (g : G) (K : St → G → Prop) : Prop := match b with
  | true => ∀ g', Ex g g' → K ⟨st.fr, st.pe, st.ps, false⟩ g'
  | false => flushG st g K
def storeTo : Op → Option Operand
  | .store _ x _ => some x
  | _ => none
def prvEff (nw : List Nat) (o : Oper) (st : St) : Bool := match isLoad o.op with
  | true => true
  | false => match storeTo o.op with
    | some x => memN nw (pOf st.pe x)
    | none => false
def effHG (c : Cfg) (B : Nat) (M : Nat → Prop) (MR : Option (Nat → Prop)) (g1 : G) (nw : List Nat) (o : Oper) (st : St) (g : G) (K : List Nat → St → G → Prop) : Prop := match prvOp c o st with
  | some r => match layO o.op with
    | true => match r with
      | some st' => K (dstO o.dst :: nw) st' g
      | none => False
    | false => match prvEff nw o st with
      | true => match r with
        | some st' => K nw st' g
        | none => False
      | false => False
  | none => match effB c.tt o with
    | false => pureVC c.tt st.fr o fun v => K nw (st.put o.dst v) g
    | true => flushM (memN nw SENT) st g fun st g => match autoO c o with
      | true => effG c B M st.fr o g fun v g' => K nw (st.put o.dst v) g'
      | false => effG c B M st.fr o g fun v g' => clsG MR g1 g' (K nw (st.put o.dst v) g')
def treeG (c : Cfg) (B : Nat) (M : Nat → Prop) (n : Nat) (ops : List Oper) (m : Nat) (N : St → G → Prop) (MR : Option (Nat → Prop)) (g1 : G) : Sch → Bool → List Nat → St → G → Prop
  | .fin, al, _, st, g => match al with
    | true => True
    | false => vcOpsG c B M n ops N (ops.drop m) st g
  | .quiet i r, al, nw, st, g => match ops[i]? with
    | none => False
    | some o => match dOk n o.dst with
      | false => False
      | true => guardG ops o st (fun st => quietG c MR g1 nw o st fun st => treeG c B M n ops m N MR g1 r false nw st g) fun st => treeG c B M n ops m N MR g1 r false nw (st.put o.dst undef) g
  | .eff i r more, al, nw, st, g => match more with
    | .fin => match ops[i]? with
      | none => False
      | some o => match dOk n o.dst with
        | false => False
        | true => guardG ops o st (fun st => effHG c B M MR g1 nw o st g fun nw st g => treeG c B M n ops m N MR g1 r false nw st g) fun st => treeG c B M n ops m N MR g1 r false nw (st.put o.dst undef) g
    | more => (match ops[i]? with
      | none => False
      | some o => match dOk n o.dst with
        | false => False
        | true => guardG ops o st (fun st => effHG c B M MR g1 nw o st g fun nw st g => treeG c B M n ops m N MR g1 r false nw st g) fun st => treeG c B M n ops m N MR g1 r false nw (st.put o.dst undef) g) ∧ treeG c B M n ops m N MR g1 more true nw st g
def BehS (g0 : G) (M : Nat → Prop) (n : Nat) (W Wp : List Nat) (st : St) (g : G) (N : St → G → Prop) (a : Act) (w : World) : Prop := ∃ st' g', OkS g0 M n st' g' a w ∧ Le g g' ∧ ExtSt W Wp st st' ∧ N st' g'
def wpL (c : Cfg) (l : List Oper) : List Nat := l.flatMap (wpO c)
theorem BehS.from {g0 : G} {M : Nat → Prop} {n : Nat} {W W' V V' : List Nat} {st st0 : St} {g g00 : G} {N : St → G → Prop} {a : Act} {w : World} (h : BehS g0 M n W V st g N a w) (h0 : ExtSt W' V' st0 st) (hg : Le g00 g) : BehS g0 M n (W' ++ W) (V' ++ V) st0 g00 N a w :=
  let ⟨st', g', h1, h2, h3, h4⟩ := h
  ⟨st', g', h1, hg.trans h2, h0.trans h3, h4⟩
theorem BehS.mono {g0 : G} {M : Nat → Prop} {n : Nat} {W W' V V' : List Nat} {st : St} {g : G} {N : St → G → Prop} {a : Act} {w : World} (h : BehS g0 M n W V st g N a w) (hW : ∀ t, t ∈ W → t ∈ W') (hV : ∀ t, t ∈ V → t ∈ V') : BehS g0 M n W' V' st g N a w :=
  let ⟨st', g', h1, h2, h3, h4⟩ := h
  ⟨st', g', h1, h2, h3.mono hW hV, h4⟩
section
variable {c : Cfg} {g0 : G} {M : Nat → Prop} {n : Nat}
theorem OkS.put {st : St} {g : G} {a : Act} {w : World} (h : OkS g0 M n st g a w) {d : Option Tmp} (hd : dOk n d = true) (v : Value) : OkS g0 M n (st.put d v) g (a.put d v) w := by
  obtain ⟨gr, β, h1, h2, h3, h4, h5⟩ := h.ex
  exact ⟨h.agree.put hd v, gr, β, h1, h2, h3, h4, h5.put _ _ _⟩
theorem OkS.withFr {st : St} {g : G} {a : Act} {w : World} (h : OkS g0 M n st g a w) {fr : Env} (hf : Agree n fr a) : OkS g0 M n ⟨fr, st.pe, st.ps, st.dirty⟩ g a w := by
  obtain ⟨gr, β, h1, h2, h3, h4, h5⟩ := h.ex
  exact ⟨hf, gr, β, h1, h2, h3, h4, h5.fr _ _⟩
theorem ExtSt.withFr {st : St} {fr : Env} (h : ∀ W, ExtE W st.fr fr) (W V : List Nat) : ExtSt W V st ⟨fr, st.pe, st.ps, st.dirty⟩ := ⟨h W, fun _ _ _ _ _ h => h, fun _ _ _ h => h⟩
theorem vcOpsG_sound (T : TOk c.P c.tt) (F : FOk c.P c.fns) {ops : List Oper} {N : St → G → Prop} {Q : Exit → Act → World → Prop} :
    ∀ {l : List Oper} {st : St} {g : G} {a : Act} {w : World} {st0 : St} {g00 : G} {W0 V0 : List Nat}, (∀ a w, BehS g0 M n (W0 ++ dstsL l) (V0 ++ wpL c l) st0 g00 N a w → Q .normal a w) → PnQ c g0 M Q → OkS g0 M n st g a w → ExtSt W0 V0 st0 st → Le g00 g →
      vcOpsG c g0.size M n ops N l st g → wpList c.P ops.toArray Q l a w
  | [], st, g, a, w, st0, g00, W0, V0, hN, hQ, hA, hE, hL, h => hN a w ⟨st, g, hA, hL, by simpa [dstsL, wpL] using hE, h⟩
  | o :: r, st, g, a, w, st0, g00, W0, V0, hN, hQ, hA, hE, hL, h => by
    unfold vcOpsG at h
    cases hd : dOk n o.dst <;> simp only [hd] at h
    obtain ⟨fr', hA', hE', h⟩ := guard_use hA.agree h
    have hok' := hA.withFr hA'
    have hN' : ∀ a w, BehS g0 M n ((W0 ++ o.dst.toList) ++ dstsL r) ((V0 ++ wpO c o) ++ wpL c r) st0 g00 N a w → Q .normal a w := fun a w hb => hN a w (by
      simpa [dstsL, wpL, List.append_assoc] using hb)
    have hE2 : ExtSt W0 V0 st0 ⟨fr', st.pe, st.ps, st.dirty⟩ := (hE.trans (ExtSt.withFr hE' [] [])).mono (by simp) (by simp)
    unfold wpList
    rcases h with ⟨hw, h⟩ | ⟨hw, h⟩
    · rw [if_pos hw]
      refine .inl (Oper.wp_mono ?_ (opG_sound T F hok' hd hQ h))
      rintro a' w' ⟨v, st', g', rfl, h1, h2, h3, hK⟩
      exact vcOpsG_sound T F hN' hQ h1 (hE2.trans h3) (hL.trans h2) hK
    · rw [if_neg (by simp [hw])]
      exact vcOpsG_sound T F hN' hQ (hok'.put hd undef) (hE2.trans (extSt_put _ _ _ _)) hL h
theorem memN_iff : ∀ {l : List Nat} {k : Nat}, memN l k = true ↔ k ∈ l
  | [], k => by simp [memN]
  | x :: r, k => by
    show (match Nat.beq x k with | true => true | false => memN r k) = true ↔ _
    rw [nbeq]
    by_cases h : x = k
    · simp [h]
    · have : ¬ k = x := fun e => h e.symm
      simp [h, this, memN_iff (l := r)]
def mrC (MR : Option (Nat → Prop)) (b : Nat) : Prop := match MR with
  | none => True
  | some m => ¬ m b
def clsW (MR : Option (Nat → Prop)) (E : Nat → Prop) (g1 : G) (w : World) : Prop := (∀ b, b < g1.w.heap.size → ¬ g1.X b → mrC MR b → w.heap[b]? = g1.w.heap[b]?) ∧ ∀ b, g1.X b → ¬ E b → w.heap[b]? = g1.w.heap[b]?
theorem clsG_use {MR : Option (Nat → Prop)} {g1 g' : G} {Q : Prop} (h : clsG MR g1 g' Q) : (∀ b, b < g1.w.heap.size → ¬ g1.X b → mrC MR b → g'.w.heap[b]? = g1.w.heap[b]?) ∧ Q := by
  cases MR with
  | none => exact ⟨fun b hb hx _ => h.1 b hb hx, h.2⟩
  | some m => exact ⟨fun b hb hx hm => h.1 b hb hx hm, h.2⟩
def OldF (g1 : G) (E : Nat → Prop) (nw : List Nat) (st : St) (a : Act) : Prop := ∀ p cs, p ∉ nw → slook st.ps p = some cs → ∃ b ty, g1.X b ∧ ¬ E b ∧ Blk g1.w b ty cs ∧ ∀ t o, plook st.pe t = some (p, o) → a.tmps.getD t undef = .pointer (some ⟨b, o, none⟩)
def NewF (g1 : G) (E : Nat → Prop) (nw : List Nat) (st : St) (a : Act) : Prop := ∀ p cs, p ∈ nw → slook st.ps p = some cs → ∃ b, (E b ∨ g1.w.heap.size ≤ b) ∧ ∀ t o, plook st.pe t = some (p, o) → a.tmps.getD t undef = .pointer (some ⟨b, o, none⟩)
theorem ptrs_put {st : St} {a : Act} {d : Option Tmp} {v u : Value} {p b : Nat} (h : ∀ t o, plook st.pe t = some (p, o) → a.tmps.getD t undef = .pointer (some ⟨b, o, none⟩)) : ∀ t o, plook (st.put d u).pe t = some (p, o) → (a.put d v).tmps.getD t undef = .pointer (some ⟨b, o, none⟩) := by
  intro t o ht
  cases d with
  | none => exact h t o ht
  | some d =>
    have ht : plook ((d, none) :: st.pe) t = some (p, o) := ht
    rw [plook_cons] at ht
    by_cases e : d = t
    · simp [e] at ht
    · simp only [e, if_false] at ht
      rw [getD_put _ _ _ _ (fun hh => e (Option.some.inj hh))]
      exact h t o ht
theorem OldF.put {g1 : G} {E : Nat → Prop} {nw : List Nat} {st : St} {a : Act} (h : OldF g1 E nw st a) (d : Option Tmp) (v u : Value) : OldF g1 E nw (st.put d u) (a.put d v) := by
  intro p cs hp hs
  obtain ⟨b, ty, h1, h2, h3, h4⟩ := h p cs hp hs
  exact ⟨b, ty, h1, h2, h3, ptrs_put h4⟩
theorem NewF.put {g1 : G} {E : Nat → Prop} {nw : List Nat} {st : St} {a : Act} (h : NewF g1 E nw st a) (d : Option Tmp) (v u : Value) : NewF g1 E nw (st.put d u) (a.put d v) := by
  intro p cs hp hs
  obtain ⟨b, h1, h2⟩ := h p cs hp hs
  exact ⟨b, h1, ptrs_put h2⟩
structure OkC (g0 : G) (M : Nat → Prop) (n : Nat) (g1 : G) (E : Nat → Prop) (nw : List Nat) (st : St) (g : G) (a : Act) (w : World) : Prop where
  oks : OkS g0 M n st g a w
  old : OldF g1 E nw st a
  new_ : NewF g1 E nw st a
  sz : g1.w.heap.size ≤ w.heap.size
  xx : ∀ b, g1.X b → g.X b
theorem OkC.put {g1 : G} {E : Nat → Prop} {nw : List Nat} {st : St} {g : G} {a : Act} {w : World} (h : OkC g0 M n g1 E nw st g a w) {d : Option Tmp} (hd : dOk n d = true) (v : Value) : OkC g0 M n g1 E nw (st.put d v) g (a.put d v) w :=
  ⟨h.oks.put hd v, h.old.put d v v, h.new_.put d v v, h.sz, h.xx⟩
theorem OkC.withFr {g1 : G} {E : Nat → Prop} {nw : List Nat} {st : St} {g : G} {a : Act} {w : World} (h : OkC g0 M n g1 E nw st g a w) {fr : Env} (hf : Agree n fr a) : OkC g0 M n g1 E nw ⟨fr, st.pe, st.ps, st.dirty⟩ g a w :=
  ⟨h.oks.withFr hf, h.old, h.new_, h.sz, h.xx⟩
theorem quietG_use (T : TOk c.P c.tt) {MR : Option (Nat → Prop)} {g1 g : G} {nw : List Nat} {st : St} {a : Act} {w : World} {E : Nat → Prop} (hX : ∀ m, MR = some m → ∀ b, m b → ¬ g1.X b) (hE0 : memN nw SENT = false → ∀ b, ¬ E b) (hok : OkC g0 M n g1 E nw st g a w) {o : Oper} (hd : dOk n o.dst = true) {K : St → Prop} (h : quietG c MR g1 nw o st K) :
    ∃ v st', (∀ w', clsW MR E g1 w' → (execOp a.eval o).run c.P w' = .ok (.value v) w') ∧ OkC g0 M n g1 E nw st' g (a.put o.dst v) w ∧ ExtSt o.dst.toList [] st st' ∧ K st' := by
  unfold quietG at h
  cases hp : prvOp c o st with
  | none =>
    simp only [hp] at h
    split at h
    · rename_i t x ho
      obtain ⟨v, hv, h⟩ := withV_some h
      cases v <;> simp only at h
      obtain ⟨ad, rfl, h⟩ := derefP_some h
      have hnE : ¬ E ad.block ∨ ¬ g1.X ad.block := by
        cases hm : memN nw SENT with
        | false => exact .inl (hE0 hm _)
        | true => rw [hm] at h; exact .inr h.1
      have h : mrB MR ad (loadVC c.tt t ad g1.w fun v => K (st.put o.dst v)) := by
        cases hm : memN nw SENT with
        | false => rw [hm] at h; exact h
        | true => rw [hm] at h; exact h.2
      have hB : (∀ m, MR = some m → ¬ m ad.block) ∧ loadVC c.tt t ad g1.w fun v => K (st.put o.dst v) := by
        cases MR with
        | none => exact ⟨fun _ h => (by cases h), h⟩
        | some b => exact ⟨fun _ e => (by cases e; exact h.1), h.2⟩
      obtain ⟨u, h1, h2, h3⟩ := loadVC_sound (P := c.P) T hB.2
      refine ⟨u, st.put o.dst u, fun w' hb => ?_, hok.put hd u, extSt_put _ _ _ _, h2⟩
      have := h3 w' (fun p u hp hu => by
        have hlt := cell_lt hu
        rw [cell_same (w := g1.w) (show w'.heap[p.block]? = g1.w.heap[p.block]? from (Classical.em (g1.X p.block)).elim (fun hx => hb.2 _ hx (by rw [hp]; rw [hp] at hx; exact hnE.elim id (fun h => absurd hx h))) (fun hx => hb.1 _ hlt hx (by cases MR with | none => trivial | some m => show ¬ m p.block; rw [hp]; exact hB.1 m rfl)))]
        exact hu)
      simp [execOp, ho, hok.oks.agree.ev hv, this]
    · obtain ⟨v, h1, h2⟩ := pure_sound (P := c.P) T hok.oks.agree h
      exact ⟨v, st.put o.dst v, fun w' _ => h1 w', hok.put hd v, extSt_put _ _ _ _, h2⟩
  | some r =>
    simp only [hp] at h
    cases hq' : quietN nw o st <;> simp only [hq'] at h
    have hq : quietP o.op = true := by
      unfold quietN at hq'
      cases hh : quietP o.op
      · simp [hh] at hq'
      · rfl
    obtain ⟨gr, β, e1, e2, e3, e4, e5⟩ := hok.oks.ex
    cases r with
    | none => exact h.elim
    | some st' =>
    simp only at h
    -- the operation runs at the world at hand; its value is read off there
    have hptr : ∀ (p off : Nat), (∃ t o', plook st.pe t = some (p, o')) → (∀ w', clsW MR E g1 w' → (execOp a.eval o).run c.P w' = .ok (.value (.pointer (some ⟨β p, off, none⟩))) w') → st' = st.ptr o.dst p off →
        ∃ v st', (∀ w', clsW MR E g1 w' → (execOp a.eval o).run c.P w' = .ok (.value v) w') ∧ OkC g0 M n g1 E nw st' g (a.put o.dst v) w ∧ ExtSt o.dst.toList [] st st' ∧ K st' := by
      rintro p off hsrc hr rfl
      have key : ∀ {q b : Nat}, (∀ t o', plook st.pe t = some (q, o') → a.tmps.getD t undef = .pointer (some ⟨b, o', none⟩)) → (q = p → b = β p) → ∀ t o', plook (st.ptr o.dst p off).pe t = some (q, o') → (a.put o.dst (.pointer (some ⟨β p, off, none⟩))).tmps.getD t undef = .pointer (some ⟨b, o', none⟩) := by
        intro q b hf hqp t o' ht
        cases hdst : o.dst with
        | none =>
          have : plook st.pe t = some (q, o') := by simpa [St.ptr, putPE, hdst] using ht
          exact hf t o' this
        | some d =>
          have ht : plook ((d, some (p, off)) :: st.pe) t = some (q, o') := by simpa [St.ptr, putPE, hdst] using ht
          rw [plook_cons] at ht
          by_cases e : d = t
          · subst e
            simp only [if_true, Option.some.injEq, Prod.mk.injEq] at ht
            obtain ⟨rfl, rfl⟩ := ht
            rw [hqp rfl]
            exact getD_put_same hok.oks.agree.size (by rw [hdst] at hd; exact hd) _
          · simp only [e, if_false] at ht
            rw [getD_put _ _ _ _ (fun hh => e (Option.some.inj hh))]
            exact hf t o' ht
      obtain ⟨t0, o0, ht0⟩ := hsrc
      have blk : ∀ {q b : Nat}, (∀ t o', plook st.pe t = some (q, o') → a.tmps.getD t undef = .pointer (some ⟨b, o', none⟩)) → q = p → b = β p := by
        rintro q b hf rfl
        have h1 := hf t0 o0 ht0
        rw [e5.ptr t0 q o0 ht0] at h1
        simp at h1
        exact h1.symm
      refine ⟨_, st.ptr o.dst p off, hr, ⟨⟨hok.oks.agree.forget _, gr, β, e1, e2, e3, e4, ⟨fun t q o' ht => key (fun t o' ht => e5.ptr t q o' ht) (fun e => by rw [e]) t o' ht, e5.cell, e5.inj⟩⟩, fun q cs hqn hs => ?_, fun q cs hqn hs => ?_, hok.sz, hok.xx⟩, extSt_ptr _ _ _ _ _, h⟩
      · obtain ⟨b, ty, k1, k2, k3, k4⟩ := hok.old q cs hqn hs
        exact ⟨b, ty, k1, k2, k3, key k4 (blk k4)⟩
      · obtain ⟨b, k1, k2⟩ := hok.new_ q cs hqn hs
        exact ⟨b, k1, key k2 (blk k2)⟩
    have hev : ∀ {s p off : Nat}, plook st.pe s = some (p, off) → a.eval (.tmp s) = .pointer (some ⟨β p, off, none⟩) := fun hq => e5.ptr _ _ _ hq
    unfold prvOp at hp
    cases hop : o.op <;> simp only [hop] at hp hq
    case alloc e => cases hq
    case box e x => cases hq
    case store t x y => cases hq
    case load t x =>
      cases x <;> simp only [plookO] at hp
      case tmp s =>
        cases hq : plook st.pe s <;> simp only [hq] at hp
        · cases hp
        rename_i q
        obtain ⟨p, off⟩ := q
        cases hs : slook st.ps p <;> simp only [hs] at hp
        · cases hp
        rename_i cs
        cases hl : loadP c.tt t cs off <;> simp only [hl] at hp
        · cases hp
        rename_i v
        simp only [Option.some.injEq] at hp
        subst hp
        have hpn : p ∉ nw := by
          intro hm
          unfold quietN at hq'
          simp [hop, quietP, isLoad, opnd0, pOf, plookO, hq, memN_iff.2 hm] at hq'
        obtain ⟨bb, ty, hx1, hxE, hb, hbt⟩ := hok.old p cs hpn hs
        refine ⟨v, st.put o.dst v, fun w' hw' => ?_, hok.put hd v, extSt_put _ _ _ _, h⟩
        have hev' : a.eval (.tmp s) = .pointer (some ⟨bb, off, none⟩) := hbt s off hq
        have hb' : Blk w' bb ty cs := by
          unfold Blk
          rw [hw'.2 _ hx1 hxE]
          exact hb
        have hr := loadAt_run (P := c.P) T hl (ad := ⟨bb, off, none⟩) (w := w') (fun j u hu => by rw [add_row, hb'.cell]; exact hu)
        simp [execOp, hop, hev', hr]
      all_goals cases hp
    case fieldAddr t x f =>
      cases x <;> simp only [plookO] at hp
      case tmp s =>
        cases hq : plook st.pe s <;> simp only [hq] at hp
        · cases hp
        rename_i q
        obtain ⟨p, off⟩ := q
        cases hf : fldP c.tt t f <;> simp only [hf] at hp
        · cases hp
        rename_i k
        simp only [Option.some.injEq] at hp
        subst hp
        refine hptr p (off + k) ⟨_, _, hq⟩ (fun w' _ => ?_) rfl
        have hA2 : Agree n ((s, some (.pointer (some ⟨β p, off, none⟩))) :: st.fr) a := by
          refine ⟨hok.oks.agree.size, hok.oks.agree.defers, fun t' u hu => ?_⟩
          rw [look_cons] at hu
          by_cases e : s = t'
          · subst e
            simp only [if_true, Option.some.injEq] at hu
            rw [← hu]
            exact hev hq
          · simp only [e, if_false] at hu
            exact hok.oks.agree.at_ t' u hu
        have hpure : pureVC c.tt ((s, some (.pointer (some ⟨β p, off, none⟩))) :: st.fr) o fun v => v = .pointer (some ⟨β p, off + k, none⟩) := by
          unfold pureVC
          simp only [hop]
          have e1 : ev ((s, some (.pointer (some ⟨β p, off, none⟩))) :: st.fr) (.tmp s) = some (.pointer (some ⟨β p, off, none⟩)) := by
            show look _ s = _
            rw [look_cons, if_pos rfl]
          rw [e1]
          simp only [withV]
          unfold fldP at hf
          unfold fldAddrVC
          cases hs : tfind c.tt t <;> simp only [hs] at hf ⊢
          · cases hf
          rename_i ti
          cases hu : ti.und <;> simp only [hu] at hf ⊢
          case struct fs =>
            cases hfd : fs[f]? <;> simp only [hfd] at hf ⊢
            · cases hf
            rename_i fd
            unfold tsize
            cases hfi : tfind c.tt fd.type <;> simp only [hfi] at hf ⊢
            · cases hf
            rename_i fi
            cases hz : Nat.beq fi.size 0 <;> simp only [hz] at hf ⊢
            · obtain rfl := Option.some.inj hf
              show Value.pointer (some (Addr.add ⟨β p, off, none⟩ fd.offset)) = _
              rw [add_row]
            · cases hf
          all_goals cases hf
        obtain ⟨v, hr, rfl⟩ := pure_sound (P := c.P) T hA2 hpure
        exact hr w'
      all_goals cases hp
    case nilCheck x =>
      cases x <;> simp only [plookO] at hp
      case tmp s =>
        cases hq : plook st.pe s <;> simp only [hq] at hp
        · cases hp
        rename_i q
        obtain ⟨p, off⟩ := q
        simp only [Option.some.injEq] at hp
        subst hp
        refine hptr p off ⟨_, _, hq⟩ (fun w' _ => ?_) rfl
        simp [execOp, hop, hev hq]
      all_goals cases hp
    case move x =>
      cases x <;> simp only [plookO] at hp
      case tmp s =>
        cases hq : plook st.pe s <;> simp only [hq] at hp
        · cases hp
        rename_i q
        obtain ⟨p, off⟩ := q
        simp only [Option.some.injEq] at hp
        subst hp
        refine hptr p off ⟨_, _, hq⟩ (fun w' _ => ?_) rfl
        simp [execOp, hop, hev hq]
      all_goals cases hp
    case assign x =>
      cases x <;> simp only [plookO] at hp
      case tmp s =>
        cases hq : plook st.pe s <;> simp only [hq] at hp
        · cases hp
        rename_i q
        obtain ⟨p, off⟩ := q
        simp only [Option.some.injEq] at hp
        subst hp
        refine hptr p off ⟨_, _, hq⟩ (fun w' _ => ?_) rfl
        simp [execOp, hop, hev hq]
      all_goals cases hp
    all_goals cases hp
theorem wp_both {o : Oper} {a : Act} {w w1 : World} {v : Value} {st st' : St} {g : G} {Q : Exit → Act → World → Prop} {R : World → Prop} (hrun : (execOp a.eval o).run c.P w = .ok (.value v) w1) (h1 : o.wp c.P a w (BehO c g0 M n o st g a fun s x => s = st' ∧ x = g) Q) (hR : R w1) :
    o.wp c.P a w (fun a' w' => ∃ v', a' = a.put o.dst v' ∧ (OkS g0 M n st' g a' w' ∧ ExtSt o.dst.toList (wpO c o) st st') ∧ R w' ∧ v' = v) Q := by
  unfold Oper.wp at h1 ⊢
  rw [hrun] at h1 ⊢
  obtain ⟨v', s, x, e1, e2, e3, e4, rfl, rfl⟩ := h1
  exact ⟨v, rfl, ⟨e2, e4⟩, hR, rfl⟩
theorem wp_both_skip {o : Oper} {a : Act} {w w1 : World} {st st' : St} {g : G} {Q : Exit → Act → World → Prop} {R : World → Prop} (hrun : (execOp a.eval o).run c.P w = .ok .skip w1) (h1 : o.wp c.P a w (BehO c g0 M n o st g a fun s x => s = st' ∧ x = g) Q) (hR : R w1) :
    o.wp c.P a w (fun a' w' => ∃ v, a' = a.put o.dst v ∧ (OkS g0 M n st' g a' w' ∧ ExtSt o.dst.toList (wpO c o) st st') ∧ R w') Q := by
  unfold Oper.wp at h1 ⊢
  rw [hrun] at h1 ⊢
  obtain ⟨v', s, x, e1, e2, e3, e4, rfl, rfl⟩ := h1
  exact ⟨v', e1, ⟨e2, e4⟩, hR⟩
theorem auto_eq {o : Oper} (h : autoO c o = true) (he : effB c.tt o = true) (B B' : Nat) (M M' : Nat → Prop) (fr : Env) (g : G) (K : Value → G → Prop) : effG c B M fr o g K = effG c B' M' fr o g K := by
  obtain ⟨dst, op, type, pos, after, guard⟩ := o
  cases op <;> simp only [autoO] at h
  case call cl =>
    obtain ⟨callee, args, argTypes⟩ := cl
    cases callee <;> simp only [autoC] at h
    case value f =>
      cases f <;> simp only at h
      case func k =>
        cases hm : memN c.fns k <;> simp only [hm] at h
        · cases h
        · have ht : memN c.tch k = false := by simpa using h
          simp only [effG, callG, hm, ht, callK]
      all_goals
        have ht : c.tchV = false := by simpa using h
        simp only [effG, callG, ht, callK]
    all_goals cases h
  all_goals first | rfl | cases h
theorem effHG_use (T : TOk c.P c.tt) (F : FOk c.P c.fns) {MR : Option (Nat → Prop)} {E : Nat → Prop} {g1 g : G} {nw : List Nat} {st : St} {a : Act} {w : World} (hE : ∀ b, E b → g1.X b) (hE0 : memN nw SENT = false → ∀ b, ¬ E b) (hok : OkC g0 M n g1 E nw st g a w) (hS : clsW MR E g1 w) {o : Oper} (hd : dOk n o.dst = true) {K : List Nat → St → G → Prop} {Q : Exit → Act → World → Prop}
    (hQ : PnQ c g0 M Q) (h : effHG c g0.size M MR g1 nw o st g K) : o.wp c.P a w (fun a' w' => ∃ v nw' st' g', a' = a.put o.dst v ∧ (memN nw' SENT = false → ∀ b, ¬ E b) ∧ OkC g0 M n g1 E nw' st' g' a' w' ∧ clsW MR E g1 w' ∧ Le g g' ∧ ExtSt o.dst.toList (wpO c o) st st' ∧ K nw' st' g') Q := by
  unfold effHG at h
  cases hp : prvOp c o st with
  | some r =>
    simp only [hp] at h
    cases hl : layO o.op <;> simp only [hl] at h
    · -- a private variable is read, or written
      cases hpe : prvEff nw o st <;> simp only [hpe] at h
      cases r with
      | none => exact h.elim
      | some st' =>
      simp only at h
      have hop : opG c g0.size M o st g fun s x => s = st' ∧ x = g := by
        unfold opG
        rw [hp]
        exact ⟨rfl, rfl⟩
      have h1 := opG_sound (Q := Q) T F hok.oks hd hQ hop
      obtain ⟨gr, β, rfl, e2, e3, e4, e5⟩ := hok.oks.ex
      have hp0 := hp
      unfold prvEff at hpe
      unfold prvOp at hp
      cases hop2 : o.op <;> simp only [hop2] at hp hpe <;> simp only [isLoad, storeTo] at hpe
      case load t x =>
        cases x <;> simp only [plookO] at hp
        case tmp s =>
          cases hq : plook st.pe s <;> simp only [hq] at hp
          · cases hp
          rename_i q
          obtain ⟨p, off⟩ := q
          cases hs : slook st.ps p <;> simp only [hs] at hp
          · cases hp
          rename_i cs
          cases hll : loadP c.tt t cs off <;> simp only [hll] at hp
          · cases hp
          rename_i v
          simp only [Option.some.injEq] at hp
          subst hp
          obtain ⟨_, _, ty, hb⟩ := e5.cell p cs hs
          have hev : a.eval (.tmp s) = .pointer (some ⟨β p, off, none⟩) := e5.ptr _ _ _ hq
          have hr := loadAt_run (P := c.P) T hll (ad := ⟨β p, off, none⟩) (w := gr.w) (fun j u hu => by rw [add_row, hb.cell]; exact hu)
          have hrun : (execOp a.eval o).run c.P gr.w = .ok (.value v) gr.w := by simp [execOp, hop2, hev, hr]
          refine Oper.wp_mono (K := Nx o a fun v' w' => v' = v ∧ w' = gr.w) ?_ (upon_of_value hrun ⟨rfl, rfl⟩)
          rintro a' w' ⟨v, rfl, rfl, rfl⟩
          exact ⟨_, nw, st.put o.dst _, g, rfl, hE0, hok.put hd _, hS, Le.refl g, extSt_put _ _ _ _, h⟩
        all_goals cases hp
      case store t x y =>
        cases x <;> simp only [plookO] at hp
        case tmp s =>
          cases hq : plook st.pe s <;> simp only [hq] at hp
          · cases hp
          rename_i q
          obtain ⟨p, off⟩ := q
          cases hs : slook st.ps p <;> simp only [hs] at hp
          · cases hp
          rename_i cs
          cases hy : ev st.fr y <;> simp only [hy] at hp
          · cases hp
          rename_i v
          cases hll : stP c.tt t cs off v <;> simp only [hll] at hp
          · cases hp
          rename_i L
          cases hpt : eqO (ptOf c.pt (tmpO (.tmp s))) p <;> simp only [hpt] at hp
          · cases hp
          simp only [Option.some.injEq] at hp
          subst hp
          have hpn : p ∈ nw := memN_iff.1 (by simpa [pOf, plookO, hq] using hpe)
          obtain ⟨b, hb1, hb2⟩ := hok.new_ p cs hpn hs
          have hbp : b = β p := by
            have := hb2 s off hq
            rw [e5.ptr s p off hq] at this
            simp at this
            exact this.symm
          subst hbp
          unfold stP at hll
          cases htf : tfind c.tt t <;> simp only [htf] at hll
          · cases hll
          rename_i ti
          cases hbb : (Nat.beq (cellsL v).length ti.size && (Nat.ble (off + (cellsL v).length) cs.length && onesB (cellsL v))) <;> simp only [hbb] at hll
          · cases hll
          obtain rfl := Option.some.inj hll
          simp only [Bool.and_eq_true] at hbb
          have hlen := Nat.eq_of_beq_eq_true hbb.1
          have hle := Nat.le_of_ble_eq_true hbb.2.1
          obtain ⟨hB, hX, ty, hb⟩ := e5.cell p cs hs
          have hev : a.eval (.tmp s) = .pointer (some ⟨β p, off, none⟩) := e5.ptr s p off hq
          have hr := storeAt_run (P := c.P) (w := gr.w) (a := ⟨β p, off, none⟩) T htf hlen (fun j hj => by
            rw [add_row]
            refine ⟨?_, hb.frozen _⟩
            rw [hb.cell, List.getElem?_eq_getElem (by omega)]
            rfl) (onesB_use hbb.2.2)
          have hrun : (execOp a.eval o).run c.P gr.w = .ok .skip (stL ⟨β p, off, none⟩ 0 (cellsL v) gr.w) := by
            have hyv := hok.oks.agree.ev hy
            simp [execOp, hop2, hev, hyv, hr]
          have h2 := wp_both_skip hrun h1 (R := fun w' => w' = stL ⟨β p, off, none⟩ 0 (cellsL v) gr.w) rfl
          refine Oper.wp_mono ?_ h2
          rintro a' w' ⟨v', rfl, ⟨k1, k2⟩, rfl⟩
          have hother : ∀ b, b ≠ β p → (stL ⟨β p, off, none⟩ 0 (cellsL v) gr.w).heap[b]? = gr.w.heap[b]? := fun b hb => heap_stL _ _ _ _ _ hb
          have ho : OldF g1 E nw (st.setP p (setsAt cs off (cellsL v))) a := by
            intro q cs' hqn hs'
            have hs' : slook ((p, setsAt cs off (cellsL v)) :: st.ps) q = some cs' := hs'
            rw [slook_cons, if_neg (fun e : p = q => hqn (e ▸ hpn))] at hs'
            exact hok.old q cs' hqn hs'
          have hn' : NewF g1 E nw (st.setP p (setsAt cs off (cellsL v))) a := by
            intro q cs' hqn hs'
            have hs' : slook ((p, setsAt cs off (cellsL v)) :: st.ps) q = some cs' := hs'
            rw [slook_cons] at hs'
            by_cases e : p = q
            · subst e
              exact ⟨_, hb1, hb2⟩
            · rw [if_neg e] at hs'
              exact hok.new_ q cs' hqn hs'
          refine ⟨v', nw, (st.setP p _).put o.dst undef, g, rfl, hE0, ⟨k1, ho.put _ _ _, hn'.put _ _ _, by rw [size_stL]; exact hok.sz, hok.xx⟩, ⟨fun b hb hx hm => ?_, fun b hx hnE => ?_⟩, Le.refl g, k2, h⟩
          · rw [hother b (fun e => hb1.elim (fun h => hx (e ▸ hE _ h)) (fun h => by omega))]
            exact hS.1 b hb hx hm
          · rw [hother b (fun e => hb1.elim (fun h => hnE (e ▸ h)) (fun h => by have := g1.hX b hx; omega))]
            exact hS.2 b hx hnE
        all_goals cases hp
      all_goals cases hpe
    cases r with
    | none => exact h.elim
    | some st' =>
    simp only at h
    -- a private variable is laid
    have hlay : ∃ d L, o.dst = some d ∧ st' = st.newP d L ∧ prvOp c o st = some (some (st.newP d L)) := by
      have hp' := hp
      unfold prvOp at hp
      cases hop : o.op <;> simp only [hop] at hp hl
      case alloc e =>
        cases hdst : o.dst <;> simp only [hdst] at hp
        · cases hp
        rename_i d
        cases hm : memN c.pv d <;> simp only [hm] at hp
        · cases hp
        cases hz : zeroC c.tt e <;> simp only [hz] at hp
        · cases hp
        rename_i L
        simp only [Option.some.injEq] at hp
        subst hp
        exact ⟨d, L, rfl, rfl, hp'⟩
      case box e x =>
        cases hdst : o.dst <;> simp only [hdst] at hp
        · cases hp
        rename_i d
        cases hm : memN c.pv d <;> simp only [hm] at hp
        · cases hp
        cases hz : ev st.fr x <;> simp only [hz] at hp
        · cases hp
        rename_i v
        simp only [Option.some.injEq] at hp
        subst hp
        exact ⟨d, cellsL v, rfl, rfl, hp'⟩
      all_goals cases hl
    obtain ⟨d, L, hdst, rfl, hp'⟩ := hlay
    have hop : opG c g0.size M o st g fun s x => s = st.newP d L ∧ x = g := by
      unfold opG
      rw [hp']
      exact ⟨rfl, rfl⟩
    obtain ⟨gr, β, rfl, e2, e3, e4, e5⟩ := hok.oks.ex
    -- the world grows by one block
    have hgrow : o.wp c.P a gr.w (fun a' w' => ∃ v, a' = a.put o.dst v ∧ (OkS g0 M n (st.newP d L) g a' w' ∧ ExtSt o.dst.toList (wpO c o) st (st.newP d L)) ∧ (gr.w.heap.size ≤ w'.heap.size ∧ ∀ b, b < gr.w.heap.size → w'.heap[b]? = gr.w.heap[b]?) ∧ v = .pointer (some ⟨gr.w.heap.size, 0, none⟩)) Q := by
      unfold prvOp at hp
      cases hop2 : o.op <;> simp only [hop2] at hp hl
      case alloc e =>
        simp only [hdst] at hp
        cases hm : memN c.pv d <;> simp only [hm] at hp
        · cases hp
        cases hz : zeroC c.tt e <;> simp only [hz] at hp
        · cases hp
        rename_i L'
        have hL : L' = L := by
          simp only [Option.some.injEq] at hp
          have := congrArg St.ps hp
          simp only [St.newP, List.cons.injEq, Prod.mk.injEq, true_and, and_true] at this
          exact this
        subst hL
        unfold zeroC at hz
        cases hs : tfind c.tt e <;> simp only [hs] at hz
        · cases hz
        rename_i ti
        cases hzz : ti.zero <;> simp only [hzz] at hz
        · cases hz
        rename_i z
        obtain rfl := Option.some.inj hz
        have hrun : (execOp a.eval o).run c.P gr.w = .ok (.value (.pointer (some ⟨gr.w.heap.size, 0, none⟩))) (gr.w.alloc (.cells ⟨cellsL z⟩ e)) := by
          simp [execOp, hop2, Instr.alloc, (T.fact hs).run_zero hzz, newVar, newRow, cellsL_eq]
        have h1 := new_ok (g0 := g0) (M := M) (n := n) (c := c) (Q := Q) (e := e) (K := fun s x => s = st.newP d (cellsL z) ∧ x = g) hok.oks.agree hdst hd e2 e4 e5 hrun (by simp [wpO, hop2, hdst, hm]) ⟨rfl, rfl⟩
        have h2 : o.wp c.P a gr.w (Nx o a fun v w' => v = .pointer (some ⟨gr.w.heap.size, 0, none⟩) ∧ w' = gr.w.alloc (.cells ⟨cellsL z⟩ e)) Q := upon_of_value hrun ⟨rfl, rfl⟩
        exact wp_both hrun h1 ⟨by simp, fun b hb => Below.heap_alloc _ _ _ hb⟩
      case box e x =>
        simp only [hdst] at hp
        cases hm : memN c.pv d <;> simp only [hm] at hp
        · cases hp
        cases hz : ev st.fr x <;> simp only [hz] at hp
        · cases hp
        rename_i v
        have hL : cellsL v = L := by
          simp only [Option.some.injEq] at hp
          have := congrArg St.ps hp
          simp only [St.newP, List.cons.injEq, Prod.mk.injEq, true_and, and_true] at this
          exact this
        subst hL
        have hrun : (execOp a.eval o).run c.P gr.w = .ok (.value (.pointer (some ⟨gr.w.heap.size, 0, none⟩))) (gr.w.alloc (.cells ⟨cellsL v⟩ e)) := by
          simp [execOp, hop2, Instr.box, newVar, newRow, cellsL_eq, hok.oks.agree.ev hz]
        have h1 := new_ok (g0 := g0) (M := M) (n := n) (c := c) (Q := Q) (e := e) (K := fun s x => s = st.newP d (cellsL v) ∧ x = g) hok.oks.agree hdst hd e2 e4 e5 hrun (by simp [wpO, hop2, hdst, hm]) ⟨rfl, rfl⟩
        exact wp_both hrun h1 ⟨by simp, fun b hb => Below.heap_alloc _ _ _ hb⟩
      all_goals cases hl
    refine Oper.wp_mono ?_ hgrow
    rintro a' w' ⟨v, rfl, ⟨h1, h2⟩, ⟨h3, h4⟩, hnew⟩
    have hdd : dstO o.dst = d := by rw [hdst]; rfl
    have hE0' : memN (d :: nw) SENT = false → ∀ b, ¬ E b := by
      intro hm
      refine hE0 ?_
      cases hh : memN nw SENT with
      | false => rfl
      | true =>
        have : memN (d :: nw) SENT = true := memN_iff.2 (by simp [memN_iff.1 hh])
        rw [this] at hm
        cases hm
    refine ⟨v, d :: nw, st.newP d L, g, rfl, hE0', ⟨h1, fun p cs hp hs => ?_, fun p cs hp hs => ?_, Nat.le_trans hok.sz h3, hok.xx⟩, ⟨fun b hb hx hm => (h4 b (Nat.lt_of_lt_of_le hb hok.sz)).trans (hS.1 b hb hx hm), fun b hx hnE => (h4 b (Nat.lt_of_lt_of_le (g1.hX b hx) hok.sz)).trans (hS.2 b hx hnE)⟩, Le.refl g, h2, by have h' := h; rw [hdd] at h'; exact h'⟩
    · have hpd : p ≠ d := fun e => hp (by simp [e])
      have hpn : p ∉ nw := fun e => hp (by simp [e])
      have hs : slook ((d, L) :: st.ps) p = some cs := hs
      rw [slook_cons, if_neg (fun e => hpd e.symm)] at hs
      obtain ⟨b, ty, k1, kE, k2, k3⟩ := hok.old p cs hpn hs
      refine ⟨b, ty, k1, kE, k2, fun t o' ht => ?_⟩
      have ht : plook ((d, some (d, 0)) :: killP d st.pe) t = some (p, o') := ht
      rw [plook_cons] at ht
      by_cases e : d = t
      · simp only [e, if_true, Option.some.injEq, Prod.mk.injEq] at ht
        exact absurd (ht.1.symm.trans e.symm) hpd
      · simp only [e, if_false] at ht
        rw [plook_kill, killE_some] at ht
        rw [hdst, getD_put _ _ _ _ (fun hh => e (Option.some.inj hh))]
        exact k3 t o' ht.1
    · by_cases hpd : p = d
      · subst hpd
        refine ⟨gr.w.heap.size, .inr hok.sz, fun t o' ht => ?_⟩
        have ht : plook ((p, some (p, 0)) :: killP p st.pe) t = some (p, o') := ht
        rw [plook_cons] at ht
        by_cases e : p = t
        · subst e
          simp only [if_true, Option.some.injEq, Prod.mk.injEq] at ht
          obtain ⟨_, rfl⟩ := ht
          have hk := hnew
          subst hk
          rw [hdst]
          exact getD_put_same hok.oks.agree.size (by rw [hdst] at hd; exact hd) _
        · simp only [e, if_false] at ht
          rw [plook_kill, killE_some] at ht
          exact absurd rfl ht.2
      · have hpn : p ∈ nw := by
          rcases List.mem_cons.1 hp with h | h
          · exact absurd h hpd
          · exact h
        have hs : slook ((d, L) :: st.ps) p = some cs := hs
        rw [slook_cons, if_neg (fun e => hpd e.symm)] at hs
        obtain ⟨b, k1, k3⟩ := hok.new_ p cs hpn hs
        refine ⟨b, k1, fun t o' ht => ?_⟩
        have ht : plook ((d, some (d, 0)) :: killP d st.pe) t = some (p, o') := ht
        rw [plook_cons] at ht
        by_cases e : d = t
        · simp only [e, if_true, Option.some.injEq, Prod.mk.injEq] at ht
          exact absurd (ht.1.symm.trans e.symm) hpd
        · simp only [e, if_false] at ht
          rw [plook_kill, killE_some] at ht
          rw [hdst, getD_put _ _ _ _ (fun hh => e (Option.some.inj hh))]
          exact k3 t o' ht.1
  | none =>
    simp only [hp] at h
    cases he : effB c.tt o <;> simp only [he] at h
    · obtain ⟨v, h1, h2⟩ := pure_sound (P := c.P) T hok.oks.agree h
      refine Oper.wp_mono (K := Nx o a fun v' w' => v' = v ∧ w' = w) ?_ (upon_of_value (h1 _) ⟨rfl, rfl⟩)
      rintro a' w' ⟨v, rfl, rfl, rfl⟩
      exact ⟨v, nw, st.put o.dst v, g, rfl, hE0, hok.put hd v, hS, Le.refl g, extSt_put _ _ _ _, h2⟩
    · have h : flushG st g fun st g => match autoO c o with
          | true => effG c g0.size M st.fr o g fun v g' => K nw (st.put o.dst v) g'
          | false => effG c g0.size M st.fr o g fun v g' => clsG MR g1 g' (K nw (st.put o.dst v) g') := by
        cases hm : memN nw SENT with
        | false => rw [hm] at h; exact h
        | true =>
          rw [hm] at h
          unfold flushG
          cases hdd : st.dirty with
          | true => exact fun g' he => h g' he
          | false =>
            have e : st = ⟨st.fr, st.pe, st.ps, false⟩ := by rw [← hdd]
            rw [e]
            exact h g (Ex.refl g)
      obtain ⟨g2, β, rfl, h2, h3, h4, h5⟩ := flush_use hok.oks h
      have hx2 : ∀ b, g1.X b → g2.X b := fun b hb => h2.2 b (hok.xx b hb)
      have fin : ∀ v g', Stp g0.size M g2 g' → (∀ b, b < g1.w.heap.size → ¬ g1.X b → mrC MR b → g'.w.heap[b]? = g1.w.heap[b]?) → K nw ((⟨st.fr, st.pe, st.ps, false⟩ : St).put o.dst v) g' → ∃ v' nw' st' g'', a.put o.dst v = a.put o.dst v' ∧ (memN nw' SENT = false → ∀ b, ¬ E b) ∧ OkC g0 M n g1 E nw' st' g'' (a.put o.dst v) g'.w ∧ clsW MR E g1 g'.w ∧ Le g g'' ∧ ExtSt o.dst.toList (wpO c o) st st' ∧ K nw' st' g'' := by
        intro v g' hs hc1 hK
        have hc : clsW MR E g1 g'.w := ⟨hc1, fun b hb hnE => (hs.keepX b (hx2 b hb)).trans (hS.2 b hb hnE)⟩
        have e := extSt_put ⟨st.fr, st.pe, st.ps, false⟩ o.dst v (wpO c o)
        have hc0 : OkC g0 M n g1 E nw ⟨st.fr, st.pe, st.ps, false⟩ g' a g'.w := ⟨⟨hok.oks.agree, g', β, rfl, Exx.refl _, fun _ => rfl, h3.step hs, (h4.step (fun b hb => (hs.x b).2 hb) hs.keepX).fr _ _⟩, hok.old, hok.new_, Nat.le_trans hok.sz hs.le.size, fun b hb => (hs.x b).2 (hx2 b hb)⟩
        exact ⟨v, nw, (⟨st.fr, st.pe, st.ps, false⟩ : St).put o.dst v, g', rfl, hE0, hc0.put hd v, hc, h2.1.le.trans hs.le, ⟨e.fr, e.pe, e.ps⟩, hK⟩
      cases ha : autoO c o <;> simp only [ha] at h5
      · refine Oper.wp_mono ?_ (effG_sound T F hok.oks.agree h3.le.size h5 (fun R hR ch g' hs hk => hQ R hR a ch g' hok.oks.agree.defers (h3.step hs) hk))
        rintro a' w' ⟨v, rfl, g', rfl, hs, hK⟩
        obtain ⟨hc, hK⟩ := clsG_use hK
        exact fin v g' hs hc hK
      · rw [auto_eq ha he g0.size g2.size M nobody] at h5
        refine Oper.wp_mono ?_ (effG_sound T F hok.oks.agree (Nat.le_refl _) h5 (fun R hR ch g' hs hk => hQ R hR a ch g' hok.oks.agree.defers (h3.step (hs.mono h3.le.size (fun b _ h => h.elim))) hk))
        rintro a' w' ⟨v, rfl, g', rfl, hs, hK⟩
        refine fin v g' (hs.mono h3.le.size (fun b _ h => h.elim)) (fun b hb hx hm => ?_) hK
        rw [hs.same b (Nat.lt_of_lt_of_le hb hok.sz) (fun h => h), hS.1 b hb hx hm]
end
end Go.Vc
/- Regions that draw their order, on frames with private variables: sound. -/
set_option linter.unusedVariables false
namespace Go.Vc
open Go Go.RowKit
section
variable {c : Cfg} {g0 : G} {M : Nat → Prop} {n : Nat}
theorem treeG_eff {B : Nat} {ops : List Oper} {m : Nat} {N : St → G → Prop} {MR : Option (Nat → Prop)} {g1 : G} {i : Nat} {r more : Sch} {al : Bool} {st : St} {g : G} {nw : List Nat} (h : treeG c B M n ops m N MR g1 (.eff i r more) al nw st g) :
    (match ops[i]? with
      | none => False
      | some o => match dOk n o.dst with
        | false => False
        | true => guardG ops o st (fun st => effHG c B M MR g1 nw o st g fun nw st g => treeG c B M n ops m N MR g1 r false nw st g) fun st => treeG c B M n ops m N MR g1 r false nw (st.put o.dst undef) g) ∧ treeG c B M n ops m N MR g1 more true nw st g := by
  cases more with
  | fin => exact ⟨h, trivial⟩
  | quiet i r => exact h
  | eff i r more => exact h
theorem treeG_sound (T : TOk c.P c.tt) (F : FOk c.P c.fns) {ops : List Oper} {m : Nat} {N : St → G → Prop} {MR : Option (Nat → Prop)} {E : Nat → Prop} {g1 : G} (hX : ∀ m, MR = some m → ∀ b, m b → ¬ g1.X b) (hE : ∀ b, E b → g1.X b) {Q : Exit → Act → World → Prop}
    (hQp : ∀ d v c a w, Q (.panic c) (a.put d v) w → Q (.panic c) a w) (hQ : PnQ c g0 M Q) (hsel : Region.noSelect ops.toArray = true)
    {L : Array Bool → Prop} (hG : ∀ listed j, L listed → j ∈ Region.ready .any ops.toArray listed → j < m → L (listed.setIfInBounds j true)) (hF : ∀ listed, L listed → HeadFirst ops.toArray m listed)
    {st0 : St} {g00 : G} (hN : ∀ a w, BehS g0 M n (dstsL ops) (wpL c ops) st0 g00 N a w → Q .normal a w) (hmle : m ≤ ops.length) :
    ∀ (t : Sch),
      (∀ (f : Nat) (listed : Array Bool) (nw : List Nat) (st : St) (g : G) (a : Act) (w : World), L listed → schT ops.toArray m t false f listed = true → (memN nw SENT = false → ∀ b, ¬ E b) → OkC g0 M n g1 E nw st g a w → ExtSt (dstsL ops) (wpL c ops) st0 st → Le g00 g → clsW MR E g1 w →
        treeG c g0.size M n ops m N MR g1 t false nw st g →
        wpT c.P ops.toArray Q (clsW MR E g1) m (fun listed a w => wpAny c.P .any ops.toArray Q (ops.length - m) listed a w ∧ ∀ j ∈ Region.ready .any ops.toArray listed, m ≤ j) f listed a w) ∧
      (∀ (f : Nat) (listed : Array Bool) (nw : List Nat) (st : St) (g : G) (a : Act) (w : World), L listed → schT ops.toArray m t true (f + 1) listed = true → (memN nw SENT = false → ∀ b, ¬ E b) → OkC g0 M n g1 E nw st g a w → ExtSt (dstsL ops) (wpL c ops) st0 st → Le g00 g → clsW MR E g1 w →
        treeG c g0.size M n ops m N MR g1 t true nw st g → (∀ j ∈ cands t, j ∈ Region.ready .any ops.toArray listed) →
        ∀ j ∈ cands t, j < m ∧ wpOp c.P ops.toArray Q j (fun a' w' => clsW MR E g1 w' ∧ wpT c.P ops.toArray Q (clsW MR E g1) m (fun listed a w => wpAny c.P .any ops.toArray Q (ops.length - m) listed a w ∧ ∀ j ∈ Region.ready .any ops.toArray listed, m ≤ j) f (listed.setIfInBounds j true) a' w') a w) := by
  intro t
  induction t with
  | fin =>
    refine ⟨?_, fun f listed nw st g a w _ _ _ _ _ _ _ _ _ j hj => by cases hj⟩
    intro f listed nw st g a w _ hB hE0 hA hE' hL _ h
    simp only [schT, Bool.and_eq_true] at hB
    have hf := Nat.eq_of_beq_eq_true hB.1
    subst hf
    have hB' : Region.seqB .any ops.toArray (ops.length - m) m listed = true := by simpa using hB.2
    refine ⟨?_, ?_⟩
    · have hl : (ops.drop m).length = ops.length - m := by simp
      have := wpAny_of_seq (P := c.P) (md := .any) (ops := ops.toArray) (Q' := Q) (ops.drop m) m listed a w (fun j => by simp [List.getElem?_drop]) (by rw [hl]; exact hB')
        (vcOpsG_sound T F (W0 := dstsL ops) (V0 := wpL c ops) (st0 := st0) (g00 := g00) (fun a w hb => hN a w ?_) hQ hA.oks hE' hL h)
      · rw [hl] at this; exact this
      · refine hb.mono (fun t ht => ?_) (fun t ht => ?_)
        · rcases List.mem_append.1 ht with ht | ht
          · exact ht
          · obtain ⟨o, ho, ht⟩ := List.mem_flatMap.1 ht
            exact List.mem_flatMap.2 ⟨o, List.mem_of_mem_drop ho, ht⟩
        · rcases List.mem_append.1 ht with ht | ht
          · exact ht
          · obtain ⟨o, ho, ht⟩ := List.mem_flatMap.1 ht
            exact List.mem_flatMap.2 ⟨o, List.mem_of_mem_drop ho, ht⟩
    · intro j hj
      cases hg : ops.length - m with
      | zero => rw [hg] at hB'; simp only [Region.seqB, List.isEmpty_iff] at hB'; rw [hB'] at hj; cases hj
      | succ g =>
        rw [hg] at hB'
        simp only [Region.seqB, Bool.and_eq_true, decide_eq_true_eq] at hB'
        rw [hB'.1] at hj
        simp at hj
        omega
  | quiet i r ih =>
    refine ⟨?_, fun f listed nw st g a w _ _ _ _ _ _ _ _ _ j hj => by cases hj⟩
    intro f listed nw st g a w hg hB hE0 hA hE1 hL hS h
    cases f with
    | zero => simp [schT] at hB
    | succ f =>
    unfold treeG at h
    cases ho : ops[i]? <;> simp only [ho] at h
    rename_i o
    have ho' : ops.toArray[i]? = some o := by simpa using ho
    cases hd : dOk n o.dst <;> simp only [hd] at h
    obtain ⟨fr', hA', hE', h⟩ := guard_use hA.oks.agree h
    have hok' := hA.withFr hA'
    have hE2 : ExtSt (dstsL ops) (wpL c ops) st0 ⟨fr', st.pe, st.ps, st.dirty⟩ := (hE1.trans (ExtSt.withFr hE' [] [])).mono (by simp) (by simp)
    have step : ∀ {st'}, ExtSt o.dst.toList [] ⟨fr', st.pe, st.ps, st.dirty⟩ st' → ExtSt (dstsL ops) (wpL c ops) st0 st' := fun h => (hE2.trans h).mono (fun t ht => by
      rcases List.mem_append.1 ht with ht | ht
      · exact ht
      · exact mem_dsts ho ht) (by simp)
    simp only [schT, Bool.and_eq_true] at hB
    obtain ⟨him, hr, hfree, hB⟩ := hB
    have him' : i < m := by
      have := Nat.le_of_ble_eq_true him
      omega
    have hr' : i ∈ Region.ready .any ops.toArray listed := by simpa using hr
    have take : ∀ v, YieldsIf c.P ops.toArray (clsW MR E g1) o v a →
        wpT c.P ops.toArray Q (clsW MR E g1) m (fun listed a w => wpAny c.P .any ops.toArray Q (ops.length - m) listed a w ∧ ∀ j ∈ Region.ready .any ops.toArray listed, m ≤ j) f (listed.setIfInBounds i true) (a.put o.dst v) w →
        wpT c.P ops.toArray Q (clsW MR E g1) m (fun listed a w => wpAny c.P .any ops.toArray Q (ops.length - m) listed a w ∧ ∀ j ∈ Region.ready .any ops.toArray listed, m ≤ j) (f + 1) listed a w := fun v hy H =>
      wpT_first ho' (Region.noSelect_spec hsel) (hQp _ _) him' (fun _ _ _ h => h.2) L hG hF f listed a w hg (Region.free_spec ho' hfree) hr' hy hS H
    rcases h with ⟨hw, h⟩ | ⟨hw, h⟩
    · obtain ⟨v, st', h1, h2, h3, h4⟩ := quietG_use T hX hE0 hok' hd h
      exact take v (.inl ⟨hw, h1⟩) (ih.1 f _ nw st' g _ w (hG _ _ hg hr' him') hB hE0 h2 (step h3) hL hS h4)
    · exact take undef (.inr ⟨hw, rfl⟩) (ih.1 f _ nw _ g _ w (hG _ _ hg hr' him') hB hE0 (hok'.put hd undef) (step (extSt_put _ _ _ _)) hL hS h)
  | eff i r more ihr ihm =>
    have one : ∀ (f : Nat) (listed : Array Bool) (nw : List Nat) (st : St) (g : G) (a : Act) (w : World) (al : Bool), L listed → schT ops.toArray m (.eff i r more) al (f + 1) listed = true → (memN nw SENT = false → ∀ b, ¬ E b) → OkC g0 M n g1 E nw st g a w → ExtSt (dstsL ops) (wpL c ops) st0 st → Le g00 g → clsW MR E g1 w →
        treeG c g0.size M n ops m N MR g1 (.eff i r more) al nw st g → (∀ j ∈ i :: cands more, j ∈ Region.ready .any ops.toArray listed) →
        ∀ j ∈ i :: cands more, j < m ∧ wpOp c.P ops.toArray Q j (fun a' w' => clsW MR E g1 w' ∧ wpT c.P ops.toArray Q (clsW MR E g1) m (fun listed a w => wpAny c.P .any ops.toArray Q (ops.length - m) listed a w ∧ ∀ j ∈ Region.ready .any ops.toArray listed, m ≤ j) f (listed.setIfInBounds j true) a' w') a w := by
      intro f listed nw st g a w al hg hB hE0 hA hE1 hL hS h hrd j hj
      simp only [schT, Bool.and_eq_true] at hB
      obtain ⟨him, _, hBr, hBm⟩ := hB
      obtain ⟨h, hmore⟩ := treeG_eff h
      rcases List.mem_cons.1 hj with rfl | hj
      · cases ho : ops[j]? <;> simp only [ho] at h
        rename_i o
        have ho' : ops.toArray[j]? = some o := by simpa using ho
        cases hd : dOk n o.dst <;> simp only [hd] at h
        obtain ⟨fr', hA', hE', h⟩ := guard_use hA.oks.agree h
        have hok' := hA.withFr hA'
        have hE2 : ExtSt (dstsL ops) (wpL c ops) st0 ⟨fr', st.pe, st.ps, st.dirty⟩ := (hE1.trans (ExtSt.withFr hE' [] [])).mono (by simp) (by simp)
        have step : ∀ {st'}, ExtSt o.dst.toList (wpO c o) ⟨fr', st.pe, st.ps, st.dirty⟩ st' → ExtSt (dstsL ops) (wpL c ops) st0 st' := fun h => (hE2.trans h).mono (fun t ht => by
          rcases List.mem_append.1 ht with ht | ht
          · exact ht
          · exact mem_dsts ho ht) (fun t ht => by
          rcases List.mem_append.1 ht with ht | ht
          · exact ht
          · exact List.mem_flatMap.2 ⟨o, List.mem_of_getElem? ho, ht⟩)
        have him' : j < m := by
          have := Nat.le_of_ble_eq_true him
          omega
        have hr' := hrd j (by simp)
        refine ⟨him', ?_⟩
        unfold wpOp
        simp only [ho']
        rcases h with ⟨hw, h⟩ | ⟨hw, h⟩
        · rw [if_pos hw]
          refine .inl (Oper.wp_mono ?_ (effHG_use T F hE hE0 hok' hS hd hQ h))
          rintro a' w' ⟨v, nw', st', g', rfl, h0, h1, h2, h3, h4, hK⟩
          exact ⟨h2, ihr.1 f _ nw' st' g' _ w' (hG _ _ hg hr' him') hBr h0 h1 (step h4) (hL.trans h3) h2 hK⟩
        · rw [if_neg (by simp [hw])]
          exact ⟨hS, ihr.1 f _ nw _ g _ w (hG _ _ hg hr' him') hBr hE0 (hok'.put hd undef) (step (extSt_put _ _ _ _)) hL hS h⟩
      · exact ihm.2 f listed nw st g a w hg hBm hE0 hA hE1 hL hS hmore (fun k hk => hrd k (by simp [hk])) j hj
    refine ⟨?_, fun f listed nw st g a w hg hB hE0 hA hE1 hL hS h hrd => one f listed nw st g a w true hg hB hE0 hA hE1 hL hS h hrd⟩
    intro f listed nw st g a w hg hB hE0 hA hE1 hL hS h
    cases f with
    | zero => simp [schT] at hB
    | succ f =>
      have hrd : Region.ready .any ops.toArray listed = i :: cands more := by
        simp only [schT, Bool.and_eq_true, Bool.false_or, beq_iff_eq] at hB
        exact hB.2.1
      show Region.ready .any ops.toArray listed ≠ [] ∧ _
      refine ⟨by simp [hrd], fun j hj => ?_⟩
      exact one f listed nw st g a w false hg hB hE0 hA hE1 hL hS h (fun k hk => by rw [hrd]; exact hk) j (by rw [← hrd]; exact hj)
def drawG (c : Cfg) (B : Nat) (M : Nat → Prop) (n : Nat) (ops : List Oper) (m : Nat) (N : St → G → Prop) (wide : Bool) (t : Sch) (st : St) (g : G) : Prop := ∀ g1, Ex g g1 → match wide with
  | false => treeG c B M n ops m N none g1 t false [] ⟨st.fr, st.pe, st.ps, false⟩ g1
  | true => ∃ MR : Nat → Prop, (∀ b, MR b → ¬ g1.X b) ∧ treeG c B M n ops m N (some MR) g1 t false [] ⟨st.fr, st.pe, st.ps, false⟩ g1
def drawP (c : Cfg) (B : Nat) (M : Nat → Prop) (n : Nat) (ops : List Oper) (m : Nat) (N : St → G → Prop) (wide : Bool) (nw0 : List Nat) (t : Sch) (st : St) (g : G) : Prop := ∀ g1, Ex g g1 → match wide with
  | false => treeG c B M n ops m N none g1 t false nw0 ⟨st.fr, st.pe, st.ps, false⟩ g1
  | true => ∃ MR : Nat → Prop, (∀ b, MR b → ¬ g1.X b) ∧ treeG c B M n ops m N (some MR) g1 t false nw0 ⟨st.fr, st.pe, st.ps, false⟩ g1
theorem drawP_any (T : TOk c.P c.tt) (F : FOk c.P c.fns) (hm : c.P.follows .mixedOrders = true) {ops : List Oper} {m : Nat} {t : Sch} {wide : Bool} {nw0 : List Nat} (hnw : nw0 = [] ∨ memN nw0 SENT = true) {N : St → G → Prop} {Q : Exit → Act → World → Prop}
    (hQp : ∀ d v c a w, Q (.panic c) (a.put d v) w → Q (.panic c) a w) (hQ : PnQ c g0 M Q) {st : St} {g : G} {a : Act} {w : World} (hN : ∀ a w, BehS g0 M n (dstsL ops) (wpL c ops) st g N a w → Q .normal a w) (hok : OkS g0 M n st g a w) (hB : drawT ops.toArray m t = true)
    (h : drawP c g0.size M n ops m N wide nw0 t st g) : wpAny c.P .any ops.toArray Q ops.toArray.size (Array.replicate ops.toArray.size false) a { w with drawn := w.drawn + 1 } := by
  simp only [drawT, Bool.and_eq_true] at hB
  obtain ⟨hsel, h3, h4⟩ := hB
  obtain ⟨L, hG0, hG, hF⟩ := head_inv h3
  have hmle : m ≤ ops.length := by
    simp only [Bool.or_eq_true, Bool.and_eq_true] at h3
    rcases h3 with h3 | h3
    · have := Nat.eq_of_beq_eq_true h3; simp at this; omega
    · have := Nat.le_of_ble_eq_true h3.1; simp at this; omega
  obtain ⟨gr, β, rfl, h5, h6, h7, h8⟩ := hok.ex
  -- the world with one answer drawn
  let g1 : G := ⟨gr.w.drew, gr.X, gr.D, gr.hX, gr.hD⟩
  have hcell : ∀ a, g1.w.cell? a = gr.w.cell? a := fun _ => rfl
  have e1 : Ex gr g1 := ⟨Nat.le_refl _, fun _ _ h => h, fun _ _ _ => rfl, fun _ _ _ _ => Iff.rfl⟩
  have k1 : Kp g0 M g1 := ⟨h7.le.trans e1.le, h7.x, h7.keepX, h7.os, h7.tape, h7.output, h7.same, h7.d⟩
  obtain ⟨E, hEd⟩ : ∃ E : Nat → Prop, ∀ b, E b ↔ ∃ p cs, p ∈ nw0 ∧ slook st.ps p = some cs ∧ b = β p := ⟨_, fun b => Iff.rfl⟩
  have hE : ∀ b, E b → g1.X b := by
    intro b hb
    obtain ⟨p, cs, _, hp, rfl⟩ := (hEd b).1 hb
    exact (h8.cell p cs hp).2.1
  have hE0 : memN nw0 SENT = false → ∀ b, ¬ E b := by
    intro hm0 b hb
    obtain ⟨p, cs, hp0, _, _⟩ := (hEd b).1 hb
    rcases hnw with rfl | hn
    · cases hp0
    · rw [hn] at hm0; cases hm0
  have ok1 : OkC g0 M n g1 E nw0 ⟨st.fr, st.pe, st.ps, false⟩ g1 a g1.w := by
    refine ⟨⟨hok.agree, g1, β, rfl, Exx.refl _, fun _ => rfl, k1, ⟨h8.ptr, h8.cell, h8.inj⟩⟩, fun p cs hpn hp => ?_, fun p cs hpn hp => ?_, Nat.le_refl _, fun _ h => h⟩
    · obtain ⟨_, h9, ty, h10⟩ := h8.cell p cs hp
      refine ⟨β p, ty, h9, fun hb => ?_, h10, fun t o ht => h8.ptr t p o ht⟩
      obtain ⟨q, cs', hq0, hq, e⟩ := (hEd _).1 hb
      exact hpn (h8.inj p q cs cs' hp hq e ▸ hq0)
    · exact ⟨β p, .inl ((hEd _).2 ⟨p, cs, hpn, hp, rfl⟩), fun t o ht => h8.ptr t p o ht⟩
  have ee : ExtSt (dstsL ops) (wpL c ops) st ⟨st.fr, st.pe, st.ps, false⟩ := ⟨ExtE.refl _ _, fun _ _ _ _ _ h => h, fun _ _ _ h => h⟩
  have hLe : Le g g1 := (h5.1.trans e1).le
  have main : ∃ MR : Option (Nat → Prop), (∀ m, MR = some m → ∀ b, m b → ¬ g1.X b) ∧ treeG c g0.size M n ops m N MR g1 t false nw0 ⟨st.fr, st.pe, st.ps, false⟩ g1 := by
    have h' := h g1 (h5.1.trans e1)
    cases wide with
    | false => exact ⟨none, fun _ h => (by cases h), h'⟩
    | true => obtain ⟨MR, hx, h'⟩ := h'; exact ⟨some MR, fun _ e => (by cases e; exact hx), h'⟩
  obtain ⟨MR, hX, h'⟩ := main
  have := wpAny_of_T (P := c.P) (ops := ops.toArray) (Q := Q) (S := clsW MR E g1) (m := m) (g := ops.length - m) (fun _ _ _ h => h.1) m (Array.replicate ops.toArray.size false) a g1.w
    ((treeG_sound T F hX hE hQp hQ hsel hG hF hN hmle t).1 m _ nw0 _ g1 a g1.w hG0 h4 hE0 ok1 ee hLe ⟨fun _ _ _ _ => rfl, fun _ _ _ => rfl⟩ h')
  rw [show m + (ops.length - m) = ops.toArray.size by simp; omega] at this
  exact this
theorem drawP_sound (T : TOk c.P c.tt) (F : FOk c.P c.fns) (hm : c.P.follows .mixedOrders = true) {ops : List Oper} {m : Nat} {t : Sch} {wide : Bool} {nw0 : List Nat} (hnw : nw0 = [] ∨ memN nw0 SENT = true) {N : St → G → Prop} {Q : Exit → Act → World → Prop}
    (hQp : ∀ d v c a w, Q (.panic c) (a.put d v) w → Q (.panic c) a w) (hQ : PnQ c g0 M Q) {st : St} {g : G} {a : Act} {w : World} {id : Nat} (hN : ∀ a w, BehS g0 M n (dstsL ops) (wpL c ops) st g N a w → Q .normal a w) (hok : OkS g0 M n st g a w) (hB : drawT ops.toArray m t = true)
    (h : drawP c g0.size M n ops m N wide nw0 t st g) : (Code.region id ops.toArray true).wp c.P Q a w :=
  wp_region_any hm (drawP_any T F hm hnw hQp hQ hN hok hB h)
theorem drawG_sound (T : TOk c.P c.tt) (F : FOk c.P c.fns) (hm : c.P.follows .mixedOrders = true) {ops : List Oper} {m : Nat} {t : Sch} {wide : Bool} {N : St → G → Prop} {Q : Exit → Act → World → Prop}
    (hQp : ∀ d v c a w, Q (.panic c) (a.put d v) w → Q (.panic c) a w) (hQ : PnQ c g0 M Q) {st : St} {g : G} {a : Act} {w : World} {id : Nat} (hN : ∀ a w, BehS g0 M n (dstsL ops) (wpL c ops) st g N a w → Q .normal a w) (hok : OkS g0 M n st g a w) (hB : drawT ops.toArray m t = true)
    (h : drawG c g0.size M n ops m N wide t st g) : (Code.region id ops.toArray true).wp c.P Q a w :=
  drawP_sound T F hm (.inl rfl) hQp hQ hN hok hB (show drawP c g0.size M n ops m N wide [] t st g from h)
end
end Go.Vc
/- The condition of a function with private variables is sound: it gives the call. -/
set_option linter.unusedVariables false
namespace Go.Vc
open Go Go.RowKit
def jmkG : (l : List Sh1) → (List Value → G → Prop) → JTy (G → Prop) l
  | [], B => fun w => B [] w
  | s :: r, B => cur1 s r fun v => jmkG r fun vs => B (v :: vs)
def nayG : G → Prop := fun _ => False
theorem jstep_fitsG {s : Sh1} {r : List Sh1} {J : JTy (G → Prop) (s :: r)} {v : Value} {k : JTy (G → Prop) r → G → Prop} {w : G}
    (h : jstep nayG s r J v k w) : fits1 s v := by
  intro Q hQ
  cases s
  case any => exact hQ v
  case int i =>
    cases v
    case int i' n =>
      by_cases hi : i = i'
      · subst hi; exact hQ n
      · simp only [jstep, decide_eq_false hi] at h; exact h.elim
    all_goals exact h.elim
  case fn =>
    cases v
    case func f a c =>
      cases f
      case func f =>
        rcases a with ⟨_ | ⟨x, a⟩⟩
        · exact hQ f c
        · exact h.elim
      all_goals exact h.elim
    all_goals exact h.elim
  case sl => cases v <;> first | exact hQ _ _ _ | exact h.elim
  all_goals (cases v <;> first | exact hQ _ | exact h.elim)
theorem jstep_curG {s : Sh1} {r : List Sh1} {f : Value → JTy (G → Prop) r} {v : Value} {k : JTy (G → Prop) r → G → Prop} {w : G}
    (h : jstep nayG s r (cur1 s r f) v k w) : k (f v) w := by
  cases s
  case any => exact h
  case int i =>
    cases v
    case int i' n =>
      by_cases hi : i = i'
      · subst hi; simp only [jstep, cur1, decide_true] at h; exact h
      · simp only [jstep, decide_eq_false hi] at h; exact h.elim
    all_goals exact h.elim
  case fn =>
    cases v
    case func f a c =>
      cases f
      case func f =>
        rcases a with ⟨_ | ⟨x, a⟩⟩
        · exact h
        · exact h.elim
      all_goals exact h.elim
    all_goals exact h.elim
  all_goals (cases v <;> first | exact h | exact h.elim)
theorem jstep_cur_ofG {s : Sh1} {r : List Sh1} {f : Value → JTy (G → Prop) r} {k : JTy (G → Prop) r → G → Prop} {B : Value → G → Prop}
    (h : ∀ v w, B v w → k (f v) w) : all1 s fun v => ∀ w, B v w → jstep nayG s r (cur1 s r f) v k w := by
  cases s
  case any => exact fun v w hb => h _ _ hb
  case int i => intro n w hb; simp only [jstep, cur1, decide_true]; exact h _ _ hb
  case sl => exact fun a l c w hb => h _ _ hb
  case fn => exact fun a c w hb => h _ _ hb
  all_goals exact fun n w hb => h _ _ hb
theorem fits_of_jappG : ∀ {l : List Sh1} {J : JTy (G → Prop) l} {vs : List Value} {w : G}, japp nayG l J vs w → fitsL l vs := by
  intro l
  induction l with
  | nil => intro J vs w h; cases vs with
    | nil => rfl
    | cons => exact h.elim
  | cons s r ih =>
    intro J vs w h
    cases vs with
    | nil => exact h.elim
    | cons v vs =>
      have h' : jstep nayG s r J v (fun J' => japp nayG r J' vs) w := h
      refine ⟨v, vs, rfl, jstep_fitsG h', ?_⟩
      have := jstep_fitsG h'
      clear h
      -- the rest fits too
      cases s
      case any => exact ih h'
      case int i =>
        cases v
        case int i' n =>
          by_cases hi : i = i'
          · subst hi; simp only [jstep, decide_true] at h'; exact ih h'
          · simp only [jstep, decide_eq_false hi] at h'; exact h'.elim
        all_goals exact h'.elim
      case fn =>
        cases v
        case func f a c =>
          cases f
          case func f =>
            rcases a with ⟨_ | ⟨x, a⟩⟩
            · exact ih h'
            · exact h'.elim
          all_goals exact h'.elim
        all_goals exact h'.elim
      all_goals (cases v <;> first | exact ih h' | exact h'.elim)
theorem jmk_appG : ∀ {l : List Sh1} {B : List Value → G → Prop} {vs : List Value} {w : G}, japp nayG l (jmkG l B) vs w → B vs w := by
  intro l
  induction l with
  | nil => intro B vs w h; cases vs with
    | nil => exact h
    | cons => exact h.elim
  | cons s r ih =>
    intro B vs w h
    cases vs with
    | nil => exact h.elim
    | cons v vs => exact ih (B := fun vs => B (v :: vs)) (jstep_curG (k := fun J' => japp nayG r J' vs) h)
theorem jmk_ofG : ∀ {l : List Sh1} {B : List Value → G → Prop}, jall l (fun vs => ∀ w, B vs w → japp nayG l (jmkG l B) vs w) := by
  intro l
  induction l with
  | nil => intro B w h; exact h
  | cons s r ih =>
    intro B
    refine jall_swap fun v hv => ?_
    refine jall_mono ?_ (ih (B := fun vs => B (v :: vs)))
    intro vs h w hb
    exact hv (fun v => ∀ w, (japp nayG r (jmkG r fun vs => B (v :: vs)) vs w) → jstep nayG s r (jmkG (s :: r) B) v (fun J' => japp nayG r J' vs) w)
      (jstep_cur_ofG (f := fun v => jmkG r fun vs => B (v :: vs)) (k := fun J' => japp nayG r J' vs) (B := fun v w => japp nayG r (jmkG r fun vs => B (v :: vs)) vs w) (fun v w h => h)) w (h w hb)
structure JI where
  tl : List (Nat × Sh1)
  lp : List (Nat × Nat × Nat)
  lc : List (Nat × List Sh1)
inductive AnnG where
  | leaf
  | tree (m : Nat) (t : Sch)
  | treeB (m : Nat) (t : Sch)
  | treeP (wide : Bool) (nw0 : List Nat) (m : Nat) (t : Sch)
  | seq (a b : AnnG)
  | join (J : JI) (a b : AnnG)
  | cond (a b : AnnG)
  | blk (a : AnnG)
  | loop (J : JI) (a : AnnG)
def writesP (c : Cfg) : Code → List Nat
  | .region _ ops _ => wpL c ops.toList
  | .seq a b => writesP c a ++ writesP c b
  | .cond _ a b => writesP c a ++ writesP c b
  | .block _ b => writesP c b
  | .loop b => writesP c b
  | _ => []
structure KontG where
  n : St → G → Prop
  x : Nat → St → G → Prop
  r : St → G → Prop
def shC : List (Nat × List Sh1) → List Sh1
  | [] => []
  | (_, ss) :: r => ss ++ shC r
def shJ (J : JI) : List Sh1 := shs J.tl ++ shC J.lc
def getS : PS → List (Nat × List Sh1) → Option (List Value)
  | _, [] => some []
  | ps, (p, ss) :: r => match slook ps p with
    | none => none
    | some cs => match Nat.beq cs.length ss.length with
      | false => none
      | true => match getS ps r with
        | none => none
        | some vs => some (cs ++ vs)
def chkP : PE → List (Nat × Nat × Nat) → Bool
  | _, [] => true
  | pe, (t, p, o) :: r => match plook pe t with
    | some (q, k) => Nat.beq q p && (Nat.beq k o && chkP pe r)
    | none => false
def getJ (J : JI) (st : St) : Option (List Value) := match chkP st.pe J.lp with
  | false => none
  | true => match getL st.fr J.tl with
    | none => none
    | some vs => match getS st.ps J.lc with
      | none => none
      | some us => some (vs ++ us)
def killL : List Nat → PE → PE
  | [], pe => pe
  | p :: r, pe => killP p (killL r pe)
def forgetPE : List Nat → PE → PE
  | [], pe => pe
  | t :: r, pe => (t, none) :: forgetPE r pe
def forgetS (V : List Nat) : PS → PS
  | [] => []
  | (p, cs) :: r => match memN V p with
    | true => forgetS V r
    | false => (p, cs) :: forgetS V r
def bindP : List (Nat × Nat × Nat) → PE → PE
  | [], pe => pe
  | (t, p, o) :: r, pe => (t, some (p, o)) :: bindP r pe
def bindS : List (Nat × List Sh1) → List Value → PS → PS
  | [], _, ps => ps
  | (p, ss) :: r, vs, ps => (p, vs.take ss.length) :: bindS r (vs.drop ss.length) ps
def bindJ (J : JI) (vs : List Value) (W V : List Nat) (st : St) : St :=
  ⟨bindL J.tl (vs.take J.tl.length) (forgetE W st.fr), bindP J.lp (forgetPE W (killL V st.pe)), bindS J.lc (vs.drop J.tl.length) (forgetS V st.ps), false⟩
def jenvG (J : JI) (Jp : JTy (G → Prop) (shJ J)) (st : St) (g : G) : Prop := flushG st g fun st g => match getJ J st with
  | some vs => japp nayG (shJ J) Jp vs g
  | none => False
def jenvM (J : JI) (I : Nat → JTy (G → Prop) (shJ J)) (m : Nat) (st : St) (g : G) : Prop := flushG st g fun st g => match getJ J st with
  | some vs => ∃ m', m' < m ∧ japp nayG (shJ J) (I m') vs g
  | none => False
def jenvI (J : JI) (I : Nat → JTy (G → Prop) (shJ J)) (st : St) (g : G) : Prop := flushG st g fun st g => match getJ J st with
  | some vs => ∃ m', japp nayG (shJ J) (I m') vs g
  | none => False
def vcG (c : Cfg) (B : Nat) (M : Nat → Prop) (n : Nat) : Code → AnnG → St → G → KontG → Prop
  | .skip, _, st, g, k => k.n st g
  | .region _ ops draw, an, st, g, k => match draw with
    | false => vcOpsG c B M n ops.toList k.n ops.toList st g
    | true => match an with
      | .tree m t => match drawT ops m t with
        | true => drawG c B M n ops.toList m k.n false t st g
        | false => False
      | .treeB m t => match drawT ops m t with
        | true => drawG c B M n ops.toList m k.n true t st g
        | false => False
      | .treeP wide nw0 m t => match drawT ops m t with
        | true => drawP c B M n ops.toList m k.n wide (SENT :: nw0) t st g
        | false => False
      | _ => False
  | .seq a b, an, st, g, k => match an with
    | .seq x y => vcG c B M n a x st g ⟨fun st' g' => vcG c B M n b y st' g' k, k.x, k.r⟩
    | .join J x y => ∀ Jp : JTy (G → Prop) (shJ J), (jall (shJ J) fun vs => ∀ g', vcG c B M n b y (bindJ J vs (writes a) (writesP c a) st) g' k → japp nayG (shJ J) Jp vs g') →
        vcG c B M n a x st g ⟨jenvG J Jp, k.x, k.r⟩
    | _ => False
  | .cond cd a b, an, st, g, k => match an with
    | .cond x y => withV (ev st.fr cd) fun v => match v with
      | .bool t => brB t fun t' => match t' with
        | true => vcG c B M n a x ⟨setB cd true st.fr, st.pe, st.ps, st.dirty⟩ g k
        | false => vcG c B M n b y ⟨setB cd false st.fr, st.pe, st.ps, st.dirty⟩ g k
      | _ => False
    | _ => False
  | .block id b, an, st, g, k => match an with
    | .blk x => vcG c B M n b x st g ⟨k.n, fun i st' g' => match Nat.beq i id with
      | true => k.n st' g'
      | false => k.x i st' g', k.r⟩
    | _ => False
  | .loop b, an, st, g, k => match an with
    | .loop J x => ∃ I : Nat → JTy (G → Prop) (shJ J), jenvI J I st g ∧
        ∀ m, jall (shJ J) fun vs => ∀ g', Le g g' → japp nayG (shJ J) (I m) vs g' → vcG c B M n b x (bindJ J vs (writes b) (writesP c b) st) g'
          ⟨jenvM J I m, k.x, k.r⟩
    | _ => False
  | .exit id, _, st, g, k => k.x id st g
  | .ret, _, st, g, k => k.r st g
  | _, _, _, _, _ => False
section
variable {c : Cfg} {g0 : G} {M : Nat → Prop} {n : Nat}
def QKG (c : Cfg) (g0 : G) (M : Nat → Prop) (n : Nat) (W V : List Nat) (st : St) (g : G) (k : KontG) : Exit → Act → World → Prop
  | .normal, a, w => BehS g0 M n W V st g k.n a w
  | .exit id, a, w => BehS g0 M n W V st g (k.x id) a w
  | .ret, a, w => BehS g0 M n W V st g k.r a w
  | .panic ch, a, w => a.defers = [] ∧ ∃ R, c.pn = some R ∧ ∃ g', g'.w = w ∧ Kp g0 M g' ∧ ∀ g'', Ex g' g'' → R ch g''
  | _, _, _ => False
theorem QKG.pnq {W V : List Nat} {st : St} {g : G} {k : KontG} : PnQ c g0 M (QKG c g0 M n W V st g k) := fun R hR a ch g' hd hk h => ⟨hd, R, hR, g', rfl, hk, h⟩
theorem QKG.put {W V : List Nat} {st : St} {g : G} {k : KontG} (d : Option Tmp) (v : Value) (ch : List PanicEntry) (a : Act) (w : World) (h : QKG c g0 M n W V st g k (.panic ch) (a.put d v) w) : QKG c g0 M n W V st g k (.panic ch) a w := by
  obtain ⟨h1, h2⟩ := h
  refine ⟨?_, h2⟩
  cases d <;> exact h1
theorem QKG.from {W W' V V' : List Nat} {st st0 : St} {g g00 : G} {k : KontG} (h0 : ExtSt W' V' st0 st) (hL : Le g00 g) {e : Exit} {a : Act} {w : World} (h : QKG c g0 M n W V st g k e a w) : QKG c g0 M n (W' ++ W) (V' ++ V) st0 g00 k e a w := by
  cases e with
  | normal => exact BehS.from h h0 hL
  | exit id => exact BehS.from h h0 hL
  | ret => exact BehS.from h h0 hL
  | panic c => exact h
  | goto l => exact h
  | outgrown => exact h
theorem QKG.mono {W W' V V' : List Nat} {st : St} {g : G} {k : KontG} (hs : ∀ t, t ∈ W → t ∈ W') (hv : ∀ t, t ∈ V → t ∈ V') {e : Exit} {a : Act} {w : World} (h : QKG c g0 M n W V st g k e a w) : QKG c g0 M n W' V' st g k e a w := by
  cases e with
  | normal => exact BehS.mono h hs hv
  | exit id => exact BehS.mono h hs hv
  | ret => exact BehS.mono h hs hv
  | panic c => exact h
  | goto l => exact h
  | outgrown => exact h
theorem plook_killL {V : List Nat} : ∀ {pe : PE} {t p o : Nat}, plook (killL V pe) t = some (p, o) ↔ plook pe t = some (p, o) ∧ p ∉ V := by
  induction V with
  | nil => intro pe t p o; simp [killL]
  | cons d r ih =>
    intro pe t p o
    rw [killL, plook_kill, killE_some, ih]
    simp only [List.mem_cons, not_or]
    constructor
    · rintro ⟨⟨h1, h2⟩, h3⟩; exact ⟨h1, h3, h2⟩
    · rintro ⟨h1, h3, h2⟩; exact ⟨⟨h1, h2⟩, h3⟩
theorem plook_forget {W : List Nat} : ∀ {pe : PE} {t : Nat}, plook (forgetPE W pe) t = if t ∈ W then none else plook pe t := by
  induction W with
  | nil => intro pe t; simp [forgetPE]
  | cons d r ih =>
    intro pe t
    rw [forgetPE, plook_cons, ih]
    by_cases h : d = t
    · simp [h]
    · have : ¬ t = d := fun e => h e.symm
      simp [h, this]
theorem slook_forget {V : List Nat} : ∀ {ps : PS} {p : Nat}, slook (forgetS V ps) p = if p ∈ V then none else slook ps p
  | [], p => by simp [forgetS, slook]
  | (q, cs) :: r, p => by
    unfold forgetS
    cases hm : memN V q
    · have hq : q ∉ V := fun h => by rw [memN_iff.2 h] at hm; cases hm
      simp only [slook_cons, slook_forget (ps := r)]
      by_cases h : q = p
      · subst h; simp [hq]
      · simp [h]
    · have hq : q ∈ V := memN_iff.1 hm
      simp only [slook_forget (ps := r), slook_cons]
      by_cases h : q = p
      · subst h; simp [hq]
      · simp [h]
theorem plook_bind : ∀ {lp : List (Nat × Nat × Nat)} {pe : PE} {t : Nat}, plook (bindP lp pe) t = plook pe t ∨ ∃ p o, (t, p, o) ∈ lp ∧ plook (bindP lp pe) t = some (p, o)
  | [], pe, t => .inl rfl
  | (d, p, o) :: r, pe, t => by
    rw [bindP, plook_cons]
    by_cases h : d = t
    · subst h; exact .inr ⟨p, o, by simp, by simp⟩
    · simp only [h, if_false]
      rcases plook_bind (lp := r) (pe := pe) (t := t) with h1 | ⟨p', o', h1, h2⟩
      · exact .inl h1
      · exact .inr ⟨p', o', by simp [h1], h2⟩
theorem chkP_mem : ∀ {lp : List (Nat × Nat × Nat)} {pe : PE}, chkP pe lp = true → ∀ {t p o}, (t, p, o) ∈ lp → plook pe t = some (p, o)
  | [], pe, _, t, p, o, hm => by cases hm
  | (d, q, k) :: r, pe, h, t, p, o, hm => by
    unfold chkP at h
    cases hp : plook pe d with
    | none => simp [hp] at h
    | some e =>
      obtain ⟨q', k'⟩ := e
      simp only [hp, Bool.and_eq_true] at h
      rcases List.mem_cons.1 hm with e | hm
      · cases e
        rw [hp, Nat.eq_of_beq_eq_true h.1, Nat.eq_of_beq_eq_true h.2.1]
      · exact chkP_mem h.2.2 hm
theorem getS_bind : ∀ {lc : List (Nat × List Sh1)} {ps ps0 : PS} {us : List Value}, getS ps lc = some us → ∀ p, slook (bindS lc us ps0) p = slook ps0 p ∧ (∀ ss, (p, ss) ∉ lc) ∨ (slook (bindS lc us ps0) p = slook ps p ∧ ∃ cs, slook ps p = some cs)
  | [], ps, ps0, us, h, p => .inl ⟨rfl, fun _ h => by cases h⟩
  | (q, ss) :: r, ps, ps0, us, h, p => by
    unfold getS at h
    cases hq : slook ps q with
    | none => simp [hq] at h
    | some cs =>
      simp only [hq] at h
      cases hb : Nat.beq cs.length ss.length <;> simp only [hb] at h
      · cases h
      cases hr : getS ps r with
      | none => simp [hr] at h
      | some vs =>
        simp only [hr, Option.some.injEq] at h
        subst h
        have hl := Nat.eq_of_beq_eq_true hb
        rw [bindS, ← hl, List.take_left, List.drop_left, slook_cons]
        by_cases e : q = p
        · subst e; simp only [if_true]; exact .inr ⟨hq.symm, cs, hq⟩
        · simp only [e, if_false]
          rcases getS_bind hr (ps0 := ps0) p with ⟨h1, h2⟩ | h1
          · refine .inl ⟨h1, fun ss' hm => ?_⟩
            rcases List.mem_cons.1 hm with e' | hm
            · cases e'; exact e rfl
            · exact h2 _ hm
          · exact .inr h1
theorem getL_len : ∀ {live : List (Nat × Sh1)} {fr : Env} {vs : List Value}, getL fr live = some vs → vs.length = live.length
  | [], fr, vs, h => by have : vs = [] := by simpa [getL] using h.symm
                        subst this; rfl
  | (d, s) :: r, fr, vs, h => by
    unfold getL at h
    cases hd : look fr d with
    | none => simp [hd] at h
    | some u =>
      cases hr : getL fr r with
      | none => simp [hd, hr] at h
      | some us =>
        simp only [hd, hr, Option.some.injEq] at h
        subst h
        simp [getL_len hr]
theorem joinG {W V : List Nat} {st st' : St} {g' : G} {a : Act} {w : World} {J : JI} {xs : List Value} (hok : OkS g0 M n st' g' a w) (hE : ExtSt W V st st') (hg : getJ J st' = some xs) (hc : st'.dirty = false) :
    OkS g0 M n (bindJ J xs W V st) g' a w ∧ ExtSt W V st (bindJ J xs W V st) := by
  unfold getJ at hg
  cases hp : chkP st'.pe J.lp <;> simp only [hp] at hg
  · cases hg
  cases hl : getL st'.fr J.tl <;> simp only [hl] at hg
  · cases hg
  rename_i vs
  cases hs : getS st'.ps J.lc <;> simp only [hs] at hg
  · cases hg
  rename_i us
  obtain rfl := Option.some.inj hg
  have hlen := getL_len hl
  have e1 : (vs ++ us).take J.tl.length = vs := by rw [← hlen, List.take_left]
  have e2 : (vs ++ us).drop J.tl.length = us := by rw [← hlen, List.drop_left]
  obtain ⟨hA, hE1⟩ := join_agree hok.agree hE.fr hl
  have hps : ∀ p cs, slook (bindS J.lc us (forgetS V st.ps)) p = some cs → slook st'.ps p = some cs := by
    intro p cs h
    rcases getS_bind hs (ps0 := forgetS V st.ps) p with ⟨h1, _⟩ | ⟨h1, _⟩
    · rw [h1, slook_forget] at h
      by_cases hv : p ∈ V
      · simp [hv] at h
      · simp only [hv, if_false] at h
        exact hE.ps p cs hv h
    · rw [h1] at h; exact h
  have hpe : ∀ t p o, plook (bindP J.lp (forgetPE W (killL V st.pe))) t = some (p, o) → plook st'.pe t = some (p, o) := by
    intro t p o h
    rcases plook_bind (lp := J.lp) (pe := forgetPE W (killL V st.pe)) (t := t) with h1 | ⟨p', o', h1, h2⟩
    · rw [h1, plook_forget] at h
      by_cases hw : t ∈ W
      · simp [hw] at h
      · simp only [hw, if_false] at h
        obtain ⟨h3, h4⟩ := plook_killL.1 h
        exact hE.pe t p o hw h4 h3
    · rw [h2] at h
      cases h
      exact chkP_mem hp h1
  obtain ⟨gr, β, h1, h2, h3, h4, h5⟩ := hok.ex
  unfold bindJ
  rw [e1, e2]
  refine ⟨⟨hA, gr, β, h1, h2, fun _ => h3 hc, h4, ⟨fun t p o h => h5.ptr t p o (hpe t p o h), fun p cs h => h5.cell p cs (hps p cs h), fun p q cs cs' h h' => h5.inj p q cs cs' (hps p cs h) (hps q cs' h')⟩⟩, hE1, ?_, ?_⟩
  · intro t p o ht hv h
    show plook (bindP J.lp (forgetPE W (killL V st.pe))) t = _
    rcases plook_bind (lp := J.lp) (pe := forgetPE W (killL V st.pe)) (t := t) with h1 | ⟨p', o', h1, h2⟩
    · rw [h1, plook_forget, if_neg ht]
      exact plook_killL.2 ⟨h, hv⟩
    · rw [h2, ← chkP_mem hp h1]
      exact hE.pe t p o ht hv h
  · intro p cs hv h
    show slook (bindS J.lc us (forgetS V st.ps)) p = _
    rcases getS_bind hs (ps0 := forgetS V st.ps) p with ⟨h1, _⟩ | ⟨h1, _⟩
    · rw [h1, slook_forget, if_neg hv]; exact h
    · rw [h1]; exact hE.ps p cs hv h
theorem flush_ok {st : St} {g : G} {a : Act} {w : World} {K : St → G → Prop} (hok : OkS g0 M n st g a w) (h : flushG st g K) :
    ∃ g', OkS g0 M n ⟨st.fr, st.pe, st.ps, false⟩ g' a w ∧ Le g g' ∧ K ⟨st.fr, st.pe, st.ps, false⟩ g' := by
  obtain ⟨g', β, h1, h2, h3, h4, h5⟩ := flush_use hok h
  exact ⟨g', ⟨hok.agree, g', β, h1, Exx.refl _, fun _ => rfl, h3, h4.fr _ _⟩, h2.1.le, h5⟩
theorem ExtSt.clean {W V : List Nat} {st st' : St} (h : ExtSt W V st st') : ExtSt W V st ⟨st'.fr, st'.pe, st'.ps, false⟩ := ⟨h.fr, h.pe, h.ps⟩
theorem vcG_sound (T : TOk c.P c.tt) (F : FOk c.P c.fns) (hm : c.P.follows .mixedOrders = true) : ∀ (cd : Code) (an : AnnG) (st : St) (g : G) (k : KontG) (a : Act) (w : World), OkS g0 M n st g a w → vcG c g0.size M n cd an st g k →
    cd.wp c.P (QKG c g0 M n (writes cd) (writesP c cd) st g k) a w := by
  intro cd
  induction cd with
  | skip => intro an st g k a w hA h; exact wp_skip ⟨st, g, hA, Le.refl _, ExtSt.refl _ _ _, h⟩
  | region id ops draw =>
    intro an st g k a w hA h
    cases draw with
    | false =>
      refine wp_region_list ?_
      exact vcOpsG_sound T F (W0 := []) (V0 := []) (st0 := st) (g00 := g) (fun a w hb => (show BehS g0 M n (dstsL ops.toList) (wpL c ops.toList) st g k.n a w by simpa using hb)) QKG.pnq hA (ExtSt.refl _ _ _) (Le.refl _) h
    | true =>
      have go : ∀ (wide : Bool) (m : Nat) (t : Sch), drawT ops m t = true → drawG c g0.size M n ops.toList m k.n wide t st g → (Code.region id ops true).wp c.P (QKG c g0 M n (writes (.region id ops true)) (writesP c (.region id ops true)) st g k) a w := by
        intro wide m t hB h
        have := drawG_sound (n := n) T F hm (ops := ops.toList) (m := m) (t := t) (wide := wide) (N := k.n) (Q := QKG c g0 M n (writes (.region id ops true)) (writesP c (.region id ops true)) st g k) (id := id)
          QKG.put QKG.pnq (fun a w hb => hb) hA (by simpa using hB) h
        simpa using this
      cases an <;> simp only [vcG] at h
      case tree m t =>
        cases hB : drawT ops m t <;> simp only [hB] at h
        exact go false m t hB h
      case treeB m t =>
        cases hB : drawT ops m t <;> simp only [hB] at h
        exact go true m t hB h
      case treeP wide nw0 m t =>
        cases hB : drawT ops m t <;> simp only [hB] at h
        have := drawP_sound (n := n) T F hm (ops := ops.toList) (m := m) (t := t) (wide := wide) (nw0 := SENT :: nw0) (.inr (memN_iff.2 (by simp))) (N := k.n) (Q := QKG c g0 M n (writes (.region id ops true)) (writesP c (.region id ops true)) st g k) (id := id)
          QKG.put QKG.pnq (fun a w hb => hb) hA (by simpa using hB) h
        simpa using this
  | seq x y ihx ihy =>
    intro an st g k a w hA h
    have rest : ∀ {e : Exit} {a' : Act} {w' : World} {N : St → G → Prop}, QKG c g0 M n (writes x) (writesP c x) st g ⟨N, k.x, k.r⟩ e a' w' → e ≠ .normal → QKG c g0 M n (writes (.seq x y)) (writesP c (.seq x y)) st g k e a' w' := by
      intro e a' w' N hq hne
      cases e with
      | normal => exact absurd rfl hne
      | exit id => exact BehS.mono hq (fun t ht => List.mem_append.2 (.inl ht)) (fun t ht => List.mem_append.2 (.inl ht))
      | ret => exact BehS.mono hq (fun t ht => List.mem_append.2 (.inl ht)) (fun t ht => List.mem_append.2 (.inl ht))
      | panic c => exact hq
      | goto l => exact hq
      | outgrown => exact hq
    cases an <;> simp only [vcG] at h
    case seq ax ay =>
      refine wp_seq (Code.wp_mono ?_ (ihx ax st g _ a w hA h))
      intro e a' w' hq
      cases e with
      | normal =>
        obtain ⟨st', g', h1, h2, h3, h4⟩ := hq
        exact Code.wp_mono (fun e a w hq => QKG.from h3 h2 hq) (ihy ay st' g' k a' w' h1 h4)
      | exit id => exact rest hq (by simp)
      | ret => exact rest hq (by simp)
      | panic c => exact hq
      | goto l => exact hq
      | outgrown => exact hq
    case join J ax ay =>
      have h := h (jmkG (shJ J) fun vs g' => vcG c g0.size M n y ay (bindJ J vs (writes x) (writesP c x) st) g' k) jmk_ofG
      refine wp_seq (Code.wp_mono ?_ (ihx ax st g _ a w hA h))
      intro e a' w' hq
      cases e with
      | normal =>
        obtain ⟨st', g', h1, h2, h3, h4⟩ := hq
        replace h4 : jenvG J _ st' g' := h4
        unfold jenvG at h4
        obtain ⟨g'', h5, h6, h7⟩ := flush_ok h1 h4
        cases hg : getJ J ⟨st'.fr, st'.pe, st'.ps, false⟩ with
        | none => simp only [hg] at h7
        | some vs =>
          simp only [hg] at h7
          have h9 := jmk_appG h7
          obtain ⟨h10, h11⟩ := joinG h5 h3.clean hg rfl
          exact Code.wp_mono (fun e a w hq => QKG.from h11 (h2.trans h6) hq) (ihy ay _ g'' k a' w' h10 h9)
      | exit id => exact rest hq (by simp)
      | ret => exact rest hq (by simp)
      | panic c => exact hq
      | goto l => exact hq
      | outgrown => exact hq
  | cond cc x y ihx ihy =>
    intro an st g k a w hA h
    cases an <;> simp only [vcG] at h
    rename_i ax ay
    obtain ⟨v, hv, h⟩ := withV_some h
    cases v <;> simp only at h
    rename_i t
    have h := brB_use h
    have hc : a.eval cc = .bool t := hA.agree.ev hv
    have hset : ∀ u, u = t → Agree n (setB cc u st.fr) a ∧ ∀ W, ExtE W st.fr (setB cc u st.fr) := by
      rintro u rfl
      cases cc with
      | tmp d => exact ⟨hA.agree.knows hv, ExtE.knows hv⟩
      | const _ => exact ⟨hA.agree, fun W => ExtE.refl _ _⟩
      | global _ => exact ⟨hA.agree, fun W => ExtE.refl _ _⟩
      | func _ => exact ⟨hA.agree, fun W => ExtE.refl _ _⟩
    cases t with
    | true =>
      simp only at h
      obtain ⟨hA', hE'⟩ := hset true rfl
      refine wp_cond_true hc (Code.wp_mono (fun e a w hq => QKG.mono ?_ ?_ (QKG.from (ExtSt.withFr hE' [] []) (Le.refl g) hq)) (ihx ax _ g k a w (hA.withFr hA') h))
      · intro t ht; exact List.mem_append.2 (.inl (by simpa using ht))
      · intro t ht; exact List.mem_append.2 (.inl (by simpa using ht))
    | false =>
      simp only at h
      obtain ⟨hA', hE'⟩ := hset false rfl
      refine wp_cond_false hc (Code.wp_mono (fun e a w hq => QKG.mono ?_ ?_ (QKG.from (ExtSt.withFr hE' [] []) (Le.refl g) hq)) (ihy ay _ g k a w (hA.withFr hA') h))
      · intro t ht; exact List.mem_append.2 (.inr (by simpa using ht))
      · intro t ht; exact List.mem_append.2 (.inr (by simpa using ht))
  | block id b ih =>
    intro an st g k a w hA h
    cases an <;> simp only [vcG] at h
    rename_i x
    refine wp_block (Code.wp_mono ?_ (ih x st g _ a w hA h))
    intro e a' w' hq
    cases e with
    | normal => exact hq
    | exit id' =>
      obtain ⟨st', g', h1, h2, h3, h'⟩ := hq
      by_cases hid : id' = id
      · subst hid
        simp only [Exit.inBlock, if_true]
        simp only [Nat.beq_refl] at h'
        exact ⟨st', g', h1, h2, h3, h'⟩
      · simp only [Exit.inBlock, hid, if_false]
        replace h' : (match Nat.beq id' id with | true => k.n st' g' | false => k.x id' st' g') := h'
        rw [nbeq] at h'
        simp only [hid, decide_false] at h'
        exact ⟨st', g', h1, h2, h3, h'⟩
    | ret => exact hq
    | panic c => exact hq
    | goto l => exact hq
    | outgrown => exact hq
  | loop b ih =>
    intro an st g k a w hA h
    cases an <;> simp only [vcG] at h
    rename_i J x
    obtain ⟨I, h0, hround⟩ := h
    unfold jenvI at h0
    obtain ⟨g1, h1, h2, h3⟩ := flush_ok hA h0
    cases hg : getJ J ⟨st.fr, st.pe, st.ps, false⟩ with
    | none => simp only [hg] at h3
    | some vs0 =>
    simp only [hg] at h3
    obtain ⟨m0, h3⟩ := h3
    refine wp_loop_ghost (fun m a' w' => ∃ st' g' vs, OkS g0 M n st' g' a' w' ∧ Le g g' ∧ ExtSt (writes b) (writesP c b) st st' ∧ st'.dirty = false ∧ getJ J st' = some vs ∧ japp nayG (shJ J) (I m) vs g') m0
      ⟨⟨st.fr, st.pe, st.ps, false⟩, g1, vs0, h1, h2, (ExtSt.refl _ _ st).clean, rfl, hg, h3⟩ ?_
    rintro m a' w' ⟨st', g', vs, h4, h5, h6, h7, h8, h9⟩
    obtain ⟨h10, h11⟩ := joinG h4 h6 h8 h7
    have hbody := jall_fits (hround m) vs (fits_of_jappG h9) g' h5 h9
    refine Code.wp_mono ?_ (ih x _ g' _ a' w' h10 hbody)
    intro e a'' w'' hq
    cases e with
    | normal =>
      obtain ⟨st2, g2, k1, k2, k3, k4⟩ := hq
      replace k4 : jenvM J I m st2 g2 := k4
      unfold jenvM at k4
      obtain ⟨g3, k5, k6, k7⟩ := flush_ok k1 k4
      cases hg2 : getJ J ⟨st2.fr, st2.pe, st2.ps, false⟩ with
      | none => simp only [hg2] at k7
      | some vs2 =>
        simp only [hg2] at k7
        obtain ⟨m', hlt, k7⟩ := k7
        exact ⟨m', hlt, ⟨st2.fr, st2.pe, st2.ps, false⟩, g3, vs2, k5, (h5.trans k2).trans k6, ((h11.trans k3).mono (by simp) (by simp)).clean, rfl, hg2, k7⟩
    | exit id => exact (BehS.from hq h11 h5).mono (by simp [writes]) (by simp [writesP])
    | ret => exact (BehS.from hq h11 h5).mono (by simp [writes]) (by simp [writesP])
    | panic c => exact hq
    | goto l => exact hq
    | outgrown => exact hq
  | exit id => intro an st g k a w hA h; exact wp_exit ⟨st, g, hA, Le.refl _, ExtSt.refl _ _ _, h⟩
  | ret => intro an st g k a w hA h; exact wp_ret ⟨st, g, hA, Le.refl _, ExtSt.refl _ _ _, h⟩
  | rangeFunc f p s b _ _ => intro an st g k a w hA h; simp only [vcG] at h
  | scope b _ => intro an st g k a w hA h; simp only [vcG] at h
  | label l => intro an st g k a w hA h; simp only [vcG] at h
  | goto l => intro an st g k a w hA h; simp only [vcG] at h
  | refuse s => intro an st g k a w hA h; simp only [vcG] at h
end
def resGL (tt : List TI) (st : St) (g : G) : List ResultVar → (List Value → Prop) → Prop
  | [], K => K []
  | .tmp t :: r, K => withV (look st.fr t) fun v => resGL tt st g r fun vs => K (v :: vs)
  | .cell t ty :: r, K => match plook st.pe t with
    | some (p, o) => match slook st.ps p with
      | some cs => match loadP tt ty cs o with
        | some v => resGL tt st g r fun vs => K (v :: vs)
        | none => False
      | none => False
    | none => withV (look st.fr t) fun v => match v with
      | .pointer a => derefP a fun ad => loadVC tt ty ad g.w fun v => resGL tt st g r fun vs => K (v :: vs)
      | _ => False
def prvR (st : St) : List ResultVar → Bool
  | [] => true
  | .tmp _ :: r => prvR st r
  | .cell t _ :: r => match plook st.pe t with
    | some _ => prvR st r
    | none => false
structure PubG (B : Nat) (g g' : G) : Prop where
  size : g.w.heap.size ≤ g'.w.heap.size
  x : ∀ b, b < g.w.heap.size → ¬ g.X b → ¬ g'.X b
  same : ∀ b, b < g.w.heap.size → ¬ g.X b → g'.w.heap[b]? = g.w.heap[b]?
  d : ∀ b, b < g.w.heap.size → ¬ g.X b → ∀ i, (g'.D b i ↔ (g.D b i ∧ b < B))
def finG (pub : Bool) (B : Nat) (g : G) (K : G → Prop) : Prop := match pub with
  | false => ∀ g', Ex g g' → K g'
  | true => ∀ g', PubG B g g' → K g'
def retF (c : Cfg) (B : Nat) (rs : List ResultVar) (R : Value → G → Prop) (st : St) (g : G) : Prop := match prvR st rs with
  | true => resGL c.tt st g rs fun vs => finG c.pubAll B g fun g' => R (tupV vs) g'
  | false => flushG st g fun st g => resGL c.tt st g rs fun vs => finG c.pubAll B g fun g' => R (tupV vs) g'
def noXG : Nat → St → G → Prop := fun _ _ _ => False
def fnG (c : Cfg) (n : Nat) (rs : List ResultVar) (cd : Code) (an : AnnG) (args : List Value) (g : G) (M : Nat → Prop) (R : Value → G → Prop) : Prop :=
  vcG c g.w.heap.size M n cd an ⟨argE 0 args, [], [], false⟩ g ⟨retF c g.w.heap.size rs R, noXG, retF c g.w.heap.size rs R⟩
section
variable {c : Cfg} {g0 : G} {M : Nat → Prop} {n : Nat}
def Rep : Nat → Prop → Prop
  | 0, p => p
  | n + 1, p => p ∧ Rep n p
theorem rep {p : Prop} (h : p) : ∀ n, Rep n p
  | 0 => h
  | n + 1 => ⟨h, rep h n⟩
def G.leave (g0 g : G) (h : ∀ b, g0.X b → b < g.w.heap.size) (pub : Bool) : G where
  w := g.w
  X := g0.X
  D b i := g.D b i ∧ (pub = true → b < g0.w.heap.size)
  hX := h
  hD b i h := g.hD b i h.1
theorem resGL_run (T : TOk c.P c.tt) {rs0 : List ResultVar} {st : St} {g gr : G} {a : Act} {β : Nat → Nat} (hA : Agree n st.fr a) (hp : PAg g0.size st β gr a) (hw : prvR st rs0 = true ∨ gr = g) :
    ∀ {rs : List ResultVar} {K : List Value → Prop}, (∀ r, r ∈ rs → r ∈ rs0) → resGL c.tt st g rs K → ∃ vs, (rs.mapM (resR a.tmps)).run c.P gr.w = .ok vs gr.w ∧ K vs
  | [], K, _, h => ⟨[], rfl, h⟩
  | .tmp t :: r, K, hm, h => by
    obtain ⟨v, hv, h⟩ := withV_some h
    obtain ⟨vs, h1, h2⟩ := resGL_run T hA hp hw (fun x hx => hm x (by simp [hx])) h
    refine ⟨v :: vs, ?_, h2⟩
    rw [List.mapM_cons]
    simp only [resR, Sem.run_bind, Sem.run_pure, Result.andThen_ok, hA.at_ t v hv]
    rw [h1]
    rfl
  | .cell b t :: r, K, hm, h => by
    have fin : ∀ (ad : Addr) (u : Value), (asAddr (a.tmps.getD b undef)).run c.P gr.w = .ok ad gr.w → (Instr.loadAt t (.pointer (some ad))).run c.P gr.w = .ok u gr.w → (∃ vs, (r.mapM (resR a.tmps)).run c.P gr.w = .ok vs gr.w ∧ K (u :: vs)) → ∃ vs, ((ResultVar.cell b t :: r).mapM (resR a.tmps)).run c.P gr.w = .ok vs gr.w ∧ K vs := by
      rintro ad u e h1 ⟨vs, h3, h4⟩
      refine ⟨u :: vs, ?_, h4⟩
      rw [List.mapM_cons]
      have h1' : (loadVar t ad).run c.P gr.w = .ok u gr.w := by simpa [Instr.loadAt, Instr.sureAddr] using h1
      have e2 : (resR a.tmps (.cell b t)).run c.P gr.w = .ok u gr.w := by simp only [resR, Sem.run_bind, e, Result.andThen_ok, h1']
      simp only [Sem.run_bind, e2, Result.andThen_ok, h3]
      rfl
    unfold resGL at h
    cases hq : plook st.pe b with
    | some q =>
      obtain ⟨p, o⟩ := q
      simp only [hq] at h
      cases hs : slook st.ps p <;> simp only [hs] at h
      rename_i cs
      cases hl : loadP c.tt t cs o <;> simp only [hl] at h
      rename_i u
      obtain ⟨_, _, ty, hb⟩ := hp.cell p cs hs
      have hr := loadAt_run (P := c.P) T hl (ad := ⟨β p, o, none⟩) (w := gr.w) (fun j u hu => by rw [add_row, hb.cell]; exact hu)
      refine fin ⟨β p, o, none⟩ u ?_ hr (resGL_run T hA hp hw (fun x hx => hm x (by simp [hx])) h)
      rw [hp.ptr b p o hq]
      rfl
    | none =>
      simp only [hq] at h
      have hgr : gr = g := by
        rcases hw with hw | hw
        · exfalso
          have : ∀ {l : List ResultVar}, prvR st l = true → ResultVar.cell b t ∈ l → False := by
            intro l
            induction l with
            | nil => intro _ h; cases h
            | cons x l ih =>
              intro h hm
              cases x with
              | tmp t' =>
                rcases List.mem_cons.1 hm with e | hm
                · cases e
                · exact ih h hm
              | cell t' ty' =>
                unfold prvR at h
                cases hq' : plook st.pe t' with
                | none => simp [hq'] at h
                | some q =>
                  simp only [hq'] at h
                  rcases List.mem_cons.1 hm with e | hm
                  · cases e; rw [hq] at hq'; cases hq'
                  · exact ih h hm
          exact this hw (hm _ (by simp))
        · exact hw
      subst hgr
      obtain ⟨v, hv, h⟩ := withV_some h
      cases v <;> simp only at h
      obtain ⟨ad, rfl, h⟩ := derefP_some h
      obtain ⟨u, h1, h2, _⟩ := loadVC_sound (P := c.P) T h
      refine fin ad u ?_ h1 (resGL_run T hA hp (.inr rfl) (fun x hx => hm x (by simp [hx])) h2)
      rw [hA.at_ b _ hv]
      rfl
theorem ret_run (T : TOk c.P c.tt) {st : St} {g : G} {a : Act} {w : World} {fn : Func} {rs : List ResultVar} (hrs : fn.results.toList = rs) {R : Value → G → Prop} (hok : OkS g0 M n st g a w) (h : retF c g0.size rs R st g) :
    ∃ v g', (results fn a.tmps).run c.P w = .ok v w ∧ g'.w = w ∧ Stp g0.size M g0 g' ∧ R v g' := by
  have main : ∃ (g1 gr : G) (vs : List Value), gr.w = w ∧ Ex g1 gr ∧ Kp g0 M gr ∧ (rs.mapM (resR a.tmps)).run c.P gr.w = .ok vs gr.w ∧ finG c.pubAll g0.size g1 fun g' => R (tupV vs) g' := by
    unfold retF at h
    cases hp : prvR st rs <;> simp only [hp] at h
    · obtain ⟨g', β, rfl, h2, h3, h4, h5⟩ := flush_use hok h
      obtain ⟨vs, h6, h7⟩ := resGL_run (rs0 := rs) T (st := ⟨st.fr, st.pe, st.ps, false⟩) hok.agree (h4.fr _ _) (.inr rfl) (fun _ h => h) h5
      exact ⟨g', g', vs, rfl, Ex.refl _, h3, h6, h7⟩
    · obtain ⟨gr, β, rfl, h2, h3, h4, h5⟩ := hok.ex
      obtain ⟨vs, h6, h7⟩ := resGL_run (rs0 := rs) T hok.agree h5 (.inl hp) (fun _ h => h) h
      exact ⟨g, gr, vs, rfl, h2.1, h4, h6, h7⟩
  obtain ⟨g1, gr, vs, rfl, hex, hk, hrun, hfin⟩ := main
  have hgs : g0.w.heap.size ≤ gr.w.heap.size := hk.le.size
  have hX : ∀ b, g0.X b → b < gr.w.heap.size := fun b hb => gr.hX b (hk.x b hb)
  refine ⟨tupV vs, G.leave g0 gr hX c.pubAll, ?_, rfl, ?_, ?_⟩
  · rw [results_resR, Array.mapM_eq_mapM_toList, hrs]
    simp only [Sem.run_bind, Sem.run_map, hrun, Result.andThen_ok]
    rcases vs with _ | ⟨v, _ | ⟨u, r⟩⟩ <;> rfl
  · have hle : Le gr (G.leave g0 gr hX c.pubAll) := by
      refine ⟨Nat.le_refl _, ?_, ?_, fun b o ⟨ty, fr, h1, h2, h3⟩ => ⟨ty, fr, h1, fun hx => h2 (hk.x _ hx), fun i hd => h3 i hd.1⟩⟩
      · rintro p v ⟨h1, h2, h3⟩
        exact ⟨h1, fun hx => h2 (hk.x _ hx), fun hd => h3 hd.1⟩
      · rintro b m k ⟨h1, h2, h3⟩
        exact ⟨h1, fun hx => h2 (hk.x _ hx), fun hd => h3 hd.1⟩
    refine ⟨hk.le.trans hle, fun _ => Iff.rfl, hk.keepX, hk.os, hk.tape, hk.output, hk.same, fun b hb hM i => ?_⟩
    rw [← hk.d b hb hM i]
    constructor
    · exact fun h => h.1
    · exact fun h => ⟨h, fun _ => hb⟩
  · have hlt : ∀ {b}, b < g1.w.heap.size → b < gr.w.heap.size := fun hb => Nat.lt_of_lt_of_le hb hex.size
    unfold finG at hfin
    cases hpub : c.pubAll <;> simp only [hpub] at hfin
    · refine hfin _ ⟨hex.size, fun b hb hx hx' => hex.x b hb hx (hk.x b hx'), hex.same, fun b hb hx i => ?_⟩
      rw [← hex.d b hb hx i]
      constructor
      · exact fun h => h.1
      · exact fun h => ⟨h, fun hf => (by cases hf)⟩
    · refine hfin _ ⟨hex.size, fun b hb hx hx' => hex.x b hb hx (hk.x b hx'), hex.same, fun b hb hx i => ?_⟩
      rw [← hex.d b hb hx i]
      constructor
      · exact fun h => ⟨h.1, h.2 rfl⟩
      · exact fun h => ⟨h.1, fun _ => h.2⟩
theorem panic_run {g : G} {g' : G} {ch : List PanicEntry} {RP : List PanicEntry → G → Prop} (hk : Kp g M g') (hr : ∀ g'', Ex g' g'' → RP ch g'') :
    (G.leave g g' (fun b hb => g'.hX b (hk.x b hb)) false).w = g'.w ∧ Stp g.size M g (G.leave g g' (fun b hb => g'.hX b (hk.x b hb)) false) ∧ RP ch (G.leave g g' (fun b hb => g'.hX b (hk.x b hb)) false) := by
  have hX : ∀ b, g.X b → b < g'.w.heap.size := fun b hb => g'.hX b (hk.x b hb)
  refine ⟨rfl, ?_, ?_⟩
  · have hle : Le g' (G.leave g g' hX false) := by
      refine ⟨Nat.le_refl _, ?_, ?_, fun b o ⟨ty, fr, h1, h2, h3⟩ => ⟨ty, fr, h1, fun hx => h2 (hk.x _ hx), fun i hd => h3 i hd.1⟩⟩
      · rintro p v ⟨h1, h2, h3⟩
        exact ⟨h1, fun hx => h2 (hk.x _ hx), fun hd => h3 hd.1⟩
      · rintro b m k ⟨h1, h2, h3⟩
        exact ⟨h1, fun hx => h2 (hk.x _ hx), fun hd => h3 hd.1⟩
    refine ⟨hk.le.trans hle, fun _ => Iff.rfl, hk.keepX, hk.os, hk.tape, hk.output, hk.same, fun b hb hM i => ?_⟩
    rw [← hk.d b hb hM i]
    constructor
    · exact fun h => h.1
    · exact fun h => ⟨h, fun hh => by cases hh⟩
  · refine hr _ ⟨Nat.le_refl _, fun b hb hx hx' => hx (hk.x b hx'), fun _ _ _ => rfl, fun b hb hx i => ?_⟩
    constructor
    · exact fun h => h.1
    · exact fun h => ⟨h, fun hf => (by cases hf)⟩
theorem fn_soundX (T : TOk c.P c.tt) (F : FOk c.P c.fns) (hm : c.P.follows .mixedOrders = true) {k : FuncId} {fn : Func} {cd : Code} {n : Nat} {rs : List ResultVar} {an : AnnG} {args : List Value} {g : G} {M : Nat → Prop} {R : Value → G → Prop} {RP : List PanicEntry → G → Prop} (hpn : c.pn = none ∨ c.pn = some RP)
    (hf : c.P.funcs[k]? = some fn) (hb : fn.body = some cd) (hn : fn.ntmps = n) (hrs : fn.results.toList = rs) (hlen : Nat.ble args.length n = true) (h : fnG c n rs cd an args g M R) :
    CallsX c.P k ⟨args⟩ g M R RP := by
  have hlen' : args.length ≤ n := Nat.le_of_ble_eq_true hlen
  refine calls_of_wp hf hb (Code.wp_mono ?_ (vcG_sound (g0 := g) (M := M) (n := n) T F hm cd an _ g _ _ g.w ?_ h))
  · intro e a w' hq
    have fin : BehS g M n (writes cd) (writesP c cd) ⟨argE 0 args, [], [], false⟩ g (retF c g.w.heap.size rs R) a w' → a.defers = [] ∧ ∃ v, (results fn a.tmps).run c.P w' = .ok v w' ∧ ∃ g', g'.w = w' ∧ Stp g.size M g g' ∧ ((∃ v', Ending.returned v = .returned v' ∧ R v' g') ∨ ∃ ch, Ending.returned v = .panicked ch ∧ RP ch g') := by
      rintro ⟨st', g', h1, _, _, h'⟩
      obtain ⟨v, g2, h2, h3, h4, h5⟩ := ret_run T hrs h1 h'
      exact ⟨h1.agree.defers, v, h2, g2, h3, h4, .inl ⟨v, rfl, h5⟩⟩
    cases e with
    | normal => exact fin hq
    | ret => exact fin hq
    | exit id => obtain ⟨_, _, _, _, _, h'⟩ := hq; exact h'.elim
    | goto l => exact hq.elim
    | panic ch =>
      obtain ⟨hd, R', hR, g', rfl, hk, hr⟩ := hq
      have e : R' = RP := by
        rcases hpn with hpn | hpn
        · rw [hpn] at hR; cases hR
        · rw [hpn] at hR; exact (Option.some.inj hR).symm
      subst e
      obtain ⟨h1, h2, h3⟩ := panic_run hk hr
      exact ⟨hd, _, h1, h2, .inr ⟨ch, rfl, h3⟩⟩
    | outgrown => exact hq.elim
  · have key : ∀ (l : List Value) (i t : Nat) (v : Value), look (argE i l) t = some v → i ≤ t ∧ l[t - i]? = some v := by
      intro l
      induction l with
      | nil => intro i t v h; simp [argE, look] at h
      | cons u r ih =>
        intro i t v h
        simp only [argE, look_cons] at h
        by_cases e : i = t
        · simp only [e, if_true] at h
          subst e
          simp [h]
        · simp only [e, if_false] at h
          obtain ⟨h1, h2⟩ := ih _ _ _ h
          refine ⟨by omega, ?_⟩
          rw [show t - i = (t - (i + 1)) + 1 by omega]
          simpa using h2
    refine ⟨⟨by simp [hn]; omega, rfl, fun t v ht => ?_⟩, g, fun _ => 0, rfl, Exx.refl g, fun _ => rfl, Kp.refl g M, ⟨fun t p o h => (by cases h), fun p cs h => (by cases h), fun p q cs cs' h => (by cases h)⟩⟩
    obtain ⟨_, h2⟩ := key args 0 t v ht
    have h2' : args[t]? = some v := by simpa using h2
    obtain ⟨hlt, hv⟩ := List.getElem?_eq_some_iff.1 h2'
    simp [Array.getElem?_append, hlt, hv]
theorem fn_soundG (T : TOk c.P c.tt) (F : FOk c.P c.fns) (hm : c.P.follows .mixedOrders = true) {k : FuncId} {fn : Func} {cd : Code} {n : Nat} {rs : List ResultVar} {an : AnnG} {args : List Value} {g : G} {M : Nat → Prop} {R : Value → G → Prop}
    (hf : c.P.funcs[k]? = some fn) (hb : fn.body = some cd) (hn : fn.ntmps = n) (hrs : fn.results.toList = rs) (hlen : Nat.ble args.length n = true) (h : fnG c n rs cd an args g M R) (hpn : c.pn = none := by rfl) :
    CallsG c.P k ⟨args⟩ g M R :=
  (fn_soundX (RP := fun _ _ => False) T F hm (.inl hpn) hf hb hn hrs hlen h).g fun _ _ h => h
end
end Go.Vc
