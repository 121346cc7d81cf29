/- Joined texts. -/
import Derived.Test.YtmakoecgogjemaaDoorVcc
import Derived.Laws.IdiomCopy
import Derived.Laws.IdiomStrings
import Derived.Lib.UnsafeStr
import Derived.Laws.OwnMore
import Derived.Laws.MakeOwn
import Derived.Lib.AppendStr
/- Rows of cells in a world: a block that holds a row, under allocation, draws and stores. -/
set_option linter.unusedVariables false
namespace Go.Vc
open Go Go.RowKit

/-- The block b holds the row L, and nothing of it is frozen. -/
def Blk (w : World) (b : Nat) (t : TypeId) (L : List Value) : Prop := w.heap[b]? = some (.cells ⟨L⟩ t (0, 0))

theorem add_zero_row (b n : Nat) : Addr.add ⟨b, 0, none⟩ n = ⟨b, n, none⟩ := by
  unfold Addr.add
  split
  · simp_all
  · simp

theorem add_row (b o n : Nat) : Addr.add ⟨b, o, none⟩ n = ⟨b, o + n, none⟩ := by
  unfold Addr.add
  split
  · simp_all
  · simp

namespace Blk
variable {w w' : World} {b b' : Nat} {t t' : TypeId} {L L' : List Value}

theorem lt (h : Blk w b t L) : b < w.heap.size := by
  by_cases hb : b < w.heap.size
  · exact hb
  · unfold Blk at h
    rw [Array.getElem?_eq_none (by omega)] at h
    simp at h

theorem cell (h : Blk w b t L) (i : Nat) : w.cell? ⟨b, i, none⟩ = L[i]? := by
  unfold World.cell?
  rw [h]
  simp

theorem cellA (h : Blk w b t L) (i : Nat) : w.cell? (Addr.add ⟨b, 0, none⟩ i) = L[i]? := by
  rw [add_zero_row, h.cell]

theorem frozen (h : Blk w b t L) (i : Nat) : w.frozen? ⟨b, i, none⟩ = false := by
  unfold World.frozen?
  rw [h]
  simp

theorem ok1 (h : Blk w b t L) {i : Nat} (hi : i < L.length) : stOk1 w (Addr.add ⟨b, 0, none⟩ i) := by
  rw [add_zero_row]
  refine ⟨?_, h.frozen i⟩
  rw [h.cell]
  simp [hi]

theorem ok (h : Blk w b t L) {n : Nat} (hn : n ≤ L.length) : stOk w ⟨b, 0, none⟩ n := by
  intro i hi
  exact h.ok1 (by omega)

theorem on (h : Blk w b t L) : cellsOn w ⟨b, 0, none⟩ L := by
  intro i v hv
  rw [h.cellA, hv]

theorem new (w : World) (L : List Value) (t : TypeId) : Blk (w.alloc (.cells ⟨L⟩ t)) w.heap.size t L := by
  unfold Blk
  show (w.heap.push _)[w.heap.size]? = _
  simp

theorem alloc (h : Blk w b t L) (o : Obj) : Blk (w.alloc o) b t L := by
  unfold Blk
  rw [Below.heap_alloc w o b h.lt, h]

theorem drew (h : Blk w b t L) : Blk w.drew b t L := h

theorem setO (h : Blk w b t L) {a : Addr} (hb : b ≠ a.block) (v : Value) : Blk (w.setCell a v) b t L := by
  unfold Blk
  rw [Below.heap_setCell w a v b hb, h]

theorem below (h : Blk w b t L) {B : Nat} (hw : Below B w w') (hb : b < B) : Blk w' b t L := by
  unfold Blk
  rw [hw.block b hb, h]

theorem setE (h : Blk w b t L) (i : Nat) (v : Value) : Blk (w.setCell ⟨b, i, none⟩ v) b t (L.set i v) := by
  unfold Blk
  show (w.heap.modify b _)[b]? = _
  rw [Array.getElem?_modify]
  simp only [↓reduceIte]
  rw [h]
  simp

theorem setA (h : Blk w b t L) (i : Nat) (v : Value) : Blk (w.setCell (Addr.add ⟨b, 0, none⟩ i) v) b t (L.set i v) := by
  rw [add_zero_row]
  exact h.setE i v

theorem stLO : ∀ (vs : List Value) {w : World} (i : Nat), Blk w b t L → ∀ {a : Addr}, b ≠ a.block → Blk (stL a i vs w) b t L
  | [], _, _, h, _, _ => h
  | v :: r, w, i, h, a, hb => stLO r (i + 1) (h.setO (a := a.add i) (by unfold Addr.add; split <;> exact hb) v) hb

theorem stLR (vs : List Value) : ∀ (i : Nat) {w : World} (L : List Value), Blk w b t L → i + vs.length ≤ L.length → Blk (stL ⟨b, 0, none⟩ i vs w) b t (L.take i ++ (vs ++ L.drop (i + vs.length))) := by
  induction vs with
  | nil => intro i w L h _; simpa [stL] using h
  | cons v r ih =>
    intro i w L h hi
    simp only [List.length_cons] at hi
    have h1 := ih (i + 1) (L.set i v) (h.setA i v) (by simp; omega)
    have e : (L.set i v).take (i + 1) ++ (r ++ (L.set i v).drop (i + 1 + r.length)) = L.take i ++ ((v :: r) ++ L.drop (i + (v :: r).length)) := by
      rw [List.drop_set_of_lt (by omega), List.length_cons, show i + (r.length + 1) = i + 1 + r.length by omega, List.take_add_one, List.take_set_of_le (Nat.le_refl i), List.getElem?_set_self (by omega)]
      simp
    rw [e] at h1
    exact h1

theorem stLE (h : Blk w b t L) {vs : List Value} (hl : vs.length = L.length) : Blk (stL ⟨b, 0, none⟩ 0 vs w) b t vs := by
  have h1 := stLR vs 0 L h (by omega)
  rw [List.drop_eq_nil_of_le (by omega)] at h1
  simpa using h1

theorem inj (h : Blk w b t L) (h' : Blk w b t' L') : L = L' := by
  unfold Blk at h h'
  rw [h] at h'
  simp at h'
  exact h'.1

end Blk

theorem size_stL (a : Addr) : ∀ (vs : List Value) (i : Nat) (w : World), (stL a i vs w).heap.size = w.heap.size
  | [], _, _ => rfl
  | v :: r, i, w => by rw [stL, size_stL a r, World.size_setCell]

theorem below_stL {B : Nat} {a : World} (vs : List Value) : ∀ {p : Addr} (i : Nat) {w : World}, Below B a w → B ≤ p.block → Below B a (stL p i vs w) := by
  induction vs with
  | nil => intro p i w h _; exact h
  | cons v r ih => intro p i w h hp; exact ih (i + 1) (h.setCell (p := p.add i) (by unfold Addr.add; split <;> exact hp) v) hp

end Go.Vc
/- Rows of numbers in a block, read and written at a place that is an Int. -/
set_option linter.unusedVariables false
namespace Go.Vc
open Go Go.RowKit

/-- A row of numbers of a kind, as values. -/
def vs (k : IntKind) (X : List Int) : List Value := X.map (Value.int k)

@[simp] theorem vs_length (k : IntKind) (X : List Int) : (vs k X).length = X.length := by simp [vs]

theorem vs_get {k : IntKind} {X : List Int} {i : Nat} (h : i < X.length) : (vs k X)[i]? = some (.int k (X.getD i 0)) := by
  unfold vs
  rw [List.getElem?_map, List.getElem?_eq_getElem h]
  simp [List.getD_eq_getElem?_getD, h]

theorem vs_set (k : IntKind) (X : List Int) (i : Nat) (x : Int) : (vs k X).set i (.int k x) = vs k (X.set i x) := by
  simp [vs, List.map_set]

theorem vs_one (k : IntKind) (X : List Int) : ∀ u ∈ vs k X, u.oneCell' = true := by
  intro u hu
  simp only [vs, List.mem_map] at hu
  obtain ⟨x, _, rfl⟩ := hu
  rfl

namespace Blk
variable {w w' : World} {b b' : Nat} {t t' : TypeId} {L L' : List Value} {k : IntKind} {X : List Int}

theorem getI (h : Blk w b t (vs k X)) {v : Int} (hv : v.toNat < X.length) : w.cell? (Addr.add ⟨b, 0, none⟩ (Int.toNat v * 1)) = some (.int k (X.getD v.toNat 0)) := by
  rw [h.cellA, Nat.mul_one, vs_get hv]

theorem okI (h : Blk w b t L) {v : Int} (hv : v.toNat < L.length) : stOk1 w (Addr.add ⟨b, 0, none⟩ (Int.toNat v * 1)) := h.ok1 (by omega)

theorem putI (h : Blk w b t (vs k X)) (v : Int) (x : Int) : Blk (w.setCell (Addr.add ⟨b, 0, none⟩ (Int.toNat v * 1)) (.int k x)) b t (vs k (X.set v.toNat x)) := by
  have := h.setA (v.toNat * 1) (.int k x)
  rw [Nat.mul_one, vs_set] at this
  rw [Nat.mul_one]
  exact this

theorem putO (h : Blk w b t L) {b2 : Nat} (hb : b ≠ b2) (o i : Nat) (v : Value) : Blk (w.setCell (Addr.add ⟨b2, o, none⟩ i) v) b t L := by
  rw [add_row]
  exact h.setO hb v

end Blk

theorem below_put {B : Nat} {a w : World} (h : Below B a w) {b : Nat} (hb : B ≤ b) (o i : Nat) (v : Value) : Below B a (w.setCell (Addr.add ⟨b, o, none⟩ i) v) := by
  rw [add_row]
  exact h.setCell hb v

/-- A call that returns a value of which all is known. -/
theorem fin {P : Program} {f : FuncId} {args : Array Value} {w : World} {v : Value} {Q : World → Prop}
    (h : Calls P f args w fun e w' => ∃ u, e = .returned u ∧ (u = v ∧ Q w')) : Calls P f args w fun e w' => e = .returned v ∧ Q w' := by
  refine h.mono ?_
  rintro e w' ⟨u, rfl, rfl, hq⟩
  exact ⟨rfl, hq⟩

end Go.Vc
/- Slices: the values that a slice shows; rows cut and copied. -/
set_option linter.unusedVariables false
namespace Go.Vc
open Go Go.RowKit

theorem addr_add_add (a : Addr) (i j : Nat) : (a.add i).add j = a.add (i + j) := by
  unfold Addr.add
  split
  · rename_i h; subst h
    split
    · rename_i h; subst h; simp
    · split
      · omega
      · simp_all
  · split
    · simp_all
    · split
      · omega
      · rename_i h; simp only [Addr.mk.injEq, true_and, and_true]; omega

theorem cellsOn.below {w w' : World} {a : Addr} {L : List Value} (h : cellsOn w a L) {B : Nat} (hw : Below B w w') (hB : w.heap.size ≤ B) : cellsOn w' a L := by
  intro i v hi
  have h1 := h i v hi
  rw [hw.cell (p := a.add i) (Nat.lt_of_lt_of_le (World.block_lt_of_cell? w _ h1) hB)]
  exact h1

theorem cellsOn.drop {w : World} {a : Addr} {L : List Value} (h : cellsOn w a L) (d : Nat) : cellsOn w (a.add d) (L.drop d) := by
  intro i v hi
  rw [addr_add_add]
  exact h (d + i) v (by rw [← hi, List.getElem?_drop])

theorem cellsOn.take {w : World} {a : Addr} {L : List Value} (h : cellsOn w a L) (d : Nat) : cellsOn w a (L.take d) := by
  intro i v hi
  rw [List.getElem?_take] at hi
  split at hi
  · exact h i v hi
  · simp at hi

/-- The n cells of a slice at an address (or none) show these values. -/
def SlV (w : World) (a : Option Addr) (n : Nat) (L : List Value) : Prop := L.length = n ∧ (n = 0 ∨ ∃ ad, a = some ad ∧ cellsOn w ad L)

namespace SlV
variable {w w' : World} {a : Option Addr} {n : Nat} {L : List Value}

theorem below (h : SlV w a n L) {B : Nat} (hw : Below B w w') (hB : w.heap.size ≤ B) : SlV w' a n L := by
  refine ⟨h.1, ?_⟩
  rcases h.2 with h0 | ⟨ad, rfl, hc⟩
  · exact Or.inl h0
  · exact Or.inr ⟨ad, rfl, hc.below hw hB⟩

theorem dropS (h : SlV w a n L) {d c : Nat} (hd : d ≤ n) (hc : n ≤ c) : SlV w (slAddr a c d 1) (n - d) (L.drop d) := by
  refine ⟨by rw [List.length_drop, h.1], ?_⟩
  rcases h.2 with h0 | ⟨ad, rfl, hcell⟩
  · exact Or.inl (by omega)
  · by_cases hn : n - d = 0
    · exact Or.inl hn
    · refine Or.inr ⟨ad.add d, ?_, hcell.drop d⟩
      unfold slAddr
      rw [if_neg (by omega)]
      simp

theorem takeS (h : SlV w a n L) {d : Nat} (hd : d ≤ n) : SlV w a d (L.take d) := by
  refine ⟨by rw [List.length_take, h.1]; omega, ?_⟩
  rcases h.2 with h0 | ⟨ad, rfl, hcell⟩
  · exact Or.inl (by omega)
  · exact Or.inr ⟨ad, rfl, hcell.take d⟩

theorem nil (w : World) (a : Option Addr) : SlV w a 0 [] := ⟨rfl, Or.inl rfl⟩

theorem on (h : SlV w a n L) (hn : 0 < n) : ∃ ad, a = some ad ∧ cellsOn w ad L := by
  rcases h.2 with h0 | h
  · omega
  · exact h

end SlV

theorem slAddr_zero (a : Option Addr) (m : Nat) : slAddr a m 0 1 = a := by
  unfold slAddr
  split
  · rfl
  · cases a <;> simp [Addr.add]

theorem setCells_stL (b : Nat) : ∀ (L : List Value) (o : Nat) (w : World), w.setCells b o L = stL ⟨b, 0, none⟩ o L w
  | [], _, _ => rfl
  | v :: r, o, w => by rw [World.setCells, stL, add_zero_row, setCells_stL b r (o + 1)]

/-- A copy into the beginning of a row. -/
theorem copy_row {P : Program} {w : World} {dT sT ty elem t : TypeId} {b dLen dCap : Nat} {a : Option Addr} {sLen sCap : Nat} {L D : List Value}
    (hu : P.underlying dT = some (.slice elem)) (hs : (P.info? elem).map (·.size) = some 1) (hS : SlV w a sLen L) (hD : Blk w b t D) (hd : D.length = dLen) (hl : sLen ≤ dLen) (h1 : ∀ v ∈ L, v.oneCell' = true) :
    ∃ w', (Builtin.copy_ #[dT, sT] ty #[.slice (some ⟨b, 0, none⟩) dLen dCap, .slice a sLen sCap]).run P w = .ok (.int .i64 (sLen : Nat)) w' ∧ w' = stL ⟨b, 0, none⟩ 0 L w ∧ Blk w' b t (L ++ D.drop sLen) := by
  rcases hS.2 with h0 | ⟨ad, rfl, hc⟩
  · subst h0
    have : L = [] := List.eq_nil_of_length_eq_zero hS.1
    subst this
    exact ⟨w, run_copy_none w dT sT ty elem _ a dLen dCap 0 sCap hu hs (by simp), rfl, by simpa using hD⟩
  · have hmin : L.length = Nat.min sLen dLen := by rw [hS.1]; exact (Nat.min_eq_left hl).symm
    have hr := run_copy_cells (P := P) w dT sT ty elem b 0 dLen dCap ad sLen sCap L hu hs hmin hc
      (fun j hj => by rw [Nat.zero_add, hD.cell, List.getElem?_eq_getElem (by rw [hd]; rw [hS.1] at hj; omega)]; rfl)
      (fun j hj => by rw [hD.frozen]) h1
    rw [setCells_stL] at hr
    have hl' : L.length = sLen := hS.1
    refine ⟨_, ?_, rfl, ?_⟩
    · rw [hr]
      show Result.ok (Value.int .i64 ((L.length : Nat) : Int)) _ = _
      rw [hl']
    · have := hD.stLR L 0 D (by rw [hl']; omega)
      simpa [hl'] using this

/-- The bytes of a string as numbers. -/
def nums (l : List UInt8) : List Int := l.map fun b => ((b.toNat : Nat) : Int)
@[simp] theorem nums_length (l : List UInt8) : (nums l).length = l.length := by simp [nums]
theorem vs_nums (l : List UInt8) : vs .u8 (nums l) = Lib.byteCells l := by simp [vs, nums, Lib.byteCells]

/-- []byte of a string: a new row of its own. -/
theorem bytes_of {P : Program} {w : World} {src dst e : TypeId} {s : ByteArray} (hs : P.underlying src = some .string) (hd : P.underlying dst = some (.slice e)) (he : P.underlying e = some (.int .u8)) :
    ∃ a c w', (convert src dst (.string s)).run P w = .ok (.slice a s.size c) w' ∧ SlV w' a s.size (vs .u8 (nums s.data.toList)) ∧ s.size ≤ c ∧ Below w.heap.size w w' := by
  refine ⟨_, _, _, run_bytes_of_string w src dst e s hs hd he, ?_, grownCap_ge _ _ _ _, ?_⟩
  · refine ⟨by simp, Or.inr ⟨_, rfl, ?_⟩⟩
    intro i v hi
    rw [add_zero_row]
    have hlt : i < s.data.size := by
      have := (List.getElem?_eq_some_iff.1 hi).1
      simpa using this
    have hv : v = .int .u8 ((s.data[i].toNat : Nat) : Int) := by
      rw [vs_nums] at hi
      simp only [Lib.byteCells, List.getElem?_map] at hi
      rw [List.getElem?_eq_getElem (by simpa using hlt)] at hi
      simp at hi
      exact hi.symm
    subst hv
    have hb := bytesRow_at s (grownCap w s.size 0 e) i hlt
    generalize bytesRow s (grownCap w s.size 0 e) = C at *
    unfold World.cell?
    show (match (w.heap.push (.cells C e (C.size, C.size + 1)))[w.heap.size]? with | some (.cells c _ _) => _ | _ => _) = _
    simp [hb]
  · exact (Below.refl _ _).drew.alloc (by simp) _

end Go.Vc
/- Slices that grow: rows that a call owns, appended to; rows that are made. -/
set_option linter.unusedVariables false
namespace Go.Vc
open Go Go.RowKit
variable {P : Program}

/-- A slice type: its element's size in cells, and in bytes. -/
def elemB (P : Program) (e : TypeId) (m b : Nat) : Bool := match P.info? e with
  | some i => match i.zero with
    | some z => Nat.beq i.size m && Nat.beq i.bytes b && Nat.beq z.cells.size m && Nat.blt 0 m
    | none => false
  | none => false
structure Elem (P : Program) (t e : TypeId) (m b : Nat) : Prop where
  und : P.underlying t = some (.slice e)
  ok : elemB P e m b = true

theorem Elem.info {t e : TypeId} {m b : Nat} (h : Elem P t e m b) : ∃ i z, P.info? e = some i ∧ i.zero = some z ∧ i.size = m ∧ i.bytes = b ∧ z.cells.size = m ∧ 0 < m := by
  have := h.ok
  unfold elemB at this
  split at this
  · rename_i i hi
    split at this
    · rename_i z hz
      simp only [Bool.and_eq_true, Nat.blt_eq] at this
      exact ⟨i, z, hi, hz, Nat.eq_of_beq_eq_true this.1.1.1, Nat.eq_of_beq_eq_true this.1.1.2, Nat.eq_of_beq_eq_true this.1.2, this.2⟩
    · cases this
  · cases this

/-- The slice (a, l, c), of elements of m cells, is the call's own row from block B on, and holds L. -/
def Own (w : World) (B : Nat) (e : TypeId) (m : Nat) (a : Option Addr) (l c : Nat) (L : List Value) : Prop := B ≤ w.heap.size ∧ w.ownsRow B e m (.slice a l c) l L

namespace Own
variable {w w' : World} {B B' : Nat} {e : TypeId} {m : Nat} {a : Option Addr} {l c : Nat} {L : List Value}

theorem base (h : Own w B e m a l c L) (hB : B' ≤ B) : Own w B' e m a l c L := by
  refine ⟨Nat.le_trans hB h.1, h.2.1, ?_⟩
  rcases h.2.2 with h | ⟨g, cap, cur, h1, h2, h3⟩
  · exact Or.inl h
  · exact Or.inr ⟨g, cap, cur, h1, Nat.le_trans hB h2, h3⟩

theorem below (h : Own w B e m a l c L) (hw : Below w.heap.size w w') : Own w' B e m a l c L := by
  refine ⟨Nat.le_trans h.1 hw.size, h.2.1, ?_⟩
  rcases h.2.2 with h | ⟨g, cap, cur, h1, h2, h3, h4⟩
  · exact Or.inl h
  · refine Or.inr ⟨g, cap, cur, h1, h2, ?_, h4⟩
    rw [hw.block g (Array.getElem?_eq_some_iff.1 h3).1]
    exact h3

theorem alloc (h : Own w B e m a l c L) (o : Obj) : Own (w.alloc o) B e m a l c L := h.below ((Below.refl _ w).alloc (Nat.le_refl _) o)
theorem drew (h : Own w B e m a l c L) : Own w.drew B e m a l c L := h

/-- A store in a block below the base. -/
theorem setO (h : Own w B e m a l c L) {p : Addr} (hp : p.block < B) (v : Value) : Own (w.setCell p v) B e m a l c L := by
  refine ⟨by rw [World.size_setCell]; exact h.1, h.2.1, ?_⟩
  rcases h.2.2 with h | ⟨g, cap, cur, h1, h2, h3, h4⟩
  · exact Or.inl h
  · refine Or.inr ⟨g, cap, cur, h1, h2, ?_, h4⟩
    rw [Below.heap_setCell w p v g (by omega)]
    exact h3

theorem length (h : Own w B e m a l c L) : L.length = l * m := h.2.1

theorem le (h : Own w B e m a l c L) : l ≤ c := by
  rcases h.2.2 with ⟨h, h0⟩ | ⟨g, cap, cur, h1, h2, h3, h4, _⟩
  · omega
  · cases h1; exact h4

theorem sl (h : Own w B e m a l c L) : SlV w a (l * m) L := by
  refine ⟨h.2.1, ?_⟩
  rcases h.2.2 with ⟨h, rfl⟩ | ⟨g, cap, cur, h1, h2, h3, h4, h5, h6, h7⟩
  · exact Or.inl (by simp)
  · cases h1
    refine Or.inr ⟨_, rfl, fun i v hi => ?_⟩
    exact World.ownsRow.cells h.2 (g := g) rfl i v hi

theorem sl1 (h : Own w B e 1 a l c L) : SlV w a l L := by
  have := h.sl
  rwa [Nat.mul_one] at this

theorem nil {w : World} {B : Nat} (h : B ≤ w.heap.size) (e : TypeId) (m : Nat) : Own w B e m none 0 0 [] := ⟨h, World.ownsRow_nil w B e m⟩

theorem lit {w : World} {B : Nat} (h : B ≤ w.heap.size) (e : TypeId) (m : Nat) (L : List Value) (n : Nat) (hL : L.length = n * m) (hn : n ≤ maxLen) : Own (w.alloc (.cells ⟨L⟩ e)) B e m (some ⟨w.heap.size, 0, none⟩) n n L :=
  ⟨by simp; omega, by simpa using World.ownsRow_lit (base := B) (e := e) (size := m) w ⟨L⟩ n h hn (by simpa using hL)⟩

/-- APPEND: of a slice whose cells lie somewhere. -/
theorem app {t : TypeId} {b : Nat} (E : Elem P t e m b) (ty : TypeId) (h : Own w B e m a l c L) {ad : Addr} {n cn : Nat} {N : List Value} (hN : cellsOn w ad N) (hn : N.length = n * m) (h1 : ∀ u ∈ N, u.oneCell' = true)
    (hb : (l + n) * b ≤ 140737488355328) (hm : l + n ≤ maxLen) :
    ∃ a' l' c' w', (Builtin.append_ #[t, t] ty #[.slice a l c, .slice (some ad) n cn]).run P w = .ok (.slice a' l' c') w' ∧ l' = l + n ∧ Own w' B e m a' l' c' (L ++ N) ∧ Below B w w' := by
  obtain ⟨i, z, hi, hz, hs, hby, hzs, hm0⟩ := E.info
  obtain ⟨v', w', hrun, hown, hgrow, _⟩ := run_append_own (P := P) w B t ty e i z m b E.und hi hz hs hby hzs hm0 (.slice a l c) l L h.2 ad n cn N hn hN h1 hm hb h.1
  obtain ⟨ao, lo, co, rfl, hlo⟩ : ∃ ao lo co, v' = .slice ao lo co ∧ lo = l + n := by
    rcases hown.2 with ⟨hv, h0⟩ | ⟨g, cap, cur, hv, _⟩
    · exact ⟨_, _, _, hv, h0.symm⟩
    · exact ⟨_, _, _, hv, rfl⟩
  subst hlo
  refine ⟨ao, l + n, co, w', hrun, rfl, ⟨Nat.le_trans h.1 hgrow.size, hown⟩, ?_⟩
  exact (Below.refl B w).grown hgrow h.1 (fun k hk => (h.2.lt k hk).1)

/-- APPEND of one element, which lies in a new block. -/
theorem app1 {t : TypeId} {b : Nat} (E : Elem P t e m b) (ty : TypeId) (h : Own w B e m a l c L) {N : List Value} (hn : N.length = m) (h1 : ∀ u ∈ N, u.oneCell' = true)
    (hb : (l + 1) * b ≤ 140737488355328) (hm : l + 1 ≤ maxLen) :
    ∃ a' l' c' w', (Builtin.append_ #[t, t] ty #[.slice a l c, .slice (some ⟨w.heap.size, 0, none⟩) 1 1]).run P (w.alloc (.cells ⟨N⟩ e)) = .ok (.slice a' l' c') w' ∧ l' = l + 1 ∧ Own w' B e m a' l' c' (L ++ N) ∧ Below B w w' := by
  obtain ⟨a', l', c', w', hr, hl, ho, hb'⟩ := (h.alloc (.cells ⟨N⟩ e)).app E ty (ad := ⟨w.heap.size, 0, none⟩) (n := 1) (cn := 1) (N := N) (Blk.new w N e).on (by omega) h1 hb hm
  exact ⟨a', l', c', w', hr, hl, ho, ((Below.refl B w).alloc h.1 _).trans hb'⟩

/-- APPEND of nothing. -/
theorem app0 {t : TypeId} {b : Nat} (E : Elem P t e m b) (ty : TypeId) (h : Own w B e m a l c L) :
    (Builtin.append_ #[t, t] ty #[.slice a l c, .slice none 0 0]).run P w = .ok (.slice a l c) w := by
  obtain ⟨i, z, hi, hz, hs, hby, hzs, hm0⟩ := E.info
  exact run_append_owned_none (P := P) (w := w) B t ty e i m E.und hi (.slice a l c) l L h.2

/-- APPEND of a slice that shows N; where it is none it is the nil slice. -/
theorem appS {t : TypeId} {b : Nat} (E : Elem P t e m b) (ty : TypeId) (h : Own w B e m a l c L) {na : Option Addr} {n cn : Nat} {N : List Value} (hN : SlV w na (n * m) N) (hnil : na = none → n = 0 ∧ cn = 0) (h1 : ∀ u ∈ N, u.oneCell' = true)
    (hb : (l + n) * b ≤ 140737488355328) (hm : l + n ≤ maxLen) :
    ∃ a' l' c' w', (Builtin.append_ #[t, t] ty #[.slice a l c, .slice na n cn]).run P w = .ok (.slice a' l' c') w' ∧ l' = l + n ∧ Own w' B e m a' l' c' (L ++ N) ∧ Below B w w' := by
  cases na with
  | none =>
    obtain ⟨rfl, rfl⟩ := hnil rfl
    have : N = [] := List.eq_nil_of_length_eq_zero (by rw [hN.1]; simp)
    subst this
    exact ⟨a, l, c, w, h.app0 E ty, rfl, by simpa using h, Below.refl _ _⟩
  | some ad =>
    refine h.app E ty (ad := ad) ?_ hN.1 h1 hb hm
    rcases hN.2 with h0 | ⟨ad', he, hc⟩
    · have : N = [] := List.eq_nil_of_length_eq_zero (by rw [hN.1]; exact h0)
      subst this
      intro i v hi
      simp at hi
    · cases he
      exact hc

end Own

/-- MAKE: a row of zeros. -/
theorem make_row {t e : TypeId} {m b : Nat} (E : Elem P t e m b) (w : World) {zs : List Value} (hz : ∀ i z, P.info? e = some i → i.zero = some z → z.cells = ⟨zs⟩) (kl kc : IntKind) (l c : Int) (h0 : 0 ≤ l) (hlc : l ≤ c) (hb : (b : Int) * c ≤ 281474976710656) (hm : c ≤ 9223372036854775807) :
    (Instr.makeSlice t (.int kl l) (.int kc c)).run P w = .ok (.slice (some ⟨w.heap.size, 0, none⟩) l.toNat c.toNat) (w.alloc (.cells (madeCells ⟨zs⟩ (c.toNat * m)) e)) := by
  obtain ⟨i, z, hi, hzz, hs, hby, hzs, hm0⟩ := E.info
  subst hs hby
  rw [← hz i z hi hzz]
  exact run_make (P := P) w t e i z E.und hi hzz kl kc l c h0 hlc hb hm

end Go.Vc
/- Strings out of bytes. -/
set_option linter.unusedVariables false
namespace Go.Vc
open Go Go.RowKit
variable {P : Program}

/-- string(b) of bytes. -/
theorem string_of {w : World} {src dst e : TypeId} {a : Option Addr} {n c : Nat} {l : List UInt8} (hs : P.underlying src = some (.slice e)) (he : P.underlying e = some (.int .u8)) (hd : P.underlying dst = some .string) (h : SlV w a n (vs .u8 (nums l))) :
    (convert src dst (.slice a n c)).run P w = .ok (.string ⟨l.toArray⟩) w := by
  have hn : n = l.length := by have := h.1; simpa using this.symm
  subst hn
  cases a with
  | none =>
    have : l = [] := by
      rcases h.2 with h0 | ⟨ad, he, _⟩
      · exact List.eq_nil_of_length_eq_zero h0
      · cases he
    subst this
    rw [List.length_nil, run_convert_bytes_string w src dst e none 0 c hs he hd]
    rfl
  | some ad =>
    refine run_convert_bytes_back w src dst e ad c l hs he hd (fun j hj => ?_)
    rcases h.2 with h0 | ⟨ad', hae, hc⟩
    · omega
    · cases hae
      have := hc j _ (vs_get (by simpa using hj))
      rw [this]
      simp [nums, List.getD_eq_getElem?_getD, hj]

/-- Numbers that fit a byte are the numbers of bytes. -/
theorem nums_of_wf : ∀ (X : List Int), (∀ x ∈ X, (Lit.int .u8 x).wf = true) → ∃ l : List UInt8, X = nums l
  | [], _ => ⟨[], rfl⟩
  | x :: r, h => by
    obtain ⟨l, rfl⟩ := nums_of_wf r (fun y hy => h y (by simp [hy]))
    have hx := h x (by simp)
    simp only [Lit.wf, Bool.and_eq_true, IntKind.min, IntKind.max, IntKind.signed, IntKind.bits] at hx
    simp at hx
    refine ⟨UInt8.ofNat x.toNat :: l, ?_⟩
    simp only [nums, List.map_cons, List.cons.injEq, and_true]
    rw [UInt8.toNat_ofNat_of_lt' (by show x.toNat < 256; omega)]
    omega

end Go.Vc
/- Strings appended to a row of bytes. -/
set_option linter.unusedVariables false
namespace Go.Vc
open Go Go.RowKit
variable {P : Program}

theorem strCells_eq (s : ByteArray) : Lib.strCells s = vs .u8 (nums s.data.toList) := by
  rw [vs_nums, Lib.strCells, Lib.byteCells]

namespace Own
variable {w : World} {B : Nat} {e : TypeId} {a : Option Addr} {l c : Nat} {L : List Value}

/-- APPEND of a string's bytes. -/
theorem appStr {t u : TypeId} (E : Elem P t e 1 1) (hz : (P.info? e).bind (·.zero) = some (.int .u8 0)) (hu : P.underlying u = some .string) (ty : TypeId) (h : Own w B e 1 a l c L) (s : ByteArray)
    (hb : l + s.size ≤ 140737488355328) :
    ∃ a' l' c' w', (Builtin.append_ #[t, u] ty #[.slice a l c, .string s]).run P w = .ok (.slice a' l' c') w' ∧ l' = l + s.size ∧ Own w' B e 1 a' l' c' (L ++ vs .u8 (nums s.data.toList)) ∧ Below B w w' := by
  obtain ⟨i, z, hi, hzz, hs, hby, hzs, hm0⟩ := E.info
  rw [hi] at hz
  simp only [Option.bind_some] at hz
  obtain ⟨v', w', hrun, hown, hgrow, _⟩ := Lib.run_append_own_string (P := P) w B t u ty e i E.und hu hi hz hs hby (.slice a l c) l L h.2 s (by unfold maxLen; omega) hb h.1
  rw [strCells_eq] at hown
  obtain ⟨ao, lo, co, rfl, hlo⟩ : ∃ ao lo co, v' = .slice ao lo co ∧ lo = l + s.size := by
    rcases hown.2 with ⟨hv, h0⟩ | ⟨g, cap, cur, hv, _⟩
    · exact ⟨_, _, _, hv, h0.symm⟩
    · exact ⟨_, _, _, hv, rfl⟩
  subst hlo
  refine ⟨ao, l + s.size, co, w', hrun, rfl, ⟨Nat.le_trans h.1 hgrow.size, hown⟩, ?_⟩
  exact (Below.refl B w).grown hgrow h.1 (fun k hk => (h.2.lt k hk).1)
end Own
end Go.Vc
