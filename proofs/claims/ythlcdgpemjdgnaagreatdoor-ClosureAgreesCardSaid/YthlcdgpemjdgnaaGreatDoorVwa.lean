/- Joined texts. -/
import Derived.Test.YthlcdgpemjdgnaaGreatDoorVcc
import Derived.Laws.IdiomCopy
import Derived.Laws.IdiomStrings
import Derived.Lib.UnsafeStr
import Derived.Laws.OwnMore
import Derived.Laws.MakeOwn
import Derived.Lib.AppendStr
/- Rows of cells in a world: a block that holds a row, under allocation, draws and stores. -/
set_option linter.unusedVariables false
namespace Go.Vc
open Go Go.RowKit
def Blk (w : World) (b : Nat) (t : TypeId) (L : List Value) : Prop := w.heap[b]? = some (.cells ⟨L⟩ t (0, 0))
theorem add_zero_row (b n : Nat) : Addr.add ⟨b, 0, none⟩ n = ⟨b, n, none⟩ := by
  unfold Addr.add
  split
  · simp_all
  · simp
theorem add_row (b o n : Nat) : Addr.add ⟨b, o, none⟩ n = ⟨b, o + n, none⟩ := by
  unfold Addr.add
  split
  · simp_all
  · simp
namespace Blk
variable {w w' : World} {b b' : Nat} {t t' : TypeId} {L L' : List Value}
theorem lt (h : Blk w b t L) : b < w.heap.size := by
  by_cases hb : b < w.heap.size
  · exact hb
  · unfold Blk at h
    rw [Array.getElem?_eq_none (by omega)] at h
    simp at h
theorem cell (h : Blk w b t L) (i : Nat) : w.cell? ⟨b, i, none⟩ = L[i]? := by
  unfold World.cell?
  rw [h]
  simp
theorem cellA (h : Blk w b t L) (i : Nat) : w.cell? (Addr.add ⟨b, 0, none⟩ i) = L[i]? := by
  rw [add_zero_row, h.cell]
theorem frozen (h : Blk w b t L) (i : Nat) : w.frozen? ⟨b, i, none⟩ = false := by
  unfold World.frozen?
  rw [h]
  simp
theorem ok1 (h : Blk w b t L) {i : Nat} (hi : i < L.length) : stOk1 w (Addr.add ⟨b, 0, none⟩ i) := by
  rw [add_zero_row]
  refine ⟨?_, h.frozen i⟩
  rw [h.cell]
  simp [hi]
theorem ok (h : Blk w b t L) {n : Nat} (hn : n ≤ L.length) : stOk w ⟨b, 0, none⟩ n := by
  intro i hi
  exact h.ok1 (by omega)
theorem on (h : Blk w b t L) : cellsOn w ⟨b, 0, none⟩ L := by
  intro i v hv
  rw [h.cellA, hv]
theorem new (w : World) (L : List Value) (t : TypeId) : Blk (w.alloc (.cells ⟨L⟩ t)) w.heap.size t L := by
  unfold Blk
  show (w.heap.push _)[w.heap.size]? = _
  simp
theorem alloc (h : Blk w b t L) (o : Obj) : Blk (w.alloc o) b t L := by
  unfold Blk
  rw [Below.heap_alloc w o b h.lt, h]
theorem drew (h : Blk w b t L) : Blk w.drew b t L := h
theorem setO (h : Blk w b t L) {a : Addr} (hb : b ≠ a.block) (v : Value) : Blk (w.setCell a v) b t L := by
  unfold Blk
  rw [Below.heap_setCell w a v b hb, h]
theorem below (h : Blk w b t L) {B : Nat} (hw : Below B w w') (hb : b < B) : Blk w' b t L := by
  unfold Blk
  rw [hw.block b hb, h]
theorem setE (h : Blk w b t L) (i : Nat) (v : Value) : Blk (w.setCell ⟨b, i, none⟩ v) b t (L.set i v) := by
  unfold Blk
  show (w.heap.modify b _)[b]? = _
  rw [Array.getElem?_modify]
  simp only [↓reduceIte]
  rw [h]
  simp
theorem setA (h : Blk w b t L) (i : Nat) (v : Value) : Blk (w.setCell (Addr.add ⟨b, 0, none⟩ i) v) b t (L.set i v) := by
  rw [add_zero_row]
  exact h.setE i v
theorem stLR (vs : List Value) : ∀ (i : Nat) {w : World} (L : List Value), Blk w b t L → i + vs.length ≤ L.length → Blk (stL ⟨b, 0, none⟩ i vs w) b t (L.take i ++ (vs ++ L.drop (i + vs.length))) := by
  induction vs with
  | nil => intro i w L h _; simpa [stL] using h
  | cons v r ih =>
    intro i w L h hi
    simp only [List.length_cons] at hi
    have h1 := ih (i + 1) (L.set i v) (h.setA i v) (by simp; omega)
    have e : (L.set i v).take (i + 1) ++ (r ++ (L.set i v).drop (i + 1 + r.length)) = L.take i ++ ((v :: r) ++ L.drop (i + (v :: r).length)) := by
      rw [List.drop_set_of_lt (by omega), List.length_cons, show i + (r.length + 1) = i + 1 + r.length by omega, List.take_add_one, List.take_set_of_le (Nat.le_refl i), List.getElem?_set_self (by omega)]
      simp
    rw [e] at h1
    exact h1
theorem stLE (h : Blk w b t L) {vs : List Value} (hl : vs.length = L.length) : Blk (stL ⟨b, 0, none⟩ 0 vs w) b t vs := by
  have h1 := stLR vs 0 L h (by omega)
  rw [List.drop_eq_nil_of_le (by omega)] at h1
  simpa using h1
theorem inj (h : Blk w b t L) (h' : Blk w b t' L') : L = L' := by
  unfold Blk at h h'
  rw [h] at h'
  simp at h'
  exact h'.1
end Blk
theorem size_stL (a : Addr) : ∀ (vs : List Value) (i : Nat) (w : World), (stL a i vs w).heap.size = w.heap.size
  | [], _, _ => rfl
  | v :: r, i, w => by rw [stL, size_stL a r, World.size_setCell]
end Go.Vc
/- Rows of numbers in a block, read and written at a place that is an Int. -/
set_option linter.unusedVariables false
namespace Go.Vc
open Go Go.RowKit
def vs (k : IntKind) (X : List Int) : List Value := X.map (Value.int k)
@[simp] theorem vs_length (k : IntKind) (X : List Int) : (vs k X).length = X.length := by simp [vs]
theorem vs_get {k : IntKind} {X : List Int} {i : Nat} (h : i < X.length) : (vs k X)[i]? = some (.int k (X.getD i 0)) := by
  unfold vs
  rw [List.getElem?_map, List.getElem?_eq_getElem h]
  simp [List.getD_eq_getElem?_getD, h]
theorem vs_one (k : IntKind) (X : List Int) : ∀ u ∈ vs k X, u.oneCell' = true := by
  intro u hu
  simp only [vs, List.mem_map] at hu
  obtain ⟨x, _, rfl⟩ := hu
  rfl
namespace Blk
variable {w w' : World} {b b' : Nat} {t t' : TypeId} {L L' : List Value} {k : IntKind} {X : List Int}
theorem putO (h : Blk w b t L) {b2 : Nat} (hb : b ≠ b2) (o i : Nat) (v : Value) : Blk (w.setCell (Addr.add ⟨b2, o, none⟩ i) v) b t L := by
  rw [add_row]
  exact h.setO hb v
end Blk
theorem fin {P : Program} {f : FuncId} {args : Array Value} {w : World} {v : Value} {Q : World → Prop}
    (h : Calls P f args w fun e w' => ∃ u, e = .returned u ∧ (u = v ∧ Q w')) : Calls P f args w fun e w' => e = .returned v ∧ Q w' := by
  refine h.mono ?_
  rintro e w' ⟨u, rfl, rfl, hq⟩
  exact ⟨rfl, hq⟩
end Go.Vc
/- Slices: the values that a slice shows; rows cut and copied. -/
set_option linter.unusedVariables false
namespace Go.Vc
open Go Go.RowKit
theorem addr_add_add (a : Addr) (i j : Nat) : (a.add i).add j = a.add (i + j) := by
  unfold Addr.add
  split
  · rename_i h; subst h
    split
    · rename_i h; subst h; simp
    · split
      · omega
      · simp_all
  · split
    · simp_all
    · split
      · omega
      · rename_i h; simp only [Addr.mk.injEq, true_and, and_true]; omega
theorem cellsOn.below {w w' : World} {a : Addr} {L : List Value} (h : cellsOn w a L) {B : Nat} (hw : Below B w w') (hB : w.heap.size ≤ B) : cellsOn w' a L := by
  intro i v hi
  have h1 := h i v hi
  rw [hw.cell (p := a.add i) (Nat.lt_of_lt_of_le (World.block_lt_of_cell? w _ h1) hB)]
  exact h1
theorem cellsOn.drop {w : World} {a : Addr} {L : List Value} (h : cellsOn w a L) (d : Nat) : cellsOn w (a.add d) (L.drop d) := by
  intro i v hi
  rw [addr_add_add]
  exact h (d + i) v (by rw [← hi, List.getElem?_drop])
theorem cellsOn.take {w : World} {a : Addr} {L : List Value} (h : cellsOn w a L) (d : Nat) : cellsOn w a (L.take d) := by
  intro i v hi
  rw [List.getElem?_take] at hi
  split at hi
  · exact h i v hi
  · simp at hi
def SlV (w : World) (a : Option Addr) (n : Nat) (L : List Value) : Prop := L.length = n ∧ (n = 0 ∨ ∃ ad, a = some ad ∧ cellsOn w ad L)
namespace SlV
variable {w w' : World} {a : Option Addr} {n : Nat} {L : List Value}
theorem below (h : SlV w a n L) {B : Nat} (hw : Below B w w') (hB : w.heap.size ≤ B) : SlV w' a n L := by
  refine ⟨h.1, ?_⟩
  rcases h.2 with h0 | ⟨ad, rfl, hc⟩
  · exact Or.inl h0
  · exact Or.inr ⟨ad, rfl, hc.below hw hB⟩
theorem nil (w : World) (a : Option Addr) : SlV w a 0 [] := ⟨rfl, Or.inl rfl⟩
theorem on (h : SlV w a n L) (hn : 0 < n) : ∃ ad, a = some ad ∧ cellsOn w ad L := by
  rcases h.2 with h0 | h
  · omega
  · exact h
end SlV
def nums (l : List UInt8) : List Int := l.map fun b => ((b.toNat : Nat) : Int)
@[simp] theorem nums_length (l : List UInt8) : (nums l).length = l.length := by simp [nums]
end Go.Vc
/- Slices that grow: rows that a call owns, appended to; rows that are made. -/
set_option linter.unusedVariables false
namespace Go.Vc
open Go Go.RowKit
variable {P : Program}
def elemB (P : Program) (e : TypeId) (m b : Nat) : Bool := match P.info? e with
  | some i => match i.zero with
    | some z => Nat.beq i.size m && Nat.beq i.bytes b && Nat.beq z.cells.size m && Nat.blt 0 m
    | none => false
  | none => false
structure Elem (P : Program) (t e : TypeId) (m b : Nat) : Prop where
  und : P.underlying t = some (.slice e)
  ok : elemB P e m b = true
theorem Elem.info {t e : TypeId} {m b : Nat} (h : Elem P t e m b) : ∃ i z, P.info? e = some i ∧ i.zero = some z ∧ i.size = m ∧ i.bytes = b ∧ z.cells.size = m ∧ 0 < m := by
  have := h.ok
  unfold elemB at this
  split at this
  · rename_i i hi
    split at this
    · rename_i z hz
      simp only [Bool.and_eq_true, Nat.blt_eq] at this
      exact ⟨i, z, hi, hz, Nat.eq_of_beq_eq_true this.1.1.1, Nat.eq_of_beq_eq_true this.1.1.2, Nat.eq_of_beq_eq_true this.1.2, this.2⟩
    · cases this
  · cases this
def Own (w : World) (B : Nat) (e : TypeId) (m : Nat) (a : Option Addr) (l c : Nat) (L : List Value) : Prop := B ≤ w.heap.size ∧ w.ownsRow B e m (.slice a l c) l L
namespace Own
variable {w w' : World} {B B' : Nat} {e : TypeId} {m : Nat} {a : Option Addr} {l c : Nat} {L : List Value}
theorem base (h : Own w B e m a l c L) (hB : B' ≤ B) : Own w B' e m a l c L := by
  refine ⟨Nat.le_trans hB h.1, h.2.1, ?_⟩
  rcases h.2.2 with h | ⟨g, cap, cur, h1, h2, h3⟩
  · exact Or.inl h
  · exact Or.inr ⟨g, cap, cur, h1, Nat.le_trans hB h2, h3⟩
theorem below (h : Own w B e m a l c L) (hw : Below w.heap.size w w') : Own w' B e m a l c L := by
  refine ⟨Nat.le_trans h.1 hw.size, h.2.1, ?_⟩
  rcases h.2.2 with h | ⟨g, cap, cur, h1, h2, h3, h4⟩
  · exact Or.inl h
  · refine Or.inr ⟨g, cap, cur, h1, h2, ?_, h4⟩
    rw [hw.block g (Array.getElem?_eq_some_iff.1 h3).1]
    exact h3
theorem alloc (h : Own w B e m a l c L) (o : Obj) : Own (w.alloc o) B e m a l c L := h.below ((Below.refl _ w).alloc (Nat.le_refl _) o)
theorem drew (h : Own w B e m a l c L) : Own w.drew B e m a l c L := h
theorem setO (h : Own w B e m a l c L) {p : Addr} (hp : p.block < B) (v : Value) : Own (w.setCell p v) B e m a l c L := by
  refine ⟨by rw [World.size_setCell]; exact h.1, h.2.1, ?_⟩
  rcases h.2.2 with h | ⟨g, cap, cur, h1, h2, h3, h4⟩
  · exact Or.inl h
  · refine Or.inr ⟨g, cap, cur, h1, h2, ?_, h4⟩
    rw [Below.heap_setCell w p v g (by omega)]
    exact h3
theorem length (h : Own w B e m a l c L) : L.length = l * m := h.2.1
theorem le (h : Own w B e m a l c L) : l ≤ c := by
  rcases h.2.2 with ⟨h, h0⟩ | ⟨g, cap, cur, h1, h2, h3, h4, _⟩
  · omega
  · cases h1; exact h4
theorem sl (h : Own w B e m a l c L) : SlV w a (l * m) L := by
  refine ⟨h.2.1, ?_⟩
  rcases h.2.2 with ⟨h, rfl⟩ | ⟨g, cap, cur, h1, h2, h3, h4, h5, h6, h7⟩
  · exact Or.inl (by simp)
  · cases h1
    refine Or.inr ⟨_, rfl, fun i v hi => ?_⟩
    exact World.ownsRow.cells h.2 (g := g) rfl i v hi
theorem nil {w : World} {B : Nat} (h : B ≤ w.heap.size) (e : TypeId) (m : Nat) : Own w B e m none 0 0 [] := ⟨h, World.ownsRow_nil w B e m⟩
theorem lit {w : World} {B : Nat} (h : B ≤ w.heap.size) (e : TypeId) (m : Nat) (L : List Value) (n : Nat) (hL : L.length = n * m) (hn : n ≤ maxLen) : Own (w.alloc (.cells ⟨L⟩ e)) B e m (some ⟨w.heap.size, 0, none⟩) n n L :=
  ⟨by simp; omega, by simpa using World.ownsRow_lit (base := B) (e := e) (size := m) w ⟨L⟩ n h hn (by simpa using hL)⟩
theorem app {t : TypeId} {b : Nat} (E : Elem P t e m b) (ty : TypeId) (h : Own w B e m a l c L) {ad : Addr} {n cn : Nat} {N : List Value} (hN : cellsOn w ad N) (hn : N.length = n * m) (h1 : ∀ u ∈ N, u.oneCell' = true)
    (hb : (l + n) * b ≤ 140737488355328) (hm : l + n ≤ maxLen) :
    ∃ a' l' c' w', (Builtin.append_ #[t, t] ty #[.slice a l c, .slice (some ad) n cn]).run P w = .ok (.slice a' l' c') w' ∧ l' = l + n ∧ Own w' B e m a' l' c' (L ++ N) ∧ Below B w w' := by
  obtain ⟨i, z, hi, hz, hs, hby, hzs, hm0⟩ := E.info
  obtain ⟨v', w', hrun, hown, hgrow, _⟩ := run_append_own (P := P) w B t ty e i z m b E.und hi hz hs hby hzs hm0 (.slice a l c) l L h.2 ad n cn N hn hN h1 hm hb h.1
  obtain ⟨ao, lo, co, rfl, hlo⟩ : ∃ ao lo co, v' = .slice ao lo co ∧ lo = l + n := by
    rcases hown.2 with ⟨hv, h0⟩ | ⟨g, cap, cur, hv, _⟩
    · exact ⟨_, _, _, hv, h0.symm⟩
    · exact ⟨_, _, _, hv, rfl⟩
  subst hlo
  refine ⟨ao, l + n, co, w', hrun, rfl, ⟨Nat.le_trans h.1 hgrow.size, hown⟩, ?_⟩
  exact (Below.refl B w).grown hgrow h.1 (fun k hk => (h.2.lt k hk).1)
theorem app1 {t : TypeId} {b : Nat} (E : Elem P t e m b) (ty : TypeId) (h : Own w B e m a l c L) {N : List Value} (hn : N.length = m) (h1 : ∀ u ∈ N, u.oneCell' = true)
    (hb : (l + 1) * b ≤ 140737488355328) (hm : l + 1 ≤ maxLen) :
    ∃ a' l' c' w', (Builtin.append_ #[t, t] ty #[.slice a l c, .slice (some ⟨w.heap.size, 0, none⟩) 1 1]).run P (w.alloc (.cells ⟨N⟩ e)) = .ok (.slice a' l' c') w' ∧ l' = l + 1 ∧ Own w' B e m a' l' c' (L ++ N) ∧ Below B w w' := by
  obtain ⟨a', l', c', w', hr, hl, ho, hb'⟩ := (h.alloc (.cells ⟨N⟩ e)).app E ty (ad := ⟨w.heap.size, 0, none⟩) (n := 1) (cn := 1) (N := N) (Blk.new w N e).on (by omega) h1 hb hm
  exact ⟨a', l', c', w', hr, hl, ho, ((Below.refl B w).alloc h.1 _).trans hb'⟩
end Own
theorem make_row {t e : TypeId} {m b : Nat} (E : Elem P t e m b) (w : World) {zs : List Value} (hz : ∀ i z, P.info? e = some i → i.zero = some z → z.cells = ⟨zs⟩) (kl kc : IntKind) (l c : Int) (h0 : 0 ≤ l) (hlc : l ≤ c) (hb : (b : Int) * c ≤ 281474976710656) (hm : c ≤ 9223372036854775807) :
    (Instr.makeSlice t (.int kl l) (.int kc c)).run P w = .ok (.slice (some ⟨w.heap.size, 0, none⟩) l.toNat c.toNat) (w.alloc (.cells (madeCells ⟨zs⟩ (c.toNat * m)) e)) := by
  obtain ⟨i, z, hi, hzz, hs, hby, hzs, hm0⟩ := E.info
  subst hs hby
  rw [← hz i z hi hzz]
  exact run_make (P := P) w t e i z E.und hi hzz kl kc l c h0 hlc hb hm
end Go.Vc
/- Strings out of bytes. -/
set_option linter.unusedVariables false
namespace Go.Vc
open Go Go.RowKit
variable {P : Program}
theorem string_of {w : World} {src dst e : TypeId} {a : Option Addr} {n c : Nat} {l : List UInt8} (hs : P.underlying src = some (.slice e)) (he : P.underlying e = some (.int .u8)) (hd : P.underlying dst = some .string) (h : SlV w a n (vs .u8 (nums l))) :
    (convert src dst (.slice a n c)).run P w = .ok (.string ⟨l.toArray⟩) w := by
  have hn : n = l.length := by have := h.1; simpa using this.symm
  subst hn
  cases a with
  | none =>
    have : l = [] := by
      rcases h.2 with h0 | ⟨ad, he, _⟩
      · exact List.eq_nil_of_length_eq_zero h0
      · cases he
    subst this
    rw [List.length_nil, run_convert_bytes_string w src dst e none 0 c hs he hd]
    rfl
  | some ad =>
    refine run_convert_bytes_back w src dst e ad c l hs he hd (fun j hj => ?_)
    rcases h.2 with h0 | ⟨ad', hae, hc⟩
    · omega
    · cases hae
      have := hc j _ (vs_get (by simpa using hj))
      rw [this]
      simp [nums, List.getD_eq_getElem?_getD, hj]
end Go.Vc
/- Strings appended to a row of bytes. -/
set_option linter.unusedVariables false
namespace Go.Vc
open Go Go.RowKit
variable {P : Program}
namespace Own
variable {w : World} {B : Nat} {e : TypeId} {a : Option Addr} {l c : Nat} {L : List Value}
end Own
end Go.Vc
