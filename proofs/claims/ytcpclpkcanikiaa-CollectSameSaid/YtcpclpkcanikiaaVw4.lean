/- Slices that grow: rows that a call owns, appended to; rows that are made. -/
import Derived.Test.YtcpclpkcanikiaaVw3
import Derived.Laws.OwnMore
import Derived.Laws.MakeOwn
set_option linter.unusedVariables false
namespace Go.Vc
open Go Go.RowKit
variable {P : Program}

/-- A slice type: its element's size in cells, and in bytes. -/
def elemB (P : Program) (e : TypeId) (m b : Nat) : Bool := match P.info? e with
  | some i => match i.zero with
    | some z => Nat.beq i.size m && Nat.beq i.bytes b && Nat.beq z.cells.size m && Nat.blt 0 m
    | none => false
  | none => false
structure Elem (P : Program) (t e : TypeId) (m b : Nat) : Prop where
  und : P.underlying t = some (.slice e)
  ok : elemB P e m b = true

theorem Elem.info {t e : TypeId} {m b : Nat} (h : Elem P t e m b) : ∃ i z, P.info? e = some i ∧ i.zero = some z ∧ i.size = m ∧ i.bytes = b ∧ z.cells.size = m ∧ 0 < m := by
  have := h.ok
  unfold elemB at this
  split at this
  · rename_i i hi
    split at this
    · rename_i z hz
      simp only [Bool.and_eq_true, Nat.blt_eq] at this
      exact ⟨i, z, hi, hz, Nat.eq_of_beq_eq_true this.1.1.1, Nat.eq_of_beq_eq_true this.1.1.2, Nat.eq_of_beq_eq_true this.1.2, this.2⟩
    · cases this
  · cases this

/-- The slice (a, l, c), of elements of m cells, is the call's own row from block B on, and holds L. -/
def Own (w : World) (B : Nat) (e : TypeId) (m : Nat) (a : Option Addr) (l c : Nat) (L : List Value) : Prop := B ≤ w.heap.size ∧ w.ownsRow B e m (.slice a l c) l L

namespace Own
variable {w w' : World} {B B' : Nat} {e : TypeId} {m : Nat} {a : Option Addr} {l c : Nat} {L : List Value}

theorem base (h : Own w B e m a l c L) (hB : B' ≤ B) : Own w B' e m a l c L := by
  refine ⟨Nat.le_trans hB h.1, h.2.1, ?_⟩
  rcases h.2.2 with h | ⟨g, cap, cur, h1, h2, h3⟩
  · exact Or.inl h
  · exact Or.inr ⟨g, cap, cur, h1, Nat.le_trans hB h2, h3⟩

theorem below (h : Own w B e m a l c L) (hw : Below w.heap.size w w') : Own w' B e m a l c L := by
  refine ⟨Nat.le_trans h.1 hw.size, h.2.1, ?_⟩
  rcases h.2.2 with h | ⟨g, cap, cur, h1, h2, h3, h4⟩
  · exact Or.inl h
  · refine Or.inr ⟨g, cap, cur, h1, h2, ?_, h4⟩
    rw [hw.block g (Array.getElem?_eq_some_iff.1 h3).1]
    exact h3

theorem alloc (h : Own w B e m a l c L) (o : Obj) : Own (w.alloc o) B e m a l c L := h.below ((Below.refl _ w).alloc (Nat.le_refl _) o)
theorem drew (h : Own w B e m a l c L) : Own w.drew B e m a l c L := h

/-- A store in a block below the base. -/
theorem setO (h : Own w B e m a l c L) {p : Addr} (hp : p.block < B) (v : Value) : Own (w.setCell p v) B e m a l c L := by
  refine ⟨by rw [World.size_setCell]; exact h.1, h.2.1, ?_⟩
  rcases h.2.2 with h | ⟨g, cap, cur, h1, h2, h3, h4⟩
  · exact Or.inl h
  · refine Or.inr ⟨g, cap, cur, h1, h2, ?_, h4⟩
    rw [Below.heap_setCell w p v g (by omega)]
    exact h3

theorem length (h : Own w B e m a l c L) : L.length = l * m := h.2.1

theorem le (h : Own w B e m a l c L) : l ≤ c := by
  rcases h.2.2 with ⟨h, h0⟩ | ⟨g, cap, cur, h1, h2, h3, h4, _⟩
  · omega
  · cases h1; exact h4

theorem sl (h : Own w B e m a l c L) : SlV w a (l * m) L := by
  refine ⟨h.2.1, ?_⟩
  rcases h.2.2 with ⟨h, rfl⟩ | ⟨g, cap, cur, h1, h2, h3, h4, h5, h6, h7⟩
  · exact Or.inl (by simp)
  · cases h1
    refine Or.inr ⟨_, rfl, fun i v hi => ?_⟩
    exact World.ownsRow.cells h.2 (g := g) rfl i v hi

theorem sl1 (h : Own w B e 1 a l c L) : SlV w a l L := by
  have := h.sl
  rwa [Nat.mul_one] at this

theorem nil {w : World} {B : Nat} (h : B ≤ w.heap.size) (e : TypeId) (m : Nat) : Own w B e m none 0 0 [] := ⟨h, World.ownsRow_nil w B e m⟩

theorem lit {w : World} {B : Nat} (h : B ≤ w.heap.size) (e : TypeId) (m : Nat) (L : List Value) (n : Nat) (hL : L.length = n * m) (hn : n ≤ maxLen) : Own (w.alloc (.cells ⟨L⟩ e)) B e m (some ⟨w.heap.size, 0, none⟩) n n L :=
  ⟨by simp; omega, by simpa using World.ownsRow_lit (base := B) (e := e) (size := m) w ⟨L⟩ n h hn (by simpa using hL)⟩

/-- APPEND: of a slice whose cells lie somewhere. -/
theorem app {t : TypeId} {b : Nat} (E : Elem P t e m b) (ty : TypeId) (h : Own w B e m a l c L) {ad : Addr} {n cn : Nat} {N : List Value} (hN : cellsOn w ad N) (hn : N.length = n * m) (h1 : ∀ u ∈ N, u.oneCell' = true)
    (hb : (l + n) * b ≤ 140737488355328) (hm : l + n ≤ maxLen) :
    ∃ a' l' c' w', (Builtin.append_ #[t, t] ty #[.slice a l c, .slice (some ad) n cn]).run P w = .ok (.slice a' l' c') w' ∧ l' = l + n ∧ Own w' B e m a' l' c' (L ++ N) ∧ Below B w w' := by
  obtain ⟨i, z, hi, hz, hs, hby, hzs, hm0⟩ := E.info
  obtain ⟨v', w', hrun, hown, hgrow, _⟩ := run_append_own (P := P) w B t ty e i z m b E.und hi hz hs hby hzs hm0 (.slice a l c) l L h.2 ad n cn N hn hN h1 hm hb h.1
  obtain ⟨ao, lo, co, rfl, hlo⟩ : ∃ ao lo co, v' = .slice ao lo co ∧ lo = l + n := by
    rcases hown.2 with ⟨hv, h0⟩ | ⟨g, cap, cur, hv, _⟩
    · exact ⟨_, _, _, hv, h0.symm⟩
    · exact ⟨_, _, _, hv, rfl⟩
  subst hlo
  refine ⟨ao, l + n, co, w', hrun, rfl, ⟨Nat.le_trans h.1 hgrow.size, hown⟩, ?_⟩
  exact (Below.refl B w).grown hgrow h.1 (fun k hk => (h.2.lt k hk).1)

/-- APPEND of one element, which lies in a new block. -/
theorem app1 {t : TypeId} {b : Nat} (E : Elem P t e m b) (ty : TypeId) (h : Own w B e m a l c L) {N : List Value} (hn : N.length = m) (h1 : ∀ u ∈ N, u.oneCell' = true)
    (hb : (l + 1) * b ≤ 140737488355328) (hm : l + 1 ≤ maxLen) :
    ∃ a' l' c' w', (Builtin.append_ #[t, t] ty #[.slice a l c, .slice (some ⟨w.heap.size, 0, none⟩) 1 1]).run P (w.alloc (.cells ⟨N⟩ e)) = .ok (.slice a' l' c') w' ∧ l' = l + 1 ∧ Own w' B e m a' l' c' (L ++ N) ∧ Below B w w' := by
  obtain ⟨a', l', c', w', hr, hl, ho, hb'⟩ := (h.alloc (.cells ⟨N⟩ e)).app E ty (ad := ⟨w.heap.size, 0, none⟩) (n := 1) (cn := 1) (N := N) (Blk.new w N e).on (by omega) h1 hb hm
  exact ⟨a', l', c', w', hr, hl, ho, ((Below.refl B w).alloc h.1 _).trans hb'⟩

/-- APPEND of nothing. -/
theorem app0 {t : TypeId} {b : Nat} (E : Elem P t e m b) (ty : TypeId) (h : Own w B e m a l c L) :
    (Builtin.append_ #[t, t] ty #[.slice a l c, .slice none 0 0]).run P w = .ok (.slice a l c) w := by
  obtain ⟨i, z, hi, hz, hs, hby, hzs, hm0⟩ := E.info
  exact run_append_owned_none (P := P) (w := w) B t ty e i m E.und hi (.slice a l c) l L h.2

/-- APPEND of a slice that shows N; where it is none it is the nil slice. -/
theorem appS {t : TypeId} {b : Nat} (E : Elem P t e m b) (ty : TypeId) (h : Own w B e m a l c L) {na : Option Addr} {n cn : Nat} {N : List Value} (hN : SlV w na (n * m) N) (hnil : na = none → n = 0 ∧ cn = 0) (h1 : ∀ u ∈ N, u.oneCell' = true)
    (hb : (l + n) * b ≤ 140737488355328) (hm : l + n ≤ maxLen) :
    ∃ a' l' c' w', (Builtin.append_ #[t, t] ty #[.slice a l c, .slice na n cn]).run P w = .ok (.slice a' l' c') w' ∧ l' = l + n ∧ Own w' B e m a' l' c' (L ++ N) ∧ Below B w w' := by
  cases na with
  | none =>
    obtain ⟨rfl, rfl⟩ := hnil rfl
    have : N = [] := List.eq_nil_of_length_eq_zero (by rw [hN.1]; simp)
    subst this
    exact ⟨a, l, c, w, h.app0 E ty, rfl, by simpa using h, Below.refl _ _⟩
  | some ad =>
    refine h.app E ty (ad := ad) ?_ hN.1 h1 hb hm
    rcases hN.2 with h0 | ⟨ad', he, hc⟩
    · have : N = [] := List.eq_nil_of_length_eq_zero (by rw [hN.1]; exact h0)
      subst this
      intro i v hi
      simp at hi
    · cases he
      exact hc

end Own

/-- MAKE: a row of zeros. -/
theorem make_row {t e : TypeId} {m b : Nat} (E : Elem P t e m b) (w : World) {zs : List Value} (hz : ∀ i z, P.info? e = some i → i.zero = some z → z.cells = ⟨zs⟩) (kl kc : IntKind) (l c : Int) (h0 : 0 ≤ l) (hlc : l ≤ c) (hb : (b : Int) * c ≤ 281474976710656) (hm : c ≤ 9223372036854775807) :
    (Instr.makeSlice t (.int kl l) (.int kc c)).run P w = .ok (.slice (some ⟨w.heap.size, 0, none⟩) l.toNat c.toNat) (w.alloc (.cells (madeCells ⟨zs⟩ (c.toNat * m)) e)) := by
  obtain ⟨i, z, hi, hzz, hs, hby, hzs, hm0⟩ := E.info
  subst hs hby
  rw [← hz i z hi hzz]
  exact run_make (P := P) w t e i z E.und hi hzz kl kc l c h0 hlc hb hm

end Go.Vc
