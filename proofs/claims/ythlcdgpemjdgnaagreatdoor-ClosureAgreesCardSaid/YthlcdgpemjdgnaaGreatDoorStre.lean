/- Syntax trees that lie in blocks of their own: a write at a place of such a tree. -/
import Derived.Test.YthlcdgpemjdgnaaGreatDoorSpath
import Derived.Test.YthlcdgpemjdgnaaGreatDoorVfb
set_option linter.unusedVariables false
namespace Go.Vc
open Go
def G.frozP (g : G) (p : Nat → Prop) : G := ⟨g.w, g.X, fun x i => g.D x i ∧ ¬ p x, g.hX, fun x i h => g.hD x i h.1⟩
theorem Ex.frozP {g g' : G} (h : Ex g g') (p : Nat → Prop) : Ex (g.frozP p) (g'.frozP p) :=
  ⟨h.size, h.x, h.same, fun x hx hn i => ⟨fun k => ⟨(h.d x hx hn i).1 k.1, k.2⟩, fun k => ⟨(h.d x hx hn i).2 k.1, k.2⟩⟩⟩
theorem frozP_le (g : G) (p : Nat → Prop) : Le g (g.frozP p) := ⟨Nat.le_refl _, fun a v h => ⟨h.1, h.2.1, fun k => h.2.2 k.1⟩, fun x m n h => ⟨h.1, h.2.1, fun k => h.2.2 k.1⟩, fun x o ⟨ty, fr, h1, h2, h3⟩ => ⟨ty, fr, h1, h2, fun i k => h3 i k.1⟩⟩
theorem CallsP.thawP {P : Program} {k : FuncId} {args : Array Value} {g : G} {p : Nat → Prop} (hb : ∀ b, p b → b < g.w.heap.size) {Q Q' : Value → G → Prop} (h : CallsP P k args (g.frozP p) Q) (hQ : ∀ v g1 g', Q v g1 → Ex g g' → Ex g1 (g'.frozP p) → g'.w = g1.w → (∀ b, ¬ p b → ∀ i, g'.D b i ↔ g1.D b i) → Q' v g') : CallsP P k args g Q' := by
  refine Calls.mono h ?_
  rintro e w' ⟨v, g1, rfl, rfl, hs, hq⟩
  have hsz : g.w.heap.size ≤ g1.w.heap.size := hs.le.size
  let g' : G := ⟨g1.w, g1.X, fun x i => g1.D x i ∨ (p x ∧ g.D x i), g1.hX, fun x i hh => by
    rcases hh with hh | ⟨_, hh⟩
    · exact g1.hD x i hh
    · exact Nat.lt_of_lt_of_le (g.hD x i hh) hsz⟩
  have hst : Stp g.size nobody g g' := by
    refine ⟨⟨hsz, ?_, ?_, ?_⟩, hs.x, hs.keepX, hs.os, hs.tape, hs.output, hs.same, ?_⟩
    · rintro a v ⟨h1, h2, h3⟩
      obtain ⟨k1, k2, k3⟩ := hs.le.cell a v ⟨h1, h2, fun k => h3 k.1⟩
      refine ⟨k1, k2, ?_⟩
      rintro (k | ⟨_, k⟩)
      · exact k3 k
      · exact h3 k
    · rintro x m n ⟨h1, h2, h3⟩
      obtain ⟨k1, k2, k3⟩ := hs.le.obj x m n ⟨h1, h2, fun k => h3 k.1⟩
      refine ⟨k1, k2, ?_⟩
      rintro (k | ⟨_, k⟩)
      · exact k3 k
      · exact h3 k
    · rintro x o ⟨ty, fr, h1, h2, h3⟩
      obtain ⟨ty2, fr2, k1, k2, k3⟩ := hs.le.blk x o ⟨ty, fr, h1, h2, fun i k => h3 i k.1⟩
      refine ⟨ty2, fr2, k1, k2, fun i => ?_⟩
      rintro (k | ⟨_, k⟩)
      · exact k3 i k
      · exact h3 i k
    · intro x hx hn i
      have := hs.d x hx hn i
      show (g1.D x i ∨ (p x ∧ g.D x i)) ↔ _
      rw [this]
      show ((g.D x i ∧ ¬ p x) ∨ (p x ∧ g.D x i)) ↔ _
      by_cases e : p x <;> simp [e]
  refine ⟨v, g', rfl, rfl, hst, hQ v g1 g' hq hst.ex ?_ rfl ?_⟩
  · refine ⟨Nat.le_refl _, fun x _ hx => hx, fun x _ _ => rfl, fun x hx hn i => ?_⟩
    show ((g1.D x i ∨ (p x ∧ g.D x i)) ∧ ¬ p x) ↔ g1.D x i
    constructor
    · rintro ⟨k | ⟨e, _⟩, hne⟩
      · exact k
      · exact absurd e hne
    · intro k
      refine ⟨.inl k, fun hp => ?_⟩
      exact ((hs.d x (hb x hp) (fun h => h) i).1 k).2 hp
  · intro b hp i
    show (g1.D b i ∨ (p b ∧ g.D b i)) ↔ g1.D b i
    simp [hp]
def CleanG (g : G) (lo hi : Nat) : Prop := ∀ z, lo ≤ z → z < hi → ¬ g.X z ∧ ∀ i, ¬ g.D z i
def RowW (w : World) (a : Option Addr) (n c m : Nat) (L : List Value) (lo hi : Nat) : Prop :=
  L.length = n * m ∧ ((a = none ∧ n = 0 ∧ c = 0) ∨ ∃ b cur e, a = some ⟨b, 0, none⟩ ∧ lo ≤ b ∧ b < hi ∧ w.heap[b]? = some (.cells cur e (0, 0)) ∧ n ≤ c ∧ c ≤ maxLen ∧ cur.size = c * m ∧ cur.toList.take (n * m) = L)
theorem RowW.same {w w' : World} {a : Option Addr} {n c m lo hi : Nat} {L : List Value} (h : RowW w a n c m L lo hi) (hs : ∀ z, lo ≤ z → z < hi → w'.heap[z]? = w.heap[z]?) : RowW w' a n c m L lo hi := by
  obtain ⟨h1, h2⟩ := h
  refine ⟨h1, h2.imp id ?_⟩
  rintro ⟨b, cur, e, q1, q2, q3, q4, q5⟩
  exact ⟨b, cur, e, q1, q2, q3, (hs b q2 q3).trans q4, q5⟩
theorem RowW.grow {w : World} {a : Option Addr} {n c m lo hi lo' hi' : Nat} {L : List Value} (h : RowW w a n c m L lo hi) (h1 : lo' ≤ lo) (h2 : hi ≤ hi') : RowW w a n c m L lo' hi' := by
  obtain ⟨q, h3⟩ := h
  refine ⟨q, h3.imp id ?_⟩
  rintro ⟨b, cur, e, q1, q2, q3, q4⟩
  exact ⟨b, cur, e, q1, by omega, by omega, q4⟩
theorem RowW.sl {g : G} {a : Option Addr} {n c m lo hi : Nat} {L : List Value} (h : RowW g.w a n c m L lo hi) (hc : CleanG g lo hi) : Sl g m a n c L := by
  obtain ⟨h1, h2⟩ := h
  rcases h2 with ⟨rfl, rfl, rfl⟩ | ⟨b, cur, e, rfl, q2, q3, q4, q5, q6, q7, q8⟩
  · exact ⟨h1, Nat.le_refl _, Nat.zero_le _, fun _ => rfl, fun _ hh => by cases hh⟩
  · refine ⟨h1, q5, q6, fun hh => (by cases hh), ?_⟩
    rintro ad hh i v hv
    cases hh
    rw [add_row, Nat.zero_add]
    obtain ⟨c1, c2⟩ := hc b q2 q3
    refine ⟨?_, c1, c2 i⟩
    have hlt : i < n * m := by
      have := (List.getElem?_eq_some_iff.1 hv).1
      rwa [h1] at this
    unfold World.cell?
    simp only [q4]
    rw [← q8, List.getElem?_take, if_pos hlt] at hv
    simpa using hv
end Go.Vc
namespace Go.Syn
open Go Go.Vc
mutual
def sepT (w : World) : Sy → List Value → Nat → Nat → Prop
  | .mk d l, r, lo, hi => ∃ na nn nc a n c L md, r = [.int .i64 d.op, .int .i64 d.n, .string (bstr d.s), .slice na nn nc, .slice a n c] ∧ lo ≤ md ∧ md ≤ hi ∧ RowW w na nn nc 1 (d.names.map fun x => .string (bstr x)) lo md ∧ RowW w a n c 5 L md hi ∧ l.length = n ∧ sepL w (blkOf a) l L md hi
def sepL (w : World) (p : Nat → Prop) : List Sy → List Value → Nat → Nat → Prop
  | [], L, _, _ => L = []
  | t :: r, L, lo, hi => ∃ cs L' x y, L = cs ++ L' ∧ lo ≤ x ∧ x ≤ y ∧ y ≤ hi ∧ (∀ z, p z → ¬ (x ≤ z ∧ z < y)) ∧ sepT w t cs x y ∧ sepL w p r L' y hi
end
end Go.Syn
