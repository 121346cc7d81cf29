/- Syntax trees that lie in blocks of their own: a write at a place of such a tree. -/
import Derived.Test.YtmakoecgogjemaaDoorSpath
import Derived.Test.YtmakoecgogjemaaDoorVfb
set_option linter.unusedVariables false
namespace Go.Vc
open Go

/-! ### A call at a state of which some blocks are frozen -/
def G.frozP (g : G) (p : Nat → Prop) : G := ⟨g.w, g.X, fun x i => g.D x i ∧ ¬ p x, g.hX, fun x i h => g.hD x i h.1⟩
theorem Ex.frozP {g g' : G} (h : Ex g g') (p : Nat → Prop) : Ex (g.frozP p) (g'.frozP p) :=
  ⟨h.size, h.x, h.same, fun x hx hn i => ⟨fun k => ⟨(h.d x hx hn i).1 k.1, k.2⟩, fun k => ⟨(h.d x hx hn i).2 k.1, k.2⟩⟩⟩
theorem frozP_le (g : G) (p : Nat → Prop) : Le g (g.frozP p) := ⟨Nat.le_refl _, fun a v h => ⟨h.1, h.2.1, fun k => h.2.2 k.1⟩, fun x m n h => ⟨h.1, h.2.1, fun k => h.2.2 k.1⟩, fun x o ⟨ty, fr, h1, h2, h3⟩ => ⟨ty, fr, h1, h2, fun i k => h3 i k.1⟩⟩
theorem CallsP.thawP {P : Program} {k : FuncId} {args : Array Value} {g : G} {p : Nat → Prop} (hb : ∀ b, p b → b < g.w.heap.size) {Q Q' : Value → G → Prop} (h : CallsP P k args (g.frozP p) Q) (hQ : ∀ v g1 g', Q v g1 → Ex g g' → Ex g1 (g'.frozP p) → g'.w = g1.w → (∀ b, ¬ p b → ∀ i, g'.D b i ↔ g1.D b i) → Q' v g') : CallsP P k args g Q' := by
  refine Calls.mono h ?_
  rintro e w' ⟨v, g1, rfl, rfl, hs, hq⟩
  have hsz : g.w.heap.size ≤ g1.w.heap.size := hs.le.size
  let g' : G := ⟨g1.w, g1.X, fun x i => g1.D x i ∨ (p x ∧ g.D x i), g1.hX, fun x i hh => by
    rcases hh with hh | ⟨_, hh⟩
    · exact g1.hD x i hh
    · exact Nat.lt_of_lt_of_le (g.hD x i hh) hsz⟩
  have hst : Stp g.size nobody g g' := by
    refine ⟨⟨hsz, ?_, ?_, ?_⟩, hs.x, hs.keepX, hs.os, hs.tape, hs.output, hs.same, ?_⟩
    · rintro a v ⟨h1, h2, h3⟩
      obtain ⟨k1, k2, k3⟩ := hs.le.cell a v ⟨h1, h2, fun k => h3 k.1⟩
      refine ⟨k1, k2, ?_⟩
      rintro (k | ⟨_, k⟩)
      · exact k3 k
      · exact h3 k
    · rintro x m n ⟨h1, h2, h3⟩
      obtain ⟨k1, k2, k3⟩ := hs.le.obj x m n ⟨h1, h2, fun k => h3 k.1⟩
      refine ⟨k1, k2, ?_⟩
      rintro (k | ⟨_, k⟩)
      · exact k3 k
      · exact h3 k
    · rintro x o ⟨ty, fr, h1, h2, h3⟩
      obtain ⟨ty2, fr2, k1, k2, k3⟩ := hs.le.blk x o ⟨ty, fr, h1, h2, fun i k => h3 i k.1⟩
      refine ⟨ty2, fr2, k1, k2, fun i => ?_⟩
      rintro (k | ⟨_, k⟩)
      · exact k3 i k
      · exact h3 i k
    · intro x hx hn i
      have := hs.d x hx hn i
      show (g1.D x i ∨ (p x ∧ g.D x i)) ↔ _
      rw [this]
      show ((g.D x i ∧ ¬ p x) ∨ (p x ∧ g.D x i)) ↔ _
      by_cases e : p x <;> simp [e]
  refine ⟨v, g', rfl, rfl, hst, hQ v g1 g' hq hst.ex ?_ rfl ?_⟩
  · refine ⟨Nat.le_refl _, fun x _ hx => hx, fun x _ _ => rfl, fun x hx hn i => ?_⟩
    show ((g1.D x i ∨ (p x ∧ g.D x i)) ∧ ¬ p x) ↔ g1.D x i
    constructor
    · rintro ⟨k | ⟨e, _⟩, hne⟩
      · exact k
      · exact absurd e hne
    · intro k
      refine ⟨.inl k, fun hp => ?_⟩
      exact ((hs.d x (hb x hp) (fun h => h) i).1 k).2 hp
  · intro b hp i
    show (g1.D b i ∨ (p b ∧ g.D b i)) ↔ g1.D b i
    simp [hp]
/-- No block between is private, or mutable. -/
def CleanG (g : G) (lo hi : Nat) : Prop := ∀ z, lo ≤ z → z < hi → ¬ g.X z ∧ ∀ i, ¬ g.D z i
/-- A row that lies in a block between. -/
def RowW (w : World) (a : Option Addr) (n c m : Nat) (L : List Value) (lo hi : Nat) : Prop :=
  L.length = n * m ∧ ((a = none ∧ n = 0 ∧ c = 0) ∨ ∃ b cur e, a = some ⟨b, 0, none⟩ ∧ lo ≤ b ∧ b < hi ∧ w.heap[b]? = some (.cells cur e (0, 0)) ∧ n ≤ c ∧ c ≤ maxLen ∧ cur.size = c * m ∧ cur.toList.take (n * m) = L)
theorem RowW.same {w w' : World} {a : Option Addr} {n c m lo hi : Nat} {L : List Value} (h : RowW w a n c m L lo hi) (hs : ∀ z, lo ≤ z → z < hi → w'.heap[z]? = w.heap[z]?) : RowW w' a n c m L lo hi := by
  obtain ⟨h1, h2⟩ := h
  refine ⟨h1, h2.imp id ?_⟩
  rintro ⟨b, cur, e, q1, q2, q3, q4, q5⟩
  exact ⟨b, cur, e, q1, q2, q3, (hs b q2 q3).trans q4, q5⟩
theorem RowW.grow {w : World} {a : Option Addr} {n c m lo hi lo' hi' : Nat} {L : List Value} (h : RowW w a n c m L lo hi) (h1 : lo' ≤ lo) (h2 : hi ≤ hi') : RowW w a n c m L lo' hi' := by
  obtain ⟨q, h3⟩ := h
  refine ⟨q, h3.imp id ?_⟩
  rintro ⟨b, cur, e, q1, q2, q3, q4⟩
  exact ⟨b, cur, e, q1, by omega, by omega, q4⟩
theorem RowW.sl {g : G} {a : Option Addr} {n c m lo hi : Nat} {L : List Value} (h : RowW g.w a n c m L lo hi) (hc : CleanG g lo hi) : Sl g m a n c L := by
  obtain ⟨h1, h2⟩ := h
  rcases h2 with ⟨rfl, rfl, rfl⟩ | ⟨b, cur, e, rfl, q2, q3, q4, q5, q6, q7, q8⟩
  · exact ⟨h1, Nat.le_refl _, Nat.zero_le _, fun _ => rfl, fun _ hh => by cases hh⟩
  · refine ⟨h1, q5, q6, fun hh => (by cases hh), ?_⟩
    rintro ad hh i v hv
    cases hh
    rw [add_row, Nat.zero_add]
    obtain ⟨c1, c2⟩ := hc b q2 q3
    refine ⟨?_, c1, c2 i⟩
    have hlt : i < n * m := by
      have := (List.getElem?_eq_some_iff.1 hv).1
      rwa [h1] at this
    unfold World.cell?
    simp only [q4]
    rw [← q8, List.getElem?_take, if_pos hlt] at hv
    simpa using hv
theorem OwnG.rowW {g : G} {B : Nat} {e : TypeId} {m : Nat} {a : Option Addr} {l c : Nat} {L : List Value} (h : OwnG g B e m a l c L) : RowW g.w a l c m L B g.w.heap.size := by
  refine ⟨h.len, h.row.imp id ?_⟩
  rintro ⟨b, cur, h1, h2, h3, h4, h5, h6, h7, _⟩
  exact ⟨b, cur, e, h1, h2, heap_lt h3, h3, h4, h5, h6, h7⟩
end Go.Vc
namespace Go.Syn
open Go Go.Vc
mutual
/-- The cells r show the tree; its rows lie in the blocks between lo and hi, each part's apart from all others. -/
def sepT (w : World) : Sy → List Value → Nat → Nat → Prop
  | .mk d l, r, lo, hi => ∃ na nn nc a n c L md, r = [.int .i64 d.op, .int .i64 d.n, .string (bstr d.s), .slice na nn nc, .slice a n c] ∧ lo ≤ md ∧ md ≤ hi ∧ RowW w na nn nc 1 (d.names.map fun x => .string (bstr x)) lo md ∧ RowW w a n c 5 L md hi ∧ l.length = n ∧ sepL w (blkOf a) l L md hi
def sepL (w : World) (p : Nat → Prop) : List Sy → List Value → Nat → Nat → Prop
  | [], L, _, _ => L = []
  | t :: r, L, lo, hi => ∃ cs L' x y, L = cs ++ L' ∧ lo ≤ x ∧ x ≤ y ∧ y ≤ hi ∧ (∀ z, p z → ¬ (x ≤ z ∧ z < y)) ∧ sepT w t cs x y ∧ sepL w p r L' y hi
end
theorem sepT_eq {w : World} {t : Sy} {r : List Value} {lo hi : Nat} : sepT w t r lo hi ↔ ∃ na nn nc a n c L md, r = [.int .i64 t.dat.op, .int .i64 t.dat.n, .string (bstr t.dat.s), .slice na nn nc, .slice a n c] ∧ lo ≤ md ∧ md ≤ hi ∧ RowW w na nn nc 1 (t.dat.names.map fun x => .string (bstr x)) lo md ∧ RowW w a n c 5 L md hi ∧ t.kids.length = n ∧ sepL w (blkOf a) t.kids L md hi := by
  obtain ⟨d, l⟩ := t
  exact Iff.rfl
theorem sepT_len {w : World} {t : Sy} {r : List Value} {lo hi : Nat} (h : sepT w t r lo hi) : r.length = 5 := by
  obtain ⟨_, _, _, _, _, _, _, _, rfl, _⟩ := sepT_eq.1 h
  rfl
theorem sepT_same {w w' : World} : ∀ (t : Sy) {r : List Value} {lo hi : Nat}, sepT w t r lo hi → (∀ z, lo ≤ z → z < hi → w'.heap[z]? = w.heap[z]?) → sepT w' t r lo hi := by
  intro t
  induction t using Tr.ind with
  | h d l ih =>
    intro r lo hi h hs
    obtain ⟨na, nn, nc, a, n, c, L, md, rfl, h1, h2, h3, h4, h5, h6⟩ := h
    refine ⟨na, nn, nc, a, n, c, L, md, rfl, h1, h2, h3.same (fun z q1 q2 => hs z q1 (by omega)), h4.same (fun z q1 q2 => hs z (by omega) q2), h5, ?_⟩
    have key : ∀ (k : List Sy), (∀ t ∈ k, t ∈ l) → ∀ (L : List Value) (x : Nat), lo ≤ x → sepL w (blkOf a) k L x hi → sepL w' (blkOf a) k L x hi := by
      intro k
      induction k with
      | nil => intro _ L x _ h; exact h
      | cons t r ihk =>
        intro hm L x hx h
        obtain ⟨cs, L', x', y', rfl, q1, q2, q3, q4, q5, q6⟩ := h
        exact ⟨cs, L', x', y', rfl, q1, q2, q3, q4, ih t (hm t (by simp)) q5 (fun z e1 e2 => hs z (by omega) (by omega)), ihk (fun t ht => hm t (by simp [ht])) L' y' (by omega) q6⟩
    exact key l (fun _ h => h) L md (by omega) h6
theorem sepT_syn {g : G} : ∀ (t : Sy) {r : List Value} {lo hi : Nat}, sepT g.w t r lo hi → CleanG g lo hi → synE.rep g r t := by
  intro t
  induction t using Tr.ind with
  | h d l ih =>
    intro r lo hi h hc
    obtain ⟨na, nn, nc, a, n, c, L, md, rfl, h1, h2, h3, h4, h5, h6⟩ := h
    have key : ∀ (k : List Sy), (∀ t ∈ k, t ∈ l) → ∀ (L : List Value) (x : Nat), lo ≤ x → sepL g.w (blkOf a) k L x hi → Rws synE g L k := by
      intro k
      induction k with
      | nil => intro _ L x _ h; cases h; exact Rws.nil
      | cons t r ihk =>
        intro hm L x hx h
        obtain ⟨cs, L', x', y', rfl, q1, q2, q3, q4, q5, q6⟩ := h
        exact Rws.cons (ih t (hm t (by simp)) q5 (fun z e1 e2 => hc z (by omega) (by omega))) (ihk (fun t ht => hm t (by simp [ht])) L' y' (by omega) q6)
    have hN : SlE strE g na nn nc d.names := by
      refine ⟨⟨_, h3.sl (fun z e1 e2 => hc z e1 (by omega)), ⟨d.names.map fun x => [.string (bstr x)], ?_, ?_⟩⟩, by have := h3.1; simpa using this⟩
      · generalize d.names = K
        induction K with
        | nil => rfl
        | cons x r ih => simp [ih]
      · generalize d.names = K
        induction K with
        | nil => exact .nil
        | cons x r ih => exact .cons rfl ih
    have hL : SlE synE g a n c l := ⟨⟨L, h4.sl (fun z e1 e2 => hc z (by omega) e2), key l (fun _ h => h) L md (by omega) h6⟩, h5⟩
    exact SynI.rep (t := .mk d l) ⟨hN, hL⟩
/-- A part more. -/
theorem sepL_snoc {w : World} {p : Nat → Prop} : ∀ {l : List Sy} {L : List Value} {lo hi : Nat} {t : Sy} {cs : List Value} {x y : Nat}, sepL w p l L lo hi → lo ≤ hi → sepT w t cs x y → hi ≤ x → x ≤ y → (∀ z, p z → ¬ (x ≤ z ∧ z < y)) → ∀ {hi' : Nat}, y ≤ hi' → sepL w p (l ++ [t]) (L ++ cs) lo hi'
  | [], L, lo, hi, t, cs, x, y, h, hlh, ht, h1, h2, hp, hi', h3 => by
    cases h
    exact ⟨cs, [], x, y, by simp, by omega, h2, h3, hp, ht, rfl⟩
  | u :: r, L, lo, hi, t, cs, x, y, h, hlh, ht, h1, h2, hp, hi', h3 => by
    obtain ⟨cs0, L', x', y', rfl, q1, q2, q3, q4, q5, q6⟩ := h
    exact ⟨cs0, L' ++ cs, x', y', by simp, q1, q2, by omega, q4, q5, sepL_snoc q6 (by omega) ht h1 h2 hp h3⟩
theorem sepL_to {w w' : World} {p q : Nat → Prop} : ∀ {l : List Sy} {L : List Value} {lo hi hi' : Nat}, sepL w p l L lo hi → hi ≤ hi' → (∀ z, lo ≤ z → z < hi → q z → p z) → (∀ z, lo ≤ z → z < hi → ¬ p z → w'.heap[z]? = w.heap[z]?) → sepL w' q l L lo hi'
  | [], L, lo, hi, hi', h, _, _, _ => h
  | u :: r, L, lo, hi, hi', h, h1, h2, h3 => by
    obtain ⟨cs0, L', x', y', rfl, q1, q2, q3, q4, q5, q6⟩ := h
    refine ⟨cs0, L', x', y', rfl, q1, q2, by omega, fun z hz hh => q4 z (h2 z (by omega) (by omega) hz) hh, sepT_same u q5 (fun z e1 e2 => h3 z (by omega) (by omega) (fun hp => q4 z hp ⟨e1, e2⟩)), sepL_to q6 h1 (fun z e1 e2 => h2 z (by omega) e2) (fun z e1 e2 => h3 z (by omega) e2)⟩
/-- One part is another. -/
theorem sepL_at {w : World} {p : Nat → Prop} : ∀ {l : List Sy} {L : List Value} {lo hi : Nat}, sepL w p l L lo hi → ∀ {i : Nat} {u : Sy}, l[i]? = some u → ∃ A cs C x y, L = A ++ (cs ++ C) ∧ A.length = i * 5 ∧ lo ≤ x ∧ x ≤ y ∧ y ≤ hi ∧ (∀ z, p z → ¬ (x ≤ z ∧ z < y)) ∧ sepT w u cs x y ∧
    ∀ (g' : G) (cs' : List Value) (u' : Sy), (∀ z, lo ≤ z → z < hi → ¬ p z → ¬ (x ≤ z ∧ z < y) → g'.w.heap[z]? = w.heap[z]?) → CleanG g' lo hi → synE.rep g' cs' u' → Rws synE g' (A ++ (cs' ++ C)) (l.set i u')
  | [], L, lo, hi, h, i, u, hu => by simp at hu
  | t :: r, L, lo, hi, h, i, u, hu => by
    obtain ⟨cs0, L', x', y', rfl, q1, q2, q3, q4, q5, q6⟩ := h
    cases i with
    | zero =>
      cases hu
      refine ⟨[], cs0, L', x', y', rfl, by simp, q1, q2, q3, q4, q5, ?_⟩
      intro g' cs' u' hs hc hr
      have h7 : sepL g'.w p r L' y' hi := sepL_to q6 (Nat.le_refl _) (fun _ _ _ h => h) (fun z e1 e2 hp => hs z (by omega) e2 hp (fun hh => by omega))
      have key : ∀ (k : List Sy) (L : List Value) (x : Nat), lo ≤ x → sepL g'.w p k L x hi → Rws synE g' L k := by
        intro k
        induction k with
        | nil => intro L x _ h; cases h; exact Rws.nil
        | cons t r ihk =>
          intro L x hx h
          obtain ⟨cs, L', x', y', rfl, q1, q2, q3, q4, q5, q6⟩ := h
          exact Rws.cons (sepT_syn t q5 (fun z e1 e2 => hc z (by omega) (by omega))) (ihk L' y' (by omega) q6)
      show Rws synE g' (cs' ++ L') (u' :: r)
      exact Rws.cons hr (key r L' y' (by omega) h7)
    | succ i =>
      obtain ⟨A, cs, C, x, y, rfl, hA, e1, e2, e3, e4, e5, e6⟩ := sepL_at q6 (i := i) (u := u) (by simpa using hu)
      refine ⟨cs0 ++ A, cs, C, x, y, by simp, by rw [List.length_append, sepT_len q5, hA]; omega, by omega, e2, e3, e4, e5, ?_⟩
      intro g' cs' u' hs hc hr
      have h0 := sepT_syn (g := g') t (sepT_same t q5 (fun z f1 f2 => hs z (by omega) (by omega) (fun hp => q4 z hp ⟨f1, f2⟩) (fun hh => by omega))) (fun z f1 f2 => hc z (by omega) (by omega))
      have h1 := e6 g' cs' u' (fun z f1 f2 => hs z (by omega) f2) (fun z f1 f2 => hc z (by omega) f2) hr
      rw [List.append_assoc]
      exact Rws.cons h0 h1
/-- A step down. -/
theorem sepT_at {w : World} {t : Sy} {r : List Value} {lo hi : Nat} (h : sepT w t r lo hi) {i : Nat} {u : Sy} (hu : t.kids[i]? = some u) :
    ∃ na nn nc b c e A cs C x y, r = [.int .i64 t.dat.op, .int .i64 t.dat.n, .string (bstr t.dat.s), .slice na nn nc, .slice (some ⟨b, 0, none⟩) t.kids.length c] ∧ w.heap[b]? = some (.cells ⟨A ++ (cs ++ C)⟩ e (0, 0)) ∧ A.length = i * 5 ∧ lo ≤ b ∧ b < hi ∧ lo ≤ x ∧ x ≤ y ∧ y ≤ hi ∧ ¬ (x ≤ b ∧ b < y) ∧ sepT w u cs x y ∧
    ∀ (g' : G) (cs' : List Value) (u' : Sy), cs'.length = 5 → g'.w.heap[b]? = some (.cells ⟨A ++ (cs' ++ C)⟩ e (0, 0)) → (∀ z, lo ≤ z → z < hi → z ≠ b → ¬ (x ≤ z ∧ z < y) → g'.w.heap[z]? = w.heap[z]?) → CleanG g' lo hi → synE.rep g' cs' u' → synE.rep g' r (.mk t.dat (t.kids.set i u')) := by
  obtain ⟨na, nn, nc, a, n, c, L, md, rfl, h1, h2, h3, h4, h5, h6⟩ := sepT_eq.1 h
  obtain ⟨A, cs, C, x, y, hL, hA, e1, e2, e3, e4, e5, e6⟩ := sepL_at h6 hu
  have hi5 : i < t.kids.length := (List.getElem?_eq_some_iff.1 hu).1
  obtain ⟨hl, hrow⟩ := h4
  rcases hrow with ⟨_, q, _⟩ | ⟨b, cur, e, rfl, q2, q3, q4, q5, q6, q7, q8⟩
  · omega
  have hcs := sepT_len e5
  have hcur : cur.toList = A ++ (cs ++ (C ++ cur.toList.drop (n * 5))) := by
    have := (List.take_append_drop (n * 5) cur.toList).symm
    rw [q8, hL] at this
    exact this.trans (by simp only [List.append_assoc])
  have hcur2 : cur = ⟨A ++ (cs ++ (C ++ cur.toList.drop (n * 5)))⟩ := by rw [← hcur]
  subst h5
  refine ⟨na, nn, nc, b, c, e, A, cs, C ++ cur.toList.drop (t.kids.length * 5), x, y, rfl, by rw [← hcur2]; exact q4, hA, by omega, q3, by omega, e2, e3, e4 b ⟨_, rfl, rfl⟩, e5, ?_⟩
  intro g' cs' u' hc5 hb hs hc hr
  have hrw := e6 g' cs' u' (fun z f1 f2 f3 f4 => hs z (by omega) f2 (fun hh => f3 ⟨_, rfl, hh.symm⟩) f4) (fun z f1 f2 => hc z (by omega) f2) hr
  have hlen : (A ++ (cs' ++ C)).length = t.kids.length * 5 := by
    rw [hL] at hl
    simp only [List.length_append] at hl ⊢
    omega
  have hrow' : RowW g'.w (some ⟨b, 0, none⟩) t.kids.length c 5 (A ++ (cs' ++ C)) md hi := by
    refine ⟨hlen, .inr ⟨b, _, e, rfl, q2, q3, hb, q5, q6, ?_, ?_⟩⟩
    · have := congrArg List.length hcur
      simp only [List.length_append, Array.length_toList] at this hlen ⊢
      show (A ++ (cs' ++ (C ++ _))).length = _
      simp only [List.length_append] at this hlen ⊢
      omega
    · show (A ++ (cs' ++ (C ++ _))).take _ = _
      rw [← List.append_assoc cs', ← List.append_assoc A, List.take_append_of_le_length (by omega), List.take_of_length_le (by omega)]
  have hN : RowW g'.w na nn nc 1 (t.dat.names.map fun x => .string (bstr x)) lo md := h3.same (fun z f1 f2 => hs z f1 (by omega) (by omega) (by omega))
  have hNs : SlE strE g' na nn nc t.dat.names := by
    refine ⟨⟨_, hN.sl (fun z e1 e2 => hc z e1 (by omega)), ⟨t.dat.names.map fun x => [.string (bstr x)], ?_, ?_⟩⟩, by have := hN.1; simpa using this⟩
    · generalize t.dat.names = K
      induction K with
      | nil => rfl
      | cons x r ih => simp [ih]
    · generalize t.dat.names = K
      induction K with
      | nil => exact .nil
      | cons x r ih => exact .cons rfl ih
  have hK : SlE synE g' (some ⟨b, 0, none⟩) t.kids.length c (t.kids.set i u') := ⟨⟨_, hrow'.sl (fun z e1 e2 => hc z (by omega) e2), hrw⟩, by simp⟩
  have := SynI.rep (t := .mk t.dat (t.kids.set i u')) ⟨hNs, hK⟩
  exact this
/-! ### The tree with another one at a place -/
def putT (u : Sy) : List Int → Sy → Option Sy
  | [], _ => some u
  | i :: r, t => match t.kids[i.toNat]? with
    | none => none
    | some x => if i < 0 then none else (putT u r x).map fun z => .mk t.dat (t.kids.set i.toNat z)
/-- The part at a place. -/
def getT : List Int → Sy → Option Sy
  | [], t => some t
  | i :: r, t => match t.kids[i.toNat]? with
    | none => none
    | some x => if i < 0 then none else getT r x
theorem put_none {u : Sy} {i : Int} {r : List Int} {t : Sy} (h : i < 0 ∨ ((t.kids.length : Nat) : Int) ≤ i) : putT u (i :: r) t = none := by
  unfold putT
  split
  · rfl
  · rename_i x hx
    rcases h with h | h
    · rw [if_pos h]
    · have := (List.getElem?_eq_some_iff.1 hx).1
      omega
theorem put_some {u : Sy} {i : Nat} {r : List Int} {t x : Sy} (h : t.kids[i]? = some x) : putT u (((i : Nat) : Int) :: r) t = (putT u r x).map fun z => .mk t.dat (t.kids.set i z) := by
  show (match t.kids[(((i : Nat) : Int)).toNat]? with | none => none | some x => if (((i : Nat) : Int)) < 0 then none else _) = _
  rw [Int.toNat_natCast, h]
  show (if (((i : Nat) : Int)) < 0 then none else _) = _
  rw [if_neg (by omega)]
end Go.Syn
