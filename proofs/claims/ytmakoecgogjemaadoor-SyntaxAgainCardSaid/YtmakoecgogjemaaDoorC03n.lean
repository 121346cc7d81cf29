/- Syntax trees: the reference's Formed, and that it says what the program's formed says. -/
import Derived.Test.YtmakoecgogjemaaDoorC03m
set_option linter.unusedVariables false
namespace Go.Proofs.YtmakoecgogjemaaDoor
open Go Go.Vc Go.RowKit Go.Syn

theorem cat_rng {op k : Int} (h : catN op = k) : (k = 1 → 1 ≤ op ∧ op ≤ 5) ∧ (k = 2 → 11 ≤ op ∧ op ≤ 15) ∧ (k = 3 → 21 ≤ op ∧ op ≤ 34) ∧ (k = 4 → 41 ≤ op ∧ op ≤ 50) ∧ (k = 5 → 61 ≤ op ∧ op ≤ 66) ∧ (k = 6 → 71 ≤ op ∧ op ≤ 74) ∧ (k = 7 → 81 ≤ op ∧ op ≤ 88) := by
  rw [catR] at h
  repeat' (split at h)
  all_goals omega
theorem no_shape {d : SynD} {l : List Sy} (h : catN d.op = 0) (h1 : d.op ≠ 30) (h2 : d.op ≠ 45) : ¬ shapeP d l := by
  have hr : ¬ (1 ≤ d.op ∧ d.op ≤ 5) ∧ ¬ (11 ≤ d.op ∧ d.op ≤ 15) ∧ ¬ (21 ≤ d.op ∧ d.op ≤ 34) ∧ ¬ (41 ≤ d.op ∧ d.op ≤ 50) ∧ ¬ (61 ≤ d.op ∧ d.op ≤ 66) ∧ ¬ (71 ≤ d.op ∧ d.op ≤ 74) ∧ ¬ (81 ≤ d.op ∧ d.op ≤ 88) := by
    rw [catR] at h
    repeat' (split at h)
    all_goals omega
  intro hs
  unfold shapeP at hs
  generalize d.op = o at *
  simp only [List.mem_cons, List.not_mem_nil, or_false] at hs
  repeat (rw [if_neg] at hs; case hnc => omega)
  exact hs
theorem low_nil : ¬ lowerP [] := fun h => by have := h.1.1; simp at this
/-- A type's name, and what is expected of it. -/
theorem node_name {d : SynD} {l : List Sy} {w : Bool} (h : d.op = 43) (hn : nodeP d l w) : w = true ↔ d.s = [] := by
  rcases ((node_43 h).1 hn).2.1 with ⟨a, b⟩ | ⟨a, b⟩
  · exact ⟨fun _ => b, fun _ => a⟩
  · rw [a]
    exact ⟨fun hh => (by cases hh), fun hh => absurd (hh ▸ b) low_nil⟩
/-- form. -/
theorem k67 (t : Sy) (w : Bool) {na : Option Addr} {nn nc : Nat} {a : Option Addr} {n c : Nat} {g : G} (h : SynI g t na nn nc a n c) (hs : t.dat.s.length ≤ 1048576) :
    CallsP Tryd.prog 67 #[synV t na nn nc a n c, .bool w] g fun v _ => v = .bool (tf (nodeP t.dat t.kids w)) := by
  refine call67 _ _ _ _ _ _ _ _ _ w g _ ?_
  unfold F67
  refine fun g1 m1 => (k14 t.dat.op g1).mono ?_
  rintro v g2 m2 rfl
  have m02 := m1.trans m2
  refine ⟨_, rfl, ?_⟩
  have hc := cat_rng (op := t.dat.op) rfl
  intro J hJ
  have key : (t.dat.op = 43 → (w = true ↔ t.dat.s = [])) → J g2 := by
    intro hw
    have e : ∀ {k : FuncId} {g' : G}, CallsP Tryd.prog k #[synV t na nn nc a n c] g' (fun v _ => v = .bool (tf (nodeP t.dat t.kids w))) → CallsP Tryd.prog k #[synV t na nn nc a n c] g' fun v g4 => ∃ x : Bool, v = .bool x ∧ ∀ g5, Ex g4 g5 → Value.bool x = .bool (tf (nodeP t.dat t.kids w)) := fun hh => endC hh
    have hI := h.exm m02
    refine hJ g2 (ifEq (fun q => e (k77 t w hI hs (hc.1 q))) (fun q1 => ifEq (fun q => e (k78 t w hI hs (hc.2.1 q))) (fun q2 => ?_)))
    intro J1 hJ1
    refine ifEq (fun q => e (k79 t w hI hs (hc.2.2.1 q))) (fun q3 => ifEq (fun q => e (k79 t w hI hs (by omega))) (fun q4 => hJ1 g2 ?_))
    intro J2 hJ2
    refine ifEq (fun q => e (k80 t w hI hs (hc.2.2.2.1 q) hw)) (fun q5 => ifEq (fun q => e (k80 t w hI hs (by omega) hw)) (fun q6 => hJ2 g2 ?_))
    intro J3 hJ3
    refine ifEq (fun q => e (k81 t w hI hs (.inl (hc.2.2.2.2.1 q)))) (fun q7 => ifEq (fun q => e (k81 t w hI hs (.inr (hc.2.2.2.2.2.1 q)))) (fun q8 => hJ3 g2 ?_))
    refine ifEq (fun q => e (k82 t w hI hs (hc.2.2.2.2.2.2 q))) (fun q9 g13 _ => vF (fun hh => ?_))
    have := catN_range t.dat.op
    exact no_shape (by omega) q4 q6 hh.2.1
  refine ifEq (fun q => ?_) (fun q => key (fun hh => absurd hh q))
  rw [show bs [] = bstr [] from rfl, strEq_bstr]
  refine ifF (fun hb => ?_) (fun hb => ?_)
  · refine fun g26 _ => vF (fun hh => ?_)
    have := node_name q hh
    have e2 : tf (t.dat.s = []) = w := by
      cases w with
      | true => exact tf_of (this.1 rfl)
      | false => exact tf_no (fun e => by have := this.2 e; cases this)
    rw [e2] at hb
    simp at hb
  · refine key (fun _ => ?_)
    have e2 : tf (t.dat.s = []) = w := by simpa using hb
    rw [← e2]
    exact tf_true ▸ Iff.rfl
mutual
def nodesR : Sy → Bool → Prop
  | .mk d l, w => nodeP d l w ∧ nodesL l (decide (d.op = 74)) 0
def nodesL : List Sy → Bool → Nat → Prop
  | [], _, _ => True
  | t :: r, b, i => nodesR t (b && decide (i = 1)) ∧ nodesL r b (i + 1)
end
theorem nodesL_iff {b : Bool} : ∀ {l : List Sy} {i : Nat}, nodesL l b i ↔ ∀ j x, l[j]? = some x → nodesR x (b && decide (i + j = 1))
  | [], i => by simp [nodesL]
  | t :: r, i => by
    show nodesR t _ ∧ nodesL r b (i + 1) ↔ _
    rw [nodesL_iff]
    constructor
    · rintro ⟨h1, h2⟩ j x hx
      cases j with
      | zero =>
        simp only [List.getElem?_cons_zero, Option.some.injEq] at hx
        subst hx
        exact h1
      | succ j =>
        have := h2 j x (by simpa using hx)
        rwa [show i + 1 + j = i + (j + 1) by omega] at this
    · intro hh
      refine ⟨hh 0 t rfl, fun j x hx => ?_⟩
      have := hh (j + 1) x (by simpa using hx)
      rwa [show i + (j + 1) = i + 1 + j by omega] at this
theorem nodes_iff {t : Sy} {w : Bool} : nodesR t w ↔ nodeP t.dat t.kids w ∧ ∀ j x, t.kids[j]? = some x → nodesR x (decide (t.dat.op = 74) && decide (j = 1)) := by
  obtain ⟨d, l⟩ := t
  show _ ∧ nodesL l _ 0 ↔ _
  rw [nodesL_iff]
  simp only [Nat.zero_add]
  exact Iff.rfl
/-- nodes. -/
theorem k53 : ∀ (t : Sy) (w : Bool), okT t → ∀ {na : Option Addr} {nn nc : Nat} {a : Option Addr} {n c : Nat} {g : G}, SynI g t na nn nc a n c → CallsP Tryd.prog 53 #[synV t na nn nc a n c, .bool w] g fun v _ => v = .bool (tf (nodesR t w)) := by
  intro t
  induction t using Tr.ind with
  | h d l ih =>
    intro w hok na nn nc a n c g h
    refine call53 _ _ _ _ _ _ _ _ _ w g _ ?_
    obtain ⟨hokD, hokL⟩ := okT_iff.1 hok
    have hK : SlE synE g a n c l := h.kids
    have hl := hK.len
    have hcp := hK.le
    have hmx := hK.cap
    unfold maxLen at hmx
    unfold F53
    rw [tf_iff nodes_iff]
    refine fun g1 m1 => (k67 (.mk d l) w (h.exm m1) hokD.1).mono ?_
    rintro v g2 m2 rfl
    have m02 := m1.trans m2
    refine ⟨_, rfl, ifPn (fun q g3 _ => vF (fun hh => q hh.1)) (fun q => ?_)⟩
    refine ⟨fun m i g' => ∃ j : Nat, i = ((j : Nat) : Int) ∧ j + m = n ∧ ∀ k x, k < j → l[k]? = some x → nodesR x (decide (d.op = 74) && decide (k = 1)), ⟨n, 0, rfl, by omega, fun k x hk => by omega⟩, ?_⟩
    rintro m i g4 le ⟨j, rfl, hj, hall⟩
    refine ifLt (fun hlt g5 m5 => ⟨⟨by omega, by omega⟩, ?_⟩) (fun hge g10 _ => vT ⟨q, fun k x hx => hall k x (by have : k < l.length := (List.getElem?_eq_some_iff.1 hx).1; omega) hx⟩)
    have gj := List.getElem?_eq_getElem (show j < l.length by omega)
    generalize l[j] = y at gj
    have hin := List.mem_of_getElem? gj
    have go : nodesR y (decide (d.op = 74) && decide (j = 1)) → InI64 (((j : Nat) : Int) + 1) ∧ ∃ m1 : Nat, m1 < m ∧ ∃ j2 : Nat, ((j : Nat) : Int) + 1 = ((j2 : Nat) : Int) ∧ j2 + m1 = n ∧ ∀ k x, k < j2 → l[k]? = some x → nodesR x (decide (d.op = 74) && decide (k = 1)) := by
      intro hy
      refine ⟨i64 (by omega) (by omega), m - 1, by omega, j + 1, by omega, by omega, fun k x hk hx => ?_⟩
      by_cases e : k = j
      · subst e
        rw [gj] at hx
        cases hx
        exact hy
      · exact hall k x (by omega) hx
    refine rdT (((hK.exm m02).mono le).exm m5) j rfl gj (fun na' nn' nc' ka kn kc hy => ?_)
    show ifB (eqI d.op 74) _ _
    refine ifEq (fun q1 => ?_) (fun q1 => ?_)
    · have e : eqI ((j : Nat) : Int) 1 = (decide (d.op = 74) && decide (j = 1)) := by
        by_cases hj1 : j = 1
        · rw [eqI_true.mpr (by omega)]; simp [q1, hj1]
        · rw [eqI_false.mpr (by omega)]; simp [hj1]
      rw [e]
      refine (ih y hin _ (hokL y hin) hy).mono ?_
      rintro v g6 _ rfl
      exact ⟨_, rfl, ifPn (fun q2 g7 _ => vF (fun hh => q2 (hh.2 j y gj))) go⟩
    · have e : false = (decide (d.op = 74) && decide (j = 1)) := by simp [q1]
      refine (ih y hin false (hokL y hin) hy).mono ?_
      rintro v g6 _ rfl
      refine ⟨_, rfl, ifPn (fun q2 g7 _ => vF (fun hh => q2 ?_)) (fun q2 => go ?_)⟩
      · rw [e]; exact hh.2 j y gj
      · rw [← e]; exact q2
theorem ite_iff' {c a b a' b' : Prop} [Decidable c] (h1 : c → (a ↔ a')) (h2 : ¬ c → (b ↔ b')) : (if c then a else b) ↔ (if c then a' else b') := by
  split
  · exact h1 (by assumption)
  · exact h2 (by assumption)
theorem own_same {d : SynD} {w w' : Bool} (h : d.op = 43 → w = w') : ownP d w ↔ ownP d w' := by
  unfold ownP
  refine and_congr_right fun _ => ?_
  by_cases q : d.op = 43
  · rw [h q]
  · unfold ownB
    repeat' (refine ite_iff' (fun _ => ?_) (fun _ => ?_))
    all_goals first | exact Iff.rfl | omega
theorem depthL_le {l : List Sy} {k : Nat} : depthL l ≤ k ↔ ∀ x ∈ l, depth x ≤ k := by
  induction l with
  | nil => simp [depthL]
  | cons x r ih =>
    show max (depth x) (depthL r) ≤ k ↔ _
    simp only [List.mem_cons, forall_eq_or_imp, ← ih]
    omega
/-- The two ways to say that all nodes are right. -/
theorem walk_nodes : ∀ (t : Sy) (w w' : Bool) (n : Nat), (t.dat.op = 43 → w = w') → 1 ≤ n → (walkP t w n ↔ nodesR t w' ∧ n - 1 + depth t ≤ 400) := by
  intro t
  induction t using Tr.ind with
  | h d l ih =>
    intro w w' n hw hn
    rw [walk_iff, nodes_iff, own_same hw]
    show n ≤ 400 ∧ ownP d w' ∧ shapeP d l ∧ (∀ x ∈ l, walkP x (decide (d.op = 74)) (n + 1)) ↔ (nodeP d l w' ∧ ∀ j x, l[j]? = some x → nodesR x (decide (d.op = 74) && decide (j = 1))) ∧ n - 1 + (depthL l + 1) ≤ 400
    have dep : (n ≤ 400 ∧ ∀ x ∈ l, n + depth x ≤ 400) ↔ n - 1 + (depthL l + 1) ≤ 400 := by
      have := depthL_le (l := l) (k := 400 - n)
      constructor
      · rintro ⟨h1, h2⟩
        have := this.2 (fun x hx => by have := h2 x hx; omega)
        omega
      · intro hh
        refine ⟨by omega, fun x hx => ?_⟩
        have := this.1 (by omega) x hx
        omega
    rw [← dep]
    by_cases q : d.op = 74
    · simp only [q, decide_true, Bool.true_and]
      -- the parts of a node 'with'
      have two : shapeP d l → ∃ x y, l = [x, y] ∧ x.dat.op ≠ 43 ∧ y.dat.op = 43 := by
        intro hs
        unfold shapeP at hs
        simp [q] at hs
        obtain ⟨h1, h2, h3⟩ := hs
        match l, h1 with
        | [x, y], _ =>
          refine ⟨x, y, rfl, fun e => ?_, ?_⟩
          · simp only [List.getElem?_cons_zero, Option.getD_some, e, belP] at h2
            revert h2
            decide
          · exact by simpa [onlyP] using h3
      constructor
      · rintro ⟨h1, h2, h3, h4⟩
        obtain ⟨x, y, rfl, hx, hy⟩ := two h3
        have wx := (ih x (by simp) true false (n + 1) (fun e => absurd e hx) (by omega)).1 (h4 x (by simp))
        have wy := (ih y (by simp) true true (n + 1) (fun _ => rfl) (by omega)).1 (h4 y (by simp))
        have hnm := (node_name hy (nodes_iff.1 wy.1).1).1 rfl
        refine ⟨⟨⟨h2, h3, fun _ => hnm⟩, fun j z hz => ?_⟩, h1, fun z hz => ?_⟩
        · match j, hz with
          | 0, hz => cases hz; exact wx.1
          | 1, hz => cases hz; exact wy.1
        · simp only [List.mem_cons, List.not_mem_nil, or_false] at hz
          rcases hz with rfl | rfl
          · have := wx.2; omega
          · have := wy.2; omega
      · rintro ⟨⟨⟨h2, h3, h5⟩, h4⟩, h1, h6⟩
        obtain ⟨x, y, rfl, hx, hy⟩ := two h3
        refine ⟨h1, h2, h3, fun z hz => ?_⟩
        simp only [List.mem_cons, List.not_mem_nil, or_false] at hz
        have d1 := h6 x (by simp)
        have d2 := h6 y (by simp)
        rcases hz with rfl | rfl
        · exact (ih z (by simp) true false (n + 1) (fun e => absurd e hx) (by omega)).2 ⟨h4 0 z rfl, by omega⟩
        · exact (ih z (by simp) true true (n + 1) (fun _ => rfl) (by omega)).2 ⟨h4 1 z rfl, by omega⟩
    · simp only [q, decide_false, Bool.false_and]
      have e : ∀ x ∈ l, (walkP x false (n + 1) ↔ nodesR x false ∧ n + depth x ≤ 400) := fun x hx => by
        have := ih x hx false false (n + 1) (fun _ => rfl) (by omega)
        rwa [show n + 1 - 1 = n by omega] at this
      constructor
      · rintro ⟨h1, h2, h3, h4⟩
        exact ⟨⟨⟨h2, h3, fun hh => absurd hh q⟩, fun j x hx => ((e x (List.mem_of_getElem? hx)).1 (h4 x (List.mem_of_getElem? hx))).1⟩, h1, fun x hx => ((e x hx).1 (h4 x hx)).2⟩
      · rintro ⟨⟨⟨h2, h3, _⟩, h4⟩, h1, h6⟩
        refine ⟨h1, h2, h3, fun x hx => (e x hx).2 ⟨?_, h6 x hx⟩⟩
        obtain ⟨j, hj⟩ := List.getElem?_of_mem hx
        exact h4 j x hj
theorem formed_iff (t : Sy) : formedP t ↔ depth t ≤ 400 ∧ nodesR t false := by
  unfold formedP
  rw [walk_nodes t false false 1 (fun _ => rfl) (Nat.le_refl _)]
  constructor
  · rintro ⟨h1, h2⟩; exact ⟨by omega, h1⟩
  · rintro ⟨h1, h2⟩; exact ⟨h2, by omega⟩
/-- Formed. -/
theorem k34 (t : Sy) (hok : okT t) (hsz : size t ≤ 20000) {na : Option Addr} {nn nc : Nat} {a : Option Addr} {n c : Nat} {g : G} (h : SynI g t na nn nc a n c) :
    CallsP Tryd.prog 34 #[synV t na nn nc a n c] g fun v _ => v = .bool (tf (formedP t)) := by
  refine call34 _ _ _ _ _ _ _ _ _ g _ ?_
  unfold F34
  rw [tf_iff (formed_iff t)]
  refine fun g1 m1 => (k23 t (by omega) (h.exm m1)).mono ?_
  rintro v g2 m2 rfl
  refine ⟨_, rfl, ifLe (fun _ => (k24 t (by omega) (h.exm (m1.trans m2))).mono ?_) (fun q => by omega)⟩
  rintro v g3 m3 rfl
  refine ⟨_, rfl, ifLe (fun q => (k53 t false hok (h.exm ((m1.trans m2).trans m3))).mono ?_) (fun q g6 _ => vFl (by omega))⟩
  rintro v g4 _ rfl
  exact ⟨_, rfl, fun g5 _ => by rw [tf_andT (show depth t ≤ 400 by omega)]⟩
/-- Valid, Any. -/
theorem k12 (cat : Int) (t : Sy) (hok : okT t) (hsz : size t ≤ 20000) {na : Option Addr} {nn nc : Nat} {a : Option Addr} {n c : Nat} {g : G} (h : SynI g t na nn nc a n c) :
    CallsP Tryd.prog 12 #[.int .i64 cat, synV t na nn nc a n c] g fun v _ => v = .bool (tf (validP cat t)) := by
  refine call12 cat _ _ _ _ _ _ _ _ _ g _ ?_
  unfold F12 validP
  have hr := catN_range t.dat.op
  have no : ¬ (1 ≤ cat ∧ cat ≤ 7) → ¬ belP cat t.dat.op := by
    intro hn hb
    rcases hb with ⟨e, _⟩ | ⟨e, e2⟩
    · omega
    · omega
  refine ifLe (fun q1 => ifLe (fun q2 g1 m1 => (k33 t.dat.op cat (by omega) g1).mono ?_) (fun q2 g6 _ => vFl (no (by omega)))) (fun q1 g7 _ => vFl (no (by omega)))
  rintro v g2 m2 rfl
  refine ⟨_, rfl, ifP (fun q => (k34 t hok hsz (h.exm (m1.trans m2))).mono ?_) (fun q g5 _ => vFl q)⟩
  rintro v g3 _ rfl
  exact ⟨_, rfl, fun g4 _ => by rw [tf_andT q]⟩
theorem k20 (t : Sy) (hok : okT t) (hsz : size t ≤ 20000) {na : Option Addr} {nn nc : Nat} {a : Option Addr} {n c : Nat} {g : G} (h : SynI g t na nn nc a n c) :
    CallsP Tryd.prog 20 #[synV t na nn nc a n c] g fun v _ => v = .bool (tf (catN t.dat.op ≠ 0 ∧ formedP t)) := by
  refine call20 _ _ _ _ _ _ _ _ _ g _ ?_
  unfold F20
  refine fun g1 m1 => (k14 t.dat.op g1).mono ?_
  rintro v g2 m2 rfl
  refine ⟨_, rfl, ifNe (fun q => (k34 t hok hsz (h.exm (m1.trans m2))).mono ?_) (fun q g5 _ => vF (fun hh => hh.1 q))⟩
  rintro v g3 _ rfl
  exact ⟨_, rfl, fun g4 _ => by rw [tf_andT q]⟩
end Go.Proofs.YtmakoecgogjemaaDoor
