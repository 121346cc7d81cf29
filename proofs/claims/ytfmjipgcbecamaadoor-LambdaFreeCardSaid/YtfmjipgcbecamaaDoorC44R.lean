/- Joined texts. -/
import Derived.Test.YtfmjipgcbecamaaDoorC44H
import Derived.Test.YtfmjipgcbecamaaDoorLval
/- The reference's Arity, node, count, Valid, Size. -/
set_option linter.unusedVariables false
namespace Go.Proofs.YtfmjipgcbecamaaDoor
open Go Go.Vc Go.RowKit Go.Syn Go.Lam Go.Sort

def arityR (n : Int) : Nat := if 1 ≤ n ∧ n ≤ 14 then arityN n else 0
/-- Arity. -/
theorem k68 (n : Int) (g : G) : CallsP Tryd.prog 68 #[.int .i64 n] g fun v _ => v = .int .i64 ((arityR n : Nat) : Int) := by
  refine call68 n g _ ?_
  unfold F68
  intro J hJ
  have one : ∀ b, b = true → (n = 6 ∨ n = 11 ∨ n = 13 ∨ n = 14) → J b g := fun b hb e => hJ b g (ifT (fun _ g2 _ => by unfold arityR arityN; rw [if_pos (by omega), if_pos e]; rfl) (fun h => by rw [hb] at h; cases h))
  refine ifEq (fun e => one _ rfl (by omega)) (fun e6 => ifEq (fun e => one _ rfl (by omega)) (fun e11 => ifEq (fun e => one _ rfl (by omega)) (fun e13 => ?_)))
  by_cases e14 : n = 14
  · exact one _ (by simp [e14]) (by omega)
  refine hJ _ g (ifT (fun h => absurd (by simpa using h) e14) (fun _ => ?_))
  intro J1 hJ1
  have two : ∀ b, b = true → (1 ≤ n ∧ n ≤ 14) → J1 b g := fun b hb e => hJ1 b g (ifT (fun _ g2 _ => by unfold arityR arityN; rw [if_pos e, if_neg (by omega)]; rfl) (fun h => by rw [hb] at h; cases h))
  refine ifEq (fun e => two _ rfl (by omega)) (fun e1 => ifEq (fun e => two _ rfl (by omega)) (fun e2 => ifEq (fun e => two _ rfl (by omega)) (fun e3 => ifEq (fun e => two _ rfl (by omega)) (fun e4 => ifEq (fun e => two _ rfl (by omega)) (fun e5 => ifEq (fun e => two _ rfl (by omega)) (fun e7 => ifEq (fun e => two _ rfl (by omega)) (fun e8 => ifEq (fun e => two _ rfl (by omega)) (fun e9 => ifEq (fun e => two _ rfl (by omega)) (fun e10 => ?_)))))))))
  by_cases e12 : n = 12
  · exact two _ (by simp [e12]) (by omega)
  exact hJ1 _ g (ifT (fun h => absurd (by simpa using h) e12) (fun _ g2 _ => by unfold arityR; rw [if_neg (by omega)]; rfl))
theorem arityN_pos (n : Int) : 1 ≤ arityN n := by unfold arityN; split <;> omega
/-- The reference's node. -/
theorem k49 {x : E} (hn : x.dat.n ≤ 9223372036854775807) {a : Option Addr} {n c : Nat} {g : G} (hI : SlE expE g a n c x.kids) : CallsP Tryd.prog 49 #[expV x a n c] g fun v _ => v = .bool (tf (nodeP x.dat x.kids)) := by
  refine call49 _ _ _ _ _ _ g _ ?_
  have hl := hI.len
  unfold F49
  intro g1 m1 J hJ
  have main : (x.dat.op = 3 ∨ x.dat.s = []) → J g1 := by
    intro hs
    refine hJ g1 ?_
    have no : ∀ (g' : G), ¬ nodeP x.dat x.kids → (fun (v : Value) (_ : G) => v = .bool (tf (nodeP x.dat x.kids))) (.bool false) g' := fun g' h => vF h
    refine ifEq (fun e => ?_) (fun e1 => ?_)
    · have hk := node1 (l := x.kids) hs e
      refine ifLe (fun q g2 _ => ?_) (fun q g3 _ => no g3 (fun h => by have := hk.1 h; omega))
      show Value.bool (eqI _ _) = _
      rw [tf_eq]
      exact vP ⟨fun h => hk.2 ⟨by omega, q, hn⟩, fun h => by have := hk.1 h; omega⟩
    refine ifEq (fun e => ?_) (fun e2 => ?_)
    · have hk := node2 (l := x.kids) hs e
      refine ifLe (fun q => ifLe (fun q2 g2 _ => ?_) (fun q2 g3 _ => no g3 (fun h => by have := hk.1 h; omega))) (fun q g3 _ => no g3 (fun h => by have := hk.1 h; omega))
      show Value.bool (eqI _ _) = _
      rw [tf_eq]
      exact vP ⟨fun h => hk.2 ⟨by omega, q, q2⟩, fun h => by have := hk.1 h; omega⟩
    refine ifEq (fun e => ?_) (fun e3 => ?_)
    · have hk := node3 (l := x.kids) hs e
      refine ifEq (fun q => ifEq (fun q2 g2 _ => ?_) (fun q2 g3 _ => no g3 (fun h => by have := hk.1 h; omega))) (fun q g3 _ => no g3 (fun h => by have := hk.1 h; omega))
      show Value.bool (leI _ _) = _
      rw [tf_le, bstr_size]
      exact vP ⟨fun h => hk.2 ⟨by omega, q, by omega⟩, fun h => by have := (hk.1 h).2.2; omega⟩
    have hs0 : x.dat.s = [] := hs.resolve_left e3
    refine ifEq (fun e => ?_) (fun e4 => ?_)
    · have hk := node4 (l := x.kids) hs e
      refine ifEq (fun q g2 _ => ?_) (fun q g3 _ => no g3 (fun h => by have := hk.1 h; omega))
      show Value.bool (eqI _ _) = _
      rw [tf_eq]
      exact vP ⟨fun h => hk.2 ⟨by omega, q⟩, fun h => by have := hk.1 h; omega⟩
    intro J1 hJ1
    have two : ∀ b, b = true → (nodeP x.dat x.kids ↔ x.kids.length = 2 ∧ x.dat.n = 0) → J1 b g1 := by
      intro b hb hk
      refine hJ1 b g1 (ifT (fun _ => ?_) (fun e => by rw [hb] at e; cases e))
      refine ifEq (fun q g2 _ => ?_) (fun q g3 _ => no g3 (fun h => by have := hk.1 h; omega))
      show Value.bool (eqI _ _) = _
      rw [tf_eq]
      exact vP ⟨fun h => hk.2 ⟨by omega, q⟩, fun h => by have := hk.1 h; omega⟩
    refine ifEq (fun e => two _ rfl (node5 hs e)) (fun e5 => ?_)
    by_cases e11 : x.dat.op = 11
    · exact two _ (by simp [e11]) (node11 hs e11)
    refine hJ1 _ g1 (ifT (fun h => absurd (by simpa using h) e11) (fun _ => ?_))
    refine ifEq (fun e => ?_) (fun e6 => ?_)
    · have hk := node6 (l := x.kids) hs e
      refine ifEq (fun q g2 _ => ?_) (fun q g3 _ => no g3 (fun h => by have := hk.1 h; omega))
      show Value.bool (leI _ _) = _
      rw [tf_le]
      exact vP ⟨fun h => hk.2 ⟨by omega, q⟩, fun h => by have := hk.1 h; omega⟩
    intro J2 hJ2
    have one : ∀ b, b = true → (nodeP x.dat x.kids ↔ x.kids.length = 1 ∧ 0 ≤ x.dat.n ∧ x.dat.n ≤ 999) → J2 b g1 := by
      intro b hb hk
      refine hJ2 b g1 (ifT (fun _ => ?_) (fun e => by rw [hb] at e; cases e))
      refine ifLe (fun q => ifLt (fun q2 g2 _ => ?_) (fun q2 g3 _ => no g3 (fun h => by have := hk.1 h; omega))) (fun q g3 _ => no g3 (fun h => by have := hk.1 h; omega))
      show Value.bool (eqI _ _) = _
      rw [tf_eq]
      exact vP ⟨fun h => hk.2 ⟨by omega, q, by omega⟩, fun h => by have := hk.1 h; omega⟩
    refine ifEq (fun e => one _ rfl (node7 hs e)) (fun e7 => ?_)
    by_cases e8 : x.dat.op = 8
    · exact one _ (by simp [e8]) (node8 hs e8)
    refine hJ2 _ g1 (ifT (fun h => absurd (by simpa using h) e8) (fun _ => ?_))
    refine ifEq (fun e => ?_) (fun e9 => ?_)
    · have hk := node9 (l := x.kids) hs e
      refine ifEq (fun q => ifLe (fun q2 g2 _ => ?_) (fun q2 g3 _ => no g3 (fun h => by have := hk.1 h; omega))) (fun q g3 _ => no g3 (fun h => by have := hk.1 h; omega))
      show Value.bool (leI _ _) = _
      rw [tf_le]
      exact vP ⟨fun h => hk.2 ⟨by omega, by omega, q⟩, fun h => by have := hk.1 h; omega⟩
    refine ifEq (fun e => ?_) (fun e10 => ?_)
    · have hk := node10 (l := x.kids) hs e
      refine ifEq (fun q2 => ifEq (fun q => ⟨⟨by omega, by omega⟩, ?_⟩) (fun q g3 _ => no g3 (fun h => by have := (hk.1 h).1; omega))) (fun q2 g3 _ => no g3 (fun h => q2 (hk.1 h).2.1))
      have gy := List.getElem?_eq_getElem (show 0 < x.kids.length by omega)
      generalize x.kids[0] = y at gy
      refine rdEL (hI.exm m1) 0 rfl gy (fun ad ka kn kc _ hy hly => ⟨_, (live0 (hly 0 _ rfl)).1, fun g24 _ => ?_⟩)
      show Value.bool (eqI _ _) = _
      rw [tf_eq]
      refine vP ⟨fun h => hk.2 ⟨by omega, q2, y, gy, h⟩, fun h => ?_⟩
      obtain ⟨_, _, y', gy', h4⟩ := hk.1 h
      rw [gy] at gy'
      cases gy'
      exact h4
    refine ifEq (fun e => ?_) (fun e12 => ?_)
    · have hk := node12 (l := x.kids) hs e
      have hp := arityN_pos x.dat.n
      refine (k68 _ g1).mono ?_
      rintro v g4 _ rfl
      refine ⟨_, rfl, ifLt (fun q => (k68 _ g4).mono ?_) (fun q g3 _ => no g3 (fun h => ?_))⟩
      · rintro v g5 _ rfl
        refine ⟨_, rfl, fun g6 _ => ?_⟩
        have hr : 1 ≤ x.dat.n ∧ x.dat.n ≤ 14 := by
          unfold arityR at q
          split at q
          · assumption
          · omega
        show Value.bool (eqI _ _) = _
        rw [tf_eq]
        unfold arityR
        rw [if_pos hr]
        exact vP ⟨fun h => hk.2 ⟨hr.1, hr.2, by omega⟩, fun h => by have := (hk.1 h).2.2; omega⟩
      · have h2 := hk.1 h
        unfold arityR at q
        rw [if_pos ⟨h2.1, h2.2.1⟩] at q
        omega
    refine ifEq (fun e => ?_) (fun e13 => ?_)
    · have hk := node13 (l := x.kids) hs e
      refine ifLe (fun q => ifLe (fun q2 g2 _ => ?_) (fun q2 g3 _ => no g3 (fun h => by have := hk.1 h; omega))) (fun q g3 _ => no g3 (fun h => by have := hk.1 h; omega))
      show Value.bool (eqI _ _) = _
      rw [tf_eq]
      exact vP ⟨fun h => hk.2 ⟨by omega, q, q2⟩, fun h => by have := hk.1 h; omega⟩
    exact fun g34 _ => no g34 (nodeNo (by omega))
  clear hJ
  refine ifNe (fun e => ?_) (fun e => main (.inl e))
  have es : (strEq (bstr x.dat.s) (bs []) = true) = (x.dat.s = []) := by
    rw [strEq_true, show bs [] = bstr [] from rfl, bstr_inj]
  refine ifF (fun q g35 _ => vF ?_) (fun q => main (.inr (by rw [← es]; exact q)))
  rintro ⟨h1, _⟩
  rcases h1 with h1 | h1
  · exact e h1
  · rw [← es] at h1; rw [h1] at q; cases q
/-- count. -/
def cntP (left depth : Nat) (x : E) : Prop := formE x ∧ sizeE x ≤ left ∧ depthE x ≤ depth
theorem k35 (x : E) : ∀ {left depth : Nat} {a : Option Addr} {n c : Nat} {g : G}, i64E x → left ≤ 20000 → depth ≤ 400 → SlE expE g a n c x.kids →
    CallsP Tryd.prog 35 #[expV x a n c, .int .i64 ((left : Nat) : Int), .int .i64 ((depth : Nat) : Int)] g fun v _ => ∃ r : Int, v = .int .i64 r ∧ (cntP left depth x → r = ((left : Nat) : Int) - ((sizeE x : Nat) : Int)) ∧ (¬ cntP left depth x → r = -1) := by
  induction x using Tr.ind with
  | h d l ih =>
    intro left depth a n c g hx hle hd hI
    obtain ⟨hn, hkx⟩ := i64E_un hx
    refine call35 _ _ _ _ _ _ _ _ g _ ?_
    have hl : l.length = n := hI.len
    have hcap := hI.cap
    have hnc := hI.le
    unfold maxLen at hcap
    unfold F35
    have no : ∀ (g' : G), ¬ cntP left depth (.mk d l) → (fun (v : Value) (_ : G) => ∃ r : Int, v = .int .i64 r ∧ (cntP left depth (.mk d l) → r = ((left : Nat) : Int) - ((sizeE (.mk d l) : Nat) : Int)) ∧ (¬ cntP left depth (.mk d l) → r = -1)) (.int .i64 (-1)) g' := fun g' h => ⟨-1, rfl, fun hh => absurd hh h, fun _ => rfl⟩
    intro J hJ
    refine ifLt (fun q g7 _ => no g7 (fun h => by have := h.2.1; have := sizeE_pos (.mk d l); omega)) (fun q1 => ifLt (fun q g8 _ => no g8 (fun h => by have := h.2.2; simp [depthE] at this; omega)) (fun q2 g9 m9 => (k49 hn (hI.exm m9)).mono ?_))
    rintro v g10 m10 rfl
    refine ⟨_, rfl, ifPn (fun q g11 _ => no g11 (fun h => q (formE_un h.1).1)) (fun q3 => hJ g10 ?_)⟩
    clear hJ
    refine ⟨i64 (by omega) (by omega), fun m r i g' => ∃ j : Nat, i = ((j : Nat) : Int) ∧ j + m = n ∧ ((r = ((left : Nat) : Int) - 1 - ((sizeEL (l.take j) : Nat) : Int) ∧ 1 + sizeEL (l.take j) ≤ left ∧ ∀ y ∈ l.take j, formE y ∧ depthE y + 1 ≤ depth) ∨ (r = -1 ∧ ¬ cntP left depth (.mk d l))), ⟨n, 0, rfl, by omega, .inl ⟨by simp [sizeEL], by simp [sizeEL]; omega, by simp⟩⟩, ?_⟩
    rintro m r i g2 le ⟨j, rfl, hj, hor⟩
    intro J1 hJ1
    refine ifLt (fun q => ifLe (fun q0 => hJ1 g2 ⟨⟨by omega, by omega⟩, ?_⟩) (fun q0 g5 _ => ?_)) (fun q g6 _ => ?_)
    · have gj := List.getElem?_eq_getElem (show j < l.length by omega)
      generalize l[j] = y at gj
      have hy := List.mem_of_getElem? gj
      have htk := sizeEL_take gj
      obtain ⟨hr, hsz, hall⟩ : r = ((left : Nat) : Int) - 1 - ((sizeEL (l.take j) : Nat) : Int) ∧ 1 + sizeEL (l.take j) ≤ left ∧ ∀ y ∈ l.take j, formE y ∧ depthE y + 1 ≤ depth := by
        rcases hor with h | h
        · exact h
        · omega
      refine rdE ((hI.exm (m9.trans m10)).mono le) j rfl gj (fun ka kn kc hk => ⟨i64 (by omega) (by omega), ?_⟩)
      have hcall := ih y hy (left := left - (1 + sizeEL (l.take j))) (depth := depth - 1) (hkx y hy) (by omega) (by omega) hk
      rw [show ((left - (1 + sizeEL (l.take j)) : Nat) : Int) = r by omega, show ((depth - 1 : Nat) : Int) = ((depth : Nat) : Int) - 1 by omega] at hcall
      refine hcall.mono ?_
      rintro v g4 _ ⟨r2, rfl, hk1, hk2⟩
      refine ⟨_, rfl, i64 (by omega) (by omega), m - 1, by omega, j + 1, by omega, by omega, ?_⟩
      by_cases hc : cntP (left - (1 + sizeEL (l.take j))) (depth - 1) y
      · have hk3 := hk1 hc
        obtain ⟨c1, c2, c3⟩ := hc
        exact .inl ⟨by omega, by omega, (all_take gj (fun y => formE y ∧ depthE y + 1 ≤ depth)).2 ⟨hall, c1, by omega⟩⟩
      · refine .inr ⟨hk2 hc, fun h => hc ⟨(formE_un h.1).2 y hy, ?_, ?_⟩⟩
        · have h1 := h.2.1
          have h2 := sizeEL_le l (j + 1)
          simp only [sizeE] at h1
          omega
        · have h1 := h.2.2
          have h2 := depthE_mem hy
          simp only [depthE] at h1
          omega
    · rcases hor with ⟨h1, h2, _⟩ | ⟨h1, h2⟩
      · omega
      · rw [h1]; exact no g5 h2
    · rcases hor with ⟨h1, hsz, hall⟩ | ⟨h1, h2⟩
      · rw [List.take_of_length_le (by omega)] at hsz hall h1
        have hm : cntP left depth (.mk d l) := by
          refine ⟨formE_iff.2 ⟨q3, fun y hy => (hall y hy).1⟩, by simp only [sizeE]; omega, ?_⟩
          simp only [depthE]
          have key : ∀ r : List E, (∀ y ∈ r, depthE y + 1 ≤ depth) → depthEL r + 1 ≤ depth := by
            intro r
            induction r with
            | nil => intro _; simp [depthEL]; omega
            | cons z r ihr =>
              intro h
              have h1 := h z (by simp)
              have h2 := ihr (fun y hy => h y (by simp [hy]))
              simp only [depthEL]
              omega
          exact key l (fun y hy => (hall y hy).2)
        exact ⟨r, rfl, fun _ => by simp only [sizeE]; omega, fun h => absurd hm h⟩
      · rw [h1]; exact no g6 h2
/-- The reference's Valid. -/
theorem k12 {x : E} (hx : i64E x) {a : Option Addr} {n c : Nat} {g : G} (hI : SlE expE g a n c x.kids) : CallsP Tryd.prog 12 #[expV x a n c] g fun v _ => v = .bool (tf (validE x)) := by
  refine call12 _ _ _ _ _ _ g _ ?_
  unfold F12
  refine fun g1 m1 => (k35 x (left := 20000) (depth := 400) hx (Nat.le_refl _) (Nat.le_refl _) (hI.exm m1)).mono ?_
  rintro v g2 _ ⟨r, rfl, h1, h2⟩
  refine ⟨_, rfl, fun g3 _ => ?_⟩
  rw [tf_le]
  refine vP ⟨fun h => ?_, fun h => ?_⟩
  · by_cases q : cntP 20000 400 x
    · exact q
    · have := h2 q; omega
  · have := h1 h
    have := h.2.1
    omega
end Go.Proofs.YtfmjipgcbecamaaDoor
/- The reference's free variables, forms of values, equality. -/
set_option linter.unusedVariables false
namespace Go.Proofs.YtfmjipgcbecamaaDoor
open Go Go.Vc Go.RowKit Go.Syn Go.Lam Go.Sort

theorem asc_unique {F H : List Int} (hF : F.Pairwise (· < ·)) (hH : H.Pairwise (· < ·)) (h : ∀ s, s ∈ F ↔ s ∈ H) : F = H := by
  induction F generalizing H with
  | nil =>
    cases H with
    | nil => rfl
    | cons b r => exact absurd ((h b).2 (by simp)) (by simp)
  | cons a F ih =>
    cases H with
    | nil => exact absurd ((h a).1 (by simp)) (by simp)
    | cons b H =>
      obtain ⟨h1, h2⟩ := List.pairwise_cons.1 hF
      obtain ⟨h3, h4⟩ := List.pairwise_cons.1 hH
      have ab : a = b := by
        rcases List.mem_cons.1 ((h a).1 (by simp)) with e | e
        · exact e
        · rcases List.mem_cons.1 ((h b).2 (by simp)) with e2 | e2
          · exact e2.symm
          · have := h3 a e; have := h1 b e2; omega
      subst ab
      rw [ih h2 h4 (fun s => ?_)]
      have hs := h s
      simp only [List.mem_cons] at hs
      constructor
      · intro hm
        rcases hs.1 (.inr hm) with e | e
        · have := h1 s hm; omega
        · exact e
      · intro hm
        rcases hs.2 (.inr hm) with e | e
        · have := h3 s hm; omega
        · exact e
/-! ### Forms of values -/
end Go.Proofs.YtfmjipgcbecamaaDoor
