/- Joined texts. -/
import Derived.Test.YthlcdgpemjdgnaaC45A
import Derived.Test.YthlcdgpemjdgnaaLval
/- The reference's Arity, node, count, Valid, Size. -/
set_option linter.unusedVariables false
namespace Go.Proofs.Ythlcdgpemjdgnaa
open Go Go.Vc Go.RowKit Go.Syn Go.Lam Go.Sort

def arityR (n : Int) : Nat := if 1 ≤ n ∧ n ≤ 14 then arityN n else 0
/-- Arity. -/
theorem kk53 (n : Int) (g : G) : CallsP Try.prog 53 #[.int .i64 n] g fun v _ => v = .int .i64 ((arityR n : Nat) : Int) := by
  refine call53 n g _ ?_
  unfold F53
  intro J hJ
  have one : ∀ b, b = true → (n = 6 ∨ n = 11 ∨ n = 13 ∨ n = 14) → J b g := fun b hb e => hJ b g (ifT (fun _ g2 _ => by unfold arityR arityN; rw [if_pos (by omega), if_pos e]; rfl) (fun h => by rw [hb] at h; cases h))
  refine ifEq (fun e => one _ rfl (by omega)) (fun e6 => ifEq (fun e => one _ rfl (by omega)) (fun e11 => ifEq (fun e => one _ rfl (by omega)) (fun e13 => ?_)))
  by_cases e14 : n = 14
  · exact one _ (by simp [e14]) (by omega)
  refine hJ _ g (ifT (fun h => absurd (by simpa using h) e14) (fun _ => ?_))
  intro J1 hJ1
  have two : ∀ b, b = true → (1 ≤ n ∧ n ≤ 14) → J1 b g := fun b hb e => hJ1 b g (ifT (fun _ g2 _ => by unfold arityR arityN; rw [if_pos e, if_neg (by omega)]; rfl) (fun h => by rw [hb] at h; cases h))
  refine ifEq (fun e => two _ rfl (by omega)) (fun e1 => ifEq (fun e => two _ rfl (by omega)) (fun e2 => ifEq (fun e => two _ rfl (by omega)) (fun e3 => ifEq (fun e => two _ rfl (by omega)) (fun e4 => ifEq (fun e => two _ rfl (by omega)) (fun e5 => ifEq (fun e => two _ rfl (by omega)) (fun e7 => ifEq (fun e => two _ rfl (by omega)) (fun e8 => ifEq (fun e => two _ rfl (by omega)) (fun e9 => ifEq (fun e => two _ rfl (by omega)) (fun e10 => ?_)))))))))
  by_cases e12 : n = 12
  · exact two _ (by simp [e12]) (by omega)
  exact hJ1 _ g (ifT (fun h => absurd (by simpa using h) e12) (fun _ g2 _ => by unfold arityR; rw [if_neg (by omega)]; rfl))
theorem arityN_pos (n : Int) : 1 ≤ arityN n := by unfold arityN; split <;> omega
/-- The reference's node. -/
theorem kk39 {x : E} (hn : x.dat.n ≤ 9223372036854775807) {a : Option Addr} {n c : Nat} {g : G} (hI : SlE expE g a n c x.kids) : CallsP Try.prog 39 #[expV x a n c] g fun v _ => v = .bool (tf (nodeP x.dat x.kids)) := by
  refine call39 _ _ _ _ _ _ g _ ?_
  have hl := hI.len
  unfold F39
  intro g1 m1 J hJ
  have main : (x.dat.op = 3 ∨ x.dat.s = []) → J g1 := by
    intro hs
    refine hJ g1 ?_
    have no : ∀ (g' : G), ¬ nodeP x.dat x.kids → (fun (v : Value) (_ : G) => v = .bool (tf (nodeP x.dat x.kids))) (.bool false) g' := fun g' h => vF h
    refine ifEq (fun e => ?_) (fun e1 => ?_)
    · have hk := node1 (l := x.kids) hs e
      refine ifLe (fun q g2 _ => ?_) (fun q g3 _ => no g3 (fun h => by have := hk.1 h; omega))
      show Value.bool (eqI _ _) = _
      rw [tf_eq]
      exact vP ⟨fun h => hk.2 ⟨by omega, q, hn⟩, fun h => by have := hk.1 h; omega⟩
    refine ifEq (fun e => ?_) (fun e2 => ?_)
    · have hk := node2 (l := x.kids) hs e
      refine ifLe (fun q => ifLe (fun q2 g2 _ => ?_) (fun q2 g3 _ => no g3 (fun h => by have := hk.1 h; omega))) (fun q g3 _ => no g3 (fun h => by have := hk.1 h; omega))
      show Value.bool (eqI _ _) = _
      rw [tf_eq]
      exact vP ⟨fun h => hk.2 ⟨by omega, q, q2⟩, fun h => by have := hk.1 h; omega⟩
    refine ifEq (fun e => ?_) (fun e3 => ?_)
    · have hk := node3 (l := x.kids) hs e
      refine ifEq (fun q => ifEq (fun q2 g2 _ => ?_) (fun q2 g3 _ => no g3 (fun h => by have := hk.1 h; omega))) (fun q g3 _ => no g3 (fun h => by have := hk.1 h; omega))
      show Value.bool (leI _ _) = _
      rw [tf_le, bstr_size]
      exact vP ⟨fun h => hk.2 ⟨by omega, q, by omega⟩, fun h => by have := (hk.1 h).2.2; omega⟩
    have hs0 : x.dat.s = [] := hs.resolve_left e3
    refine ifEq (fun e => ?_) (fun e4 => ?_)
    · have hk := node4 (l := x.kids) hs e
      refine ifEq (fun q g2 _ => ?_) (fun q g3 _ => no g3 (fun h => by have := hk.1 h; omega))
      show Value.bool (eqI _ _) = _
      rw [tf_eq]
      exact vP ⟨fun h => hk.2 ⟨by omega, q⟩, fun h => by have := hk.1 h; omega⟩
    intro J1 hJ1
    have two : ∀ b, b = true → (nodeP x.dat x.kids ↔ x.kids.length = 2 ∧ x.dat.n = 0) → J1 b g1 := by
      intro b hb hk
      refine hJ1 b g1 (ifT (fun _ => ?_) (fun e => by rw [hb] at e; cases e))
      refine ifEq (fun q g2 _ => ?_) (fun q g3 _ => no g3 (fun h => by have := hk.1 h; omega))
      show Value.bool (eqI _ _) = _
      rw [tf_eq]
      exact vP ⟨fun h => hk.2 ⟨by omega, q⟩, fun h => by have := hk.1 h; omega⟩
    refine ifEq (fun e => two _ rfl (node5 hs e)) (fun e5 => ?_)
    by_cases e11 : x.dat.op = 11
    · exact two _ (by simp [e11]) (node11 hs e11)
    refine hJ1 _ g1 (ifT (fun h => absurd (by simpa using h) e11) (fun _ => ?_))
    refine ifEq (fun e => ?_) (fun e6 => ?_)
    · have hk := node6 (l := x.kids) hs e
      refine ifEq (fun q g2 _ => ?_) (fun q g3 _ => no g3 (fun h => by have := hk.1 h; omega))
      show Value.bool (leI _ _) = _
      rw [tf_le]
      exact vP ⟨fun h => hk.2 ⟨by omega, q⟩, fun h => by have := hk.1 h; omega⟩
    intro J2 hJ2
    have one : ∀ b, b = true → (nodeP x.dat x.kids ↔ x.kids.length = 1 ∧ 0 ≤ x.dat.n ∧ x.dat.n ≤ 999) → J2 b g1 := by
      intro b hb hk
      refine hJ2 b g1 (ifT (fun _ => ?_) (fun e => by rw [hb] at e; cases e))
      refine ifLe (fun q => ifLt (fun q2 g2 _ => ?_) (fun q2 g3 _ => no g3 (fun h => by have := hk.1 h; omega))) (fun q g3 _ => no g3 (fun h => by have := hk.1 h; omega))
      show Value.bool (eqI _ _) = _
      rw [tf_eq]
      exact vP ⟨fun h => hk.2 ⟨by omega, q, by omega⟩, fun h => by have := hk.1 h; omega⟩
    refine ifEq (fun e => one _ rfl (node7 hs e)) (fun e7 => ?_)
    by_cases e8 : x.dat.op = 8
    · exact one _ (by simp [e8]) (node8 hs e8)
    refine hJ2 _ g1 (ifT (fun h => absurd (by simpa using h) e8) (fun _ => ?_))
    refine ifEq (fun e => ?_) (fun e9 => ?_)
    · have hk := node9 (l := x.kids) hs e
      refine ifEq (fun q => ifLe (fun q2 g2 _ => ?_) (fun q2 g3 _ => no g3 (fun h => by have := hk.1 h; omega))) (fun q g3 _ => no g3 (fun h => by have := hk.1 h; omega))
      show Value.bool (leI _ _) = _
      rw [tf_le]
      exact vP ⟨fun h => hk.2 ⟨by omega, by omega, q⟩, fun h => by have := hk.1 h; omega⟩
    refine ifEq (fun e => ?_) (fun e10 => ?_)
    · have hk := node10 (l := x.kids) hs e
      refine ifEq (fun q2 => ifEq (fun q => ⟨⟨by omega, by omega⟩, ?_⟩) (fun q g3 _ => no g3 (fun h => by have := (hk.1 h).1; omega))) (fun q2 g3 _ => no g3 (fun h => q2 (hk.1 h).2.1))
      have gy := List.getElem?_eq_getElem (show 0 < x.kids.length by omega)
      generalize x.kids[0] = y at gy
      refine rdEL (hI.exm m1) 0 rfl gy (fun ad ka kn kc _ hy hly => ⟨_, (live0 (hly 0 _ rfl)).1, fun g24 _ => ?_⟩)
      show Value.bool (eqI _ _) = _
      rw [tf_eq]
      refine vP ⟨fun h => hk.2 ⟨by omega, q2, y, gy, h⟩, fun h => ?_⟩
      obtain ⟨_, _, y', gy', h4⟩ := hk.1 h
      rw [gy] at gy'
      cases gy'
      exact h4
    refine ifEq (fun e => ?_) (fun e12 => ?_)
    · have hk := node12 (l := x.kids) hs e
      have hp := arityN_pos x.dat.n
      refine (kk53 _ g1).mono ?_
      rintro v g4 _ rfl
      refine ⟨_, rfl, ifLt (fun q => (kk53 _ g4).mono ?_) (fun q g3 _ => no g3 (fun h => ?_))⟩
      · rintro v g5 _ rfl
        refine ⟨_, rfl, fun g6 _ => ?_⟩
        have hr : 1 ≤ x.dat.n ∧ x.dat.n ≤ 14 := by
          unfold arityR at q
          split at q
          · assumption
          · omega
        show Value.bool (eqI _ _) = _
        rw [tf_eq]
        unfold arityR
        rw [if_pos hr]
        exact vP ⟨fun h => hk.2 ⟨hr.1, hr.2, by omega⟩, fun h => by have := (hk.1 h).2.2; omega⟩
      · have h2 := hk.1 h
        unfold arityR at q
        rw [if_pos ⟨h2.1, h2.2.1⟩] at q
        omega
    refine ifEq (fun e => ?_) (fun e13 => ?_)
    · have hk := node13 (l := x.kids) hs e
      refine ifLe (fun q => ifLe (fun q2 g2 _ => ?_) (fun q2 g3 _ => no g3 (fun h => by have := hk.1 h; omega))) (fun q g3 _ => no g3 (fun h => by have := hk.1 h; omega))
      show Value.bool (eqI _ _) = _
      rw [tf_eq]
      exact vP ⟨fun h => hk.2 ⟨by omega, q, q2⟩, fun h => by have := hk.1 h; omega⟩
    exact fun g34 _ => no g34 (nodeNo (by omega))
  clear hJ
  refine ifNe (fun e => ?_) (fun e => main (.inl e))
  have es : (strEq (bstr x.dat.s) (bs []) = true) = (x.dat.s = []) := by
    rw [strEq_true, show bs [] = bstr [] from rfl, bstr_inj]
  refine ifF (fun q g35 _ => vF ?_) (fun q => main (.inr (by rw [← es]; exact q)))
  rintro ⟨h1, _⟩
  rcases h1 with h1 | h1
  · exact e h1
  · rw [← es] at h1; rw [h1] at q; cases q
/-- count. -/
def cntP (left depth : Nat) (x : E) : Prop := formE x ∧ sizeE x ≤ left ∧ depthE x ≤ depth
theorem kk22 (x : E) : ∀ {left depth : Nat} {a : Option Addr} {n c : Nat} {g : G}, i64E x → left ≤ 20000 → depth ≤ 400 → SlE expE g a n c x.kids →
    CallsP Try.prog 22 #[expV x a n c, .int .i64 ((left : Nat) : Int), .int .i64 ((depth : Nat) : Int)] g fun v _ => ∃ r : Int, v = .int .i64 r ∧ (cntP left depth x → r = ((left : Nat) : Int) - ((sizeE x : Nat) : Int)) ∧ (¬ cntP left depth x → r = -1) := by
  induction x using Tr.ind with
  | h d l ih =>
    intro left depth a n c g hx hle hd hI
    obtain ⟨hn, hkx⟩ := i64E_un hx
    refine call22 _ _ _ _ _ _ _ _ g _ ?_
    have hl : l.length = n := hI.len
    have hcap := hI.cap
    have hnc := hI.le
    unfold maxLen at hcap
    unfold F22
    have no : ∀ (g' : G), ¬ cntP left depth (.mk d l) → (fun (v : Value) (_ : G) => ∃ r : Int, v = .int .i64 r ∧ (cntP left depth (.mk d l) → r = ((left : Nat) : Int) - ((sizeE (.mk d l) : Nat) : Int)) ∧ (¬ cntP left depth (.mk d l) → r = -1)) (.int .i64 (-1)) g' := fun g' h => ⟨-1, rfl, fun hh => absurd hh h, fun _ => rfl⟩
    intro J hJ
    refine ifLt (fun q g7 _ => no g7 (fun h => by have := h.2.1; have := sizeE_pos (.mk d l); omega)) (fun q1 => ifLt (fun q g8 _ => no g8 (fun h => by have := h.2.2; simp [depthE] at this; omega)) (fun q2 g9 m9 => (kk39 hn (hI.exm m9)).mono ?_))
    rintro v g10 m10 rfl
    refine ⟨_, rfl, ifPn (fun q g11 _ => no g11 (fun h => q (formE_un h.1).1)) (fun q3 => hJ g10 ?_)⟩
    clear hJ
    refine ⟨i64 (by omega) (by omega), fun m r i g' => ∃ j : Nat, i = ((j : Nat) : Int) ∧ j + m = n ∧ ((r = ((left : Nat) : Int) - 1 - ((sizeEL (l.take j) : Nat) : Int) ∧ 1 + sizeEL (l.take j) ≤ left ∧ ∀ y ∈ l.take j, formE y ∧ depthE y + 1 ≤ depth) ∨ (r = -1 ∧ ¬ cntP left depth (.mk d l))), ⟨n, 0, rfl, by omega, .inl ⟨by simp [sizeEL], by simp [sizeEL]; omega, by simp⟩⟩, ?_⟩
    rintro m r i g2 le ⟨j, rfl, hj, hor⟩
    intro J1 hJ1
    refine ifLt (fun q => ifLe (fun q0 => hJ1 g2 ⟨⟨by omega, by omega⟩, ?_⟩) (fun q0 g5 _ => ?_)) (fun q g6 _ => ?_)
    · have gj := List.getElem?_eq_getElem (show j < l.length by omega)
      generalize l[j] = y at gj
      have hy := List.mem_of_getElem? gj
      have htk := sizeEL_take gj
      obtain ⟨hr, hsz, hall⟩ : r = ((left : Nat) : Int) - 1 - ((sizeEL (l.take j) : Nat) : Int) ∧ 1 + sizeEL (l.take j) ≤ left ∧ ∀ y ∈ l.take j, formE y ∧ depthE y + 1 ≤ depth := by
        rcases hor with h | h
        · exact h
        · omega
      refine rdE ((hI.exm (m9.trans m10)).mono le) j rfl gj (fun ka kn kc hk => ⟨i64 (by omega) (by omega), ?_⟩)
      have hcall := ih y hy (left := left - (1 + sizeEL (l.take j))) (depth := depth - 1) (hkx y hy) (by omega) (by omega) hk
      rw [show ((left - (1 + sizeEL (l.take j)) : Nat) : Int) = r by omega, show ((depth - 1 : Nat) : Int) = ((depth : Nat) : Int) - 1 by omega] at hcall
      refine hcall.mono ?_
      rintro v g4 _ ⟨r2, rfl, hk1, hk2⟩
      refine ⟨_, rfl, i64 (by omega) (by omega), m - 1, by omega, j + 1, by omega, by omega, ?_⟩
      by_cases hc : cntP (left - (1 + sizeEL (l.take j))) (depth - 1) y
      · have hk3 := hk1 hc
        obtain ⟨c1, c2, c3⟩ := hc
        exact .inl ⟨by omega, by omega, (all_take gj (fun y => formE y ∧ depthE y + 1 ≤ depth)).2 ⟨hall, c1, by omega⟩⟩
      · refine .inr ⟨hk2 hc, fun h => hc ⟨(formE_un h.1).2 y hy, ?_, ?_⟩⟩
        · have h1 := h.2.1
          have h2 := sizeEL_le l (j + 1)
          simp only [sizeE] at h1
          omega
        · have h1 := h.2.2
          have h2 := depthE_mem hy
          simp only [depthE] at h1
          omega
    · rcases hor with ⟨h1, h2, _⟩ | ⟨h1, h2⟩
      · omega
      · rw [h1]; exact no g5 h2
    · rcases hor with ⟨h1, hsz, hall⟩ | ⟨h1, h2⟩
      · rw [List.take_of_length_le (by omega)] at hsz hall h1
        have hm : cntP left depth (.mk d l) := by
          refine ⟨formE_iff.2 ⟨q3, fun y hy => (hall y hy).1⟩, by simp only [sizeE]; omega, ?_⟩
          simp only [depthE]
          have key : ∀ r : List E, (∀ y ∈ r, depthE y + 1 ≤ depth) → depthEL r + 1 ≤ depth := by
            intro r
            induction r with
            | nil => intro _; simp [depthEL]; omega
            | cons z r ihr =>
              intro h
              have h1 := h z (by simp)
              have h2 := ihr (fun y hy => h y (by simp [hy]))
              simp only [depthEL]
              omega
          exact key l (fun y hy => (hall y hy).2)
        exact ⟨r, rfl, fun _ => by simp only [sizeE]; omega, fun h => absurd hm h⟩
      · rw [h1]; exact no g6 h2
/-- The reference's Valid. -/
theorem kk8 {x : E} (hx : i64E x) {a : Option Addr} {n c : Nat} {g : G} (hI : SlE expE g a n c x.kids) : CallsP Try.prog 8 #[expV x a n c] g fun v _ => v = .bool (tf (validE x)) := by
  refine call8 _ _ _ _ _ _ g _ ?_
  unfold F8
  refine fun g1 m1 => (kk22 x (left := 20000) (depth := 400) hx (Nat.le_refl _) (Nat.le_refl _) (hI.exm m1)).mono ?_
  rintro v g2 _ ⟨r, rfl, h1, h2⟩
  refine ⟨_, rfl, fun g3 _ => ?_⟩
  rw [tf_le]
  refine vP ⟨fun h => ?_, fun h => ?_⟩
  · by_cases q : cntP 20000 400 x
    · exact q
    · have := h2 q; omega
  · have := h1 h
    have := h.2.1
    omega
end Go.Proofs.Ythlcdgpemjdgnaa
/- The reference's free variables, forms of values, equality. -/
set_option linter.unusedVariables false
namespace Go.Proofs.Ythlcdgpemjdgnaa
open Go Go.Vc Go.RowKit Go.Syn Go.Lam Go.Sort

/-- Bound. -/
theorem kk41 {x : E} {a : Option Addr} {n c : Nat} (j : Nat) (g : G) : CallsP Try.prog 41 #[expV x a n c, .int .i64 ((j : Nat) : Int)] g fun v _ => v = .int .i64 ((bndN x.dat.op j : Nat) : Int) := by
  refine call41 _ _ _ _ _ _ _ g _ ?_
  unfold F41
  intro J hJ
  have one : ∀ b g1, b = true → (x.dat.op = 4 ∨ x.dat.op = 10) → J b g1 := fun b g1 hb e => hJ b g1 (ifT (fun _ g2 _ => by rw [bnd_body e]; rfl) (fun h => by rw [hb] at h; cases h))
  refine ifEq (fun e g8 _ => one _ g8 rfl (.inl e)) (fun e4 g9 _ => ?_)
  by_cases e10 : x.dat.op = 10
  · exact one _ g9 (by simp [e10]) (.inr e10)
  refine hJ _ g9 (ifT (fun h => absurd (by rw [eqI_true] at h; exact h) e10) (fun _ => ?_))
  have more : (x.dat.op = 11 ∨ x.dat.op = 9) → ifB (ltI 0 ((j : Nat) : Int)) (∀ g3 : G, Ex g9 g3 → (fun (v : Value) (_ : G) => v = .int .i64 ((bndN x.dat.op j : Nat) : Int)) (.int .i64 (1 : Int)) g3) (∀ g3 : G, Ex g9 g3 → (fun (v : Value) (_ : G) => v = .int .i64 ((bndN x.dat.op j : Nat) : Int)) (.int .i64 (0 : Int)) g3) :=
    fun h => ifLt (fun q g3 _ => by rw [bnd_more h (by omega)]; rfl) (fun q g3 _ => by rw [show j = 0 by omega, bnd_first (by omega)]; rfl)
  refine ifEq (fun e => more (.inl e)) (fun e11 => ifEq (fun e => more (.inr e)) (fun e9 g7 _ => ?_))
  rw [bnd_none (by omega)]; rfl
theorem asc_unique {F H : List Int} (hF : F.Pairwise (· < ·)) (hH : H.Pairwise (· < ·)) (h : ∀ s, s ∈ F ↔ s ∈ H) : F = H := by
  induction F generalizing H with
  | nil =>
    cases H with
    | nil => rfl
    | cons b r => exact absurd ((h b).2 (by simp)) (by simp)
  | cons a F ih =>
    cases H with
    | nil => exact absurd ((h a).1 (by simp)) (by simp)
    | cons b H =>
      obtain ⟨h1, h2⟩ := List.pairwise_cons.1 hF
      obtain ⟨h3, h4⟩ := List.pairwise_cons.1 hH
      have ab : a = b := by
        rcases List.mem_cons.1 ((h a).1 (by simp)) with e | e
        · exact e
        · rcases List.mem_cons.1 ((h b).2 (by simp)) with e2 | e2
          · exact e2.symm
          · have := h3 a e; have := h1 b e2; omega
      subst ab
      rw [ih h2 h4 (fun s => ?_)]
      have hs := h s
      simp only [List.mem_cons] at hs
      constructor
      · intro hm
        rcases hs.1 (.inr hm) with e | e
        · have := h1 s hm; omega
        · exact e
      · intro hm
        rcases hs.2 (.inr hm) with e | e
        · have := h3 s hm; omega
        · exact e
theorem ascF_unique {x : E} {F H : List Int} (hF : AscF x F) (hH : AscF x H) : F = H := asc_unique hF.1 hH.1 (fun s => by rw [hF.2, hH.2])
theorem asc_ins {L : List Int} (hL : L.Pairwise (· < ·)) {j : Nat} {n : Int} (h1 : ∀ x ∈ L.take j, x < n) (h2 : ∀ y, L[j]? = some y → n < y) :
    (L.take j ++ [n] ++ L.drop j).Pairwise (· < ·) ∧ ∀ s, s ∈ L.take j ++ [n] ++ L.drop j ↔ s ∈ L ∨ s = n := by
  have h3 : ∀ y ∈ L.drop j, n < y := by
    intro y hy
    cases hd : L.drop j with
    | nil => rw [hd] at hy; cases hy
    | cons z r =>
      have hz : L[j]? = some z := by
        have := congrArg (fun l => l[0]?) hd
        simpa using this
      have hp : (L.drop j).Pairwise (· < ·) := List.Pairwise.sublist (List.drop_sublist j L) hL
      rw [hd] at hy hp
      obtain ⟨p1, _⟩ := List.pairwise_cons.1 hp
      rcases List.mem_cons.1 hy with rfl | hy
      · exact h2 _ hz
      · have := h2 _ hz; have := p1 y hy; omega
  refine ⟨?_, fun s => ?_⟩
  · refine List.pairwise_append.2 ⟨List.pairwise_append.2 ⟨List.Pairwise.sublist (List.take_sublist j L) hL, by simp, fun a ha b hb => ?_⟩, List.Pairwise.sublist (List.drop_sublist j L) hL, fun a ha b hb => ?_⟩
    · have : b = n := by simpa using hb
      rw [this]; exact h1 a ha
    · rcases List.mem_append.1 ha with ha | ha
      · have := h1 a ha; have := h3 b hb; omega
      · have : a = n := by simpa using ha
        rw [this]; exact h3 b hb
  · constructor
    · intro hm
      rcases List.mem_append.1 hm with hm | hm
      · rcases List.mem_append.1 hm with hm | hm
        · exact .inl (List.mem_of_mem_take hm)
        · exact .inr (by simpa using hm)
      · exact .inl (List.mem_of_mem_drop hm)
    · rintro (hm | rfl)
      · rw [← List.take_append_drop j L, List.mem_append] at hm
        rcases hm with hm | hm
        · simp [hm]
        · simp [hm]
      · simp
/-- insert. -/
theorem kk40 {L : List Int} (n : Int) {a : Option Addr} {ln lc : Nat} {g : G} (hL : L.Pairwise (· < ·)) (h : SlE intE' g a ln lc L) (hn : ln ≤ 1048576) :
    CallsP Try.prog 40 #[.slice a ln lc, .int .i64 n] g fun v g' => ∃ oa on oc F, v = .slice oa on oc ∧ SlE intE' g' oa on oc F ∧ F.Pairwise (· < ·) ∧ F.length ≤ L.length + 1 ∧ ∀ s, s ∈ F ↔ s ∈ L ∨ s = n := by
  refine call40 a ln lc _ g _ ?_
  have hl := h.len
  have hcp := h.le
  unfold F40
  intro J hJ
  have HJ : ∀ (j : Nat) (g1 : G), Le g g1 → j ≤ ln → (∀ x ∈ L.take j, x < n) → (∀ x, L[j]? = some x → n ≤ x) → J ((j : Nat) : Int) g1 := by
    intro j g1 le1 hjn h1 h2
    refine hJ _ g1 ?_
    clear hJ
    intro J1 hJ1
    have build : (∀ y, L[j]? = some y → y ≠ n) → J1 g1 := by
      intro hne
      obtain ⟨p1, p2⟩ := asc_ins hL h1 (fun y hy => by have := h2 y hy; have := hne y hy; omega)
      refine hJ1 g1 (fun g3 n3 => ⟨⟨by omega, by omega⟩, ?_⟩)
      have le3 := le1.trans n3.ex.le
      have o3 : OwnE intE' g3 g.w.heap.size 3 (some ⟨g1.w.heap.size, 0, none⟩) 0 0 ([] : List Int) := OwnE.lit (xs := []) n3 Rws.nil le1.size (by unfold maxLen; simp)
      have ht := (h.mono le3).take (hi := j) hjn
      obtain ⟨a1, c1, w1, hr1, g4, hw1, hs1, o4, st4, _⟩ := o3.app E36 31 le3.size ht (by omega) (by unfold maxLen; omega)
      rw [Int.toNat_natCast]
      refine ⟨a1, 0 + (j - 0), c1, w1, hr1, g4, hw1, hs1, fun g5 n5 => ?_⟩
      have le4 : Le g g4 := le3.trans hs1.le
      obtain ⟨a2, c2, w2, hr2, g6, hw2, hs2, o6, st6, _⟩ := o4.app1 E36 31 le4.size n5 (x := n) rfl (by omega) (by unfold maxLen; omega)
      have le6 : Le g g6 := (le4.trans n5.ex.le).trans hs2.le
      have hd := (h.mono le6).drop (lo := j) hjn
      obtain ⟨a3, c3, w3, hr3, g7, hw3, hs3, o7, st7, _⟩ := o6.app E36 31 le6.size hd (by omega) (by unfold maxLen; omega)
      refine ⟨a2, _, c2, w2, hr2, g6, hw2, hs2, ⟨by omega, by omega⟩, a3, _, c3, w3, hr3, g7, hw3, hs3, fun g8 m8 => ⟨a3, _, c3, L.take j ++ [n] ++ L.drop j, rfl, by simpa using o7.sl.exm m8, p1, ?_, p2⟩⟩
      simp only [List.length_append, List.length_take, List.length_drop, List.length_singleton]
      omega
    refine ifLt (fun q => ⟨⟨by omega, by omega⟩, ?_⟩) (fun q => build (fun y hy => by have := (List.getElem?_eq_some_iff.1 hy).1; omega))
    have gj := List.getElem?_eq_getElem (show j < L.length by omega)
    generalize L[j] = x at gj
    refine rdN (h.mono le1) j rfl gj (ifEq (fun e g12 m12 => ⟨a, ln, lc, L, rfl, h.mono (le1.trans m12.le), hL, by omega, fun s => ⟨.inl, fun hh => hh.elim id (fun e2 => by rw [e2, ← e]; exact List.mem_of_getElem? gj)⟩⟩) (fun e => build (fun y hy => by rw [gj] at hy; cases hy; exact e)))
  refine ⟨fun m i g' => ∃ j : Nat, i = ((j : Nat) : Int) ∧ j + m = ln ∧ ∀ x ∈ L.take j, x < n, ⟨ln, 0, rfl, by omega, by simp⟩, ?_⟩
  rintro m i g13 le ⟨j, rfl, hj, hall⟩
  refine ifLt (fun q => ⟨⟨by omega, by omega⟩, ?_⟩) (fun q => HJ j g13 le (by omega) hall (fun x hx => by have := (List.getElem?_eq_some_iff.1 hx).1; omega))
  have gj := List.getElem?_eq_getElem (show j < L.length by omega)
  generalize L[j] = x at gj
  refine rdN (h.mono le) j rfl gj (ifLt (fun e => ⟨i64 (by omega) (by omega), m - 1, by omega, j + 1, by omega, by omega, (all_take gj _).2 ⟨hall, e⟩⟩) (fun e => HJ j g13 le (by omega) hall (fun y hy => by rw [gj] at hy; cases hy; exact e)))
/-- free. -/
theorem kk23 (x : E) : ∀ {under : Nat} {L : List Int} {la : Option Addr} {ll lc : Nat} {a : Option Addr} {n c : Nat} {g : G}, i64E x → (x.dat.op = 1 → x.kids = []) → (∀ y : E, y = x ∨ y ∈ x.kids → formE y) → under + depthE x ≤ 1000 → L.Pairwise (· < ·) → L.length + sizeE x ≤ 20000 → SlE intE' g la ll lc L → SlE expE g a n c x.kids →
    CallsP Try.prog 23 #[expV x a n c, .int .i64 ((under : Nat) : Int), .slice la ll lc] g fun v g' => ∃ oa on oc F, v = .slice oa on oc ∧ SlE intE' g' oa on oc F ∧ F.Pairwise (· < ·) ∧ F.length ≤ L.length + sizeE x ∧ ∀ s, s ∈ F ↔ s ∈ L ∨ s ∈ frees x under := by
  induction x using Tr.ind with
  | h d l ih =>
    intro under L la ll lc a n c g hx hvk hfm hud hP hsz hL hI
    obtain ⟨hn, hkx⟩ := i64E_un hx
    refine call23 _ _ _ _ _ _ _ _ _ _ g _ ?_
    have hl : l.length = n := hI.len
    have hll := hL.len
    have hcap := hI.cap
    have hnc := hI.le
    have hss : sizeE (.mk d l) = sizeEL l + 1 := rfl
    have hdd : depthE (.mk d l) = depthEL l + 1 := rfl
    unfold maxLen at hcap
    unfold F23
    intro J hJ
    have yes : ∀ b g1, Ex g g1 → b = true → d.op = 1 → ((under : Nat) : Int) ≤ d.n → J b g1 := by
      intro b g1 m1 hb e1 e2
      have hn' : d.n ≤ 9223372036854775807 := hn
      refine hJ b g1 (ifT (fun _ => ⟨i64 (by show _ ≤ d.n - _; omega) (by show d.n - _ ≤ _; omega), (kk40 (d.n - ((under : Nat) : Int)) hP (hL.exm m1) (by omega)).mono ?_⟩) (fun h => by rw [hb] at h; cases h))
      rintro v g2 _ ⟨oa, on, oc, F, rfl, h1, h2, h3, h4⟩
      refine ⟨_, _, _, rfl, fun g3 m3 => ⟨oa, on, oc, F, rfl, h1.exm m3, h2, by omega, fun s => ?_⟩⟩
      have hl0 : l = [] := hvk e1
      subst hl0
      rw [h4, frees, if_pos ⟨e1, e2⟩]
      simp [freesL]
    have nope : ∀ b g1, Ex g g1 → b = false → ¬ (d.op = 1 ∧ ((under : Nat) : Int) ≤ d.n) → J b g1 := by
      intro b g1 m1 hb e1
      refine hJ b g1 (ifT (fun h => by rw [hb] at h; cases h) (fun _ => ?_))
      clear hJ
      refine ⟨fun m la1 ll1 lc1 i g' => ∃ (j : Nat) (F : List Int), i = ((j : Nat) : Int) ∧ j + m = n ∧ SlE intE' g' la1 ll1 lc1 F ∧ F.Pairwise (· < ·) ∧ F.length ≤ L.length + sizeEL (l.take j) ∧ ∀ s, s ∈ F ↔ s ∈ L ∨ s ∈ freesL d.op 0 (l.take j) under,
        ⟨n, 0, L, rfl, by omega, hL.exm m1, hP, by omega, fun s => by simp [freesL]⟩, ?_⟩
      rintro m la1 ll1 lc1 i g4 le ⟨j, F, rfl, hj, hF, hFP, hFl, hFm⟩
      refine ifLt (fun q g5 m5 => ⟨⟨by omega, by omega⟩, ?_⟩) (fun q g8 m8 => ?_)
      · have gj := List.getElem?_eq_getElem (show j < l.length by omega)
        generalize l[j] = y at gj
        have hy := List.mem_of_getElem? gj
        have htk := sizeEL_take gj
        have hle2 := sizeEL_le l (j + 1)
        have hdy := depthE_mem hy
        have hb1 : bndN d.op j ≤ 1 := by unfold bndN; split <;> (try split) <;> omega
        have hfy : formE y := hfm y (.inr hy)
        refine rdE ((((hI.exm m1).mono le).exm m5)) j rfl gj (fun ka kn kc hk => (kk41 (x := .mk d l) j g5).mono ?_)
        rintro v g6 m6 rfl
        have hb' : bndN (Tr.dat (Tr.mk d l)).op j = bndN d.op j := rfl
        refine ⟨_, rfl, i64 (by omega) (by omega), ?_⟩
        have hcall := ih y hy (under := under + bndN d.op j) (L := F) (hkx y hy) (fun e => ?_) (fun z hz => ?_) (by omega) hFP (by omega) ((hF.exm m5).exm m6) (hk.exm m6)
        · rw [show ((under + bndN d.op j : Nat) : Int) = ((under : Nat) : Int) + ((bndN d.op j : Nat) : Int) by omega] at hcall
          refine hcall.mono ?_
          rintro v g7 _ ⟨oa, on, oc, F2, rfl, h1, h2, h3, h4⟩
          refine ⟨_, _, _, rfl, i64 (by omega) (by omega), m - 1, by omega, j + 1, F2, by omega, by omega, h1, h2, by omega, fun s => ?_⟩
          rw [h4, hFm, freesL_take d.op gj, List.mem_append, or_assoc]
        · have := (formE_un hfy).1.2
          exact List.eq_nil_of_length_eq_zero (by omega)
        · rcases hz with rfl | hz
          · exact hfy
          · exact (formE_un hfy).2 z hz
      · rw [List.take_of_length_le (by omega)] at hFl hFm
        refine ⟨la1, ll1, lc1, F, rfl, hF.exm m8, hFP, by omega, fun s => ?_⟩
        rw [hFm, frees, if_neg e1]
        simp
    refine ifEq (fun e g9 m9 => ?_) (fun e g10 m10 => nope _ g10 m10 rfl (fun h => e h.1))
    by_cases e2 : ((under : Nat) : Int) ≤ d.n
    · exact yes _ g9 m9 (by rw [leI_true]; exact e2) e e2
    · exact nope _ g9 m9 (by rw [leI_false]; show d.n < _; omega) (fun h => e2 h.2)
/-- The reference's Free. -/
theorem kk9 {x : E} (hx : i64E x) (hv : validE x) {a : Option Addr} {n c : Nat} {g : G} (hI : SlE expE g a n c x.kids) : CallsP Try.prog 9 #[expV x a n c] g fun v g' => ∃ oa on oc F, v = .slice oa on oc ∧ SlE intE' g' oa on oc F ∧ AscF x F := by
  refine call9 _ _ _ _ _ _ g _ ?_
  unfold F9
  have h1 := hv.2.1
  have h2 := hv.2.2
  refine fun g1 m1 => (kk23 x (under := 0) (L := []) hx (fun e => ?_) (fun z hz => ?_) (by omega) List.Pairwise.nil (by simp; omega) (SlE.zero _) (hI.exm m1)).mono ?_
  · have := (formE_un hv.1).1.2
    exact List.eq_nil_of_length_eq_zero (by omega)
  · rcases hz with rfl | hz
    · exact hv.1
    · exact (formE_un hv.1).2 z hz
  rintro v g2 _ ⟨oa, on, oc, F, rfl, k1, k2, k3, k4⟩
  refine ⟨_, _, _, rfl, fun g3 m3 => ⟨oa, on, oc, F, rfl, k1.exm m3, k2, fun s => ?_⟩⟩
  rw [k4, mem_frees]
  simp
/-! ### Forms of values -/
end Go.Proofs.Ythlcdgpemjdgnaa
