/- Joined texts. -/
import Derived.Test.YtfmjipgcbecamaaDoorC44g
import Derived.Test.YtfmjipgcbecamaaDoorLnode
import Derived.Test.YtfmjipgcbecamaaDoorFnF44
import Derived.Test.YtfmjipgcbecamaaDoorLfree
import Derived.Test.YtfmjipgcbecamaaDoorVmb
import Derived.Test.YtfmjipgcbecamaaDoorVsort
import Derived.Test.YtfmjipgcbecamaaDoorFnB44
import Derived.Test.YtfmjipgcbecamaaDoorLfuel
/- node, measure, Valid, Size. -/
set_option linter.unusedVariables false
namespace Go.Proofs.YtfmjipgcbecamaaDoor
open Go Go.Vc Go.RowKit Go.Syn Go.Lam Go.Sort

theorem k74 (n : Int) (g : G) : CallsP Tryd.prog 74 #[.int .i64 n] g fun v _ => v = .int .i64 ((arityN n : Nat) : Int) := by
  refine call74 n g _ ?_
  unfold F74
  refine ifEq (fun e g1 _ => ?_) (fun e1 => ifEq (fun e g1 _ => ?_) (fun e2 => ifEq (fun e g1 _ => ?_) (fun e3 => ifEq (fun e g1 _ => ?_) (fun e4 g1 _ => ?_))))
  · unfold arityN; rw [if_pos (.inl e)]; rfl
  · unfold arityN; rw [if_pos (.inr (.inl e))]; rfl
  · unfold arityN; rw [if_pos (.inr (.inr (.inl e)))]; rfl
  · unfold arityN; rw [if_pos (.inr (.inr (.inr e)))]; rfl
  · unfold arityN; rw [if_neg (by omega)]; rfl
/-- node. -/
theorem k56 {x : E} (hn : x.dat.n ≤ 9223372036854775807) {a : Option Addr} {n c : Nat} {g : G} (hI : SlE expE g a n c x.kids) : CallsP Tryd.prog 56 #[expV x a n c] g fun v _ => v = .bool (tf (nodeP x.dat x.kids)) := by
  refine call56 _ _ _ _ _ _ g _ ?_
  have hl := hI.len
  unfold F56
  intro J hJ
  have main : ∀ g1, Ex g g1 → (x.dat.op = 3 ∨ x.dat.s = []) → J g1 := by
    intro g1 m1 hs
    refine hJ g1 ?_
    have no : ∀ (g' : G), ¬ nodeP x.dat x.kids → (fun (v : Value) (_ : G) => v = .bool (tf (nodeP x.dat x.kids))) (.bool false) g' := fun g' h => vF h
    refine ifEq (fun e => ?_) (fun e1 => ?_)
    · have hk := node1 (l := x.kids) hs e
      refine ifEq (fun q g2 _ => ?_) (fun q g3 _ => no g3 (fun h => by have := hk.1 h; omega))
      show Value.bool (leI _ _) = _
      rw [tf_le]
      exact vP ⟨fun h => hk.2 ⟨by omega, h, hn⟩, fun h => (hk.1 h).2.1⟩
    refine ifEq (fun e => ?_) (fun e2 => ?_)
    · have hk := node2 (l := x.kids) hs e
      refine ifEq (fun q => (k73 _ _ _ g1).mono ?_) (fun q g3 _ => no g3 (fun h => by have := hk.1 h; omega))
      rintro v g4 _ rfl
      exact ⟨_, rfl, fun g5 _ => vP ⟨fun h => hk.2 ⟨by omega, h.1, h.2⟩, fun h => (hk.1 h).2⟩⟩
    refine ifEq (fun e => ?_) (fun e3 => ?_)
    · have hk := node3 (l := x.kids) hs e
      refine ifEq (fun q => ifEq (fun q2 g2 _ => ?_) (fun q2 g3 _ => no g3 (fun h => by have := hk.1 h; omega))) (fun q g3 _ => no g3 (fun h => by have := hk.1 h; omega))
      show Value.bool (leI _ _) = _
      rw [tf_le, bstr_size]
      exact vP ⟨fun h => hk.2 ⟨by omega, q2, by omega⟩, fun h => by have := (hk.1 h).2.2; omega⟩
    have hs0 : x.dat.s = [] := hs.resolve_left e3
    refine ifEq (fun e => ?_) (fun e4 => ?_)
    · have hk := node4 (l := x.kids) hs e
      refine ifEq (fun q g2 _ => ?_) (fun q g3 _ => no g3 (fun h => by have := hk.1 h; omega))
      show Value.bool (eqI _ _) = _
      rw [tf_eq]
      exact vP ⟨fun h => hk.2 ⟨by omega, h⟩, fun h => (hk.1 h).2⟩
    intro J1 hJ1
    have two : ∀ g12, (nodeP x.dat x.kids ↔ x.kids.length = 2 ∧ x.dat.n = 0) → J1 true g12 := by
      intro g12 hk
      refine hJ1 true g12 (ifT (fun _ => ?_) (fun e => by cases e))
      refine ifEq (fun q g2 _ => ?_) (fun q g3 _ => no g3 (fun h => by have := hk.1 h; omega))
      show Value.bool (eqI _ _) = _
      rw [tf_eq]
      exact vP ⟨fun h => hk.2 ⟨by omega, h⟩, fun h => (hk.1 h).2⟩
    refine ifEq (fun e => two g1 (node5 hs e)) (fun e5 => ?_)
    by_cases e11 : x.dat.op = 11
    · have : eqI x.dat.op 11 = true := by simp [e11]
      rw [this]
      exact two g1 (node11 hs e11)
    have h11 : eqI x.dat.op 11 = false := by simp [e11]
    rw [h11]
    refine hJ1 false g1 (ifT (fun e => by cases e) (fun _ => ?_))
    refine ifEq (fun e => ?_) (fun e6 => ?_)
    · have hk := node6 (l := x.kids) hs e
      refine ifLe (fun q g2 _ => ?_) (fun q g3 _ => no g3 (fun h => by have := hk.1 h; omega))
      show Value.bool (eqI _ _) = _
      rw [tf_eq]
      exact vP ⟨fun h => hk.2 ⟨by omega, h⟩, fun h => (hk.1 h).2⟩
    intro J2 hJ2
    have one : ∀ g17, (nodeP x.dat x.kids ↔ x.kids.length = 1 ∧ 0 ≤ x.dat.n ∧ x.dat.n ≤ 999) → J2 true g17 := by
      intro g17 hk
      refine hJ2 true g17 (ifT (fun _ => ?_) (fun e => by cases e))
      refine ifEq (fun q => (k73 _ _ _ g17).mono ?_) (fun q g3 _ => no g3 (fun h => by have := hk.1 h; omega))
      rintro v g4 _ rfl
      exact ⟨_, rfl, fun g5 _ => vP ⟨fun h => hk.2 ⟨by omega, h.1, h.2⟩, fun h => (hk.1 h).2⟩⟩
    refine ifEq (fun e => one g1 (node7 hs e)) (fun e7 => ?_)
    by_cases e8 : x.dat.op = 8
    · have : eqI x.dat.op 8 = true := by simp [e8]
      rw [this]
      exact one g1 (node8 hs e8)
    have h8 : eqI x.dat.op 8 = false := by simp [e8]
    rw [h8]
    refine hJ2 false g1 (ifT (fun e => by cases e) (fun _ => ?_))
    refine ifEq (fun e => ?_) (fun e9 => ?_)
    · have hk := node9 (l := x.kids) hs e
      refine (k73 _ _ _ g1).mono ?_
      rintro v g4 _ rfl
      refine ⟨_, rfl, ifP (fun q g5 _ => ?_) (fun q g3 _ => no g3 (fun h => q (by have := hk.1 h; omega)))⟩
      show Value.bool (eqI _ _) = _
      rw [tf_eq]
      exact vP ⟨fun h => hk.2 ⟨by omega, by omega, h⟩, fun h => (hk.1 h).2.2⟩
    refine ifEq (fun e => ?_) (fun e10 => ?_)
    · have hk := node10 (l := x.kids) hs e
      refine ifEq (fun q => ifEq (fun q2 => ⟨⟨by omega, by omega⟩, ?_⟩) (fun q2 g3 _ => no g3 (fun h => q2 (hk.1 h).2.1))) (fun q g3 _ => no g3 (fun h => by have := (hk.1 h).1; omega))
      have gy := List.getElem?_eq_getElem (show 0 < x.kids.length by omega)
      generalize x.kids[0] = y at gy
      refine rdEL (hI.exm m1) 0 rfl gy (fun ad ka kn kc _ hy hly => ⟨_, (live0 (hly 0 _ rfl)).1, fun g24 _ => ?_⟩)
      show Value.bool (eqI _ _) = _
      rw [tf_eq]
      refine vP ⟨fun h => hk.2 ⟨by omega, q2, y, gy, h⟩, fun h => ?_⟩
      obtain ⟨_, _, y', gy', h4⟩ := hk.1 h
      rw [gy] at gy'
      cases gy'
      exact h4
    refine ifEq (fun e => ?_) (fun e12 => ?_)
    · have hk := node12 (l := x.kids) hs e
      refine (k73 _ _ _ g1).mono ?_
      rintro v g4 _ rfl
      refine ⟨_, rfl, ifP (fun q => (k74 _ g4).mono ?_) (fun q g3 _ => no g3 (fun h => q ⟨(hk.1 h).1, (hk.1 h).2.1⟩))⟩
      rintro v g5 _ rfl
      refine ⟨_, rfl, fun g6 _ => ?_⟩
      show Value.bool (eqI _ _) = _
      rw [tf_eq]
      exact vP ⟨fun h => hk.2 ⟨q.1, q.2, by omega⟩, fun h => by have := (hk.1 h).2.2; omega⟩
    refine ifEq (fun e => ?_) (fun e13 => ?_)
    · have hk := node13 (l := x.kids) hs e
      refine ifEq (fun q => (k73 _ _ _ g1).mono ?_) (fun q g3 _ => no g3 (fun h => by have := hk.1 h; omega))
      rintro v g4 _ rfl
      exact ⟨_, rfl, fun g5 _ => vP ⟨fun h => hk.2 ⟨by omega, h.1, h.2⟩, fun h => (hk.1 h).2⟩⟩
    exact fun g34 _ => no g34 (nodeNo (by omega))
  clear hJ
  refine ifNe (fun e => ?_) (fun e g37 m37 => main g37 m37 (.inl e))
  have es : (strEq (bstr x.dat.s) (bs []) = true) = (x.dat.s = []) := by
    rw [strEq_true, show bs [] = bstr [] from rfl, bstr_inj]
  refine ifF (fun q g35 _ => vF ?_) (fun q g36 m36 => main g36 m36 (.inr (by rw [← es]; exact q)))
  rintro ⟨h1, _⟩
  rcases h1 with h1 | h1
  · exact e h1
  · rw [← es] at h1; rw [h1] at q; cases q
/-- measure. -/
def measP (left depth : Nat) (x : E) : Prop := formE x ∧ sizeE x ≤ left ∧ depthE x + depth ≤ 401
theorem k40 (x : E) : ∀ {left depth : Nat} {a : Option Addr} {n c : Nat} {g : G}, i64E x → left ≤ 20000 → depth ≤ 1000 → SlE expE g a n c x.kids →
    CallsP Tryd.prog 40 #[expV x a n c, .int .i64 ((left : Nat) : Int), .int .i64 ((depth : Nat) : Int)] g fun v _ => ∃ k : Nat, v = .tuple ⟨[.int .i64 ((k : Nat) : Int), .bool (tf (measP left depth x))]⟩ ∧ (measP left depth x → k = sizeE x) := by
  induction x using Tr.ind with
  | h d l ih =>
    intro left depth a n c g hx hle hd hI
    obtain ⟨hn, hkx⟩ := i64E_un hx
    refine call40 _ _ _ _ _ _ _ _ g _ ?_
    have hl := hI.len
    have hcap := hI.cap
    have hnc := hI.le
    unfold maxLen at hcap
    unfold F40
    have no : ∀ (g' : G), ¬ measP left depth (.mk d l) → (fun (v : Value) (_ : G) => ∃ k : Nat, v = .tuple ⟨[.int .i64 ((k : Nat) : Int), .bool (tf (measP left depth (.mk d l)))]⟩ ∧ (measP left depth (.mk d l) → k = sizeE (.mk d l))) (.tuple ⟨[.int .i64 0, .bool false]⟩) g' := fun g' h => ⟨0, by rw [tf_no h]; rfl, fun hh => absurd hh h⟩
    intro J hJ
    refine ifLe (fun q g7 _ => no g7 (fun h => by have := h.2.1; have := sizeE_pos (.mk d l); omega)) (fun q1 => ifLt (fun q g8 _ => no g8 (fun h => by have := h.2.2; simp [depthE] at this; omega)) (fun q2 g9 m9 => (k56 hn (hI.exm m9)).mono ?_))
    rintro v g10 m10 rfl
    refine ⟨_, rfl, ifPn (fun q g11 _ => no g11 (fun h => q (formE_un h.1).1)) (fun q3 => hJ g10 ?_)⟩
    clear hJ
    refine ⟨fun m k i g' => ∃ j : Nat, i = ((j : Nat) : Int) ∧ j + m = n ∧ k = ((1 + sizeEL (l.take j) : Nat) : Int) ∧ 1 + sizeEL (l.take j) ≤ left ∧ ∀ y ∈ l.take j, formE y ∧ depthE y + (depth + 1) ≤ 401, ⟨n, 0, rfl, by omega, by simp [sizeEL], by simp [sizeEL]; omega, by simp⟩, ?_⟩
    rintro m k i g2 le ⟨j, rfl, hj, rfl, hsz, hall⟩
    have hl' : l.length = n := hl
    refine ifLt (fun q => ⟨⟨by omega, by omega⟩, ?_⟩) (fun q g6 _ => ?_)
    · have gj := List.getElem?_eq_getElem (show j < l.length by omega)
      generalize l[j] = y at gj
      have hy := List.mem_of_getElem? gj
      have htk := sizeEL_take gj
      refine rdE ((hI.exm (m9.trans m10)).mono le) j rfl gj (fun ka kn kc hk => ⟨i64 (by omega) (by omega), i64 (by omega) (by omega), fun g3 m3 => ?_⟩)
      have hcall := ih y hy (left := left - (1 + sizeEL (l.take j))) (depth := depth + 1) (hkx y hy) (by omega) (by omega) (hk.exm m3)
      rw [show ((left - (1 + sizeEL (l.take j)) : Nat) : Int) = ((left : Nat) : Int) - ((1 + sizeEL (l.take j) : Nat) : Int) by omega, show ((depth + 1 : Nat) : Int) = ((depth : Nat) : Int) + 1 by omega] at hcall
      refine hcall.mono ?_
      rintro v g4 _ ⟨k, rfl, hk2⟩
      refine ⟨_, _, rfl, ifPn (fun q4 g5 _ => no g5 (fun h => q4 ?_)) (fun q4 => ?_)⟩
      · refine ⟨(formE_un h.1).2 y hy, ?_, ?_⟩
        · have h1 := h.2.1
          have h2 := sizeEL_le l (j + 1)
          simp only [sizeE] at h1
          omega
        · have h1 := h.2.2
          have h2 := depthE_mem hy
          simp only [depthE] at h1
          omega
      · have hk3 := hk2 q4
        have h4 := q4.2.1
        exact ⟨i64 (by omega) (by omega), i64 (by omega) (by omega), m - 1, by omega, j + 1, by omega, by omega, by omega, by omega, (all_take gj (fun y => formE y ∧ depthE y + (depth + 1) ≤ 401)).2 ⟨hall, q4.1, q4.2.2⟩⟩
    · rw [List.take_of_length_le (by omega)] at hsz hall
      rw [List.take_of_length_le (show l.length ≤ j by omega)]
      have hm : measP left depth (.mk d l) := by
        refine ⟨formE_iff.2 ⟨q3, fun y hy => (hall y hy).1⟩, by simp only [sizeE]; omega, ?_⟩
        simp only [depthE]
        have : depthEL l + (depth + 1) ≤ 401 := by
          have key : ∀ r : List E, (∀ y ∈ r, depthE y + (depth + 1) ≤ 401) → depthEL r + (depth + 1) ≤ 401 := by
            intro r
            induction r with
            | nil => intro _; simp [depthEL]; omega
            | cons z r ihr =>
              intro h
              have h1 := h z (by simp)
              have h2 := ihr (fun y hy => h y (by simp [hy]))
              simp only [depthEL]
              omega
          exact key l (fun y hy => (hall y hy).2)
        omega
      refine ⟨1 + sizeEL l, by rw [tf_of hm], fun _ => by simp only [sizeE]; omega⟩
theorem k27 {x : E} (hx : i64E x) {a : Option Addr} {n c : Nat} {g : G} (hI : SlE expE g a n c x.kids) : CallsP Tryd.prog 27 #[expV x a n c] g fun v _ => v = .bool (tf (validE x)) := by
  refine call27 _ _ _ _ _ _ g _ ?_
  unfold F27
  refine fun g1 m1 => (k40 x (left := 20000) (depth := 1) hx (Nat.le_refl _) (by omega) (hI.exm m1)).mono ?_
  rintro v g2 _ ⟨k, rfl, _⟩
  refine ⟨_, _, rfl, fun g3 _ => vP ?_⟩
  unfold measP validE
  exact ⟨fun h => ⟨h.1, h.2.1, by omega⟩, fun h => ⟨h.1, h.2.1, by omega⟩⟩
theorem k23 {x : E} (hx : i64E x) {a : Option Addr} {n c : Nat} {g : G} (hI : SlE expE g a n c x.kids) : CallsP Tryd.prog 23 #[expV x a n c] g fun v _ => ∃ k : Nat, v = .int .i64 ((k : Nat) : Int) ∧ (validE x → k = sizeE x) ∧ (¬ validE x → k = 0) := by
  refine call23 _ _ _ _ _ _ g _ ?_
  unfold F23
  refine fun g1 m1 => (k40 x (left := 20000) (depth := 1) hx (Nat.le_refl _) (by omega) (hI.exm m1)).mono ?_
  rintro v g2 _ ⟨k, rfl, hk⟩
  have hm : measP 20000 1 x ↔ validE x := ⟨fun h => ⟨h.1, h.2.1, by have := h.2.2; omega⟩, fun h => ⟨h.1, h.2.1, by have := h.2.2; omega⟩⟩
  exact ⟨_, _, rfl, ifPn (fun q g3 _ => ⟨0, rfl, fun h => absurd (hm.2 h) q, fun _ => rfl⟩) (fun q g4 _ => ⟨k, rfl, fun _ => hk q, fun h => absurd (hm.1 q) h⟩)⟩
end Go.Proofs.YtfmjipgcbecamaaDoor
/- Free. -/
set_option linter.unusedVariables false
namespace Go.Proofs.YtfmjipgcbecamaaDoor
open Go Go.Vc Go.RowKit Go.Syn Go.Lam Go.Sort

/-- binds. -/
theorem k57 (x : E) (j : Nat) {a : Option Addr} {n c : Nat} (g : G) : CallsP Tryd.prog 57 #[expV x a n c, .int .i64 ((j : Nat) : Int)] g fun v _ => v = .bool (tf (bndN x.dat.op j = 1)) := by
  refine call57 _ _ _ _ _ _ _ g _ ?_
  unfold F57
  intro J hJ
  have yes : ∀ g1, (x.dat.op = 4 ∨ x.dat.op = 10) → J true g1 := fun g1 h => hJ true g1 (ifT (fun _ g2 _ => by rw [tf_of (bnd_body h j)]) (fun e => by cases e))
  have no : ∀ g1, ¬ (x.dat.op = 4 ∨ x.dat.op = 10) → J false g1 := by
    intro g1 h
    refine hJ false g1 (ifT (fun e => by cases e) (fun _ => ?_))
    have key : (x.dat.op = 11 ∨ x.dat.op = 9) → ∀ g3 : G, (fun (v : Value) (_ : G) => v = .bool (tf (bndN x.dat.op j = 1))) (.bool (ltI 0 ((j : Nat) : Int))) g3 := by
      intro h2 g3
      show Value.bool (ltI _ _) = _
      rw [tf_lt]
      refine vP ⟨fun hh => bnd_more h2 (by omega), fun hh => ?_⟩
      by_cases q : 0 < j
      · omega
      · have : j = 0 := by omega
        subst this
        rw [bnd_first (by omega)] at hh
        cases hh
    refine ifEq (fun e g3 _ => key (.inl e) g3) (fun e11 => ifEq (fun e g4 _ => key (.inr e) g4) (fun e9 g5 _ => ?_))
    exact vF (fun hh => by rw [bnd_none (by omega)] at hh; cases hh)
  refine ifEq (fun e g6 _ => yes g6 (.inl e)) (fun e4 g7 _ => ?_)
  by_cases e10 : x.dat.op = 10
  · have : eqI x.dat.op 10 = true := by simp [e10]
    rw [this]; exact yes g7 (.inr e10)
  · have : eqI x.dat.op 10 = false := by simp [e10]
    rw [this]; exact no g7 (by omega)
theorem memF_upd (S : List Int) (s : Int) : updI (memF S) s (some (.bool true)) = memF (S ++ [s]) := by
  funext x
  unfold memF
  by_cases e : x = s
  · subst e; rw [updI_same, if_pos (by simp)]
  · rw [updI_other _ _ e]
    by_cases q : x ∈ S
    · rw [if_pos q, if_pos (by simp [q])]
    · rw [if_neg q, if_neg (by simp [q, e])]
/-- collect. -/
theorem k41 (x : E) : ∀ {depth : Nat} {a : Option Addr} {n c : Nat} {g : G} {b cnt : Nat} {S : List Int}, i64E x → depthE x + depth ≤ 1000 → cnt + sizeE x ≤ 1000000 → SlE expE g a n c x.kids → MapI Tryd.prog g 3 b cnt (memF S) →
    CallsG Tryd.prog 41 #[.map (some b), expV x a n c, .int .i64 ((depth : Nat) : Int)] g (fun z => z = b) fun v g' => v = .tuple ⟨[]⟩ ∧ MapI Tryd.prog g' 3 b (cnt + (frees x depth).length) (memF (S ++ frees x depth)) := by
  induction x using Tr.ind with
  | h d l ih =>
    intro depth a n c g b cnt S hx hd hc hI hm
    obtain ⟨hn, hkx⟩ := i64E_un hx
    refine PF.call41 _ _ _ _ _ _ _ _ g _ _ ?_
    have hl : l.length = n := hI.len
    have hcap := hI.cap
    have hnc := hI.le
    unfold maxLen at hcap
    have hmax : (1000000 : Nat) < maxLen := by unfold maxLen; omega
    unfold PF.F41
    intro J hJ
    have loop : ∀ (g1 : G) (pre : List Int), Le g g1 → MapI Tryd.prog g1 3 b (cnt + pre.length) (memF (S ++ pre)) → pre.length ≤ 1 → pre = (if d.op = 1 ∧ ((depth : Nat) : Int) ≤ d.n then [d.n - ((depth : Nat) : Int)] else []) → J g1 := by
      intro g1 pre le1 hm1 hp1 hpre
      refine hJ g1 ⟨fun m i g' => ∃ j : Nat, i = ((j : Nat) : Int) ∧ j + m = n ∧ MapI Tryd.prog g' 3 b (cnt + (pre ++ freesL d.op 0 (l.take j) depth).length) (memF (S ++ (pre ++ freesL d.op 0 (l.take j) depth))), ⟨n, 0, rfl, by omega, by simpa [freesL] using hm1⟩, ?_⟩
      rintro m i g2 le2 ⟨j, rfl, hj, hm2⟩
      refine ifLt (fun q => ⟨⟨by omega, by omega⟩, ?_⟩) (fun q g7 m7 => ?_)
      · have gj := List.getElem?_eq_getElem (show j < l.length by omega)
        generalize l[j] = y at gj
        have hy := List.mem_of_getElem? gj
        have htk := freesL_take d.op gj depth
        have hsz : (freesL d.op 0 (l.take j) depth).length ≤ sizeEL (l.take j) := by
          have key : ∀ (r : List E) (q : Nat), (freesL d.op q r depth).length ≤ sizeEL r := by
            intro r
            induction r with
            | nil => intro q; simp [freesL, sizeEL]
            | cons t r ihr =>
              intro q
              have h1 := frees_len t (depth + bndN d.op q)
              have h2 := ihr (q + 1)
              simp only [freesL, sizeEL, List.length_append]
              omega
          exact key _ 0
        have hst := sizeEL_take gj
        have hsl := sizeEL_le l (j + 1)
        have hde := depthE_mem hy
        simp only [sizeE] at hc
        simp only [depthE] at hd
        refine rdE ((hI.mono le1).mono le2) j rfl gj (fun ka kn kc hk g3 m3 => (k57 (.mk d l) j g3).mono ?_)
        rintro v g4 m4 rfl
        have m34 := m3.trans m4
        have fin : ∀ g5, MapI Tryd.prog g5 3 b (cnt + (pre ++ freesL d.op 0 (l.take j) depth).length + (frees y (depth + bndN d.op j)).length) (memF (S ++ (pre ++ freesL d.op 0 (l.take j) depth) ++ frees y (depth + bndN d.op j))) →
            InI64 (((j : Nat) : Int) + 1) ∧ ∃ m_2 : Nat, m_2 < m ∧ ∃ j' : Nat, ((j : Nat) : Int) + 1 = ((j' : Nat) : Int) ∧ j' + m_2 = n ∧ MapI Tryd.prog g5 3 b (cnt + (pre ++ freesL d.op 0 (l.take j') depth).length) (memF (S ++ (pre ++ freesL d.op 0 (l.take j') depth))) := by
          intro g5 h5
          refine ⟨i64 (by omega) (by omega), m - 1, by omega, j + 1, by omega, by omega, ?_⟩
          rw [htk, ← List.append_assoc pre, List.length_append, ← Nat.add_assoc, ← List.append_assoc S]
          exact h5
        have call : ∀ (dep : Nat), dep = depth + bndN d.op j → dep ≤ depth + 1 → CallsG Tryd.prog 41 #[.map (some b), expV y ka kn kc, .int .i64 ((dep : Nat) : Int)] g4 (fun z => z = b) fun v g5 => v = .tuple ⟨[]⟩ ∧ MapI Tryd.prog g5 3 b (cnt + (pre ++ freesL d.op 0 (l.take j) depth).length + (frees y (depth + bndN d.op j)).length) (memF (S ++ (pre ++ freesL d.op 0 (l.take j) depth) ++ frees y (depth + bndN d.op j))) := by
          intro dep e hde2
          subst e
          exact ih y hy (hkx y hy) (by omega) (by rw [List.length_append]; omega) (hk.exm m34) (hm2.ex m34)
        refine ⟨_, rfl, ifP (fun q2 => ⟨i64 (by omega) (by omega), fun z => z = b, fun _ _ h => h, ?_⟩) (fun q2 => ⟨fun z => z = b, fun _ _ h => h, ?_⟩)⟩
        · have hcall := call (depth + 1) (by rw [show bndN d.op j = 1 from q2]) (Nat.le_refl _)
          rw [show ((depth + 1 : Nat) : Int) = ((depth : Nat) : Int) + 1 by omega] at hcall
          refine hcall.mono ?_
          rintro v g5 _ ⟨rfl, h5⟩
          exact ⟨rfl, fin g5 h5⟩
        · have hb0 : bndN d.op j = 0 := by
            have : bndN d.op j ≠ 1 := q2
            unfold bndN at this ⊢
            split
            · next h => rw [if_pos h] at this; exact absurd rfl this
            · next h =>
              rw [if_neg h] at this
              split
              · next h2 => rw [if_pos h2] at this; exact absurd rfl this
              · rfl
          refine (call depth (by rw [hb0]; rfl) (by omega)).mono ?_
          rintro v g5 _ ⟨rfl, h5⟩
          exact ⟨rfl, fin g5 h5⟩
      · rw [List.take_of_length_le (by omega)] at hm2
        refine ⟨rfl, ?_⟩
        rw [frees, ← hpre]
        exact hm2.ex m7
    clear hJ
    refine ifEq (fun e => ifLe (fun q => ⟨i64 (by omega) (by omega), fun g8 m8 => ?_⟩) (fun q g10 m10 => loop g10 [] m10.le (by simpa using hm.ex m10) (by simp) (by rw [if_neg (fun h => by have h2 : ((depth : Nat) : Int) ≤ (Tr.mk d l).dat.n := h.2; omega)]))) (fun e g11 m11 => loop g11 [] m11.le (by simpa using hm.ex m11) (by simp) (by rw [if_neg (fun h => e h.1)]))
    have hn' : d.n ≤ 9223372036854775807 := hn
    have q' : ((depth : Nat) : Int) ≤ d.n := q
    have hwf : (Lit.int .i64 (d.n - ((depth : Nat) : Int))).wf = true := by
      simp only [Lit.wf, Bool.and_eq_true, IntKind.min, IntKind.max, IntKind.signed, IntKind.bits]
      simp
      omega
    obtain ⟨w', hrun, g9, hw, hst, hm9⟩ := (hm.ex m8).putM (t := 72) (e := 4) Tryd.underlying3 Tryd.underlying72 (by omega) (d.n - ((depth : Nat) : Int)) hwf (.bool true)
    refine ⟨w', hrun, g9, hw, hst _, loop g9 [d.n - ((depth : Nat) : Int)] (m8.le.trans (hst 0).le) ?_ (by simp) (by rw [if_pos ⟨e, q⟩])⟩
    rw [memF_upd] at hm9
    exact hm9
end Go.Proofs.YtfmjipgcbecamaaDoor
/- Free, closed. -/
set_option linter.unusedVariables false
namespace Go.Proofs.YtfmjipgcbecamaaDoor
open Go Go.Vc Go.RowKit Go.Syn Go.Lam Go.Sort

theorem nodup_le : ∀ {l m : List Int}, l.Nodup → (∀ x ∈ l, x ∈ m) → l.length ≤ m.length
  | [], _, _, _ => by simp
  | a :: l, m, hn, hs => by
    have hn' := List.nodup_cons.1 hn
    have ha := hs a (by simp)
    have h2 := nodup_le (l := l) (m := m.erase a) hn'.2 (fun x hx => (List.mem_erase_of_ne (fun e => hn'.1 (by rw [← e]; exact hx))).2 (hs x (by simp [hx])))
    rw [List.length_erase_of_mem ha] at h2
    have := List.length_pos_of_mem ha
    simp only [List.length_cons]
    omega
theorem asc_sort {l : List Int} (h : l.Nodup) : (l.mergeSort fun x y => decide (x ≤ y)).Pairwise (· < ·) := by
  have tr : ∀ a b c : Int, decide (a ≤ b) = true → decide (b ≤ c) = true → decide (a ≤ c) = true := fun a b c h1 h2 => by simp only [decide_eq_true_eq] at *; omega
  have to : ∀ a b : Int, (decide (a ≤ b) || decide (b ≤ a)) = true := fun a b => by simp only [Bool.or_eq_true, decide_eq_true_eq]; omega
  have h1 := List.pairwise_mergeSort tr to l
  have h2 : (l.mergeSort fun x y => decide (x ≤ y)).Nodup := (List.mergeSort_perm l _).nodup_iff.2 h
  exact (h1.and h2).imp (fun ⟨p, q⟩ => by simp only [decide_eq_true_eq] at p; omega)
theorem k42 {g : G} {B : Nat} {e : TypeId} {a : Option Addr} {n c : Nat} {zs : List Int} (h : MutR g B e 1 a n c (zs.map (Value.int .i64))) (hn : n < 4611686018427387904) :
    CallsG Tryd.prog 42 #[.slice a n c] g (blkOf a) fun v g' => v = .tuple ⟨[]⟩ ∧ SlE intE' g' a n c (zs.mergeSort fun x y => decide (x ≤ y)) :=
  (sort_fin (Value.int .i64) Tryd.slices_Sort_int Tryd.slices_Sort_int_none h hn).mono fun v g' _ hq => ⟨hq.1, sle_of_map (Value.int .i64) rfl (fun _ _ => rfl) hq.2⟩
theorem rng_row {P : Program} {g : G} {k : TypeId} {b r q m : Nat} {f : Int → Option Value} {left : Int → Bool} (h : RngI P g k b r q f left m) {B : Nat} {e : TypeId} {mm : Nat} {a : Option Addr} {n c : Nat} {L : List Value} (hm : MutR g B e mm a n c L) : ¬ blkOf a b ∧ ¬ blkOf a r := by
  rcases hm.row with ⟨rfl, _⟩ | ⟨x, cur, rfl, _, h2, _⟩
  · exact ⟨fun ⟨_, hh, _⟩ => (by cases hh), fun ⟨_, hh, _⟩ => (by cases hh)⟩
  · obtain ⟨k1, k2⟩ := h.cells h2.blk
    exact ⟨fun ⟨_, hh, e⟩ => k1 (by cases hh; exact e), fun ⟨_, hh, e⟩ => k2 (by cases hh; exact e)⟩
/-- The free variables, ascending. -/
def AscF (x : E) (F : List Int) : Prop := F.Pairwise (· < ·) ∧ ∀ s, s ∈ F ↔ ∃ i : Nat, s = ((i : Nat) : Int) ∧ FV x i
def FreeSay (x : E) (v : Value) (g' : G) : Prop := ∃ a n c e, v = .tuple ⟨[.slice a n c, .int .i64 e]⟩ ∧ ((validE x ∧ e = 0 ∧ ∃ F, SlE intE' g' a n c F ∧ AscF x F) ∨ (¬ validE x ∧ e = 1 ∧ a = none ∧ n = 0 ∧ c = 0))
theorem E36 : Elem Tryd.prog 36 3 1 8 := ⟨Tryd.underlying36, by kernel_rfl⟩
theorem k24 {x : E} (hx : i64E x) {a : Option Addr} {n c : Nat} {g : G} (hI : SlE expE g a n c x.kids) : CallsP Tryd.prog 24 #[expV x a n c] g fun v g' => FreeSay x v g' := by
  refine PF.call24 _ _ _ _ _ _ g _ ?_
  unfold PF.F24
  refine fun g1 m1 => (k27 hx (hI.exm m1)).mono ?_
  rintro u g2 m2 rfl
  have m02 := m1.trans m2
  refine ⟨_, rfl, ifPn (fun q g3 _ => ⟨none, 0, 0, 1, rfl, .inr ⟨q, rfl, rfl, rfl, rfl⟩⟩) (fun hv g4 n4 => ?_)⟩
  have m04 := m02.trans n4.ex
  have hm0 : MapI Tryd.prog g4 3 g2.w.heap.size 0 (memF []) := (MapI.new n4 Tryd.prog 3).congr (fun s => by unfold memF; rw [if_neg (by simp)])
  have hz2 : g.w.heap.size ≤ g2.w.heap.size := m02.size
  have hcall := k41 x (depth := 0) (cnt := 0) (S := []) hx (by have := hv.2.2; omega) (by have := hv.2.1; omega) (hI.exm m04) hm0
  refine ⟨fun z => z = g2.w.heap.size, fun b hb e => by omega, hcall.mono ?_⟩
  rintro v g5 s5 ⟨rfl, hm5⟩
  rw [List.nil_append, Nat.zero_add] at hm5
  refine ⟨rfl, ?_⟩
  have hfl := frees_len x 0
  have hsz := hv.2.1
  have hmem : ∀ s, s ∈ frees x 0 ↔ ∃ i : Nat, s = ((i : Nat) : Int) ∧ FV x i := fun s => mem_frees x 0 s
  generalize frees x 0 = O at hm5 hfl hmem
  obtain ⟨w6, hrun, g6, m6, e6, st6, hrg, ex6⟩ := RngI.start hm5 Tryd.underlying3 Tryd.underlying72
  have hz5 : g.w.heap.size ≤ g5.w.heap.size := Nat.le_trans m04.size s5.le.size
  have hr0 : g.w.heap.size ≤ g5.w.heap.size := hz5
  generalize hmb : g2.w.heap.size = mb at hrg hrun hm5
  generalize hrb : g5.w.heap.size = rb at hrg hrun hr0
  refine ⟨_, w6, hrun, g6, e6, st6 _ hz5, fun m a n c g' => g.w.heap.size ≤ g'.w.heap.size ∧ ∃ (V : List Int) (left : Int → Bool), MutR g' g.w.heap.size 3 1 a n c (V.map (Value.int .i64)) ∧ RngI Tryd.prog g' 3 mb rb O.length (memF O) left m ∧ V.Nodup ∧ (∀ s, s ∈ V ↔ (s ∈ O ∧ left s = false)),
    ⟨m6, Nat.le_trans hz5 (by rw [hrb]; have := hrg.lt; omega), [], _, MutR.nil _ _ _ _, hrg, List.nodup_nil, fun s => ?_⟩, ?_⟩
  · unfold memF
    by_cases hs : s ∈ O <;> simp [hs]
  rintro m a n c g7 le7 ⟨hsz7, V, left, hrow, hrg7, hnd, hV⟩
  have hVn : V.length = n := by have := hrow.len; simpa using this
  have hVO := nodup_le hnd (fun x hx => ((hV x).1 hx).1)
  have fin : (∀ s, left s = false) → AscF x (V.mergeSort fun x y => decide (x ≤ y)) := by
    intro hno
    refine ⟨asc_sort hnd, fun s => ?_⟩
    rw [(List.mergeSort_perm V _).mem_iff, hV, ← hmem]
    exact ⟨fun h => h.1, fun h => ⟨h, hno s⟩⟩
  rcases hrg7.next Tryd.underlying3 0 with ⟨hno, hrun7⟩ | ⟨s, v, w8, hws, hls, hfs, hrun7, g8, m8, hlt8, e8, st8, hrg8, but8, hen⟩
  · refine .inl ⟨_, hrun7, g7, rfl, Stp.refl _ _ _, blkOf a, fun b hb hh => absurd (hrow.ge hh) (by omega), (k42 hrow (by omega)).mono ?_⟩
    rintro u g9 s9 ⟨rfl, hsl⟩
    exact ⟨rfl, fun g10 m10 => ⟨a, n, c, 0, rfl, .inl ⟨hv, rfl, _, hsl.exm m10, fin hno⟩⟩⟩
  · have hsO : s ∈ O := by
      unfold memF at hfs
      by_cases hs : s ∈ O
      · exact hs
      · rw [if_neg hs] at hfs; cases hfs
    have hfs' : v = .bool true := by
      unfold memF at hfs
      rw [if_pos hsO] at hfs
      exact (Option.some.inj hfs).symm
    subst hfs'
    obtain ⟨nb, nr⟩ := rng_row hrg7 hrow
    have hrow8 : MutR g8 g.w.heap.size 3 1 a n c (V.map (Value.int .i64)) := hrow.but but8 (fun z hz e => nr (e ▸ hz))
    refine .inr ⟨true, s, _, w8, hrun7, g8, e8, st8 _ hr0, ifT (fun _ => ?_) (fun hh => by cases hh)⟩
    rw [← e8] at hen
    refine ⟨s, _, _, hen, g8, rfl, Stp.refl _ _ _, fun g13 n13 => ?_⟩
    have hsz8 : g.w.heap.size ≤ g13.w.heap.size := Nat.le_trans hsz7 (Nat.le_trans but8.size n13.ex.size)
    have hrow13 := hrow8.ex n13.ex
    have hrg13 := hrg8.exm n13.ex
    obtain ⟨nb2, nr2⟩ := rng_row hrg13 hrow13
    obtain ⟨a', c', w', hrun', g14, e14, st14, hrow14, stb, _⟩ := hrow13.app E36 36 hsz8 (n13.sl (m := 1) (n := 1) rfl (by unfold maxLen; omega)) (by simp [Value.oneCell']) (by omega) (by unfold maxLen; omega)
    have but14 := stb.but (Nat.le_refl _)
    refine ⟨a', n + 1, c', w', hrun', g14, e14, st14, m8, hlt8, Nat.le_trans hsz8 but14.size, V ++ [s], _, by simpa using hrow14, hrg13.but but14 nb2 nr2, ?_, fun x => ?_⟩
    · refine List.nodup_append.2 ⟨hnd, by simp, fun x hx y hy => ?_⟩
      have : y = s := by simpa using hy
      subst this
      rintro rfl
      have := ((hV x).1 hx).2
      rw [hls] at this
      cases this
    · have hx := hV x
      by_cases e : x = s
      · subst e
        simp [hsO]
      · simp [e, hx]
/-- closed. -/
def closedE (x : E) : Prop := validE x ∧ scopedE 0 x
theorem asc_nil {x : E} {F : List Int} (h : AscF x F) : F = [] ↔ scopedE 0 x := by
  constructor
  · rintro rfl i hi
    have := (h.2 ((i : Nat) : Int)).2 ⟨i, rfl, hi⟩
    cases this
  · intro hs
    refine List.eq_nil_iff_forall_not_mem.2 fun s hm => ?_
    obtain ⟨i, _, hi⟩ := (h.2 s).1 hm
    have := hs i hi
    omega
theorem k33 {x : E} (hx : i64E x) {a : Option Addr} {n c : Nat} {g : G} (hI : SlE expE g a n c x.kids) : CallsP Tryd.prog 33 #[expV x a n c] g fun v _ => v = .bool (tf (closedE x)) := by
  refine call33 _ _ _ _ _ _ g _ ?_
  unfold F33
  refine fun g1 m1 => (k24 hx (hI.exm m1)).mono ?_
  rintro v g2 _ ⟨fa, fn, fc, e, rfl, h⟩
  refine ⟨_, _, _, _, rfl, ifEq (fun q g3 _ => ?_) (fun q g4 _ => ?_)⟩
  · rcases h with ⟨hv, _, F, hF, ha⟩ | ⟨_, h1, _⟩
    · show Value.bool (eqI _ _) = _
      rw [tf_eq]
      refine vP ?_
      have hl := hF.len
      have h0 := asc_nil ha
      constructor
      · intro hh
        exact ⟨hv, h0.1 (List.eq_nil_of_length_eq_zero (by omega))⟩
      · rintro ⟨_, hs⟩
        have := h0.2 hs
        rw [this] at hl
        simp at hl
        omega
    · omega
  · refine vF (fun hh => ?_)
    rcases h with ⟨_, h1, _⟩ | ⟨hv, _⟩
    · exact q h1
    · exact hv hh.1
end Go.Proofs.YtfmjipgcbecamaaDoor
/- Run. -/
set_option linter.unusedVariables false
namespace Go.Proofs.YtfmjipgcbecamaaDoor
open Go Go.Vc Go.RowKit Go.Syn Go.Lam Go.Sort

structure Outc where
  op : Int
  code : Int
  steps : Int
  y : Sy
  out : List Lab
def zeroO : Outc := ⟨0, 0, 0, zeroSy, []⟩
def outO (x : E) (fuel : Nat) : Outc := ⟨(finN x fuel).op, (finN x fuel).code, ((fuel : Nat) : Int) - (((finN x fuel).left : Nat) : Int), (finN x fuel).y, (finN x fuel).out⟩
/-- The value of an outcome. -/
def OutI (g : G) (o : Outc) (v : Value) : Prop := ∃ na nn nc a n c oa on oc, v = .agg ⟨[.int .i64 o.op, .int .i64 o.code, .int .i64 o.steps, .int .i64 o.y.dat.op, .int .i64 o.y.dat.n, .string (bstr o.y.dat.s), .slice na nn nc, .slice a n c, .slice oa on oc]⟩ ∧ SynI g o.y na nn nc a n c ∧ SlE strE g oa on oc o.out
open Classical in
noncomputable def runA (x : E) (fuel : Int) : Outc × Int := if closedE x then (if 0 ≤ fuel ∧ fuel ≤ 1048576 then (outO x fuel.toNat, 0) else (zeroO, 2)) else (zeroO, 1)
def RunSay (x : E) (fuel : Int) (v : Value) (g' : G) : Prop := ∃ o, v = .tuple ⟨[o, .int .i64 (runA x fuel).2]⟩ ∧ OutI g' (runA x fuel).1 o
theorem MutR.fro {g : G} {B : Nat} {a : Option Addr} {n c : Nat} {xs : List Lab} (h : MutR g B 9 1 a n c (xs.map encStr)) : SlE strE (g.frozP (blkOf a)) a n c xs := by
  have hlen : xs.length = n := by have := h.len; simpa using this
  refine strs_sle ?_ hlen
  rcases h.row with ⟨e0, e1, e2⟩ | ⟨b, cur, e, r1, r2, r3, r4, r5, r6⟩
  · have : xs = [] := List.eq_nil_of_length_eq_zero (by omega)
    rw [e0, e1, e2, this]
    exact Sl.zero _ _
  · rw [e]
    refine ⟨by rw [List.length_map]; omega, r3, r4, fun h => (by cases h), ?_⟩
    rintro ad e3 i v hi
    cases e3
    have e4 : (Addr.add ⟨b, 0, none⟩ i).block = b := add_block _ _
    have hc : cur[i]? = some v := by
      rw [← r6, List.getElem?_take] at hi
      split at hi
      · exact hi
      · cases hi
    exact ⟨r2.rd hc, by rw [e4]; exact r2.nx, fun hh => hh.2 (by rw [e4]; exact ⟨_, rfl, rfl⟩)⟩
theorem zero_out (g : G) : OutI g zeroO (.agg ⟨[.int .i64 0, .int .i64 0, .int .i64 0, .int .i64 0, .int .i64 0, .string (bs []), .slice none 0 0, .slice none 0 0, .slice none 0 0]⟩) := ⟨none, 0, 0, none, 0, 0, none, 0, 0, rfl, ⟨SlE.zero _, SlE.zero _⟩, SlE.zero _⟩
/-- Run. -/
theorem k11 {x : E} (hx : i64E x) (fuel : Int) {a : Option Addr} {n c : Nat} {g : G} (hI : SlE expE g a n c x.kids) (ht : TabG g) : CallsP Tryd.prog 11 #[expV x a n c, .int .i64 fuel] g fun v g' => RunSay x fuel v g' := by
  refine CallsP.frz (call11 _ _ _ _ _ _ fuel g _ ?_)
  unfold F11
  have nof : ∀ (v : Value) (g' : G), RunSay x fuel v g' → ∃ p : Nat → Prop, (∀ b, p b → g.w.heap.size ≤ b) ∧ RunSay x fuel v (g'.frozP p) := fun v g' h => ⟨nobody, fun _ hh => hh.elim, by rw [froz_none]; exact h⟩
  intro J hJ g6 m6
  refine (k33 hx (hI.exm m6)).mono ?_
  rintro v g7 m7 rfl
  have m07 := m6.trans m7
  refine ⟨_, rfl, ifPn (fun q g8 _ => nof _ _ ?_) (fun hcl => ?_)⟩
  · have e : runA x fuel = (zeroO, 1) := by unfold runA; rw [if_neg q]
    refine ⟨_, by rw [e], by rw [e]; exact zero_out g8⟩
  have rng : ¬ (0 ≤ fuel ∧ fuel ≤ 1048576) → ∀ g9 : G, ∃ p : Nat → Prop, (∀ b, p b → g.w.heap.size ≤ b) ∧ RunSay x fuel (.tuple ⟨[.agg ⟨[.int .i64 0, .int .i64 0, .int .i64 0, .int .i64 0, .int .i64 0, .string (bs []), .slice none 0 0, .slice none 0 0, .slice none 0 0]⟩, .int .i64 2]⟩) (g9.frozP p) := by
    intro q g9
    have e : runA x fuel = (zeroO, 2) := by unfold runA; rw [if_pos hcl, if_neg q]
    exact nof _ _ ⟨_, by rw [e], by rw [e]; exact zero_out g9⟩
  refine ifLt (fun q g9 _ => rng (by omega) g9) (fun q1 => ifLt (fun q g10 _ => rng (by omega) g10) (fun q2 => hJ _ _ _ _ _ _ _ _ _ _ _ _ _ _ _ g7 ?_))
  clear hJ rng
  intro g2 n2
  obtain ⟨F, rfl⟩ : ∃ F : Nat, fuel = ((F : Nat) : Int) := ⟨fuel.toNat, by omega⟩
  have m02 := m07.trans n2.ex
  have hm2 : Mach 58 g2 g7.w.heap.size F F 1 0 [] none 0 0 := by
    refine ⟨?_, MutR.nil _ _ _ _, fun ⟨_, h, _⟩ => by cases h⟩
    rw [Int.sub_self]
    exact n2.mut
  refine ⟨mset g7.w.heap.size none, fun b hb h => ?_, (k34 hcl.1.1 hcl.2 (hI.exm m02) (ht.exm m02) (by omega) hm2).mono ?_⟩
  · rcases h with rfl | ⟨_, h, _⟩
    · have := m07.size; omega
    · cases h
  rintro v g3 s3 ⟨na, nn, nc, ya, yn, yc, rfl, hy, oa, on, oc, hm3, hn3⟩
  refine ⟨_, _, _, _, _, _, _, _, _, rfl, fun g4 m4 => ?_⟩
  have hm4 := hm3.ex m4
  refine ⟨hm4.blk.nxA 3, _, hm4.blk.rd (j := 3) rfl, hm4.blk.nxA 4, _, hm4.blk.rd (j := 4) rfl, hm4.blk.nx, _, hm4.blk.rd0 rfl, hm4.blk.nxA 2, _, _, _, hm4.blk.rd (j := 2) rfl, fun g5 m5 => ?_⟩
  have e : runA x ((F : Nat) : Int) = (outO x F, 0) := by unfold runA; rw [if_pos hcl, if_pos ⟨by omega, by omega⟩]; rfl
  have m35 := m4.trans m5
  refine ⟨blkOf oa, fun b hb => (hn3 b hb).elim (fun ⟨_, h, _⟩ => by cases h) (fun h => Nat.le_trans m02.size h), _, by rw [e], ?_⟩
  rw [e]
  exact ⟨na, nn, nc, ya, yn, yc, oa, on, oc, rfl, (hy.exm m35).mono (frozP_le _ _), MutR.fro (hm3.row.ex m35)⟩
end Go.Proofs.YtfmjipgcbecamaaDoor
/- awake. -/
set_option linter.unusedVariables false
namespace Go.Proofs.YtfmjipgcbecamaaDoor
open Go Go.Vc Go.RowKit Go.Syn Go.Lam Go.Sort

def mkE (op n : Int) (l : List E) : E := .mk ⟨op, n, []⟩ l
def eTwo := mkE 2 2 []
def eV0 := mkE 1 0 []
def eV1 := mkE 1 1 []
def eAdd := mkE 12 1 [eV0, eV0]
def eTwice := mkE 11 0 [eTwo, eAdd]
def eApp := mkE 5 0 [eV1, eV0]
def eFun := mkE 4 0 [eApp]
def eLoop := mkE 10 0 [eFun]
def eZero := mkE 2 0 []
def eBoth := mkE 5 0 [eLoop, eZero]
theorem fin_twice : finN eTwice 100 = ⟨1, 0, 95, .mk ⟨1, 4, [], []⟩ [], []⟩ := by kernel_rfl
theorem fin_both : finN eBoth 100 = ⟨3, 0, 0, zeroSy, []⟩ := by kernel_rfl
theorem closed_twice : closedE eTwice := by
  refine ⟨⟨?_, ?_, ?_⟩, ?_⟩
  · simp [eTwice, eTwo, eAdd, eV0, mkE, formE, formEL, nodeP, arityN]
  · simp [eTwice, eTwo, eAdd, eV0, mkE, sizeE, sizeEL]
  · simp [eTwice, eTwo, eAdd, eV0, mkE, depthE, depthEL]
  · intro i hi
    simp [eTwice, eTwo, eAdd, eV0, mkE, FV, FVL, bndN] at hi
    omega
theorem closed_both : closedE eBoth := by
  refine ⟨⟨?_, ?_, ?_⟩, ?_⟩
  · simp [eBoth, eLoop, eFun, eApp, eZero, eV0, eV1, mkE, formE, formEL, nodeP, arityN, Tr.dat]
  · simp [eBoth, eLoop, eFun, eApp, eZero, eV0, eV1, mkE, sizeE, sizeEL]
  · simp [eBoth, eLoop, eFun, eApp, eZero, eV0, eV1, mkE, depthE, depthEL]
  · intro i hi
    simp [eBoth, eLoop, eFun, eApp, eZero, eV0, eV1, mkE, FV, FVL, bndN] at hi
    omega
theorem i64_twice : i64E eTwice := by simp [eTwice, eTwo, eAdd, eV0, mkE, i64E, i64EL]
theorem i64_both : i64E eBoth := by simp [eBoth, eLoop, eFun, eApp, eZero, eV0, eV1, mkE, i64E, i64EL]
/-- u. -/
theorem k18 (op n : Int) (l : List E) {la : Option Addr} {ll lc : Nat} (g : G) : CallsP Tryd.prog 18 #[.int .i64 op, .int .i64 n, .slice la ll lc] g fun v _ => v = expV (mkE op n l) la ll lc := by
  refine call18 _ _ _ _ _ g _ ?_
  unfold F18
  exact fun g1 _ g2 _ => rfl
theorem new1 {g g' : G} {t : E} {a : Option Addr} {n c : Nat} (h : SlE expE g a n c t.kids) (nn : NewL g g' 24 [.int .i64 t.dat.op, .int .i64 t.dat.n, .string (bstr t.dat.s), .slice a n c]) : SlE expE g' (some ⟨g.w.heap.size, 0, none⟩) 1 1 [t] :=
  nn.sle (Rws.single (exp_rep h)) (by unfold maxLen; simp)
theorem new2 {g g' : G} {t u : E} {a : Option Addr} {n c : Nat} {b : Option Addr} {m d : Nat} (h : SlE expE g a n c t.kids) (h2 : SlE expE g b m d u.kids) (nn : NewL g g' 24 [.int .i64 t.dat.op, .int .i64 t.dat.n, .string (bstr t.dat.s), .slice a n c, .int .i64 u.dat.op, .int .i64 u.dat.n, .string (bstr u.dat.s), .slice b m d]) :
    SlE expE g' (some ⟨g.w.heap.size, 0, none⟩) 2 2 [t, u] :=
  nn.sle (Rws.cons (r := [.int .i64 t.dat.op, .int .i64 t.dat.n, .string (bstr t.dat.s), .slice a n c]) (exp_rep h) (Rws.single (exp_rep h2))) (by unfold maxLen; simp)
theorem k9 (g : G) (ht : TabG g) : CallsP Tryd.prog 9 #[] g fun v _ => v = .bool true := by
  refine call9 g _ ?_
  unfold F9
  have run2 : runA eTwice 100 = (outO eTwice 100, 0) := by unfold runA; rw [if_pos closed_twice, if_pos ⟨by omega, by omega⟩]; rfl
  have run3 : runA eBoth 100 = (outO eBoth 100, 0) := by unfold runA; rw [if_pos closed_both, if_pos ⟨by omega, by omega⟩]; rfl
  have o2 : outO eTwice 100 = ⟨1, 0, 5, .mk ⟨1, 4, [], []⟩ [], []⟩ := by unfold outO; rw [fin_twice]; rfl
  have o3 : outO eBoth 100 = ⟨3, 0, 100, zeroSy, []⟩ := by unfold outO; rw [fin_both]; rfl
  have nil : ∀ g' : G, SlE expE g' none 0 0 ([] : List E) := fun g' => SlE.zero _
  refine (k18 2 2 [] g).mono ?_
  rintro v g1 m1 rfl
  refine ⟨_, _, _, _, _, _, rfl, (k18 1 0 [] g1).mono ?_⟩
  rintro v g2 m2 rfl
  refine ⟨_, _, _, _, _, _, rfl, (k18 1 0 [] g2).mono ?_⟩
  rintro v g3 m3 rfl
  refine ⟨_, _, _, _, _, _, rfl, fun g4 n4 => (k18 12 1 [eV0, eV0] g4).mono ?_⟩
  have h4 := new2 (t := eV0) (u := eV0) (nil g3) (nil g3) n4
  rintro v g5 m5 rfl
  refine ⟨_, _, _, _, _, _, rfl, fun g6 n6 => (k18 11 0 [eTwo, eAdd] g6).mono ?_⟩
  have h6 := new2 (t := eTwo) (u := eAdd) (nil g5) (h4.exm m5) n6
  rintro v g7 m7 rfl
  have m07 : Ex g g7 := (((((m1.trans m2).trans m3).trans n4.ex).trans m5).trans n6.ex).trans m7
  refine ⟨_, _, _, _, _, _, rfl, fun g8 m8 => (k11 (x := eTwice) i64_twice 100 (h6.exm (m7.trans m8)) (ht.exm (m07.trans m8))).mono ?_⟩
  rintro v g9 m9 ⟨o, rfl, hO⟩
  rw [run2, o2] at hO
  rw [run2]
  obtain ⟨na, nn, nc, ya, yn, yc, oa, on, oc, rfl, _, _⟩ := hO
  have m09 := (m07.trans m8).trans m9
  refine ⟨_, _, _, _, _, _, _, _, _, _, _, _, _, _, _, _, rfl, fun g10 m10 => (k18 1 1 [] g10).mono ?_⟩
  rintro v g11 m11 rfl
  refine ⟨_, _, _, _, _, _, rfl, (k18 1 0 [] g11).mono ?_⟩
  rintro v g12 m12 rfl
  refine ⟨_, _, _, _, _, _, rfl, fun g13 n13 => (k18 5 0 [eV1, eV0] g13).mono ?_⟩
  have h13 := new2 (t := eV1) (u := eV0) (nil g12) (nil g12) n13
  rintro v g14 m14 rfl
  refine ⟨_, _, _, _, _, _, rfl, fun g15 n15 => (k18 4 0 [eApp] g15).mono ?_⟩
  have h15 := new1 (t := eApp) (h13.exm m14) n15
  rintro v g16 m16 rfl
  refine ⟨_, _, _, _, _, _, rfl, fun g17 n17 => (k18 10 0 [eFun] g17).mono ?_⟩
  have h17 := new1 (t := eFun) (h15.exm m16) n17
  rintro v g18 m18 rfl
  have m018 : Ex g g18 := (((((((m09.trans m10).trans m11).trans m12).trans n13.ex).trans m14).trans n15.ex).trans m16).trans (n17.ex.trans m18)
  have h18 := h17.exm m18
  refine ⟨_, _, _, _, _, _, rfl, ?_⟩
  intro J hJ g28 m28
  have fin : ∀ (g36 : G), Ex g g36 → ∀ (y3 y4 : Int) (y5 : ByteArray) (y6a : Option Addr) (y6l y6c : Nat) (y7a : Option Addr) (y7l y7c : Nat) (y8a : Option Addr) (y8l y8c : Nat) (y1 : Int), J 0 3 y1 100 y3 y4 y5 y6a y6l y6c y7a y7l y7c y8a y8l y8c g36 := by
    intro g36 _ y3 y4 y5 y6a y6l y6c y7a y7l y7c y8a y8l y8c y1
    refine hJ _ _ _ _ _ _ _ _ _ _ _ _ _ _ _ _ g36 ?_
    refine ifEq (fun _ => ifEq (fun _ => ifEq (fun _ => ifEq (fun _ => ifEq (fun _ => ifEq (fun _ => ifEq (fun _ g20 _ => ?_) (fun h => absurd rfl h)) (fun h => absurd rfl h)) (fun h => absurd rfl h)) (fun h => absurd rfl h)) (fun h => absurd rfl h)) (fun h => absurd rfl h)) (fun h => absurd rfl h)
    simp
  have call : ∀ (g34 : G) (q : Option Addr), Ex g g34 → SlE expE g34 q 2 2 [eLoop, eZero] → CallsP Tryd.prog 11 #[expV (mkE 5 0 [eLoop, eZero]) q 2 2, .int .i64 100] g34 fun v g36 =>
      ∃ x00_1 : Int, ∃ x01_1 : Int, ∃ x02_1 : Int, ∃ x03_1 : Int, ∃ x04_1 : Int, ∃ x05_1 : ByteArray, ∃ x06a_1 : Option Addr, ∃ x06l_1 : Nat, ∃ x06c_1 : Nat, ∃ x07a_1 : Option Addr, ∃ x07l_1 : Nat, ∃ x07c_1 : Nat, ∃ x08a_1 : Option Addr, ∃ x08l_1 : Nat, ∃ x08c_1 : Nat, ∃ x1_13 : Int, v = (.tuple ⟨[(.agg ⟨[(.int .i64 x00_1), (.int .i64 x01_1), (.int .i64 x02_1), (.int .i64 x03_1), (.int .i64 x04_1), (.string x05_1), (.slice x06a_1 x06l_1 x06c_1), (.slice x07a_1 x07l_1 x07c_1), (.slice x08a_1 x08l_1 x08c_1)]⟩), (.int .i64 x1_13)]⟩) ∧ ∀ g37 : G, Ex g36 g37 →
        J x1_13 x00_1 x01_1 x02_1 x03_1 x04_1 x05_1 x06a_1 x06l_1 x06c_1 x07a_1 x07l_1 x07c_1 x08a_1 x08l_1 x08c_1 g37 := by
    intro g34 q m34 hq
    refine (k11 (x := eBoth) i64_both 100 hq (ht.exm m34)).mono ?_
    rintro v g36 m36 ⟨o, rfl, hO⟩
    rw [run3, o3] at hO
    rw [run3]
    obtain ⟨na, nn, nc, ya, yn, yc, oa, on, oc, rfl, _, _⟩ := hO
    exact ⟨_, _, _, _, _, _, _, _, _, _, _, _, _, _, _, _, rfl, fun g37 m37 => fin g37 ((m34.trans m36).trans m37) _ _ _ _ _ _ _ _ _ _ _ _ _⟩
  refine ⟨fun g29 m29 => (k18 2 0 [] g29).mono ?_, fun g53 m53 => (k18 2 0 [] g53).mono ?_⟩
  · rintro v g30 m30 rfl
    have e1830 := (m28.trans m29).trans m30
    refine ⟨_, _, _, _, _, _, rfl, fun g31 m31 g32 n32 => ?_, fun g46 m46 g47 n47 g48 m48 => (k18 5 0 [eLoop, eZero] g48).mono ?_⟩
    · have h32 := new2 (t := eLoop) (u := eZero) (h18.exm (e1830.trans m31)) (nil g31) n32
      refine ⟨fun g33 m33 => (k18 5 0 [eLoop, eZero] g33).mono ?_, fun g41 m41 => (k18 5 0 [eLoop, eZero] g41).mono ?_⟩
      · rintro v g34 m34 rfl
        refine ⟨_, _, _, _, _, _, rfl, rep (fun g35 m35 => ?_) _⟩
        have mm := ((m33.trans m34).trans m35)
        exact call g35 _ ((((m018.trans e1830).trans m31).trans n32.ex).trans mm) (h32.exm mm)
      · rintro v g42 m42 rfl
        refine ⟨_, _, _, _, _, _, rfl, fun g43 m43 => ?_⟩
        have mm := ((m41.trans m42).trans m43)
        exact call g43 _ ((((m018.trans e1830).trans m31).trans n32.ex).trans mm) (h32.exm mm)
    · have h47 := new2 (t := eLoop) (u := eZero) (h18.exm (e1830.trans m46)) (nil g46) n47
      rintro v g49 m49 rfl
      refine ⟨_, _, _, _, _, _, rfl, fun g50 m50 => ?_⟩
      have mm := ((m48.trans m49).trans m50)
      exact call g50 _ ((((m018.trans e1830).trans m46).trans n47.ex).trans mm) (h47.exm mm)
  · rintro v g54 m54 rfl
    have e1854 := (m28.trans m53).trans m54
    refine ⟨_, _, _, _, _, _, rfl, fun g55 m55 g56 n56 g57 m57 => (k18 5 0 [eLoop, eZero] g57).mono ?_⟩
    have h56 := new2 (t := eLoop) (u := eZero) (h18.exm (e1854.trans m55)) (nil g55) n56
    rintro v g58 m58 rfl
    refine ⟨_, _, _, _, _, _, rfl, fun g59 m59 => ?_⟩
    have mm := ((m57.trans m58).trans m59)
    exact call g59 _ ((((m018.trans e1854).trans m55).trans n56.ex).trans mm) (h56.exm mm)
end Go.Proofs.YtfmjipgcbecamaaDoor
/- big. -/
set_option linter.unusedVariables false
namespace Go.Proofs.YtfmjipgcbecamaaDoor
open Go Go.Vc Go.RowKit Go.Syn Go.Lam Go.Sort

/-- walk. -/
theorem k32 (x : E) : ∀ {depth k : Nat} {a : Option Addr} {n c : Nat} {g : G} {nb wb : Nat}, SlE expE g a n c x.kids → depth ≤ 61 → k ≤ 200 → MutB g nb 3 [.int .i64 ((k : Nat) : Int)] → Live g ⟨wb, 0, none⟩ (.func (.func 32) #[] ⟨[.pointer (some ⟨nb, 0, none⟩), .pointer (some ⟨wb, 0, none⟩)]⟩) →
    CallsG Tryd.prog 32 (⟨[expV x a n c, .int .i64 ((depth : Nat) : Int)]⟩ ++ ⟨[.pointer (some ⟨nb, 0, none⟩), .pointer (some ⟨wb, 0, none⟩)]⟩) g (fun z => z = nb) fun v g' => v = .tuple ⟨[]⟩ ∧ ∃ k' : Nat, MutB g' nb 3 [.int .i64 ((k' : Nat) : Int)] ∧ k' ≤ 1000 ∧ (k' ≤ 200 → k' = k + sizeE x ∧ depthE x + depth ≤ 61) := by
  induction x using Tr.ind with
  | h d l ih =>
    intro depth k a n c g nb wb hI hd hk hb hw
    refine PB.call32 _ _ _ _ _ _ _ _ _ g _ _ ?_
    have hl : l.length = n := hI.len
    have hcap := hI.cap
    have hnc := hI.le
    unfold maxLen at hcap
    unfold PB.F32
    intro g1 m1
    have hb1 := hb.ex m1
    refine ⟨_, hb1.rd0 rfl, i64 (by omega) (by omega), hb1.ok0 (by simp), hb1.nx, hb1.mut0 1, fun _ => rfl, fun g2 k2 => ?_⟩
    obtain ⟨hb2', b2⟩ := hb1.st0 k2
    have le12 : Le g1 g2 := b2.le (fun z hz i => by have e : z = nb := hz; rw [e]; exact hb1.d i)
    have le2 := m1.le.trans le12
    have hb2 : MutB g2 nb 3 [.int .i64 ((k + 1 : Nat) : Int)] := by
      rw [show ((k + 1 : Nat) : Int) = ((k : Nat) : Int) + 1 by omega]; exact hb2'
    intro J hJ
    have loop : ∀ (g3 : G) (k3 : Nat), Le g g3 → MutB g3 nb 3 [.int .i64 ((k3 : Nat) : Int)] → k3 ≤ 1000 → (k3 ≤ 200 → k3 = k + 1 ∧ depth ≤ 60) → J g3 := by
      intro g3 k3 le3 hb3 h1000 hk3
      refine hJ g3 ⟨fun m i g' => ∃ (j k' : Nat), i = ((j : Nat) : Int) ∧ j + m = n ∧ MutB g' nb 3 [.int .i64 ((k' : Nat) : Int)] ∧ k' ≤ 1000 ∧ (k' ≤ 200 → k' = k + 1 + sizeEL (l.take j) ∧ depth ≤ 60 ∧ ∀ y ∈ l.take j, depthE y + (depth + 1) ≤ 61), ⟨n, 0, k3, rfl, by omega, hb3, h1000, fun h => ⟨by simp [sizeEL]; exact (hk3 h).1, (hk3 h).2, by simp⟩⟩, ?_⟩
      rintro m i g4 le4 ⟨j, k', rfl, hj, hb4, h4, hk4⟩
      have done : ∀ (g8 : G), (200 < k' ∨ n ≤ j) → Ex g4 g8 → (fun (v : Value) (g' : G) => v = .tuple ⟨[]⟩ ∧ ∃ k' : Nat, MutB g' nb 3 [.int .i64 ((k' : Nat) : Int)] ∧ k' ≤ 1000 ∧ (k' ≤ 200 → k' = k + sizeE (.mk d l) ∧ depthE (.mk d l) + depth ≤ 61)) (.tuple ⟨[]⟩) g8 := by
        intro g8 hor m8
        refine ⟨rfl, k', hb4.ex m8, h4, fun h => ?_⟩
        obtain ⟨e1, e2, e3⟩ := hk4 h
        have hj2 : l.length ≤ j := by rcases hor with h2 | h2 <;> omega
        rw [List.take_of_length_le hj2] at e1 e3
        refine ⟨by simp only [sizeE]; omega, ?_⟩
        simp only [depthE]
        have key : ∀ r : List E, (∀ y ∈ r, depthE y + (depth + 1) ≤ 61) → depthEL r + (depth + 1) ≤ 61 := by
          intro r
          induction r with
          | nil => intro _; simp [depthEL]; omega
          | cons z r ihr =>
            intro h
            have h1 := h z (by simp)
            have h2 := ihr (fun y hy => h y (by simp [hy]))
            simp only [depthEL]
            omega
        have := key l e3
        omega
      intro J1 hJ1
      refine ifLt (fun q => ⟨_, hb4.rd0 rfl, ifLe (fun q2 => hJ1 g4 (fun g6 m6 => ?_)) (fun q2 g8 m8 => done g8 (.inl (by omega)) m8)⟩) (fun q g9 m9 => done g9 (.inr (by omega)) m9)
      obtain ⟨e1, e2, e3⟩ := hk4 (by omega)
      have le06 := (le3.trans le4).trans m6.le
      have gj := List.getElem?_eq_getElem (show j < l.length by omega)
      generalize l[j] = y at gj
      have hy := List.mem_of_getElem? gj
      have htk := sizeEL_take gj
      refine ⟨_, _, (hw.mono le06).1, ⟨by omega, by omega⟩, rdE (hI.mono le06) j rfl gj (fun ka kn kc hk => ⟨i64 (by omega) (by omega), ⟨_, Tryd.func32, by kernel_rfl, by kernel_rfl⟩, fun z => z = nb, fun _ _ h => h, ?_⟩)⟩
      have hcall := ih y hy (depth := depth + 1) (k := k') hk (by omega) (by omega) (hb4.ex m6) (hw.mono le06)
      rw [show ((depth + 1 : Nat) : Int) = ((depth : Nat) : Int) + 1 by omega] at hcall
      refine hcall.mono ?_
      rintro v g7 _ ⟨rfl, k7, hb7, h7, hk7⟩
      refine ⟨rfl, i64 (by omega) (by omega), m - 1, by omega, j + 1, k7, by omega, by omega, hb7, h7, fun h => ?_⟩
      obtain ⟨f1, f2⟩ := hk7 h
      exact ⟨by omega, e2, (all_take gj (fun y => depthE y + (depth + 1) ≤ 61)).2 ⟨e3, f2⟩⟩
    clear hJ
    have big : stOk g2.w ⟨nb, 0, none⟩ 1 ∧ ¬ g2.X (Addr.block ⟨nb, 0, none⟩) ∧ mutAt g2 ⟨nb, 0, none⟩ 1 ∧ ((Addr.block ⟨nb, 0, none⟩) < g.w.heap.size → (fun z => z = nb) (Addr.block ⟨nb, 0, none⟩)) ∧ ∀ g10 : G, StG false g2 ⟨nb, 0, none⟩ [(.int .i64 (1000 : Int))] g10 → J g10 := by
      refine ⟨hb2.ok0 (by simp), hb2.nx, hb2.mut0 1, fun _ => rfl, fun g10 k10 => ?_⟩
      obtain ⟨hb10, b10⟩ := hb2.st0 k10
      exact loop g10 1000 (le2.trans (b10.le (fun z hz i => by have e : z = nb := hz; rw [e]; exact hb2.d i))) hb10 (Nat.le_refl _) (fun h => by omega)
    have go : depth ≤ 60 → J g2 := fun h => loop g2 (k + 1) le2 hb2 (by omega) (fun _ => ⟨rfl, h⟩)
    exact ifLt (fun _ => big) (fun q => ifLt (fun _ => big) (fun _ => ifLt (fun _ => ifLe (fun _ => big) (fun _ => ifLt (fun _ => big) (fun _ => go (by omega)))) (fun _ => ifLt (fun _ => big) (fun _ => go (by omega)))))
/-- big. -/
theorem k10 (x : E) {a : Option Addr} {n c : Nat} {g : G} (hI : SlE expE g a n c x.kids) : CallsP Tryd.prog 10 #[expV x a n c] g fun v _ => ∃ b, v = .bool b ∧ (b = false → sizeE x ≤ 200 ∧ depthE x ≤ 60) := by
  refine PB.call10 _ _ _ _ _ _ g _ ?_
  unfold PB.F10
  intro g1 m1 g2 n2
  have h2 := n2.mut
  refine ⟨h2.ok0 (by simp), h2.nx, h2.mut0 1, fun hh => by have h3 : g1.w.heap.size < g.w.heap.size := hh; have := m1.size; omega, fun g3 k3 => ?_⟩
  obtain ⟨h3, b3⟩ := h2.st0 k3
  have le3 : Le g g3 := (m1.le.trans n2.ex.le).trans (b3.le (fun z hz i => by have e : z = g1.w.heap.size := hz; rw [e]; exact h2.d i))
  intro g4 n4
  have h4 := n4.mut
  have hz3 : g.w.heap.size ≤ g3.w.heap.size := le3.size
  refine ⟨h4.ok0 (by simp), h4.nx, h4.mut0 1, fun hh => by have h5 : g3.w.heap.size < g.w.heap.size := hh; omega, fun g5 k5 => ?_⟩
  obtain ⟨hw, b5⟩ := h4.pub1 k5
  have le5 : Le g3 g5 := n4.ex.le.trans (b5.le (fun z hz i => by have e : z = g3.w.heap.size := hz; rw [e]; exact h4.d i))
  have hlt : g1.w.heap.size < g3.w.heap.size := h3.lt
  have h5 : MutB g5 g1.w.heap.size 3 [.int .i64 ((0 : Nat) : Int)] := (h3.ex n4.ex).but b5 (fun e => by have e' : g1.w.heap.size = g3.w.heap.size := e; omega)
  refine ⟨_, _, hw.1, ⟨_, Tryd.func32, by kernel_rfl, by kernel_rfl⟩, fun z => z = g1.w.heap.size, fun b hb e => by have := m1.size; omega, (k32 x (depth := 1) (k := 0) (hI.mono (le3.trans le5)) (by omega) (by omega) h5 hw).mono ?_⟩
  rintro v g6 _ ⟨rfl, k', hb6, _, hk⟩
  refine ⟨rfl, _, hb6.rd0 rfl, fun g7 _ => ⟨_, rfl, fun e => ?_⟩⟩
  have h200 : k' ≤ 200 := by rw [ltI_false] at e; omega
  obtain ⟨e1, e2⟩ := hk h200
  omega
end Go.Proofs.YtfmjipgcbecamaaDoor
/- Outcomes compared; LambdaFuel. -/
set_option linter.unusedVariables false
namespace Go.Proofs.YtfmjipgcbecamaaDoor
open Go Go.Vc Go.RowKit Go.Syn Go.Lam Go.Sort

theorem take_eq_succ {α : Type} {l m : List α} {j : Nat} {x y : α} (hx : l[j]? = some x) (hy : m[j]? = some y) (h : l.take j = m.take j) (e : x = y) : l.take (j + 1) = m.take (j + 1) := by
  rw [List.take_add_one, List.take_add_one, hx, hy, h, e]
/-- SameTexts. -/
theorem k17 {xs ys : List Lab} {a : Option Addr} {n c : Nat} {b : Option Addr} {m d : Nat} {g : G} (hx : SlE strE g a n c xs) (hy : SlE strE g b m d ys) : CallsP Tryd.prog 17 #[.slice a n c, .slice b m d] g fun v _ => v = .bool (tf (xs = ys)) := by
  refine call17 a n c b m d g _ ?_
  have hxl := hx.len
  have hyl := hy.len
  have hcap := hx.cap
  have hnc := hx.le
  unfold maxLen at hcap
  unfold F17
  refine ifNe (fun q g1 _ => vF (fun e => by rw [e] at hxl; omega)) (fun q => ?_)
  refine ⟨fun k i g' => ∃ j : Nat, i = ((j : Nat) : Int) ∧ j + k = n ∧ xs.take j = ys.take j, ⟨n, 0, rfl, by omega, rfl⟩, ?_⟩
  rintro k i g2 le ⟨j, rfl, hj, he⟩
  refine ifLt (fun q2 g3 m3 => ⟨⟨by omega, by omega⟩, ?_⟩) (fun q2 g5 _ => ?_)
  · have gx := List.getElem?_eq_getElem (show j < xs.length by omega)
    have gy := List.getElem?_eq_getElem (show j < ys.length by omega)
    generalize xs[j] = x at gx
    generalize ys[j] = y at gy
    have es : (strEq (bstr x) (bstr y) = true) = (x = y) := by rw [strEq_true, bstr_inj]
    refine rdS ((hx.mono le).exm m3) j rfl gx ⟨⟨by omega, by omega⟩, rdS ((hy.mono le).exm m3) j rfl gy (ifF (fun e g4 _ => vF (fun h => ?_)) (fun e => ⟨i64 (by omega) (by omega), k - 1, by omega, j + 1, by omega, by omega, take_eq_succ gx gy he (by rw [← es]; exact e)⟩))⟩
    rw [h, gy] at gx
    cases gx
    rw [es.mpr rfl] at e
    cases e
  · rw [List.take_of_length_le (by omega), List.take_of_length_le (by omega)] at he
    rw [tf_of he]
/-- SameValue. -/
theorem k22 (t : Sy) : ∀ {u : Sy} {na : Option Addr} {nn nc : Nat} {a : Option Addr} {n c : Nat} {ma : Option Addr} {mn mc : Nat} {b : Option Addr} {m d : Nat} {g : G}, SynI g t na nn nc a n c → SynI g u ma mn mc b m d →
    CallsP Tryd.prog 22 #[synV t na nn nc a n c, synV u ma mn mc b m d] g fun v _ => v = .bool (tf (t = u)) := by
  induction t using Tr.ind with
  | h dt l ih =>
    intro u na nn nc a n c ma mn mc b m d g ht hu
    obtain ⟨du, l2⟩ := u
    refine call22 _ _ _ _ _ _ _ _ _ _ _ _ _ _ _ _ _ _ g _ ?_
    have hN : SlE strE g na nn nc dt.names := ht.names
    have hM : SlE strE g ma mn mc du.names := hu.names
    have hK : SlE synE g a n c l := ht.kids
    have hQ : SlE synE g b m d l2 := hu.kids
    have hNl := hN.len
    have hMl := hM.len
    have hKl := hK.len
    have hQl := hQ.len
    have hcap := hK.cap
    have hcap2 := hN.cap
    have hle := hK.le
    have hle2 := hN.le
    unfold maxLen at hcap hcap2
    unfold F22
    intro J hJ
    refine ifNe (fun q g10 _ => vF (fun e => q (by cases e; rfl))) (fun q1 => ifNe (fun q g11 _ => vF (fun e => q (by cases e; rfl))) (fun q2 => ?_))
    have es : (strEq (bstr dt.s) (bstr du.s) = true) = (dt.s = du.s) := by rw [strEq_true, bstr_inj]
    refine ifF (fun e g12 _ => vF (fun h => ?_)) (fun e3 => ifNe (fun q g13 _ => vF (fun e => ?_)) (fun q4 => ifNe (fun q g14 _ => vF (fun e => ?_)) (fun q5 g15 m15 => hJ g15 ?_)))
    · cases h
      have e' : strEq (bstr dt.s) (bstr dt.s) = false := e
      rw [es.mpr rfl] at e'
      cases e'
    · cases e; omega
    · cases e; omega
    clear hJ
    have q3 : dt.s = du.s := by rw [← es]; exact e3
    refine ⟨fun k i g' => ∃ j : Nat, i = ((j : Nat) : Int) ∧ j + k = nn ∧ dt.names.take j = du.names.take j, ⟨nn, 0, rfl, by omega, rfl⟩, ?_⟩
    rintro k i g2 le ⟨j, rfl, hj, he⟩
    have hN2 := (hN.exm m15).mono le
    have hM2 := (hM.exm m15).mono le
    refine ifLt (fun qq g3 m3 => ⟨⟨by omega, by omega⟩, ?_⟩) (fun qq => ?_)
    · have gx := List.getElem?_eq_getElem (show j < dt.names.length by omega)
      have gy := List.getElem?_eq_getElem (show j < du.names.length by omega)
      generalize dt.names[j] = x at gx
      generalize du.names[j] = y at gy
      have ex : (strEq (bstr x) (bstr y) = true) = (x = y) := by rw [strEq_true, bstr_inj]
      refine rdS (hN2.exm m3) j rfl gx ⟨⟨by omega, by omega⟩, rdS (hM2.exm m3) j rfl gy (ifF (fun e g4 _ => vF (fun h => ?_)) (fun e => ⟨i64 (by omega) (by omega), k - 1, by omega, j + 1, by omega, by omega, take_eq_succ gx gy he (by rw [← ex]; exact e)⟩))⟩
      cases h
      rw [gy] at gx
      cases gx
      rw [ex.mpr rfl] at e
      cases e
    · rw [List.take_of_length_le (by omega), List.take_of_length_le (by omega)] at he
      refine ⟨fun k i g' => ∃ j : Nat, i = ((j : Nat) : Int) ∧ j + k = n ∧ l.take j = l2.take j, ⟨n, 0, rfl, by omega, rfl⟩, ?_⟩
      rintro k2 i2 g5 le5 ⟨j2, rfl, hj2, he2⟩
      have hK5 := ((hK.exm m15).mono le).mono le5
      have hQ5 := ((hQ.exm m15).mono le).mono le5
      refine ifLt (fun qq2 g6 m6 => ⟨⟨by omega, by omega⟩, ?_⟩) (fun qq2 g9 _ => ?_)
      · have gx := List.getElem?_eq_getElem (show j2 < l.length by omega)
        have gy := List.getElem?_eq_getElem (show j2 < l2.length by omega)
        generalize l[j2] = x at gx
        generalize l2[j2] = y at gy
        refine rdT (hK5.exm m6) j2 rfl gx (fun xa xn xc ka kn kc hx => ⟨⟨by omega, by omega⟩, rdT (hQ5.exm m6) j2 rfl gy (fun ya yn yc pa pn pc hy => (ih x (List.mem_of_getElem? gx) hx hy).mono ?_)⟩)
        rintro v g7 _ rfl
        refine ⟨_, rfl, ifPn (fun e g8 _ => vF (fun h => e ?_)) (fun e => ⟨i64 (by omega) (by omega), k2 - 1, by omega, j2 + 1, by omega, by omega, take_eq_succ gx gy he2 e⟩)⟩
        cases h
        rw [gy] at gx
        cases gx
        rfl
      · rw [List.take_of_length_le (by omega), List.take_of_length_le (by omega)] at he2
        rw [tf_of]
        obtain ⟨p1, p2, p3, p4⟩ := dt
        obtain ⟨r1, r2, r3, r4⟩ := du
        have h1 : p1 = r1 := q1
        have h2 : p2 = r2 := q2
        have h3 : p3 = r3 := q3
        have h4 : p4 = r4 := he
        rw [h1, h2, h3, h4, he2]
theorem OutI.exm {g g1 : G} (m1 : Ex g g1) {q : Outc} {u : Value} : OutI g q u → OutI g1 q u := fun ⟨na, nn, nc, a, n, c, oa, on, oc, h1, h2, h3⟩ => ⟨na, nn, nc, a, n, c, oa, on, oc, h1, h2.exm m1, h3.exm m1⟩
end Go.Proofs.YtfmjipgcbecamaaDoor
