/- Joined texts. -/
import Derived.Test.YthlcdgpemjdgnaaGreatDoorShelf45z
import Derived.Test.YthlcdgpemjdgnaaGreatDoorFnT45
import Derived.Test.YthlcdgpemjdgnaaGreatDoorFnT45b
import Derived.Test.YthlcdgpemjdgnaaGreatDoorLamA
import Derived.Test.YthlcdgpemjdgnaaGreatDoorVclip
import Derived.Test.YthlcdgpemjdgnaaGreatDoorVwith
import Derived.Test.YthlcdgpemjdgnaaGreatDoorLnode
import Derived.Test.YthlcdgpemjdgnaaGreatDoorLfree
import Derived.Test.YthlcdgpemjdgnaaGreatDoorVmb
import Derived.Test.YthlcdgpemjdgnaaGreatDoorVsort
import Derived.Test.YthlcdgpemjdgnaaGreatDoorLval
/- Closure: small functions. -/
set_option linter.unusedVariables false
namespace Go.Proofs.YthlcdgpemjdgnaaGreatDoor
open Go Go.Vc Go.RowKit Go.Syn Go.Lam Go.Sort

theorem kk68 (n a b : Int) (g : G) : CallsP Tryz.prog 120 #[.int .i64 n, .int .i64 a, .int .i64 b] g fun v _ => v = .bool (tf (a ≤ n ∧ n ≤ b)) := by
  refine call120 n a b g _ ?_
  unfold F120
  refine ifLe (fun q g1 _ => ?_) (fun q g2 _ => vF (fun hh => by omega))
  rw [tf_le]
  exact vP ⟨fun hh => ⟨q, hh⟩, fun hh => hh.2⟩
end Go.Proofs.YthlcdgpemjdgnaaGreatDoor
/- node, measure, Valid, Size. -/
set_option linter.unusedVariables false
namespace Go.Proofs.YthlcdgpemjdgnaaGreatDoor
open Go Go.Vc Go.RowKit Go.Syn Go.Lam Go.Sort

theorem kk69 (n : Int) (g : G) : CallsP Tryz.prog 121 #[.int .i64 n] g fun v _ => v = .int .i64 ((arityN n : Nat) : Int) := by
  refine call121 n g _ ?_
  unfold F121
  refine ifEq (fun e g1 _ => ?_) (fun e1 => ifEq (fun e g1 _ => ?_) (fun e2 => ifEq (fun e g1 _ => ?_) (fun e3 => ifEq (fun e g1 _ => ?_) (fun e4 g1 _ => ?_))))
  · unfold arityN; rw [if_pos (.inl e)]; rfl
  · unfold arityN; rw [if_pos (.inr (.inl e))]; rfl
  · unfold arityN; rw [if_pos (.inr (.inr (.inl e)))]; rfl
  · unfold arityN; rw [if_pos (.inr (.inr (.inr e)))]; rfl
  · unfold arityN; rw [if_neg (by omega)]; rfl
/-- node. -/
theorem kk55 {x : E} (hn : x.dat.n ≤ 9223372036854775807) {a : Option Addr} {n c : Nat} {g : G} (hI : SlE expE g a n c x.kids) : CallsP Tryz.prog 103 #[expV x a n c] g fun v _ => v = .bool (tf (nodeP x.dat x.kids)) := by
  refine call103 _ _ _ _ _ _ g _ ?_
  have hl := hI.len
  unfold F103
  intro J hJ
  have main : ∀ g1, Ex g g1 → (x.dat.op = 3 ∨ x.dat.s = []) → J g1 := by
    intro g1 m1 hs
    refine hJ g1 ?_
    have no : ∀ (g' : G), ¬ nodeP x.dat x.kids → (fun (v : Value) (_ : G) => v = .bool (tf (nodeP x.dat x.kids))) (.bool false) g' := fun g' h => vF h
    refine ifEq (fun e => ?_) (fun e1 => ?_)
    · have hk := node1 (l := x.kids) hs e
      refine ifEq (fun q g2 _ => ?_) (fun q g3 _ => no g3 (fun h => by have := hk.1 h; omega))
      show Value.bool (leI _ _) = _
      rw [tf_le]
      exact vP ⟨fun h => hk.2 ⟨by omega, h, hn⟩, fun h => (hk.1 h).2.1⟩
    refine ifEq (fun e => ?_) (fun e2 => ?_)
    · have hk := node2 (l := x.kids) hs e
      refine ifEq (fun q => (kk68 _ _ _ g1).mono ?_) (fun q g3 _ => no g3 (fun h => by have := hk.1 h; omega))
      rintro v g4 _ rfl
      exact ⟨_, rfl, fun g5 _ => vP ⟨fun h => hk.2 ⟨by omega, h.1, h.2⟩, fun h => (hk.1 h).2⟩⟩
    refine ifEq (fun e => ?_) (fun e3 => ?_)
    · have hk := node3 (l := x.kids) hs e
      refine ifEq (fun q => ifEq (fun q2 g2 _ => ?_) (fun q2 g3 _ => no g3 (fun h => by have := hk.1 h; omega))) (fun q g3 _ => no g3 (fun h => by have := hk.1 h; omega))
      show Value.bool (leI _ _) = _
      rw [tf_le, bstr_size]
      exact vP ⟨fun h => hk.2 ⟨by omega, q2, by omega⟩, fun h => by have := (hk.1 h).2.2; omega⟩
    have hs0 : x.dat.s = [] := hs.resolve_left e3
    refine ifEq (fun e => ?_) (fun e4 => ?_)
    · have hk := node4 (l := x.kids) hs e
      refine ifEq (fun q g2 _ => ?_) (fun q g3 _ => no g3 (fun h => by have := hk.1 h; omega))
      show Value.bool (eqI _ _) = _
      rw [tf_eq]
      exact vP ⟨fun h => hk.2 ⟨by omega, h⟩, fun h => (hk.1 h).2⟩
    intro J1 hJ1
    have two : ∀ g12, (nodeP x.dat x.kids ↔ x.kids.length = 2 ∧ x.dat.n = 0) → J1 true g12 := by
      intro g12 hk
      refine hJ1 true g12 (ifT (fun _ => ?_) (fun e => by cases e))
      refine ifEq (fun q g2 _ => ?_) (fun q g3 _ => no g3 (fun h => by have := hk.1 h; omega))
      show Value.bool (eqI _ _) = _
      rw [tf_eq]
      exact vP ⟨fun h => hk.2 ⟨by omega, h⟩, fun h => (hk.1 h).2⟩
    refine ifEq (fun e => two g1 (node5 hs e)) (fun e5 => ?_)
    by_cases e11 : x.dat.op = 11
    · have : eqI x.dat.op 11 = true := by simp [e11]
      rw [this]
      exact two g1 (node11 hs e11)
    have h11 : eqI x.dat.op 11 = false := by simp [e11]
    rw [h11]
    refine hJ1 false g1 (ifT (fun e => by cases e) (fun _ => ?_))
    refine ifEq (fun e => ?_) (fun e6 => ?_)
    · have hk := node6 (l := x.kids) hs e
      refine ifLe (fun q g2 _ => ?_) (fun q g3 _ => no g3 (fun h => by have := hk.1 h; omega))
      show Value.bool (eqI _ _) = _
      rw [tf_eq]
      exact vP ⟨fun h => hk.2 ⟨by omega, h⟩, fun h => (hk.1 h).2⟩
    intro J2 hJ2
    have one : ∀ g17, (nodeP x.dat x.kids ↔ x.kids.length = 1 ∧ 0 ≤ x.dat.n ∧ x.dat.n ≤ 999) → J2 true g17 := by
      intro g17 hk
      refine hJ2 true g17 (ifT (fun _ => ?_) (fun e => by cases e))
      refine ifEq (fun q => (kk68 _ _ _ g17).mono ?_) (fun q g3 _ => no g3 (fun h => by have := hk.1 h; omega))
      rintro v g4 _ rfl
      exact ⟨_, rfl, fun g5 _ => vP ⟨fun h => hk.2 ⟨by omega, h.1, h.2⟩, fun h => (hk.1 h).2⟩⟩
    refine ifEq (fun e => one g1 (node7 hs e)) (fun e7 => ?_)
    by_cases e8 : x.dat.op = 8
    · have : eqI x.dat.op 8 = true := by simp [e8]
      rw [this]
      exact one g1 (node8 hs e8)
    have h8 : eqI x.dat.op 8 = false := by simp [e8]
    rw [h8]
    refine hJ2 false g1 (ifT (fun e => by cases e) (fun _ => ?_))
    refine ifEq (fun e => ?_) (fun e9 => ?_)
    · have hk := node9 (l := x.kids) hs e
      refine (kk68 _ _ _ g1).mono ?_
      rintro v g4 _ rfl
      refine ⟨_, rfl, ifP (fun q g5 _ => ?_) (fun q g3 _ => no g3 (fun h => q (by have := hk.1 h; omega)))⟩
      show Value.bool (eqI _ _) = _
      rw [tf_eq]
      exact vP ⟨fun h => hk.2 ⟨by omega, by omega, h⟩, fun h => (hk.1 h).2.2⟩
    refine ifEq (fun e => ?_) (fun e10 => ?_)
    · have hk := node10 (l := x.kids) hs e
      refine ifEq (fun q => ifEq (fun q2 => ⟨⟨by omega, by omega⟩, ?_⟩) (fun q2 g3 _ => no g3 (fun h => q2 (hk.1 h).2.1))) (fun q g3 _ => no g3 (fun h => by have := (hk.1 h).1; omega))
      have gy := List.getElem?_eq_getElem (show 0 < x.kids.length by omega)
      generalize x.kids[0] = y at gy
      refine rdEL (hI.exm m1) 0 rfl gy (fun ad ka kn kc _ hy hly => ⟨_, (live0 (hly 0 _ rfl)).1, fun g24 _ => ?_⟩)
      show Value.bool (eqI _ _) = _
      rw [tf_eq]
      refine vP ⟨fun h => hk.2 ⟨by omega, q2, y, gy, h⟩, fun h => ?_⟩
      obtain ⟨_, _, y', gy', h4⟩ := hk.1 h
      rw [gy] at gy'
      cases gy'
      exact h4
    refine ifEq (fun e => ?_) (fun e12 => ?_)
    · have hk := node12 (l := x.kids) hs e
      refine (kk68 _ _ _ g1).mono ?_
      rintro v g4 _ rfl
      refine ⟨_, rfl, ifP (fun q => (kk69 _ g4).mono ?_) (fun q g3 _ => no g3 (fun h => q ⟨(hk.1 h).1, (hk.1 h).2.1⟩))⟩
      rintro v g5 _ rfl
      refine ⟨_, rfl, fun g6 _ => ?_⟩
      show Value.bool (eqI _ _) = _
      rw [tf_eq]
      exact vP ⟨fun h => hk.2 ⟨q.1, q.2, by omega⟩, fun h => by have := (hk.1 h).2.2; omega⟩
    refine ifEq (fun e => ?_) (fun e13 => ?_)
    · have hk := node13 (l := x.kids) hs e
      refine ifEq (fun q => (kk68 _ _ _ g1).mono ?_) (fun q g3 _ => no g3 (fun h => by have := hk.1 h; omega))
      rintro v g4 _ rfl
      exact ⟨_, rfl, fun g5 _ => vP ⟨fun h => hk.2 ⟨by omega, h.1, h.2⟩, fun h => (hk.1 h).2⟩⟩
    exact fun g34 _ => no g34 (nodeNo (by omega))
  clear hJ
  refine ifNe (fun e => ?_) (fun e g37 m37 => main g37 m37 (.inl e))
  have es : (strEq (bstr x.dat.s) (bs []) = true) = (x.dat.s = []) := by
    rw [strEq_true, show bs [] = bstr [] from rfl, bstr_inj]
  refine ifF (fun q g35 _ => vF ?_) (fun q g36 m36 => main g36 m36 (.inr (by rw [← es]; exact q)))
  rintro ⟨h1, _⟩
  rcases h1 with h1 | h1
  · exact e h1
  · rw [← es] at h1; rw [h1] at q; cases q
/-- measure. -/
def measP (left depth : Nat) (x : E) : Prop := formE x ∧ sizeE x ≤ left ∧ depthE x + depth ≤ 401
theorem kk47 (x : E) : ∀ {left depth : Nat} {a : Option Addr} {n c : Nat} {g : G}, i64E x → left ≤ 20000 → depth ≤ 1000 → SlE expE g a n c x.kids →
    CallsP Tryz.prog 86 #[expV x a n c, .int .i64 ((left : Nat) : Int), .int .i64 ((depth : Nat) : Int)] g fun v _ => ∃ k : Nat, v = .tuple ⟨[.int .i64 ((k : Nat) : Int), .bool (tf (measP left depth x))]⟩ ∧ (measP left depth x → k = sizeE x) := by
  induction x using Tr.ind with
  | h d l ih =>
    intro left depth a n c g hx hle hd hI
    obtain ⟨hn, hkx⟩ := i64E_un hx
    refine call86 _ _ _ _ _ _ _ _ g _ ?_
    have hl := hI.len
    have hcap := hI.cap
    have hnc := hI.le
    unfold maxLen at hcap
    unfold F86
    have no : ∀ (g' : G), ¬ measP left depth (.mk d l) → (fun (v : Value) (_ : G) => ∃ k : Nat, v = .tuple ⟨[.int .i64 ((k : Nat) : Int), .bool (tf (measP left depth (.mk d l)))]⟩ ∧ (measP left depth (.mk d l) → k = sizeE (.mk d l))) (.tuple ⟨[.int .i64 0, .bool false]⟩) g' := fun g' h => ⟨0, by rw [tf_no h]; rfl, fun hh => absurd hh h⟩
    intro J hJ
    refine ifLe (fun q g7 _ => no g7 (fun h => by have := h.2.1; have := sizeE_pos (.mk d l); omega)) (fun q1 => ifLt (fun q g8 _ => no g8 (fun h => by have := h.2.2; simp [depthE] at this; omega)) (fun q2 g9 m9 => (kk55 hn (hI.exm m9)).mono ?_))
    rintro v g10 m10 rfl
    refine ⟨_, rfl, ifPn (fun q g11 _ => no g11 (fun h => q (formE_un h.1).1)) (fun q3 => hJ g10 ?_)⟩
    clear hJ
    refine ⟨fun m k i g' => ∃ j : Nat, i = ((j : Nat) : Int) ∧ j + m = n ∧ k = ((1 + sizeEL (l.take j) : Nat) : Int) ∧ 1 + sizeEL (l.take j) ≤ left ∧ ∀ y ∈ l.take j, formE y ∧ depthE y + (depth + 1) ≤ 401, ⟨n, 0, rfl, by omega, by simp [sizeEL], by simp [sizeEL]; omega, by simp⟩, ?_⟩
    rintro m k i g2 le ⟨j, rfl, hj, rfl, hsz, hall⟩
    have hl' : l.length = n := hl
    refine ifLt (fun q => ⟨⟨by omega, by omega⟩, ?_⟩) (fun q g6 _ => ?_)
    · have gj := List.getElem?_eq_getElem (show j < l.length by omega)
      generalize l[j] = y at gj
      have hy := List.mem_of_getElem? gj
      have htk := sizeEL_take gj
      refine rdE ((hI.exm (m9.trans m10)).mono le) j rfl gj (fun ka kn kc hk => ⟨i64 (by omega) (by omega), i64 (by omega) (by omega), fun g3 m3 => ?_⟩)
      have hcall := ih y hy (left := left - (1 + sizeEL (l.take j))) (depth := depth + 1) (hkx y hy) (by omega) (by omega) (hk.exm m3)
      rw [show ((left - (1 + sizeEL (l.take j)) : Nat) : Int) = ((left : Nat) : Int) - ((1 + sizeEL (l.take j) : Nat) : Int) by omega, show ((depth + 1 : Nat) : Int) = ((depth : Nat) : Int) + 1 by omega] at hcall
      refine hcall.mono ?_
      rintro v g4 _ ⟨k, rfl, hk2⟩
      refine ⟨_, _, rfl, ifPn (fun q4 g5 _ => no g5 (fun h => q4 ?_)) (fun q4 => ?_)⟩
      · refine ⟨(formE_un h.1).2 y hy, ?_, ?_⟩
        · have h1 := h.2.1
          have h2 := sizeEL_le l (j + 1)
          simp only [sizeE] at h1
          omega
        · have h1 := h.2.2
          have h2 := depthE_mem hy
          simp only [depthE] at h1
          omega
      · have hk3 := hk2 q4
        have h4 := q4.2.1
        exact ⟨i64 (by omega) (by omega), i64 (by omega) (by omega), m - 1, by omega, j + 1, by omega, by omega, by omega, by omega, (all_take gj (fun y => formE y ∧ depthE y + (depth + 1) ≤ 401)).2 ⟨hall, q4.1, q4.2.2⟩⟩
    · rw [List.take_of_length_le (by omega)] at hsz hall
      rw [List.take_of_length_le (show l.length ≤ j by omega)]
      have hm : measP left depth (.mk d l) := by
        refine ⟨formE_iff.2 ⟨q3, fun y hy => (hall y hy).1⟩, by simp only [sizeE]; omega, ?_⟩
        simp only [depthE]
        have : depthEL l + (depth + 1) ≤ 401 := by
          have key : ∀ r : List E, (∀ y ∈ r, depthE y + (depth + 1) ≤ 401) → depthEL r + (depth + 1) ≤ 401 := by
            intro r
            induction r with
            | nil => intro _; simp [depthEL]; omega
            | cons z r ihr =>
              intro h
              have h1 := h z (by simp)
              have h2 := ihr (fun y hy => h y (by simp [hy]))
              simp only [depthEL]
              omega
          exact key l (fun y hy => (hall y hy).2)
        omega
      refine ⟨1 + sizeEL l, by rw [tf_of hm], fun _ => by simp only [sizeE]; omega⟩
theorem kk30 {x : E} (hx : i64E x) {a : Option Addr} {n c : Nat} {g : G} (hI : SlE expE g a n c x.kids) : CallsP Tryz.prog 61 #[expV x a n c] g fun v _ => v = .bool (tf (validE x)) := by
  refine call61 _ _ _ _ _ _ g _ ?_
  unfold F61
  refine fun g1 m1 => (kk47 x (left := 20000) (depth := 1) hx (Nat.le_refl _) (by omega) (hI.exm m1)).mono ?_
  rintro v g2 _ ⟨k, rfl, _⟩
  refine ⟨_, _, rfl, fun g3 _ => vP ?_⟩
  unfold measP validE
  exact ⟨fun h => ⟨h.1, h.2.1, by omega⟩, fun h => ⟨h.1, h.2.1, by omega⟩⟩
end Go.Proofs.YthlcdgpemjdgnaaGreatDoor
/- Free. -/

set_option linter.unusedVariables false
namespace Go.Proofs.YthlcdgpemjdgnaaGreatDoor
open Go Go.Vc Go.RowKit Go.Syn Go.Lam Go.Sort

/-- binds. -/
theorem kk48 (x : E) (j : Nat) {a : Option Addr} {n c : Nat} (g : G) : CallsP Tryz.prog 87 #[expV x a n c, .int .i64 ((j : Nat) : Int)] g fun v _ => v = .bool (tf (bndN x.dat.op j = 1)) := by
  refine call87 _ _ _ _ _ _ _ g _ ?_
  unfold F87
  intro J hJ
  have yes : ∀ g1, (x.dat.op = 4 ∨ x.dat.op = 10) → J true g1 := fun g1 h => hJ true g1 (ifT (fun _ g2 _ => by rw [tf_of (bnd_body h j)]) (fun e => by cases e))
  have no : ∀ g1, ¬ (x.dat.op = 4 ∨ x.dat.op = 10) → J false g1 := by
    intro g1 h
    refine hJ false g1 (ifT (fun e => by cases e) (fun _ => ?_))
    have key : (x.dat.op = 11 ∨ x.dat.op = 9) → ∀ g3 : G, (fun (v : Value) (_ : G) => v = .bool (tf (bndN x.dat.op j = 1))) (.bool (ltI 0 ((j : Nat) : Int))) g3 := by
      intro h2 g3
      show Value.bool (ltI _ _) = _
      rw [tf_lt]
      refine vP ⟨fun hh => bnd_more h2 (by omega), fun hh => ?_⟩
      by_cases q : 0 < j
      · omega
      · have : j = 0 := by omega
        subst this
        rw [bnd_first (by omega)] at hh
        cases hh
    refine ifEq (fun e g3 _ => key (.inl e) g3) (fun e11 => ifEq (fun e g4 _ => key (.inr e) g4) (fun e9 g5 _ => ?_))
    exact vF (fun hh => by rw [bnd_none (by omega)] at hh; cases hh)
  refine ifEq (fun e g6 _ => yes g6 (.inl e)) (fun e4 g7 _ => ?_)
  by_cases e10 : x.dat.op = 10
  · have : eqI x.dat.op 10 = true := by simp [e10]
    rw [this]; exact yes g7 (.inr e10)
  · have : eqI x.dat.op 10 = false := by simp [e10]
    rw [this]; exact no g7 (by omega)
theorem memF_upd (S : List Int) (s : Int) : updI (memF S) s (some (.bool true)) = memF (S ++ [s]) := by
  funext x
  unfold memF
  by_cases e : x = s
  · subst e; rw [updI_same, if_pos (by simp)]
  · rw [updI_other _ _ e]
    by_cases q : x ∈ S
    · rw [if_pos q, if_pos (by simp [q])]
    · rw [if_neg q, if_neg (by simp [q, e])]
/-- collect. -/
theorem kk31 (x : E) : ∀ {depth : Nat} {a : Option Addr} {n c : Nat} {g : G} {b cnt : Nat} {S : List Int}, i64E x → depthE x + depth ≤ 1000 → cnt + sizeE x ≤ 1000000 → SlE expE g a n c x.kids → MapI Tryz.prog g 3 b cnt (memF S) →
    CallsG Tryz.prog 62 #[.map (some b), expV x a n c, .int .i64 ((depth : Nat) : Int)] g (fun z => z = b) fun v g' => v = .tuple ⟨[]⟩ ∧ MapI Tryz.prog g' 3 b (cnt + (frees x depth).length) (memF (S ++ frees x depth)) := by
  induction x using Tr.ind with
  | h d l ih =>
    intro depth a n c g b cnt S hx hd hc hI hm
    obtain ⟨hn, hkx⟩ := i64E_un hx
    refine call62 _ _ _ _ _ _ _ _ g _ _ ?_
    have hl : l.length = n := hI.len
    have hcap := hI.cap
    have hnc := hI.le
    unfold maxLen at hcap
    have hmax : (1000000 : Nat) < maxLen := by unfold maxLen; omega
    unfold F62
    intro J hJ
    have loop : ∀ (g1 : G) (pre : List Int), Le g g1 → MapI Tryz.prog g1 3 b (cnt + pre.length) (memF (S ++ pre)) → pre.length ≤ 1 → pre = (if d.op = 1 ∧ ((depth : Nat) : Int) ≤ d.n then [d.n - ((depth : Nat) : Int)] else []) → J g1 := by
      intro g1 pre le1 hm1 hp1 hpre
      refine hJ g1 ⟨fun m i g' => ∃ j : Nat, i = ((j : Nat) : Int) ∧ j + m = n ∧ MapI Tryz.prog g' 3 b (cnt + (pre ++ freesL d.op 0 (l.take j) depth).length) (memF (S ++ (pre ++ freesL d.op 0 (l.take j) depth))), ⟨n, 0, rfl, by omega, by simpa [freesL] using hm1⟩, ?_⟩
      rintro m i g2 le2 ⟨j, rfl, hj, hm2⟩
      refine ifLt (fun q => ⟨⟨by omega, by omega⟩, ?_⟩) (fun q g7 m7 => ?_)
      · have gj := List.getElem?_eq_getElem (show j < l.length by omega)
        generalize l[j] = y at gj
        have hy := List.mem_of_getElem? gj
        have htk := freesL_take d.op gj depth
        have hsz : (freesL d.op 0 (l.take j) depth).length ≤ sizeEL (l.take j) := by
          have key : ∀ (r : List E) (q : Nat), (freesL d.op q r depth).length ≤ sizeEL r := by
            intro r
            induction r with
            | nil => intro q; simp [freesL, sizeEL]
            | cons t r ihr =>
              intro q
              have h1 := frees_len t (depth + bndN d.op q)
              have h2 := ihr (q + 1)
              simp only [freesL, sizeEL, List.length_append]
              omega
          exact key _ 0
        have hst := sizeEL_take gj
        have hsl := sizeEL_le l (j + 1)
        have hde := depthE_mem hy
        simp only [sizeE] at hc
        simp only [depthE] at hd
        refine rdE ((hI.mono le1).mono le2) j rfl gj (fun ka kn kc hk g3 m3 => (kk48 (.mk d l) j g3).mono ?_)
        rintro v g4 m4 rfl
        have m34 := m3.trans m4
        have fin : ∀ g5, MapI Tryz.prog g5 3 b (cnt + (pre ++ freesL d.op 0 (l.take j) depth).length + (frees y (depth + bndN d.op j)).length) (memF (S ++ (pre ++ freesL d.op 0 (l.take j) depth) ++ frees y (depth + bndN d.op j))) →
            InI64 (((j : Nat) : Int) + 1) ∧ ∃ m_2 : Nat, m_2 < m ∧ ∃ j' : Nat, ((j : Nat) : Int) + 1 = ((j' : Nat) : Int) ∧ j' + m_2 = n ∧ MapI Tryz.prog g5 3 b (cnt + (pre ++ freesL d.op 0 (l.take j') depth).length) (memF (S ++ (pre ++ freesL d.op 0 (l.take j') depth))) := by
          intro g5 h5
          refine ⟨i64 (by omega) (by omega), m - 1, by omega, j + 1, by omega, by omega, ?_⟩
          rw [htk, ← List.append_assoc pre, List.length_append, ← Nat.add_assoc, ← List.append_assoc S]
          exact h5
        have call : ∀ (dep : Nat), dep = depth + bndN d.op j → dep ≤ depth + 1 → CallsG Tryz.prog 62 #[.map (some b), expV y ka kn kc, .int .i64 ((dep : Nat) : Int)] g4 (fun z => z = b) fun v g5 => v = .tuple ⟨[]⟩ ∧ MapI Tryz.prog g5 3 b (cnt + (pre ++ freesL d.op 0 (l.take j) depth).length + (frees y (depth + bndN d.op j)).length) (memF (S ++ (pre ++ freesL d.op 0 (l.take j) depth) ++ frees y (depth + bndN d.op j))) := by
          intro dep e hde2
          subst e
          exact ih y hy (hkx y hy) (by omega) (by rw [List.length_append]; omega) (hk.exm m34) (hm2.ex m34)
        refine ⟨_, rfl, ifP (fun q2 => ⟨i64 (by omega) (by omega), fun z => z = b, fun _ _ h => h, ?_⟩) (fun q2 => ⟨fun z => z = b, fun _ _ h => h, ?_⟩)⟩
        · have hcall := call (depth + 1) (by rw [show bndN d.op j = 1 from q2]) (Nat.le_refl _)
          rw [show ((depth + 1 : Nat) : Int) = ((depth : Nat) : Int) + 1 by omega] at hcall
          refine hcall.mono ?_
          rintro v g5 _ ⟨rfl, h5⟩
          exact ⟨rfl, fin g5 h5⟩
        · have hb0 : bndN d.op j = 0 := by
            have : bndN d.op j ≠ 1 := q2
            unfold bndN at this ⊢
            split
            · next h => rw [if_pos h] at this; exact absurd rfl this
            · next h =>
              rw [if_neg h] at this
              split
              · next h2 => rw [if_pos h2] at this; exact absurd rfl this
              · rfl
          refine (call depth (by rw [hb0]; rfl) (by omega)).mono ?_
          rintro v g5 _ ⟨rfl, h5⟩
          exact ⟨rfl, fin g5 h5⟩
      · rw [List.take_of_length_le (by omega)] at hm2
        refine ⟨rfl, ?_⟩
        rw [frees, ← hpre]
        exact hm2.ex m7
    clear hJ
    refine ifEq (fun e => ifLe (fun q => ⟨i64 (by omega) (by omega), fun g8 m8 => ?_⟩) (fun q g10 m10 => loop g10 [] m10.le (by simpa using hm.ex m10) (by simp) (by rw [if_neg (fun h => by have h2 : ((depth : Nat) : Int) ≤ (Tr.mk d l).dat.n := h.2; omega)]))) (fun e g11 m11 => loop g11 [] m11.le (by simpa using hm.ex m11) (by simp) (by rw [if_neg (fun h => e h.1)]))
    have hn' : d.n ≤ 9223372036854775807 := hn
    have q' : ((depth : Nat) : Int) ≤ d.n := q
    have hwf : (Lit.int .i64 (d.n - ((depth : Nat) : Int))).wf = true := by
      simp only [Lit.wf, Bool.and_eq_true, IntKind.min, IntKind.max, IntKind.signed, IntKind.bits]
      simp
      omega
    obtain ⟨w', hrun, g9, hw, hst, hm9⟩ := (hm.ex m8).putM (t := 116) (e := 4) Tryz.underlying3 Tryz.underlying116 (by omega) (d.n - ((depth : Nat) : Int)) hwf (.bool true)
    refine ⟨w', hrun, g9, hw, hst _, loop g9 [d.n - ((depth : Nat) : Int)] (m8.le.trans (hst 0).le) ?_ (by simp) (by rw [if_pos ⟨e, q⟩])⟩
    rw [memF_upd] at hm9
    exact hm9
end Go.Proofs.YthlcdgpemjdgnaaGreatDoor
/- Free, closed. -/
set_option linter.unusedVariables false
namespace Go.Proofs.YthlcdgpemjdgnaaGreatDoor
open Go Go.Vc Go.RowKit Go.Syn Go.Lam Go.Sort

theorem nodup_le : ∀ {l m : List Int}, l.Nodup → (∀ x ∈ l, x ∈ m) → l.length ≤ m.length
  | [], _, _, _ => by simp
  | a :: l, m, hn, hs => by
    have hn' := List.nodup_cons.1 hn
    have ha := hs a (by simp)
    have h2 := nodup_le (l := l) (m := m.erase a) hn'.2 (fun x hx => (List.mem_erase_of_ne (fun e => hn'.1 (by rw [← e]; exact hx))).2 (hs x (by simp [hx])))
    rw [List.length_erase_of_mem ha] at h2
    have := List.length_pos_of_mem ha
    simp only [List.length_cons]
    omega
theorem asc_sort {l : List Int} (h : l.Nodup) : (l.mergeSort fun x y => decide (x ≤ y)).Pairwise (· < ·) := by
  have tr : ∀ a b c : Int, decide (a ≤ b) = true → decide (b ≤ c) = true → decide (a ≤ c) = true := fun a b c h1 h2 => by simp only [decide_eq_true_eq] at *; omega
  have to : ∀ a b : Int, (decide (a ≤ b) || decide (b ≤ a)) = true := fun a b => by simp only [Bool.or_eq_true, decide_eq_true_eq]; omega
  have h1 := List.pairwise_mergeSort tr to l
  have h2 : (l.mergeSort fun x y => decide (x ≤ y)).Nodup := (List.mergeSort_perm l _).nodup_iff.2 h
  exact (h1.and h2).imp (fun ⟨p, q⟩ => by simp only [decide_eq_true_eq] at p; omega)
theorem kk32 {g : G} {B : Nat} {e : TypeId} {a : Option Addr} {n c : Nat} {zs : List Int} (h : MutR g B e 1 a n c (zs.map (Value.int .i64))) (hn : n < 4611686018427387904) :
    CallsG Tryz.prog 63 #[.slice a n c] g (blkOf a) fun v g' => v = .tuple ⟨[]⟩ ∧ SlE intE' g' a n c (zs.mergeSort fun x y => decide (x ≤ y)) :=
  (sort_fin (Value.int .i64) Tryz.slices_Sort_int Tryz.slices_Sort_int_none h hn).mono fun v g' _ hq => ⟨hq.1, sle_of_map (Value.int .i64) rfl (fun _ _ => rfl) hq.2⟩
theorem rng_row {P : Program} {g : G} {k : TypeId} {b r q m : Nat} {f : Int → Option Value} {left : Int → Bool} (h : RngI P g k b r q f left m) {B : Nat} {e : TypeId} {mm : Nat} {a : Option Addr} {n c : Nat} {L : List Value} (hm : MutR g B e mm a n c L) : ¬ blkOf a b ∧ ¬ blkOf a r := by
  rcases hm.row with ⟨rfl, _⟩ | ⟨x, cur, rfl, _, h2, _⟩
  · exact ⟨fun ⟨_, hh, _⟩ => (by cases hh), fun ⟨_, hh, _⟩ => (by cases hh)⟩
  · obtain ⟨k1, k2⟩ := h.cells h2.blk
    exact ⟨fun ⟨_, hh, e⟩ => k1 (by cases hh; exact e), fun ⟨_, hh, e⟩ => k2 (by cases hh; exact e)⟩
/-- The free variables, ascending. -/
def AscF (x : E) (F : List Int) : Prop := F.Pairwise (· < ·) ∧ ∀ s, s ∈ F ↔ ∃ i : Nat, s = ((i : Nat) : Int) ∧ FV x i
def FreeSay (x : E) (v : Value) (g' : G) : Prop := ∃ a n c e, v = .tuple ⟨[.slice a n c, .int .i64 e]⟩ ∧ ((validE x ∧ e = 0 ∧ ∃ F, SlE intE' g' a n c F ∧ AscF x F) ∨ (¬ validE x ∧ e = 1 ∧ a = none ∧ n = 0 ∧ c = 0))
theorem E36 : Elem Tryz.prog 47 3 1 8 := ⟨Tryz.underlying47, by kernel_rfl⟩
theorem kk17 {x : E} (hx : i64E x) {a : Option Addr} {n c : Nat} {g : G} (hI : SlE expE g a n c x.kids) : CallsP Tryz.prog 36 #[expV x a n c] g fun v g' => FreeSay x v g' := by
  refine call36 _ _ _ _ _ _ g _ ?_
  unfold F36
  refine fun g1 m1 => (kk30 hx (hI.exm m1)).mono ?_
  rintro u g2 m2 rfl
  have m02 := m1.trans m2
  refine ⟨_, rfl, ifPn (fun q g3 _ => ⟨none, 0, 0, 1, rfl, .inr ⟨q, rfl, rfl, rfl, rfl⟩⟩) (fun hv g4 n4 => ?_)⟩
  have m04 := m02.trans n4.ex
  have hm0 : MapI Tryz.prog g4 3 g2.w.heap.size 0 (memF []) := (MapI.new n4 Tryz.prog 3).congr (fun s => by unfold memF; rw [if_neg (by simp)])
  have hz2 : g.w.heap.size ≤ g2.w.heap.size := m02.size
  have hcall := kk31 x (depth := 0) (cnt := 0) (S := []) hx (by have := hv.2.2; omega) (by have := hv.2.1; omega) (hI.exm m04) hm0
  refine ⟨fun z => z = g2.w.heap.size, fun b hb e => by omega, hcall.mono ?_⟩
  rintro v g5 s5 ⟨rfl, hm5⟩
  rw [List.nil_append, Nat.zero_add] at hm5
  refine ⟨rfl, ?_⟩
  have hfl := frees_len x 0
  have hsz := hv.2.1
  have hmem : ∀ s, s ∈ frees x 0 ↔ ∃ i : Nat, s = ((i : Nat) : Int) ∧ FV x i := fun s => mem_frees x 0 s
  generalize frees x 0 = O at hm5 hfl hmem
  obtain ⟨w6, hrun, g6, m6, e6, st6, hrg, ex6⟩ := RngI.start hm5 Tryz.underlying3 Tryz.underlying116
  have hz5 : g.w.heap.size ≤ g5.w.heap.size := Nat.le_trans m04.size s5.le.size
  have hr0 : g.w.heap.size ≤ g5.w.heap.size := hz5
  generalize hmb : g2.w.heap.size = mb at hrg hrun hm5
  generalize hrb : g5.w.heap.size = rb at hrg hrun hr0
  refine ⟨_, w6, hrun, g6, e6, st6 _ hz5, fun m a n c g' => g.w.heap.size ≤ g'.w.heap.size ∧ ∃ (V : List Int) (left : Int → Bool), MutR g' g.w.heap.size 3 1 a n c (V.map (Value.int .i64)) ∧ RngI Tryz.prog g' 3 mb rb O.length (memF O) left m ∧ V.Nodup ∧ (∀ s, s ∈ V ↔ (s ∈ O ∧ left s = false)),
    ⟨m6, Nat.le_trans hz5 (by rw [hrb]; have := hrg.lt; omega), [], _, MutR.nil _ _ _ _, hrg, List.nodup_nil, fun s => ?_⟩, ?_⟩
  · unfold memF
    by_cases hs : s ∈ O <;> simp [hs]
  rintro m a n c g7 le7 ⟨hsz7, V, left, hrow, hrg7, hnd, hV⟩
  have hVn : V.length = n := by have := hrow.len; simpa using this
  have hVO := nodup_le hnd (fun x hx => ((hV x).1 hx).1)
  have fin : (∀ s, left s = false) → AscF x (V.mergeSort fun x y => decide (x ≤ y)) := by
    intro hno
    refine ⟨asc_sort hnd, fun s => ?_⟩
    rw [(List.mergeSort_perm V _).mem_iff, hV, ← hmem]
    exact ⟨fun h => h.1, fun h => ⟨h, hno s⟩⟩
  rcases hrg7.next Tryz.underlying3 0 with ⟨hno, hrun7⟩ | ⟨s, v, w8, hws, hls, hfs, hrun7, g8, m8, hlt8, e8, st8, hrg8, but8, hen⟩
  · refine .inl ⟨_, hrun7, g7, rfl, Stp.refl _ _ _, blkOf a, fun b hb hh => absurd (hrow.ge hh) (by omega), (kk32 hrow (by omega)).mono ?_⟩
    rintro u g9 s9 ⟨rfl, hsl⟩
    exact ⟨rfl, fun g10 m10 => ⟨a, n, c, 0, rfl, .inl ⟨hv, rfl, _, hsl.exm m10, fin hno⟩⟩⟩
  · have hsO : s ∈ O := by
      unfold memF at hfs
      by_cases hs : s ∈ O
      · exact hs
      · rw [if_neg hs] at hfs; cases hfs
    have hfs' : v = .bool true := by
      unfold memF at hfs
      rw [if_pos hsO] at hfs
      exact (Option.some.inj hfs).symm
    subst hfs'
    obtain ⟨nb, nr⟩ := rng_row hrg7 hrow
    have hrow8 : MutR g8 g.w.heap.size 3 1 a n c (V.map (Value.int .i64)) := hrow.but but8 (fun z hz e => nr (e ▸ hz))
    refine .inr ⟨true, s, _, w8, hrun7, g8, e8, st8 _ hr0, ifT (fun _ => ?_) (fun hh => by cases hh)⟩
    rw [← e8] at hen
    refine ⟨s, _, _, hen, g8, rfl, Stp.refl _ _ _, fun g13 n13 => ?_⟩
    have hsz8 : g.w.heap.size ≤ g13.w.heap.size := Nat.le_trans hsz7 (Nat.le_trans but8.size n13.ex.size)
    have hrow13 := hrow8.ex n13.ex
    have hrg13 := hrg8.exm n13.ex
    obtain ⟨nb2, nr2⟩ := rng_row hrg13 hrow13
    obtain ⟨a', c', w', hrun', g14, e14, st14, hrow14, stb, _⟩ := hrow13.app E36 47 hsz8 (n13.sl (m := 1) (n := 1) rfl (by unfold maxLen; omega)) (by simp [Value.oneCell']) (by omega) (by unfold maxLen; omega)
    have but14 := stb.but (Nat.le_refl _)
    refine ⟨a', n + 1, c', w', hrun', g14, e14, st14, m8, hlt8, Nat.le_trans hsz8 but14.size, V ++ [s], _, by simpa using hrow14, hrg13.but but14 nb2 nr2, ?_, fun x => ?_⟩
    · refine List.nodup_append.2 ⟨hnd, by simp, fun x hx y hy => ?_⟩
      have : y = s := by simpa using hy
      subst this
      rintro rfl
      have := ((hV x).1 hx).2
      rw [hls] at this
      cases this
    · have hx := hV x
      by_cases e : x = s
      · subst e
        simp [hsO]
      · simp [e, hx]
theorem asc_nil {x : E} {F : List Int} (h : AscF x F) : F = [] ↔ scopedE 0 x := by
  constructor
  · rintro rfl i hi
    have := (h.2 ((i : Nat) : Int)).2 ⟨i, rfl, hi⟩
    cases this
  · intro hs
    refine List.eq_nil_iff_forall_not_mem.2 fun s hm => ?_
    obtain ⟨i, _, hi⟩ := (h.2 s).1 hm
    have := hs i hi
    omega
end Go.Proofs.YthlcdgpemjdgnaaGreatDoor
/- The reference's Arity, node, count, Valid, Size. -/
set_option linter.unusedVariables false
namespace Go.Proofs.YthlcdgpemjdgnaaGreatDoor
open Go Go.Vc Go.RowKit Go.Syn Go.Lam Go.Sort

def arityR (n : Int) : Nat := if 1 ≤ n ∧ n ≤ 14 then arityN n else 0
/-- Arity. -/
theorem kk53 (n : Int) (g : G) : CallsP Tryz.prog 85 #[.int .i64 n] g fun v _ => v = .int .i64 ((arityR n : Nat) : Int) := by
  refine call85 n g _ ?_
  unfold F85
  intro J hJ
  have one : ∀ b, b = true → (n = 6 ∨ n = 11 ∨ n = 13 ∨ n = 14) → J b g := fun b hb e => hJ b g (ifT (fun _ g2 _ => by unfold arityR arityN; rw [if_pos (by omega), if_pos e]; rfl) (fun h => by rw [hb] at h; cases h))
  refine ifEq (fun e => one _ rfl (by omega)) (fun e6 => ifEq (fun e => one _ rfl (by omega)) (fun e11 => ifEq (fun e => one _ rfl (by omega)) (fun e13 => ?_)))
  by_cases e14 : n = 14
  · exact one _ (by simp [e14]) (by omega)
  refine hJ _ g (ifT (fun h => absurd (by simpa using h) e14) (fun _ => ?_))
  intro J1 hJ1
  have two : ∀ b, b = true → (1 ≤ n ∧ n ≤ 14) → J1 b g := fun b hb e => hJ1 b g (ifT (fun _ g2 _ => by unfold arityR arityN; rw [if_pos e, if_neg (by omega)]; rfl) (fun h => by rw [hb] at h; cases h))
  refine ifEq (fun e => two _ rfl (by omega)) (fun e1 => ifEq (fun e => two _ rfl (by omega)) (fun e2 => ifEq (fun e => two _ rfl (by omega)) (fun e3 => ifEq (fun e => two _ rfl (by omega)) (fun e4 => ifEq (fun e => two _ rfl (by omega)) (fun e5 => ifEq (fun e => two _ rfl (by omega)) (fun e7 => ifEq (fun e => two _ rfl (by omega)) (fun e8 => ifEq (fun e => two _ rfl (by omega)) (fun e9 => ifEq (fun e => two _ rfl (by omega)) (fun e10 => ?_)))))))))
  by_cases e12 : n = 12
  · exact two _ (by simp [e12]) (by omega)
  exact hJ1 _ g (ifT (fun h => absurd (by simpa using h) e12) (fun _ g2 _ => by unfold arityR; rw [if_neg (by omega)]; rfl))
theorem arityN_pos (n : Int) : 1 ≤ arityN n := by unfold arityN; split <;> omega
end Go.Proofs.YthlcdgpemjdgnaaGreatDoor
/- The reference's free variables, forms of values, equality. -/
set_option linter.unusedVariables false
namespace Go.Proofs.YthlcdgpemjdgnaaGreatDoor
open Go Go.Vc Go.RowKit Go.Syn Go.Lam Go.Sort

theorem asc_unique {F H : List Int} (hF : F.Pairwise (· < ·)) (hH : H.Pairwise (· < ·)) (h : ∀ s, s ∈ F ↔ s ∈ H) : F = H := by
  induction F generalizing H with
  | nil =>
    cases H with
    | nil => rfl
    | cons b r => exact absurd ((h b).2 (by simp)) (by simp)
  | cons a F ih =>
    cases H with
    | nil => exact absurd ((h a).1 (by simp)) (by simp)
    | cons b H =>
      obtain ⟨h1, h2⟩ := List.pairwise_cons.1 hF
      obtain ⟨h3, h4⟩ := List.pairwise_cons.1 hH
      have ab : a = b := by
        rcases List.mem_cons.1 ((h a).1 (by simp)) with e | e
        · exact e
        · rcases List.mem_cons.1 ((h b).2 (by simp)) with e2 | e2
          · exact e2.symm
          · have := h3 a e; have := h1 b e2; omega
      subst ab
      rw [ih h2 h4 (fun s => ?_)]
      have hs := h s
      simp only [List.mem_cons] at hs
      constructor
      · intro hm
        rcases hs.1 (.inr hm) with e | e
        · have := h1 s hm; omega
        · exact e
      · intro hm
        rcases hs.2 (.inr hm) with e | e
        · have := h3 s hm; omega
        · exact e
/-! ### Forms of values -/
end Go.Proofs.YthlcdgpemjdgnaaGreatDoor
