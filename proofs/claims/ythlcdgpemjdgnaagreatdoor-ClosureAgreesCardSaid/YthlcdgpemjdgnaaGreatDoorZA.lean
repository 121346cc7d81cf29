/- Joined texts. -/
import Derived.Test.YthlcdgpemjdgnaaGreatDoorShelf45z
import Derived.Test.YthlcdgpemjdgnaaGreatDoorFnT45
import Derived.Test.YthlcdgpemjdgnaaGreatDoorFnT45b
import Derived.Test.YthlcdgpemjdgnaaGreatDoorLamA
import Derived.Test.YthlcdgpemjdgnaaGreatDoorVclip
import Derived.Test.YthlcdgpemjdgnaaGreatDoorVwith
import Derived.Test.YthlcdgpemjdgnaaGreatDoorLnode
import Derived.Test.YthlcdgpemjdgnaaGreatDoorLfree
import Derived.Test.YthlcdgpemjdgnaaGreatDoorVmb
import Derived.Test.YthlcdgpemjdgnaaGreatDoorVsort
import Derived.Test.YthlcdgpemjdgnaaGreatDoorLval
/- Closure: small functions. -/
set_option linter.unusedVariables false
namespace Go.Proofs.YthlcdgpemjdgnaaGreatDoor
open Go Go.Vc Go.RowKit Go.Syn Go.Lam Go.Sort
theorem kk68 (n a b : Int) (g : G) : CallsP Tryz.prog 120 #[.int .i64 n, .int .i64 a, .int .i64 b] g fun v _ => v = .bool (tf (a ≤ n ∧ n ≤ b)) := by
  refine call120 n a b g _ ?_
  unfold F120
  refine ifLe (fun q g1 _ => ?_) (fun q g2 _ => vF (fun hh => by omega))
  rw [tf_le]
  exact vP ⟨fun hh => ⟨q, hh⟩, fun hh => hh.2⟩
end Go.Proofs.YthlcdgpemjdgnaaGreatDoor
/- node, measure, Valid, Size. -/
set_option linter.unusedVariables false
namespace Go.Proofs.YthlcdgpemjdgnaaGreatDoor
open Go Go.Vc Go.RowKit Go.Syn Go.Lam Go.Sort
theorem kk69 (n : Int) (g : G) : CallsP Tryz.prog 121 #[.int .i64 n] g fun v _ => v = .int .i64 ((arityN n : Nat) : Int) := by
  refine call121 n g _ ?_
  unfold F121
  refine ifEq (fun e g1 _ => ?_) (fun e1 => ifEq (fun e g1 _ => ?_) (fun e2 => ifEq (fun e g1 _ => ?_) (fun e3 => ifEq (fun e g1 _ => ?_) (fun e4 g1 _ => ?_))))
  · unfold arityN; rw [if_pos (.inl e)]; rfl
  · unfold arityN; rw [if_pos (.inr (.inl e))]; rfl
  · unfold arityN; rw [if_pos (.inr (.inr (.inl e)))]; rfl
  · unfold arityN; rw [if_pos (.inr (.inr (.inr e)))]; rfl
  · unfold arityN; rw [if_neg (by omega)]; rfl
theorem kk55 {x : E} (hn : x.dat.n ≤ 9223372036854775807) {a : Option Addr} {n c : Nat} {g : G} (hI : SlE expE g a n c x.kids) : CallsP Tryz.prog 103 #[expV x a n c] g fun v _ => v = .bool (tf (nodeP x.dat x.kids)) := by
  refine call103 _ _ _ _ _ _ g _ ?_
  have hl := hI.len
  unfold F103
  intro J hJ
  have main : ∀ g1, Ex g g1 → (x.dat.op = 3 ∨ x.dat.s = []) → J g1 := by
    intro g1 m1 hs
    refine hJ g1 ?_
    have no : ∀ (g' : G), ¬ nodeP x.dat x.kids → (fun (v : Value) (_ : G) => v = .bool (tf (nodeP x.dat x.kids))) (.bool false) g' := fun g' h => vF h
    refine ifEq (fun e => ?_) (fun e1 => ?_)
    · have hk := node1 (l := x.kids) hs e
      refine ifEq (fun q g2 _ => ?_) (fun q g3 _ => no g3 (fun h => by have := hk.1 h; omega))
      show Value.bool (leI _ _) = _
      rw [tf_le]
      exact vP ⟨fun h => hk.2 ⟨by omega, h, hn⟩, fun h => (hk.1 h).2.1⟩
    refine ifEq (fun e => ?_) (fun e2 => ?_)
    · have hk := node2 (l := x.kids) hs e
      refine ifEq (fun q => (kk68 _ _ _ g1).mono ?_) (fun q g3 _ => no g3 (fun h => by have := hk.1 h; omega))
      rintro v g4 _ rfl
      exact ⟨_, rfl, fun g5 _ => vP ⟨fun h => hk.2 ⟨by omega, h.1, h.2⟩, fun h => (hk.1 h).2⟩⟩
    refine ifEq (fun e => ?_) (fun e3 => ?_)
    · have hk := node3 (l := x.kids) hs e
      refine ifEq (fun q => ifEq (fun q2 g2 _ => ?_) (fun q2 g3 _ => no g3 (fun h => by have := hk.1 h; omega))) (fun q g3 _ => no g3 (fun h => by have := hk.1 h; omega))
      show Value.bool (leI _ _) = _
      rw [tf_le, bstr_size]
      exact vP ⟨fun h => hk.2 ⟨by omega, q2, by omega⟩, fun h => by have := (hk.1 h).2.2; omega⟩
    have hs0 : x.dat.s = [] := hs.resolve_left e3
    refine ifEq (fun e => ?_) (fun e4 => ?_)
    · have hk := node4 (l := x.kids) hs e
      refine ifEq (fun q g2 _ => ?_) (fun q g3 _ => no g3 (fun h => by have := hk.1 h; omega))
      show Value.bool (eqI _ _) = _
      rw [tf_eq]
      exact vP ⟨fun h => hk.2 ⟨by omega, h⟩, fun h => (hk.1 h).2⟩
    intro J1 hJ1
    have two : ∀ g12, (nodeP x.dat x.kids ↔ x.kids.length = 2 ∧ x.dat.n = 0) → J1 true g12 := by
      intro g12 hk
      refine hJ1 true g12 (ifT (fun _ => ?_) (fun e => by cases e))
      refine ifEq (fun q g2 _ => ?_) (fun q g3 _ => no g3 (fun h => by have := hk.1 h; omega))
      show Value.bool (eqI _ _) = _
      rw [tf_eq]
      exact vP ⟨fun h => hk.2 ⟨by omega, h⟩, fun h => (hk.1 h).2⟩
    refine ifEq (fun e => two g1 (node5 hs e)) (fun e5 => ?_)
    by_cases e11 : x.dat.op = 11
    · have : eqI x.dat.op 11 = true := by simp [e11]
      rw [this]
      exact two g1 (node11 hs e11)
    have h11 : eqI x.dat.op 11 = false := by simp [e11]
    rw [h11]
    refine hJ1 false g1 (ifT (fun e => by cases e) (fun _ => ?_))
    refine ifEq (fun e => ?_) (fun e6 => ?_)
    · have hk := node6 (l := x.kids) hs e
      refine ifLe (fun q g2 _ => ?_) (fun q g3 _ => no g3 (fun h => by have := hk.1 h; omega))
      show Value.bool (eqI _ _) = _
      rw [tf_eq]
      exact vP ⟨fun h => hk.2 ⟨by omega, h⟩, fun h => (hk.1 h).2⟩
    intro J2 hJ2
    have one : ∀ g17, (nodeP x.dat x.kids ↔ x.kids.length = 1 ∧ 0 ≤ x.dat.n ∧ x.dat.n ≤ 999) → J2 true g17 := by
      intro g17 hk
      refine hJ2 true g17 (ifT (fun _ => ?_) (fun e => by cases e))
      refine ifEq (fun q => (kk68 _ _ _ g17).mono ?_) (fun q g3 _ => no g3 (fun h => by have := hk.1 h; omega))
      rintro v g4 _ rfl
      exact ⟨_, rfl, fun g5 _ => vP ⟨fun h => hk.2 ⟨by omega, h.1, h.2⟩, fun h => (hk.1 h).2⟩⟩
    refine ifEq (fun e => one g1 (node7 hs e)) (fun e7 => ?_)
    by_cases e8 : x.dat.op = 8
    · have : eqI x.dat.op 8 = true := by simp [e8]
      rw [this]
      exact one g1 (node8 hs e8)
    have h8 : eqI x.dat.op 8 = false := by simp [e8]
    rw [h8]
    refine hJ2 false g1 (ifT (fun e => by cases e) (fun _ => ?_))
    refine ifEq (fun e => ?_) (fun e9 => ?_)
    · have hk := node9 (l := x.kids) hs e
      refine (kk68 _ _ _ g1).mono ?_
      rintro v g4 _ rfl
      refine ⟨_, rfl, ifP (fun q g5 _ => ?_) (fun q g3 _ => no g3 (fun h => q (by have := hk.1 h; omega)))⟩
      show Value.bool (eqI _ _) = _
      rw [tf_eq]
      exact vP ⟨fun h => hk.2 ⟨by omega, by omega, h⟩, fun h => (hk.1 h).2.2⟩
    refine ifEq (fun e => ?_) (fun e10 => ?_)
    · have hk := node10 (l := x.kids) hs e
      refine ifEq (fun q => ifEq (fun q2 => ⟨⟨by omega, by omega⟩, ?_⟩) (fun q2 g3 _ => no g3 (fun h => q2 (hk.1 h).2.1))) (fun q g3 _ => no g3 (fun h => by have := (hk.1 h).1; omega))
      have gy := List.getElem?_eq_getElem (show 0 < x.kids.length by omega)
      generalize x.kids[0] = y at gy
      refine rdEL (hI.exm m1) 0 rfl gy (fun ad ka kn kc _ hy hly => ⟨_, (live0 (hly 0 _ rfl)).1, fun g24 _ => ?_⟩)
      show Value.bool (eqI _ _) = _
      rw [tf_eq]
      refine vP ⟨fun h => hk.2 ⟨by omega, q2, y, gy, h⟩, fun h => ?_⟩
      obtain ⟨_, _, y', gy', h4⟩ := hk.1 h
      rw [gy] at gy'
      cases gy'
      exact h4
    refine ifEq (fun e => ?_) (fun e12 => ?_)
    · have hk := node12 (l := x.kids) hs e
      refine (kk68 _ _ _ g1).mono ?_
      rintro v g4 _ rfl
      refine ⟨_, rfl, ifP (fun q => (kk69 _ g4).mono ?_) (fun q g3 _ => no g3 (fun h => q ⟨(hk.1 h).1, (hk.1 h).2.1⟩))⟩
      rintro v g5 _ rfl
      refine ⟨_, rfl, fun g6 _ => ?_⟩
      show Value.bool (eqI _ _) = _
      rw [tf_eq]
      exact vP ⟨fun h => hk.2 ⟨q.1, q.2, by omega⟩, fun h => by have := (hk.1 h).2.2; omega⟩
    refine ifEq (fun e => ?_) (fun e13 => ?_)
    · have hk := node13 (l := x.kids) hs e
      refine ifEq (fun q => (kk68 _ _ _ g1).mono ?_) (fun q g3 _ => no g3 (fun h => by have := hk.1 h; omega))
      rintro v g4 _ rfl
      exact ⟨_, rfl, fun g5 _ => vP ⟨fun h => hk.2 ⟨by omega, h.1, h.2⟩, fun h => (hk.1 h).2⟩⟩
    exact fun g34 _ => no g34 (nodeNo (by omega))
  clear hJ
  refine ifNe (fun e => ?_) (fun e g37 m37 => main g37 m37 (.inl e))
  have es : (strEq (bstr x.dat.s) (bs []) = true) = (x.dat.s = []) := by
    rw [strEq_true, show bs [] = bstr [] from rfl, bstr_inj]
  refine ifF (fun q g35 _ => vF ?_) (fun q g36 m36 => main g36 m36 (.inr (by rw [← es]; exact q)))
  rintro ⟨h1, _⟩
  rcases h1 with h1 | h1
  · exact e h1
  · rw [← es] at h1; rw [h1] at q; cases q
def measP (left depth : Nat) (x : E) : Prop := formE x ∧ sizeE x ≤ left ∧ depthE x + depth ≤ 401
theorem kk47 (x : E) : ∀ {left depth : Nat} {a : Option Addr} {n c : Nat} {g : G}, i64E x → left ≤ 20000 → depth ≤ 1000 → SlE expE g a n c x.kids →
    CallsP Tryz.prog 86 #[expV x a n c, .int .i64 ((left : Nat) : Int), .int .i64 ((depth : Nat) : Int)] g fun v _ => ∃ k : Nat, v = .tuple ⟨[.int .i64 ((k : Nat) : Int), .bool (tf (measP left depth x))]⟩ ∧ (measP left depth x → k = sizeE x) := by
  induction x using Tr.ind with
  | h d l ih =>
    intro left depth a n c g hx hle hd hI
    obtain ⟨hn, hkx⟩ := i64E_un hx
    refine call86 _ _ _ _ _ _ _ _ g _ ?_
    have hl := hI.len
    have hcap := hI.cap
    have hnc := hI.le
    unfold maxLen at hcap
    unfold F86
    have no : ∀ (g' : G), ¬ measP left depth (.mk d l) → (fun (v : Value) (_ : G) => ∃ k : Nat, v = .tuple ⟨[.int .i64 ((k : Nat) : Int), .bool (tf (measP left depth (.mk d l)))]⟩ ∧ (measP left depth (.mk d l) → k = sizeE (.mk d l))) (.tuple ⟨[.int .i64 0, .bool false]⟩) g' := fun g' h => ⟨0, by rw [tf_no h]; rfl, fun hh => absurd hh h⟩
    intro J hJ
    refine ifLe (fun q g7 _ => no g7 (fun h => by have := h.2.1; have := sizeE_pos (.mk d l); omega)) (fun q1 => ifLt (fun q g8 _ => no g8 (fun h => by have := h.2.2; simp [depthE] at this; omega)) (fun q2 g9 m9 => (kk55 hn (hI.exm m9)).mono ?_))
    rintro v g10 m10 rfl
    refine ⟨_, rfl, ifPn (fun q g11 _ => no g11 (fun h => q (formE_un h.1).1)) (fun q3 => hJ g10 ?_)⟩
    clear hJ
    refine ⟨fun m k i g' => ∃ j : Nat, i = ((j : Nat) : Int) ∧ j + m = n ∧ k = ((1 + sizeEL (l.take j) : Nat) : Int) ∧ 1 + sizeEL (l.take j) ≤ left ∧ ∀ y ∈ l.take j, formE y ∧ depthE y + (depth + 1) ≤ 401, ⟨n, 0, rfl, by omega, by simp [sizeEL], by simp [sizeEL]; omega, by simp⟩, ?_⟩
    rintro m k i g2 le ⟨j, rfl, hj, rfl, hsz, hall⟩
    have hl' : l.length = n := hl
    refine ifLt (fun q => ⟨⟨by omega, by omega⟩, ?_⟩) (fun q g6 _ => ?_)
    · have gj := List.getElem?_eq_getElem (show j < l.length by omega)
      generalize l[j] = y at gj
      have hy := List.mem_of_getElem? gj
      have htk := sizeEL_take gj
      refine rdE ((hI.exm (m9.trans m10)).mono le) j rfl gj (fun ka kn kc hk => ⟨i64 (by omega) (by omega), i64 (by omega) (by omega), fun g3 m3 => ?_⟩)
      have hcall := ih y hy (left := left - (1 + sizeEL (l.take j))) (depth := depth + 1) (hkx y hy) (by omega) (by omega) (hk.exm m3)
      rw [show ((left - (1 + sizeEL (l.take j)) : Nat) : Int) = ((left : Nat) : Int) - ((1 + sizeEL (l.take j) : Nat) : Int) by omega, show ((depth + 1 : Nat) : Int) = ((depth : Nat) : Int) + 1 by omega] at hcall
      refine hcall.mono ?_
      rintro v g4 _ ⟨k, rfl, hk2⟩
      refine ⟨_, _, rfl, ifPn (fun q4 g5 _ => no g5 (fun h => q4 ?_)) (fun q4 => ?_)⟩
      · refine ⟨(formE_un h.1).2 y hy, ?_, ?_⟩
        · have h1 := h.2.1
          have h2 := sizeEL_le l (j + 1)
          simp only [sizeE] at h1
          omega
        · have h1 := h.2.2
          have h2 := depthE_mem hy
          simp only [depthE] at h1
          omega
      · have hk3 := hk2 q4
        have h4 := q4.2.1
        exact ⟨i64 (by omega) (by omega), i64 (by omega) (by omega), m - 1, by omega, j + 1, by omega, by omega, by omega, by omega, (all_take gj (fun y => formE y ∧ depthE y + (depth + 1) ≤ 401)).2 ⟨hall, q4.1, q4.2.2⟩⟩
    · rw [List.take_of_length_le (by omega)] at hsz hall
      rw [List.take_of_length_le (show l.length ≤ j by omega)]
      have hm : measP left depth (.mk d l) := by
        refine ⟨formE_iff.2 ⟨q3, fun y hy => (hall y hy).1⟩, by simp only [sizeE]; omega, ?_⟩
        simp only [depthE]
        have : depthEL l + (depth + 1) ≤ 401 := by
          have key : ∀ r : List E, (∀ y ∈ r, depthE y + (depth + 1) ≤ 401) → depthEL r + (depth + 1) ≤ 401 := by
            intro r
            induction r with
            | nil => intro _; simp [depthEL]; omega
            | cons z r ihr =>
              intro h
              have h1 := h z (by simp)
              have h2 := ihr (fun y hy => h y (by simp [hy]))
              simp only [depthEL]
              omega
          exact key l (fun y hy => (hall y hy).2)
        omega
      refine ⟨1 + sizeEL l, by rw [tf_of hm], fun _ => by simp only [sizeE]; omega⟩
theorem kk30 {x : E} (hx : i64E x) {a : Option Addr} {n c : Nat} {g : G} (hI : SlE expE g a n c x.kids) : CallsP Tryz.prog 61 #[expV x a n c] g fun v _ => v = .bool (tf (validE x)) := by
  refine call61 _ _ _ _ _ _ g _ ?_
  unfold F61
  refine fun g1 m1 => (kk47 x (left := 20000) (depth := 1) hx (Nat.le_refl _) (by omega) (hI.exm m1)).mono ?_
  rintro v g2 _ ⟨k, rfl, _⟩
  refine ⟨_, _, rfl, fun g3 _ => vP ?_⟩
  unfold measP validE
  exact ⟨fun h => ⟨h.1, h.2.1, by omega⟩, fun h => ⟨h.1, h.2.1, by omega⟩⟩
end Go.Proofs.YthlcdgpemjdgnaaGreatDoor
/- Free. -/
set_option linter.unusedVariables false
namespace Go.Proofs.YthlcdgpemjdgnaaGreatDoor
open Go Go.Vc Go.RowKit Go.Syn Go.Lam Go.Sort
theorem kk48 (x : E) (j : Nat) {a : Option Addr} {n c : Nat} (g : G) : CallsP Tryz.prog 87 #[expV x a n c, .int .i64 ((j : Nat) : Int)] g fun v _ => v = .bool (tf (bndN x.dat.op j = 1)) := by
  refine call87 _ _ _ _ _ _ _ g _ ?_
  unfold F87
  intro J hJ
  have yes : ∀ g1, (x.dat.op = 4 ∨ x.dat.op = 10) → J true g1 := fun g1 h => hJ true g1 (ifT (fun _ g2 _ => by rw [tf_of (bnd_body h j)]) (fun e => by cases e))
  have no : ∀ g1, ¬ (x.dat.op = 4 ∨ x.dat.op = 10) → J false g1 := by
    intro g1 h
    refine hJ false g1 (ifT (fun e => by cases e) (fun _ => ?_))
    have key : (x.dat.op = 11 ∨ x.dat.op = 9) → ∀ g3 : G, (fun (v : Value) (_ : G) => v = .bool (tf (bndN x.dat.op j = 1))) (.bool (ltI 0 ((j : Nat) : Int))) g3 := by
      intro h2 g3
      show Value.bool (ltI _ _) = _
      rw [tf_lt]
      refine vP ⟨fun hh => bnd_more h2 (by omega), fun hh => ?_⟩
      by_cases q : 0 < j
      · omega
      · have : j = 0 := by omega
        subst this
        rw [bnd_first (by omega)] at hh
        cases hh
    refine ifEq (fun e g3 _ => key (.inl e) g3) (fun e11 => ifEq (fun e g4 _ => key (.inr e) g4) (fun e9 g5 _ => ?_))
    exact vF (fun hh => by rw [bnd_none (by omega)] at hh; cases hh)
  refine ifEq (fun e g6 _ => yes g6 (.inl e)) (fun e4 g7 _ => ?_)
  by_cases e10 : x.dat.op = 10
  · have : eqI x.dat.op 10 = true := by simp [e10]
    rw [this]; exact yes g7 (.inr e10)
  · have : eqI x.dat.op 10 = false := by simp [e10]
    rw [this]; exact no g7 (by omega)
theorem memF_upd (S : List Int) (s : Int) : updI (memF S) s (some (.bool true)) = memF (S ++ [s]) := by
  funext x
  unfold memF
  by_cases e : x = s
  · subst e; rw [updI_same, if_pos (by simp)]
  · rw [updI_other _ _ e]
    by_cases q : x ∈ S
    · rw [if_pos q, if_pos (by simp [q])]
    · rw [if_neg q, if_neg (by simp [q, e])]
theorem kk31 (x : E) : ∀ {depth : Nat} {a : Option Addr} {n c : Nat} {g : G} {b cnt : Nat} {S : List Int}, i64E x → depthE x + depth ≤ 1000 → cnt + sizeE x ≤ 1000000 → SlE expE g a n c x.kids → MapI Tryz.prog g 3 b cnt (memF S) →
    CallsG Tryz.prog 62 #[.map (some b), expV x a n c, .int .i64 ((depth : Nat) : Int)] g (fun z => z = b) fun v g' => v = .tuple ⟨[]⟩ ∧ MapI Tryz.prog g' 3 b (cnt + (frees x depth).length) (memF (S ++ frees x depth)) := by
  induction x using Tr.ind with
  | h d l ih =>
    intro depth a n c g b cnt S hx hd hc hI hm
    obtain ⟨hn, hkx⟩ := i64E_un hx
    refine call62 _ _ _ _ _ _ _ _ g _ _ ?_
    have hl : l.length = n := hI.len
    have hcap := hI.cap
    have hnc := hI.le
    unfold maxLen at hcap
    have hmax : (1000000 : Nat) < maxLen := by unfold maxLen; omega
    unfold F62
    intro J hJ
    have loop : ∀ (g1 : G) (pre : List Int), Le g g1 → MapI Tryz.prog g1 3 b (cnt + pre.length) (memF (S ++ pre)) → pre.length ≤ 1 → pre = (if d.op = 1 ∧ ((depth : Nat) : Int) ≤ d.n then [d.n - ((depth : Nat) : Int)] else []) → J g1 := by
      intro g1 pre le1 hm1 hp1 hpre
      refine hJ g1 ⟨fun m i g' => ∃ j : Nat, i = ((j : Nat) : Int) ∧ j + m = n ∧ MapI Tryz.prog g' 3 b (cnt + (pre ++ freesL d.op 0 (l.take j) depth).length) (memF (S ++ (pre ++ freesL d.op 0 (l.take j) depth))), ⟨n, 0, rfl, by omega, by simpa [freesL] using hm1⟩, ?_⟩
      rintro m i g2 le2 ⟨j, rfl, hj, hm2⟩
      refine ifLt (fun q => ⟨⟨by omega, by omega⟩, ?_⟩) (fun q g7 m7 => ?_)
      · have gj := List.getElem?_eq_getElem (show j < l.length by omega)
        generalize l[j] = y at gj
        have hy := List.mem_of_getElem? gj
        have htk := freesL_take d.op gj depth
        have hsz : (freesL d.op 0 (l.take j) depth).length ≤ sizeEL (l.take j) := by
          have key : ∀ (r : List E) (q : Nat), (freesL d.op q r depth).length ≤ sizeEL r := by
            intro r
            induction r with
            | nil => intro q; simp [freesL, sizeEL]
            | cons t r ihr =>
              intro q
              have h1 := frees_len t (depth + bndN d.op q)
              have h2 := ihr (q + 1)
              simp only [freesL, sizeEL, List.length_append]
              omega
          exact key _ 0
        have hst := sizeEL_take gj
        have hsl := sizeEL_le l (j + 1)
        have hde := depthE_mem hy
        simp only [sizeE] at hc
        simp only [depthE] at hd
        refine rdE ((hI.mono le1).mono le2) j rfl gj (fun ka kn kc hk g3 m3 => (kk48 (.mk d l) j g3).mono ?_)
        rintro v g4 m4 rfl
        have m34 := m3.trans m4
        have fin : ∀ g5, MapI Tryz.prog g5 3 b (cnt + (pre ++ freesL d.op 0 (l.take j) depth).length + (frees y (depth + bndN d.op j)).length) (memF (S ++ (pre ++ freesL d.op 0 (l.take j) depth) ++ frees y (depth + bndN d.op j))) →
            InI64 (((j : Nat) : Int) + 1) ∧ ∃ m_2 : Nat, m_2 < m ∧ ∃ j' : Nat, ((j : Nat) : Int) + 1 = ((j' : Nat) : Int) ∧ j' + m_2 = n ∧ MapI Tryz.prog g5 3 b (cnt + (pre ++ freesL d.op 0 (l.take j') depth).length) (memF (S ++ (pre ++ freesL d.op 0 (l.take j') depth))) := by
          intro g5 h5
          refine ⟨i64 (by omega) (by omega), m - 1, by omega, j + 1, by omega, by omega, ?_⟩
          rw [htk, ← List.append_assoc pre, List.length_append, ← Nat.add_assoc, ← List.append_assoc S]
          exact h5
        have call : ∀ (dep : Nat), dep = depth + bndN d.op j → dep ≤ depth + 1 → CallsG Tryz.prog 62 #[.map (some b), expV y ka kn kc, .int .i64 ((dep : Nat) : Int)] g4 (fun z => z = b) fun v g5 => v = .tuple ⟨[]⟩ ∧ MapI Tryz.prog g5 3 b (cnt + (pre ++ freesL d.op 0 (l.take j) depth).length + (frees y (depth + bndN d.op j)).length) (memF (S ++ (pre ++ freesL d.op 0 (l.take j) depth) ++ frees y (depth + bndN d.op j))) := by
          intro dep e hde2
          subst e
          exact ih y hy (hkx y hy) (by omega) (by rw [List.length_append]; omega) (hk.exm m34) (hm2.ex m34)
        refine ⟨_, rfl, ifP (fun q2 => ⟨i64 (by omega) (by omega), fun z => z = b, fun _ _ h => h, ?_⟩) (fun q2 => ⟨fun z => z = b, fun _ _ h => h, ?_⟩)⟩
        · have hcall := call (depth + 1) (by rw [show bndN d.op j = 1 from q2]) (Nat.le_refl _)
          rw [show ((depth + 1 : Nat) : Int) = ((depth : Nat) : Int) + 1 by omega] at hcall
          refine hcall.mono ?_
          rintro v g5 _ ⟨rfl, h5⟩
          exact ⟨rfl, fin g5 h5⟩
        · have hb0 : bndN d.op j = 0 := by
            have : bndN d.op j ≠ 1 := q2
            unfold bndN at this ⊢
            split
            · next h => rw [if_pos h] at this; exact absurd rfl this
            · next h =>
              rw [if_neg h] at this
              split
              · next h2 => rw [if_pos h2] at this; exact absurd rfl this
              · rfl
          refine (call depth (by rw [hb0]; rfl) (by omega)).mono ?_
          rintro v g5 _ ⟨rfl, h5⟩
          exact ⟨rfl, fin g5 h5⟩
      · rw [List.take_of_length_le (by omega)] at hm2
        refine ⟨rfl, ?_⟩
        rw [frees, ← hpre]
        exact hm2.ex m7
    clear hJ
    refine ifEq (fun e => ifLe (fun q => ⟨i64 (by omega) (by omega), fun g8 m8 => ?_⟩) (fun q g10 m10 => loop g10 [] m10.le (by simpa using hm.ex m10) (by simp) (by rw [if_neg (fun h => by have h2 : ((depth : Nat) : Int) ≤ (Tr.mk d l).dat.n := h.2; omega)]))) (fun e g11 m11 => loop g11 [] m11.le (by simpa using hm.ex m11) (by simp) (by rw [if_neg (fun h => e h.1)]))
    have hn' : d.n ≤ 9223372036854775807 := hn
    have q' : ((depth : Nat) : Int) ≤ d.n := q
    have hwf : (Lit.int .i64 (d.n - ((depth : Nat) : Int))).wf = true := by
      simp only [Lit.wf, Bool.and_eq_true, IntKind.min, IntKind.max, IntKind.signed, IntKind.bits]
      simp
      omega
    obtain ⟨w', hrun, g9, hw, hst, hm9⟩ := (hm.ex m8).putM (t := 116) (e := 4) Tryz.underlying3 Tryz.underlying116 (by omega) (d.n - ((depth : Nat) : Int)) hwf (.bool true)
    refine ⟨w', hrun, g9, hw, hst _, loop g9 [d.n - ((depth : Nat) : Int)] (m8.le.trans (hst 0).le) ?_ (by simp) (by rw [if_pos ⟨e, q⟩])⟩
    rw [memF_upd] at hm9
    exact hm9
end Go.Proofs.YthlcdgpemjdgnaaGreatDoor
/- Free, closed. -/
set_option linter.unusedVariables false
namespace Go.Proofs.YthlcdgpemjdgnaaGreatDoor
open Go Go.Vc Go.RowKit Go.Syn Go.Lam Go.Sort
theorem nodup_le : ∀ {l m : List Int}, l.Nodup → (∀ x ∈ l, x ∈ m) → l.length ≤ m.length
  | [], _, _, _ => by simp
  | a :: l, m, hn, hs => by
    have hn' := List.nodup_cons.1 hn
    have ha := hs a (by simp)
    have h2 := nodup_le (l := l) (m := m.erase a) hn'.2 (fun x hx => (List.mem_erase_of_ne (fun e => hn'.1 (by rw [← e]; exact hx))).2 (hs x (by simp [hx])))
    rw [List.length_erase_of_mem ha] at h2
    have := List.length_pos_of_mem ha
    simp only [List.length_cons]
    omega
theorem asc_sort {l : List Int} (h : l.Nodup) : (l.mergeSort fun x y => decide (x ≤ y)).Pairwise (· < ·) := by
  have tr : ∀ a b c : Int, decide (a ≤ b) = true → decide (b ≤ c) = true → decide (a ≤ c) = true := fun a b c h1 h2 => by simp only [decide_eq_true_eq] at *; omega
  have to : ∀ a b : Int, (decide (a ≤ b) || decide (b ≤ a)) = true := fun a b => by simp only [Bool.or_eq_true, decide_eq_true_eq]; omega
  have h1 := List.pairwise_mergeSort tr to l
  have h2 : (l.mergeSort fun x y => decide (x ≤ y)).Nodup := (List.mergeSort_perm l _).nodup_iff.2 h
  exact (h1.and h2).imp (fun ⟨p, q⟩ => by simp only [decide_eq_true_eq] at p; omega)
theorem kk32 {g : G} {B : Nat} {e : TypeId} {a : Option Addr} {n c : Nat} {zs : List Int} (h : MutR g B e 1 a n c (zs.map (Value.int .i64))) (hn : n < 4611686018427387904) :
    CallsG Tryz.prog 63 #[.slice a n c] g (blkOf a) fun v g' => v = .tuple ⟨[]⟩ ∧ SlE intE' g' a n c (zs.mergeSort fun x y => decide (x ≤ y)) :=
  (sort_fin (Value.int .i64) Tryz.slices_Sort_int Tryz.slices_Sort_int_none h hn).mono fun v g' _ hq => ⟨hq.1, sle_of_map (Value.int .i64) rfl (fun _ _ => rfl) hq.2⟩
theorem rng_row {P : Program} {g : G} {k : TypeId} {b r q m : Nat} {f : Int → Option Value} {left : Int → Bool} (h : RngI P g k b r q f left m) {B : Nat} {e : TypeId} {mm : Nat} {a : Option Addr} {n c : Nat} {L : List Value} (hm : MutR g B e mm a n c L) : ¬ blkOf a b ∧ ¬ blkOf a r := by
  rcases hm.row with ⟨rfl, _⟩ | ⟨x, cur, rfl, _, h2, _⟩
  · exact ⟨fun ⟨_, hh, _⟩ => (by cases hh), fun ⟨_, hh, _⟩ => (by cases hh)⟩
  · obtain ⟨k1, k2⟩ := h.cells h2.blk
    exact ⟨fun ⟨_, hh, e⟩ => k1 (by cases hh; exact e), fun ⟨_, hh, e⟩ => k2 (by cases hh; exact e)⟩
def AscF (x : E) (F : List Int) : Prop := F.Pairwise (· < ·) ∧ ∀ s, s ∈ F ↔ ∃ i : Nat, s = ((i : Nat) : Int) ∧ FV x i
def FreeSay (x : E) (v : Value) (g' : G) : Prop := ∃ a n c e, v = .tuple ⟨[.slice a n c, .int .i64 e]⟩ ∧ ((validE x ∧ e = 0 ∧ ∃ F, SlE intE' g' a n c F ∧ AscF x F) ∨ (¬ validE x ∧ e = 1 ∧ a = none ∧ n = 0 ∧ c = 0))
theorem E36 : Elem Tryz.prog 47 3 1 8 := ⟨Tryz.underlying47, by kernel_rfl⟩
theorem kk17 {x : E} (hx : i64E x) {a : Option Addr} {n c : Nat} {g : G} (hI : SlE expE g a n c x.kids) : CallsP Tryz.prog 36 #[expV x a n c] g fun v g' => FreeSay x v g' := by
  refine call36 _ _ _ _ _ _ g _ ?_
  unfold F36
  refine fun g1 m1 => (kk30 hx (hI.exm m1)).mono ?_
  rintro u g2 m2 rfl
  have m02 := m1.trans m2
  refine ⟨_, rfl, ifPn (fun q g3 _ => ⟨none, 0, 0, 1, rfl, .inr ⟨q, rfl, rfl, rfl, rfl⟩⟩) (fun hv g4 n4 => ?_)⟩
  have m04 := m02.trans n4.ex
  have hm0 : MapI Tryz.prog g4 3 g2.w.heap.size 0 (memF []) := (MapI.new n4 Tryz.prog 3).congr (fun s => by unfold memF; rw [if_neg (by simp)])
  have hz2 : g.w.heap.size ≤ g2.w.heap.size := m02.size
  have hcall := kk31 x (depth := 0) (cnt := 0) (S := []) hx (by have := hv.2.2; omega) (by have := hv.2.1; omega) (hI.exm m04) hm0
  refine ⟨fun z => z = g2.w.heap.size, fun b hb e => by omega, hcall.mono ?_⟩
  rintro v g5 s5 ⟨rfl, hm5⟩
  rw [List.nil_append, Nat.zero_add] at hm5
  refine ⟨rfl, ?_⟩
  have hfl := frees_len x 0
  have hsz := hv.2.1
  have hmem : ∀ s, s ∈ frees x 0 ↔ ∃ i : Nat, s = ((i : Nat) : Int) ∧ FV x i := fun s => mem_frees x 0 s
  generalize frees x 0 = O at hm5 hfl hmem
  obtain ⟨w6, hrun, g6, m6, e6, st6, hrg, ex6⟩ := RngI.start hm5 Tryz.underlying3 Tryz.underlying116
  have hz5 : g.w.heap.size ≤ g5.w.heap.size := Nat.le_trans m04.size s5.le.size
  have hr0 : g.w.heap.size ≤ g5.w.heap.size := hz5
  generalize hmb : g2.w.heap.size = mb at hrg hrun hm5
  generalize hrb : g5.w.heap.size = rb at hrg hrun hr0
  refine ⟨_, w6, hrun, g6, e6, st6 _ hz5, fun m a n c g' => g.w.heap.size ≤ g'.w.heap.size ∧ ∃ (V : List Int) (left : Int → Bool), MutR g' g.w.heap.size 3 1 a n c (V.map (Value.int .i64)) ∧ RngI Tryz.prog g' 3 mb rb O.length (memF O) left m ∧ V.Nodup ∧ (∀ s, s ∈ V ↔ (s ∈ O ∧ left s = false)),
    ⟨m6, Nat.le_trans hz5 (by rw [hrb]; have := hrg.lt; omega), [], _, MutR.nil _ _ _ _, hrg, List.nodup_nil, fun s => ?_⟩, ?_⟩
  · unfold memF
    by_cases hs : s ∈ O <;> simp [hs]
  rintro m a n c g7 le7 ⟨hsz7, V, left, hrow, hrg7, hnd, hV⟩
  have hVn : V.length = n := by have := hrow.len; simpa using this
  have hVO := nodup_le hnd (fun x hx => ((hV x).1 hx).1)
  have fin : (∀ s, left s = false) → AscF x (V.mergeSort fun x y => decide (x ≤ y)) := by
    intro hno
    refine ⟨asc_sort hnd, fun s => ?_⟩
    rw [(List.mergeSort_perm V _).mem_iff, hV, ← hmem]
    exact ⟨fun h => h.1, fun h => ⟨h, hno s⟩⟩
  rcases hrg7.next Tryz.underlying3 0 with ⟨hno, hrun7⟩ | ⟨s, v, w8, hws, hls, hfs, hrun7, g8, m8, hlt8, e8, st8, hrg8, but8, hen⟩
  · refine .inl ⟨_, hrun7, g7, rfl, Stp.refl _ _ _, blkOf a, fun b hb hh => absurd (hrow.ge hh) (by omega), (kk32 hrow (by omega)).mono ?_⟩
    rintro u g9 s9 ⟨rfl, hsl⟩
    exact ⟨rfl, fun g10 m10 => ⟨a, n, c, 0, rfl, .inl ⟨hv, rfl, _, hsl.exm m10, fin hno⟩⟩⟩
  · have hsO : s ∈ O := by
      unfold memF at hfs
      by_cases hs : s ∈ O
      · exact hs
      · rw [if_neg hs] at hfs; cases hfs
    have hfs' : v = .bool true := by
      unfold memF at hfs
      rw [if_pos hsO] at hfs
      exact (Option.some.inj hfs).symm
    subst hfs'
    obtain ⟨nb, nr⟩ := rng_row hrg7 hrow
    have hrow8 : MutR g8 g.w.heap.size 3 1 a n c (V.map (Value.int .i64)) := hrow.but but8 (fun z hz e => nr (e ▸ hz))
    refine .inr ⟨true, s, _, w8, hrun7, g8, e8, st8 _ hr0, ifT (fun _ => ?_) (fun hh => by cases hh)⟩
    rw [← e8] at hen
    refine ⟨s, _, _, hen, g8, rfl, Stp.refl _ _ _, fun g13 n13 => ?_⟩
    have hsz8 : g.w.heap.size ≤ g13.w.heap.size := Nat.le_trans hsz7 (Nat.le_trans but8.size n13.ex.size)
    have hrow13 := hrow8.ex n13.ex
    have hrg13 := hrg8.exm n13.ex
    obtain ⟨nb2, nr2⟩ := rng_row hrg13 hrow13
    obtain ⟨a', c', w', hrun', g14, e14, st14, hrow14, stb, _⟩ := hrow13.app E36 47 hsz8 (n13.sl (m := 1) (n := 1) rfl (by unfold maxLen; omega)) (by simp [Value.oneCell']) (by omega) (by unfold maxLen; omega)
    have but14 := stb.but (Nat.le_refl _)
    refine ⟨a', n + 1, c', w', hrun', g14, e14, st14, m8, hlt8, Nat.le_trans hsz8 but14.size, V ++ [s], _, by simpa using hrow14, hrg13.but but14 nb2 nr2, ?_, fun x => ?_⟩
    · refine List.nodup_append.2 ⟨hnd, by simp, fun x hx y hy => ?_⟩
      have : y = s := by simpa using hy
      subst this
      rintro rfl
      have := ((hV x).1 hx).2
      rw [hls] at this
      cases this
    · have hx := hV x
      by_cases e : x = s
      · subst e
        simp [hsO]
      · simp [e, hx]
def closedE (x : E) : Prop := validE x ∧ scopedE 0 x
theorem asc_nil {x : E} {F : List Int} (h : AscF x F) : F = [] ↔ scopedE 0 x := by
  constructor
  · rintro rfl i hi
    have := (h.2 ((i : Nat) : Int)).2 ⟨i, rfl, hi⟩
    cases this
  · intro hs
    refine List.eq_nil_iff_forall_not_mem.2 fun s hm => ?_
    obtain ⟨i, _, hi⟩ := (h.2 s).1 hm
    have := hs i hi
    omega
end Go.Proofs.YthlcdgpemjdgnaaGreatDoor
/- The reference's Arity, node, count, Valid, Size. -/
set_option linter.unusedVariables false
namespace Go.Proofs.YthlcdgpemjdgnaaGreatDoor
open Go Go.Vc Go.RowKit Go.Syn Go.Lam Go.Sort
def arityR (n : Int) : Nat := if 1 ≤ n ∧ n ≤ 14 then arityN n else 0
theorem kk53 (n : Int) (g : G) : CallsP Tryz.prog 85 #[.int .i64 n] g fun v _ => v = .int .i64 ((arityR n : Nat) : Int) := by
  refine call85 n g _ ?_
  unfold F85
  intro J hJ
  have one : ∀ b, b = true → (n = 6 ∨ n = 11 ∨ n = 13 ∨ n = 14) → J b g := fun b hb e => hJ b g (ifT (fun _ g2 _ => by unfold arityR arityN; rw [if_pos (by omega), if_pos e]; rfl) (fun h => by rw [hb] at h; cases h))
  refine ifEq (fun e => one _ rfl (by omega)) (fun e6 => ifEq (fun e => one _ rfl (by omega)) (fun e11 => ifEq (fun e => one _ rfl (by omega)) (fun e13 => ?_)))
  by_cases e14 : n = 14
  · exact one _ (by simp [e14]) (by omega)
  refine hJ _ g (ifT (fun h => absurd (by simpa using h) e14) (fun _ => ?_))
  intro J1 hJ1
  have two : ∀ b, b = true → (1 ≤ n ∧ n ≤ 14) → J1 b g := fun b hb e => hJ1 b g (ifT (fun _ g2 _ => by unfold arityR arityN; rw [if_pos e, if_neg (by omega)]; rfl) (fun h => by rw [hb] at h; cases h))
  refine ifEq (fun e => two _ rfl (by omega)) (fun e1 => ifEq (fun e => two _ rfl (by omega)) (fun e2 => ifEq (fun e => two _ rfl (by omega)) (fun e3 => ifEq (fun e => two _ rfl (by omega)) (fun e4 => ifEq (fun e => two _ rfl (by omega)) (fun e5 => ifEq (fun e => two _ rfl (by omega)) (fun e7 => ifEq (fun e => two _ rfl (by omega)) (fun e8 => ifEq (fun e => two _ rfl (by omega)) (fun e9 => ifEq (fun e => two _ rfl (by omega)) (fun e10 => ?_)))))))))
  by_cases e12 : n = 12
  · exact two _ (by simp [e12]) (by omega)
  exact hJ1 _ g (ifT (fun h => absurd (by simpa using h) e12) (fun _ g2 _ => by unfold arityR; rw [if_neg (by omega)]; rfl))
theorem arityN_pos (n : Int) : 1 ≤ arityN n := by unfold arityN; split <;> omega
theorem kk39 {x : E} (hn : x.dat.n ≤ 9223372036854775807) {a : Option Addr} {n c : Nat} {g : G} (hI : SlE expE g a n c x.kids) : CallsP Tryz.prog 58 #[expV x a n c] g fun v _ => v = .bool (tf (nodeP x.dat x.kids)) := by
  refine call58 _ _ _ _ _ _ g _ ?_
  have hl := hI.len
  unfold F58
  intro g1 m1 J hJ
  have main : (x.dat.op = 3 ∨ x.dat.s = []) → J g1 := by
    intro hs
    refine hJ g1 ?_
    have no : ∀ (g' : G), ¬ nodeP x.dat x.kids → (fun (v : Value) (_ : G) => v = .bool (tf (nodeP x.dat x.kids))) (.bool false) g' := fun g' h => vF h
    refine ifEq (fun e => ?_) (fun e1 => ?_)
    · have hk := node1 (l := x.kids) hs e
      refine ifLe (fun q g2 _ => ?_) (fun q g3 _ => no g3 (fun h => by have := hk.1 h; omega))
      show Value.bool (eqI _ _) = _
      rw [tf_eq]
      exact vP ⟨fun h => hk.2 ⟨by omega, q, hn⟩, fun h => by have := hk.1 h; omega⟩
    refine ifEq (fun e => ?_) (fun e2 => ?_)
    · have hk := node2 (l := x.kids) hs e
      refine ifLe (fun q => ifLe (fun q2 g2 _ => ?_) (fun q2 g3 _ => no g3 (fun h => by have := hk.1 h; omega))) (fun q g3 _ => no g3 (fun h => by have := hk.1 h; omega))
      show Value.bool (eqI _ _) = _
      rw [tf_eq]
      exact vP ⟨fun h => hk.2 ⟨by omega, q, q2⟩, fun h => by have := hk.1 h; omega⟩
    refine ifEq (fun e => ?_) (fun e3 => ?_)
    · have hk := node3 (l := x.kids) hs e
      refine ifEq (fun q => ifEq (fun q2 g2 _ => ?_) (fun q2 g3 _ => no g3 (fun h => by have := hk.1 h; omega))) (fun q g3 _ => no g3 (fun h => by have := hk.1 h; omega))
      show Value.bool (leI _ _) = _
      rw [tf_le, bstr_size]
      exact vP ⟨fun h => hk.2 ⟨by omega, q, by omega⟩, fun h => by have := (hk.1 h).2.2; omega⟩
    have hs0 : x.dat.s = [] := hs.resolve_left e3
    refine ifEq (fun e => ?_) (fun e4 => ?_)
    · have hk := node4 (l := x.kids) hs e
      refine ifEq (fun q g2 _ => ?_) (fun q g3 _ => no g3 (fun h => by have := hk.1 h; omega))
      show Value.bool (eqI _ _) = _
      rw [tf_eq]
      exact vP ⟨fun h => hk.2 ⟨by omega, q⟩, fun h => by have := hk.1 h; omega⟩
    intro J1 hJ1
    have two : ∀ b, b = true → (nodeP x.dat x.kids ↔ x.kids.length = 2 ∧ x.dat.n = 0) → J1 b g1 := by
      intro b hb hk
      refine hJ1 b g1 (ifT (fun _ => ?_) (fun e => by rw [hb] at e; cases e))
      refine ifEq (fun q g2 _ => ?_) (fun q g3 _ => no g3 (fun h => by have := hk.1 h; omega))
      show Value.bool (eqI _ _) = _
      rw [tf_eq]
      exact vP ⟨fun h => hk.2 ⟨by omega, q⟩, fun h => by have := hk.1 h; omega⟩
    refine ifEq (fun e => two _ rfl (node5 hs e)) (fun e5 => ?_)
    by_cases e11 : x.dat.op = 11
    · exact two _ (by simp [e11]) (node11 hs e11)
    refine hJ1 _ g1 (ifT (fun h => absurd (by simpa using h) e11) (fun _ => ?_))
    refine ifEq (fun e => ?_) (fun e6 => ?_)
    · have hk := node6 (l := x.kids) hs e
      refine ifEq (fun q g2 _ => ?_) (fun q g3 _ => no g3 (fun h => by have := hk.1 h; omega))
      show Value.bool (leI _ _) = _
      rw [tf_le]
      exact vP ⟨fun h => hk.2 ⟨by omega, q⟩, fun h => by have := hk.1 h; omega⟩
    intro J2 hJ2
    have one : ∀ b, b = true → (nodeP x.dat x.kids ↔ x.kids.length = 1 ∧ 0 ≤ x.dat.n ∧ x.dat.n ≤ 999) → J2 b g1 := by
      intro b hb hk
      refine hJ2 b g1 (ifT (fun _ => ?_) (fun e => by rw [hb] at e; cases e))
      refine ifLe (fun q => ifLt (fun q2 g2 _ => ?_) (fun q2 g3 _ => no g3 (fun h => by have := hk.1 h; omega))) (fun q g3 _ => no g3 (fun h => by have := hk.1 h; omega))
      show Value.bool (eqI _ _) = _
      rw [tf_eq]
      exact vP ⟨fun h => hk.2 ⟨by omega, q, by omega⟩, fun h => by have := hk.1 h; omega⟩
    refine ifEq (fun e => one _ rfl (node7 hs e)) (fun e7 => ?_)
    by_cases e8 : x.dat.op = 8
    · exact one _ (by simp [e8]) (node8 hs e8)
    refine hJ2 _ g1 (ifT (fun h => absurd (by simpa using h) e8) (fun _ => ?_))
    refine ifEq (fun e => ?_) (fun e9 => ?_)
    · have hk := node9 (l := x.kids) hs e
      refine ifEq (fun q => ifLe (fun q2 g2 _ => ?_) (fun q2 g3 _ => no g3 (fun h => by have := hk.1 h; omega))) (fun q g3 _ => no g3 (fun h => by have := hk.1 h; omega))
      show Value.bool (leI _ _) = _
      rw [tf_le]
      exact vP ⟨fun h => hk.2 ⟨by omega, by omega, q⟩, fun h => by have := hk.1 h; omega⟩
    refine ifEq (fun e => ?_) (fun e10 => ?_)
    · have hk := node10 (l := x.kids) hs e
      refine ifEq (fun q2 => ifEq (fun q => ⟨⟨by omega, by omega⟩, ?_⟩) (fun q g3 _ => no g3 (fun h => by have := (hk.1 h).1; omega))) (fun q2 g3 _ => no g3 (fun h => q2 (hk.1 h).2.1))
      have gy := List.getElem?_eq_getElem (show 0 < x.kids.length by omega)
      generalize x.kids[0] = y at gy
      refine rdEL (hI.exm m1) 0 rfl gy (fun ad ka kn kc _ hy hly => ⟨_, (live0 (hly 0 _ rfl)).1, fun g24 _ => ?_⟩)
      show Value.bool (eqI _ _) = _
      rw [tf_eq]
      refine vP ⟨fun h => hk.2 ⟨by omega, q2, y, gy, h⟩, fun h => ?_⟩
      obtain ⟨_, _, y', gy', h4⟩ := hk.1 h
      rw [gy] at gy'
      cases gy'
      exact h4
    refine ifEq (fun e => ?_) (fun e12 => ?_)
    · have hk := node12 (l := x.kids) hs e
      have hp := arityN_pos x.dat.n
      refine (kk53 _ g1).mono ?_
      rintro v g4 _ rfl
      refine ⟨_, rfl, ifLt (fun q => (kk53 _ g4).mono ?_) (fun q g3 _ => no g3 (fun h => ?_))⟩
      · rintro v g5 _ rfl
        refine ⟨_, rfl, fun g6 _ => ?_⟩
        have hr : 1 ≤ x.dat.n ∧ x.dat.n ≤ 14 := by
          unfold arityR at q
          split at q
          · assumption
          · omega
        show Value.bool (eqI _ _) = _
        rw [tf_eq]
        unfold arityR
        rw [if_pos hr]
        exact vP ⟨fun h => hk.2 ⟨hr.1, hr.2, by omega⟩, fun h => by have := (hk.1 h).2.2; omega⟩
      · have h2 := hk.1 h
        unfold arityR at q
        rw [if_pos ⟨h2.1, h2.2.1⟩] at q
        omega
    refine ifEq (fun e => ?_) (fun e13 => ?_)
    · have hk := node13 (l := x.kids) hs e
      refine ifLe (fun q => ifLe (fun q2 g2 _ => ?_) (fun q2 g3 _ => no g3 (fun h => by have := hk.1 h; omega))) (fun q g3 _ => no g3 (fun h => by have := hk.1 h; omega))
      show Value.bool (eqI _ _) = _
      rw [tf_eq]
      exact vP ⟨fun h => hk.2 ⟨by omega, q, q2⟩, fun h => by have := hk.1 h; omega⟩
    exact fun g34 _ => no g34 (nodeNo (by omega))
  clear hJ
  refine ifNe (fun e => ?_) (fun e => main (.inl e))
  have es : (strEq (bstr x.dat.s) (bs []) = true) = (x.dat.s = []) := by
    rw [strEq_true, show bs [] = bstr [] from rfl, bstr_inj]
  refine ifF (fun q g35 _ => vF ?_) (fun q => main (.inr (by rw [← es]; exact q)))
  rintro ⟨h1, _⟩
  rcases h1 with h1 | h1
  · exact e h1
  · rw [← es] at h1; rw [h1] at q; cases q
def cntP (left depth : Nat) (x : E) : Prop := formE x ∧ sizeE x ≤ left ∧ depthE x ≤ depth
theorem kk22 (x : E) : ∀ {left depth : Nat} {a : Option Addr} {n c : Nat} {g : G}, i64E x → left ≤ 20000 → depth ≤ 400 → SlE expE g a n c x.kids →
    CallsP Tryz.prog 34 #[expV x a n c, .int .i64 ((left : Nat) : Int), .int .i64 ((depth : Nat) : Int)] g fun v _ => ∃ r : Int, v = .int .i64 r ∧ (cntP left depth x → r = ((left : Nat) : Int) - ((sizeE x : Nat) : Int)) ∧ (¬ cntP left depth x → r = -1) := by
  induction x using Tr.ind with
  | h d l ih =>
    intro left depth a n c g hx hle hd hI
    obtain ⟨hn, hkx⟩ := i64E_un hx
    refine call34 _ _ _ _ _ _ _ _ g _ ?_
    have hl : l.length = n := hI.len
    have hcap := hI.cap
    have hnc := hI.le
    unfold maxLen at hcap
    unfold F34
    have no : ∀ (g' : G), ¬ cntP left depth (.mk d l) → (fun (v : Value) (_ : G) => ∃ r : Int, v = .int .i64 r ∧ (cntP left depth (.mk d l) → r = ((left : Nat) : Int) - ((sizeE (.mk d l) : Nat) : Int)) ∧ (¬ cntP left depth (.mk d l) → r = -1)) (.int .i64 (-1)) g' := fun g' h => ⟨-1, rfl, fun hh => absurd hh h, fun _ => rfl⟩
    intro J hJ
    refine ifLt (fun q g7 _ => no g7 (fun h => by have := h.2.1; have := sizeE_pos (.mk d l); omega)) (fun q1 => ifLt (fun q g8 _ => no g8 (fun h => by have := h.2.2; simp [depthE] at this; omega)) (fun q2 g9 m9 => (kk39 hn (hI.exm m9)).mono ?_))
    rintro v g10 m10 rfl
    refine ⟨_, rfl, ifPn (fun q g11 _ => no g11 (fun h => q (formE_un h.1).1)) (fun q3 => hJ g10 ?_)⟩
    clear hJ
    refine ⟨i64 (by omega) (by omega), fun m r i g' => ∃ j : Nat, i = ((j : Nat) : Int) ∧ j + m = n ∧ ((r = ((left : Nat) : Int) - 1 - ((sizeEL (l.take j) : Nat) : Int) ∧ 1 + sizeEL (l.take j) ≤ left ∧ ∀ y ∈ l.take j, formE y ∧ depthE y + 1 ≤ depth) ∨ (r = -1 ∧ ¬ cntP left depth (.mk d l))), ⟨n, 0, rfl, by omega, .inl ⟨by simp [sizeEL], by simp [sizeEL]; omega, by simp⟩⟩, ?_⟩
    rintro m r i g2 le ⟨j, rfl, hj, hor⟩
    intro J1 hJ1
    refine ifLt (fun q => ifLe (fun q0 => hJ1 g2 ⟨⟨by omega, by omega⟩, ?_⟩) (fun q0 g5 _ => ?_)) (fun q g6 _ => ?_)
    · have gj := List.getElem?_eq_getElem (show j < l.length by omega)
      generalize l[j] = y at gj
      have hy := List.mem_of_getElem? gj
      have htk := sizeEL_take gj
      obtain ⟨hr, hsz, hall⟩ : r = ((left : Nat) : Int) - 1 - ((sizeEL (l.take j) : Nat) : Int) ∧ 1 + sizeEL (l.take j) ≤ left ∧ ∀ y ∈ l.take j, formE y ∧ depthE y + 1 ≤ depth := by
        rcases hor with h | h
        · exact h
        · omega
      refine rdE ((hI.exm (m9.trans m10)).mono le) j rfl gj (fun ka kn kc hk => ⟨i64 (by omega) (by omega), ?_⟩)
      have hcall := ih y hy (left := left - (1 + sizeEL (l.take j))) (depth := depth - 1) (hkx y hy) (by omega) (by omega) hk
      rw [show ((left - (1 + sizeEL (l.take j)) : Nat) : Int) = r by omega, show ((depth - 1 : Nat) : Int) = ((depth : Nat) : Int) - 1 by omega] at hcall
      refine hcall.mono ?_
      rintro v g4 _ ⟨r2, rfl, hk1, hk2⟩
      refine ⟨_, rfl, i64 (by omega) (by omega), m - 1, by omega, j + 1, by omega, by omega, ?_⟩
      by_cases hc : cntP (left - (1 + sizeEL (l.take j))) (depth - 1) y
      · have hk3 := hk1 hc
        obtain ⟨c1, c2, c3⟩ := hc
        exact .inl ⟨by omega, by omega, (all_take gj (fun y => formE y ∧ depthE y + 1 ≤ depth)).2 ⟨hall, c1, by omega⟩⟩
      · refine .inr ⟨hk2 hc, fun h => hc ⟨(formE_un h.1).2 y hy, ?_, ?_⟩⟩
        · have h1 := h.2.1
          have h2 := sizeEL_le l (j + 1)
          simp only [sizeE] at h1
          omega
        · have h1 := h.2.2
          have h2 := depthE_mem hy
          simp only [depthE] at h1
          omega
    · rcases hor with ⟨h1, h2, _⟩ | ⟨h1, h2⟩
      · omega
      · rw [h1]; exact no g5 h2
    · rcases hor with ⟨h1, hsz, hall⟩ | ⟨h1, h2⟩
      · rw [List.take_of_length_le (by omega)] at hsz hall h1
        have hm : cntP left depth (.mk d l) := by
          refine ⟨formE_iff.2 ⟨q3, fun y hy => (hall y hy).1⟩, by simp only [sizeE]; omega, ?_⟩
          simp only [depthE]
          have key : ∀ r : List E, (∀ y ∈ r, depthE y + 1 ≤ depth) → depthEL r + 1 ≤ depth := by
            intro r
            induction r with
            | nil => intro _; simp [depthEL]; omega
            | cons z r ihr =>
              intro h
              have h1 := h z (by simp)
              have h2 := ihr (fun y hy => h y (by simp [hy]))
              simp only [depthEL]
              omega
          exact key l (fun y hy => (hall y hy).2)
        exact ⟨r, rfl, fun _ => by simp only [sizeE]; omega, fun h => absurd hm h⟩
      · rw [h1]; exact no g6 h2
theorem kk8 {x : E} (hx : i64E x) {a : Option Addr} {n c : Nat} {g : G} (hI : SlE expE g a n c x.kids) : CallsP Tryz.prog 15 #[expV x a n c] g fun v _ => v = .bool (tf (validE x)) := by
  refine call15 _ _ _ _ _ _ g _ ?_
  unfold F15
  refine fun g1 m1 => (kk22 x (left := 20000) (depth := 400) hx (Nat.le_refl _) (Nat.le_refl _) (hI.exm m1)).mono ?_
  rintro v g2 _ ⟨r, rfl, h1, h2⟩
  refine ⟨_, rfl, fun g3 _ => ?_⟩
  rw [tf_le]
  refine vP ⟨fun h => ?_, fun h => ?_⟩
  · by_cases q : cntP 20000 400 x
    · exact q
    · have := h2 q; omega
  · have := h1 h
    have := h.2.1
    omega
end Go.Proofs.YthlcdgpemjdgnaaGreatDoor
/- The reference's free variables, forms of values, equality. -/
set_option linter.unusedVariables false
namespace Go.Proofs.YthlcdgpemjdgnaaGreatDoor
open Go Go.Vc Go.RowKit Go.Syn Go.Lam Go.Sort
theorem kk41 {x : E} {a : Option Addr} {n c : Nat} (j : Nat) (g : G) : CallsP Tryz.prog 60 #[expV x a n c, .int .i64 ((j : Nat) : Int)] g fun v _ => v = .int .i64 ((bndN x.dat.op j : Nat) : Int) := by
  refine call60 _ _ _ _ _ _ _ g _ ?_
  unfold F60
  intro J hJ
  have one : ∀ b g1, b = true → (x.dat.op = 4 ∨ x.dat.op = 10) → J b g1 := fun b g1 hb e => hJ b g1 (ifT (fun _ g2 _ => by rw [bnd_body e]; rfl) (fun h => by rw [hb] at h; cases h))
  refine ifEq (fun e g8 _ => one _ g8 rfl (.inl e)) (fun e4 g9 _ => ?_)
  by_cases e10 : x.dat.op = 10
  · exact one _ g9 (by simp [e10]) (.inr e10)
  refine hJ _ g9 (ifT (fun h => absurd (by rw [eqI_true] at h; exact h) e10) (fun _ => ?_))
  have more : (x.dat.op = 11 ∨ x.dat.op = 9) → ifB (ltI 0 ((j : Nat) : Int)) (∀ g3 : G, Ex g9 g3 → (fun (v : Value) (_ : G) => v = .int .i64 ((bndN x.dat.op j : Nat) : Int)) (.int .i64 (1 : Int)) g3) (∀ g3 : G, Ex g9 g3 → (fun (v : Value) (_ : G) => v = .int .i64 ((bndN x.dat.op j : Nat) : Int)) (.int .i64 (0 : Int)) g3) :=
    fun h => ifLt (fun q g3 _ => by rw [bnd_more h (by omega)]; rfl) (fun q g3 _ => by rw [show j = 0 by omega, bnd_first (by omega)]; rfl)
  refine ifEq (fun e => more (.inl e)) (fun e11 => ifEq (fun e => more (.inr e)) (fun e9 g7 _ => ?_))
  rw [bnd_none (by omega)]; rfl
theorem asc_unique {F H : List Int} (hF : F.Pairwise (· < ·)) (hH : H.Pairwise (· < ·)) (h : ∀ s, s ∈ F ↔ s ∈ H) : F = H := by
  induction F generalizing H with
  | nil =>
    cases H with
    | nil => rfl
    | cons b r => exact absurd ((h b).2 (by simp)) (by simp)
  | cons a F ih =>
    cases H with
    | nil => exact absurd ((h a).1 (by simp)) (by simp)
    | cons b H =>
      obtain ⟨h1, h2⟩ := List.pairwise_cons.1 hF
      obtain ⟨h3, h4⟩ := List.pairwise_cons.1 hH
      have ab : a = b := by
        rcases List.mem_cons.1 ((h a).1 (by simp)) with e | e
        · exact e
        · rcases List.mem_cons.1 ((h b).2 (by simp)) with e2 | e2
          · exact e2.symm
          · have := h3 a e; have := h1 b e2; omega
      subst ab
      rw [ih h2 h4 (fun s => ?_)]
      have hs := h s
      simp only [List.mem_cons] at hs
      constructor
      · intro hm
        rcases hs.1 (.inr hm) with e | e
        · have := h1 s hm; omega
        · exact e
      · intro hm
        rcases hs.2 (.inr hm) with e | e
        · have := h3 s hm; omega
        · exact e
theorem asc_ins {L : List Int} (hL : L.Pairwise (· < ·)) {j : Nat} {n : Int} (h1 : ∀ x ∈ L.take j, x < n) (h2 : ∀ y, L[j]? = some y → n < y) :
    (L.take j ++ [n] ++ L.drop j).Pairwise (· < ·) ∧ ∀ s, s ∈ L.take j ++ [n] ++ L.drop j ↔ s ∈ L ∨ s = n := by
  have h3 : ∀ y ∈ L.drop j, n < y := by
    intro y hy
    cases hd : L.drop j with
    | nil => rw [hd] at hy; cases hy
    | cons z r =>
      have hz : L[j]? = some z := by
        have := congrArg (fun l => l[0]?) hd
        simpa using this
      have hp : (L.drop j).Pairwise (· < ·) := List.Pairwise.sublist (List.drop_sublist j L) hL
      rw [hd] at hy hp
      obtain ⟨p1, _⟩ := List.pairwise_cons.1 hp
      rcases List.mem_cons.1 hy with rfl | hy
      · exact h2 _ hz
      · have := h2 _ hz; have := p1 y hy; omega
  refine ⟨?_, fun s => ?_⟩
  · refine List.pairwise_append.2 ⟨List.pairwise_append.2 ⟨List.Pairwise.sublist (List.take_sublist j L) hL, by simp, fun a ha b hb => ?_⟩, List.Pairwise.sublist (List.drop_sublist j L) hL, fun a ha b hb => ?_⟩
    · have : b = n := by simpa using hb
      rw [this]; exact h1 a ha
    · rcases List.mem_append.1 ha with ha | ha
      · have := h1 a ha; have := h3 b hb; omega
      · have : a = n := by simpa using ha
        rw [this]; exact h3 b hb
  · constructor
    · intro hm
      rcases List.mem_append.1 hm with hm | hm
      · rcases List.mem_append.1 hm with hm | hm
        · exact .inl (List.mem_of_mem_take hm)
        · exact .inr (by simpa using hm)
      · exact .inl (List.mem_of_mem_drop hm)
    · rintro (hm | rfl)
      · rw [← List.take_append_drop j L, List.mem_append] at hm
        rcases hm with hm | hm
        · simp [hm]
        · simp [hm]
      · simp
theorem kk40 {L : List Int} (n : Int) {a : Option Addr} {ln lc : Nat} {g : G} (hL : L.Pairwise (· < ·)) (h : SlE intE' g a ln lc L) (hn : ln ≤ 1048576) :
    CallsP Tryz.prog 59 #[.slice a ln lc, .int .i64 n] g fun v g' => ∃ oa on oc F, v = .slice oa on oc ∧ SlE intE' g' oa on oc F ∧ F.Pairwise (· < ·) ∧ F.length ≤ L.length + 1 ∧ ∀ s, s ∈ F ↔ s ∈ L ∨ s = n := by
  refine call59 a ln lc _ g _ ?_
  have hl := h.len
  have hcp := h.le
  unfold F59
  intro J hJ
  have HJ : ∀ (j : Nat) (g1 : G), Le g g1 → j ≤ ln → (∀ x ∈ L.take j, x < n) → (∀ x, L[j]? = some x → n ≤ x) → J ((j : Nat) : Int) g1 := by
    intro j g1 le1 hjn h1 h2
    refine hJ _ g1 ?_
    clear hJ
    intro J1 hJ1
    have build : (∀ y, L[j]? = some y → y ≠ n) → J1 g1 := by
      intro hne
      obtain ⟨p1, p2⟩ := asc_ins hL h1 (fun y hy => by have := h2 y hy; have := hne y hy; omega)
      refine hJ1 g1 (fun g3 n3 => ⟨⟨by omega, by omega⟩, ?_⟩)
      have le3 := le1.trans n3.ex.le
      have o3 : OwnE intE' g3 g.w.heap.size 3 (some ⟨g1.w.heap.size, 0, none⟩) 0 0 ([] : List Int) := OwnE.lit (xs := []) n3 Rws.nil le1.size (by unfold maxLen; simp)
      have ht := (h.mono le3).take (hi := j) hjn
      obtain ⟨a1, c1, w1, hr1, g4, hw1, hs1, o4, st4, _⟩ := o3.app E36 47 le3.size ht (by omega) (by unfold maxLen; omega)
      rw [Int.toNat_natCast]
      refine ⟨a1, 0 + (j - 0), c1, w1, hr1, g4, hw1, hs1, fun g5 n5 => ?_⟩
      have le4 : Le g g4 := le3.trans hs1.le
      obtain ⟨a2, c2, w2, hr2, g6, hw2, hs2, o6, st6, _⟩ := o4.app1 E36 47 le4.size n5 (x := n) rfl (by omega) (by unfold maxLen; omega)
      have le6 : Le g g6 := (le4.trans n5.ex.le).trans hs2.le
      have hd := (h.mono le6).drop (lo := j) hjn
      obtain ⟨a3, c3, w3, hr3, g7, hw3, hs3, o7, st7, _⟩ := o6.app E36 47 le6.size hd (by omega) (by unfold maxLen; omega)
      refine ⟨a2, _, c2, w2, hr2, g6, hw2, hs2, ⟨by omega, by omega⟩, a3, _, c3, w3, hr3, g7, hw3, hs3, fun g8 m8 => ⟨a3, _, c3, L.take j ++ [n] ++ L.drop j, rfl, by simpa using o7.sl.exm m8, p1, ?_, p2⟩⟩
      simp only [List.length_append, List.length_take, List.length_drop, List.length_singleton]
      omega
    refine ifLt (fun q => ⟨⟨by omega, by omega⟩, ?_⟩) (fun q => build (fun y hy => by have := (List.getElem?_eq_some_iff.1 hy).1; omega))
    have gj := List.getElem?_eq_getElem (show j < L.length by omega)
    generalize L[j] = x at gj
    refine rdN (h.mono le1) j rfl gj (ifEq (fun e g12 m12 => ⟨a, ln, lc, L, rfl, h.mono (le1.trans m12.le), hL, by omega, fun s => ⟨.inl, fun hh => hh.elim id (fun e2 => by rw [e2, ← e]; exact List.mem_of_getElem? gj)⟩⟩) (fun e => build (fun y hy => by rw [gj] at hy; cases hy; exact e)))
  refine ⟨fun m i g' => ∃ j : Nat, i = ((j : Nat) : Int) ∧ j + m = ln ∧ ∀ x ∈ L.take j, x < n, ⟨ln, 0, rfl, by omega, by simp⟩, ?_⟩
  rintro m i g13 le ⟨j, rfl, hj, hall⟩
  refine ifLt (fun q => ⟨⟨by omega, by omega⟩, ?_⟩) (fun q => HJ j g13 le (by omega) hall (fun x hx => by have := (List.getElem?_eq_some_iff.1 hx).1; omega))
  have gj := List.getElem?_eq_getElem (show j < L.length by omega)
  generalize L[j] = x at gj
  refine rdN (h.mono le) j rfl gj (ifLt (fun e => ⟨i64 (by omega) (by omega), m - 1, by omega, j + 1, by omega, by omega, (all_take gj _).2 ⟨hall, e⟩⟩) (fun e => HJ j g13 le (by omega) hall (fun y hy => by rw [gj] at hy; cases hy; exact e)))
theorem kk23 (x : E) : ∀ {under : Nat} {L : List Int} {la : Option Addr} {ll lc : Nat} {a : Option Addr} {n c : Nat} {g : G}, i64E x → (x.dat.op = 1 → x.kids = []) → (∀ y : E, y = x ∨ y ∈ x.kids → formE y) → under + depthE x ≤ 1000 → L.Pairwise (· < ·) → L.length + sizeE x ≤ 20000 → SlE intE' g la ll lc L → SlE expE g a n c x.kids →
    CallsP Tryz.prog 35 #[expV x a n c, .int .i64 ((under : Nat) : Int), .slice la ll lc] g fun v g' => ∃ oa on oc F, v = .slice oa on oc ∧ SlE intE' g' oa on oc F ∧ F.Pairwise (· < ·) ∧ F.length ≤ L.length + sizeE x ∧ ∀ s, s ∈ F ↔ s ∈ L ∨ s ∈ frees x under := by
  induction x using Tr.ind with
  | h d l ih =>
    intro under L la ll lc a n c g hx hvk hfm hud hP hsz hL hI
    obtain ⟨hn, hkx⟩ := i64E_un hx
    refine call35 _ _ _ _ _ _ _ _ _ _ g _ ?_
    have hl : l.length = n := hI.len
    have hll := hL.len
    have hcap := hI.cap
    have hnc := hI.le
    have hss : sizeE (.mk d l) = sizeEL l + 1 := rfl
    have hdd : depthE (.mk d l) = depthEL l + 1 := rfl
    unfold maxLen at hcap
    unfold F35
    intro J hJ
    have yes : ∀ b g1, Ex g g1 → b = true → d.op = 1 → ((under : Nat) : Int) ≤ d.n → J b g1 := by
      intro b g1 m1 hb e1 e2
      have hn' : d.n ≤ 9223372036854775807 := hn
      refine hJ b g1 (ifT (fun _ => ⟨i64 (by show _ ≤ d.n - _; omega) (by show d.n - _ ≤ _; omega), (kk40 (d.n - ((under : Nat) : Int)) hP (hL.exm m1) (by omega)).mono ?_⟩) (fun h => by rw [hb] at h; cases h))
      rintro v g2 _ ⟨oa, on, oc, F, rfl, h1, h2, h3, h4⟩
      refine ⟨_, _, _, rfl, fun g3 m3 => ⟨oa, on, oc, F, rfl, h1.exm m3, h2, by omega, fun s => ?_⟩⟩
      have hl0 : l = [] := hvk e1
      subst hl0
      rw [h4, frees, if_pos ⟨e1, e2⟩]
      simp [freesL]
    have nope : ∀ b g1, Ex g g1 → b = false → ¬ (d.op = 1 ∧ ((under : Nat) : Int) ≤ d.n) → J b g1 := by
      intro b g1 m1 hb e1
      refine hJ b g1 (ifT (fun h => by rw [hb] at h; cases h) (fun _ => ?_))
      clear hJ
      refine ⟨fun m la1 ll1 lc1 i g' => ∃ (j : Nat) (F : List Int), i = ((j : Nat) : Int) ∧ j + m = n ∧ SlE intE' g' la1 ll1 lc1 F ∧ F.Pairwise (· < ·) ∧ F.length ≤ L.length + sizeEL (l.take j) ∧ ∀ s, s ∈ F ↔ s ∈ L ∨ s ∈ freesL d.op 0 (l.take j) under,
        ⟨n, 0, L, rfl, by omega, hL.exm m1, hP, by omega, fun s => by simp [freesL]⟩, ?_⟩
      rintro m la1 ll1 lc1 i g4 le ⟨j, F, rfl, hj, hF, hFP, hFl, hFm⟩
      refine ifLt (fun q g5 m5 => ⟨⟨by omega, by omega⟩, ?_⟩) (fun q g8 m8 => ?_)
      · have gj := List.getElem?_eq_getElem (show j < l.length by omega)
        generalize l[j] = y at gj
        have hy := List.mem_of_getElem? gj
        have htk := sizeEL_take gj
        have hle2 := sizeEL_le l (j + 1)
        have hdy := depthE_mem hy
        have hb1 : bndN d.op j ≤ 1 := by unfold bndN; split <;> (try split) <;> omega
        have hfy : formE y := hfm y (.inr hy)
        refine rdE ((((hI.exm m1).mono le).exm m5)) j rfl gj (fun ka kn kc hk => (kk41 (x := .mk d l) j g5).mono ?_)
        rintro v g6 m6 rfl
        have hb' : bndN (Tr.dat (Tr.mk d l)).op j = bndN d.op j := rfl
        refine ⟨_, rfl, i64 (by omega) (by omega), ?_⟩
        have hcall := ih y hy (under := under + bndN d.op j) (L := F) (hkx y hy) (fun e => ?_) (fun z hz => ?_) (by omega) hFP (by omega) ((hF.exm m5).exm m6) (hk.exm m6)
        · rw [show ((under + bndN d.op j : Nat) : Int) = ((under : Nat) : Int) + ((bndN d.op j : Nat) : Int) by omega] at hcall
          refine hcall.mono ?_
          rintro v g7 _ ⟨oa, on, oc, F2, rfl, h1, h2, h3, h4⟩
          refine ⟨_, _, _, rfl, i64 (by omega) (by omega), m - 1, by omega, j + 1, F2, by omega, by omega, h1, h2, by omega, fun s => ?_⟩
          rw [h4, hFm, freesL_take d.op gj, List.mem_append, or_assoc]
        · have := (formE_un hfy).1.2
          exact List.eq_nil_of_length_eq_zero (by omega)
        · rcases hz with rfl | hz
          · exact hfy
          · exact (formE_un hfy).2 z hz
      · rw [List.take_of_length_le (by omega)] at hFl hFm
        refine ⟨la1, ll1, lc1, F, rfl, hF.exm m8, hFP, by omega, fun s => ?_⟩
        rw [hFm, frees, if_neg e1]
        simp
    refine ifEq (fun e g9 m9 => ?_) (fun e g10 m10 => nope _ g10 m10 rfl (fun h => e h.1))
    by_cases e2 : ((under : Nat) : Int) ≤ d.n
    · exact yes _ g9 m9 (by rw [leI_true]; exact e2) e e2
    · exact nope _ g9 m9 (by rw [leI_false]; show d.n < _; omega) (fun h => e2 h.2)
theorem kk9 {x : E} (hx : i64E x) (hv : validE x) {a : Option Addr} {n c : Nat} {g : G} (hI : SlE expE g a n c x.kids) : CallsP Tryz.prog 16 #[expV x a n c] g fun v g' => ∃ oa on oc F, v = .slice oa on oc ∧ SlE intE' g' oa on oc F ∧ AscF x F := by
  refine call16 _ _ _ _ _ _ g _ ?_
  unfold F16
  have h1 := hv.2.1
  have h2 := hv.2.2
  refine fun g1 m1 => (kk23 x (under := 0) (L := []) hx (fun e => ?_) (fun z hz => ?_) (by omega) List.Pairwise.nil (by simp; omega) (SlE.zero _) (hI.exm m1)).mono ?_
  · have := (formE_un hv.1).1.2
    exact List.eq_nil_of_length_eq_zero (by omega)
  · rcases hz with rfl | hz
    · exact hv.1
    · exact (formE_un hv.1).2 z hz
  rintro v g2 _ ⟨oa, on, oc, F, rfl, k1, k2, k3, k4⟩
  refine ⟨_, _, _, rfl, fun g3 m3 => ⟨oa, on, oc, F, rfl, k1.exm m3, k2, fun s => ?_⟩⟩
  rw [k4, mem_frees]
  simp
end Go.Proofs.YthlcdgpemjdgnaaGreatDoor
