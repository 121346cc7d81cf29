/- Syntax trees: the parts of a node. -/
import Derived.Test.YtmakoecgogjemaaDoorC03e
set_option linter.unusedVariables false
namespace Go.Proofs.YtmakoecgogjemaaDoor
open Go Go.Vc Go.RowKit Go.Syn

theorem ints_rws (g : G) (K : List Int) : Rws intE' g (K.map (Value.int .i64)) K := by
  refine ⟨K.map fun x => [.int .i64 x], ?_, ?_⟩
  · induction K with
    | nil => rfl
    | cons x r ih => simp [ih]
  · induction K with
    | nil => exact .nil
    | cons x r ih => exact .cons rfl ih
/-- parts, of a list that is written out. -/
theorem k64l (t : Sy) (cats : List Int) {na : Option Addr} {nn nc : Nat} {a : Option Addr} {n c : Nat} {g g1 : G} (h : SynI g t na nn nc a n c) (hn : NewL g g1 3 (cats.map (Value.int .i64))) (hc : cats.length ≤ 1000) :
    CallsP Tryd.prog 64 #[synV t na nn nc a n c, .slice (some ⟨g.w.heap.size, 0, none⟩) cats.length cats.length] g1 fun v g2 => ∃ x, v = .bool x ∧ ∀ g3, Ex g2 g3 → Value.bool x = .bool (tf (partsP t.kids cats)) := by
  refine (k64 t cats (h.exm hn.ex) (hn.sle (ints_rws g cats) (by unfold maxLen; omega)) (by omega)).mono ?_
  rintro v g2 _ rfl
  exact ⟨_, rfl, fun _ _ => rfl⟩
/-- only, of a list that is written out. -/
theorem k65l (L : List Sy) (ops : List Int) {a : Option Addr} {n c : Nat} {g g1 : G} (h : SlE synE g a n c L) (hn : NewL g g1 3 (ops.map (Value.int .i64))) (hc : ops.length ≤ 1000) :
    CallsP Tryd.prog 65 #[.slice a n c, .slice (some ⟨g.w.heap.size, 0, none⟩) ops.length ops.length] g1 fun v g2 => v = .bool (tf (onlyP L ops)) := k65 L ops (h.exm hn.ex) (hn.sle (ints_rws g ops) (by unfold maxLen; omega)) (by omega)
theorem getD_some {L : List Sy} {i : Nat} (h : i < L.length) : L[i]? = some (L.getD i noSy) := by rw [List.getD_eq_getElem?_getD, List.getElem?_eq_getElem h]; rfl
/-- shape. -/
theorem k51 (t : Sy) {na : Option Addr} {nn nc : Nat} {a : Option Addr} {n c : Nat} {g : G} (h : SynI g t na nn nc a n c) :
    CallsP Tryd.prog 51 #[synV t na nn nc a n c] g fun v _ => v = .bool (tf (shapeP t.dat t.kids)) := by
  refine call51 _ _ _ _ _ _ _ _ _ g _ ?_
  have hl := h.kids.len
  have hcap := h.kids.le
  have hmx := h.kids.cap
  unfold maxLen at hmx
  unfold F51
  -- what is asked, at each of the branches
  have vT' : ∀ {p q : Prop}, (q ↔ p) → Value.bool (tf p) = .bool (tf q) := fun hp => vP hp.symm
  have many : ∀ (cat lo hi : Int) (L : List Sy) {a : Option Addr} {n c : Nat} (g1 : G) (Q : Prop), SlE synE g1 a n c L → (Q ↔ manyP L cat lo hi) → CallsP Tryd.prog 63 #[.slice a n c, .int .i64 cat, .int .i64 lo, .int .i64 hi] g1 fun v g3 => ∃ x, v = .bool x ∧ ∀ g4, Ex g3 g4 → Value.bool x = .bool (tf Q) := by
    intro cat lo hi L a n c g1 Q hL hQ
    refine (k63 L cat lo hi hL).mono ?_
    rintro v g3 _ rfl
    exact ⟨_, rfl, fun _ _ => vT' hQ⟩
  have parts : ∀ (cats : List Int) (g1 : G) (Q : Prop), Ex g g1 → cats.length ≤ 1000 → (Q ↔ partsP t.kids cats) → ∀ g5, NewL g1 g5 3 (cats.map (Value.int .i64)) →
      CallsP Tryd.prog 64 #[synV t na nn nc a n c, .slice (some ⟨g1.w.heap.size, 0, none⟩) cats.length cats.length] g5 fun v g6 => ∃ x, v = .bool x ∧ ∀ g7, Ex g6 g7 → Value.bool x = .bool (tf Q) := by
    intro cats g1 Q m1 hc hQ g5 n5
    refine (k64l t cats (h.exm m1) n5 hc).mono ?_
    rintro v g6 _ ⟨x, rfl, hx⟩
    exact ⟨x, rfl, fun g7 m7 => (hx g7 m7).trans (vT' hQ)⟩
  -- the first, or the last part, and the others
  have head : ∀ (g15 : G) (Q : Prop) (cat k : Int) (m : Nat), Ex g g15 → m ≤ n → 1 ≤ n → (Q ↔ belP cat (t.kids.getD 0 noSy).dat.op ∧ onlyP (t.kids.drop 1) [k]) →
      ((0 ≤ (0 : Int) ∧ (0 : Int) < ((n : Nat) : Int)) ∧ derefP a fun ad => ∃ x0 : Int, ∃ x1 : Int, ∃ x2 : ByteArray, ∃ x3a : Option Addr, ∃ x3l : Nat, ∃ x3c : Nat, ∃ x4a : Option Addr, ∃ x4l : Nat, ∃ x4c : Nat, g15.w.cell? (Addr.add ad (Int.toNat (0 : Int) * 5)) = some (.int .i64 x0) ∧ g15.w.cell? (Addr.add (Addr.add ad (Int.toNat (0 : Int) * 5)) 1) = some (.int .i64 x1) ∧ g15.w.cell? (Addr.add (Addr.add ad (Int.toNat (0 : Int) * 5)) 2) = some (.string x2) ∧ g15.w.cell? (Addr.add (Addr.add ad (Int.toNat (0 : Int) * 5)) 3) = some (.slice x3a x3l x3c) ∧ g15.w.cell? (Addr.add (Addr.add ad (Int.toNat (0 : Int) * 5)) 4) = some (.slice x4a x4l x4c) ∧
        (CallsP Tryd.prog 31 #[(.int .i64 cat), (.agg ⟨[(.int .i64 x0), (.int .i64 x1), (.string x2), (.slice x3a x3l x3c), (.slice x4a x4l x4c)]⟩)] g15 fun v g28 =>
          ∃ x_9 : Bool, v = (.bool x_9) ∧ ifB x_9 ((0 ≤ (1 : Int) ∧ (1 : Int) ≤ ((n : Nat) : Int)) ∧ ∀ g29 : G, NewL g28 g29 3 [(.int .i64 k)] →
            (CallsP Tryd.prog 65 #[(.slice (slAddr a c (Int.toNat (1 : Int)) 5) (n - (Int.toNat (1 : Int))) (c - (Int.toNat (1 : Int)))), (.slice (some ⟨g28.w.heap.size, 0, none⟩) 1 1)] g29 fun v g30 =>
              ∃ x_10 : Bool, v = (.bool x_10) ∧ ∀ g31 : G, Ex g30 g31 → Value.bool x_10 = .bool (tf Q))) (∀ g32 : G, Ex g28 g32 → Value.bool false = .bool (tf Q)))) := by
    intro g15 Q cat k m m15 hm h1 hQ
    refine ⟨⟨by omega, by omega⟩, rdT (h.kids.exm m15) 0 rfl (getD_some (by omega)) (fun na' nn' nc' ka kn kc _ => (k31 cat _ na' nn' nc' ka kn kc g15).mono ?_)⟩
    rintro v g28 m28 rfl
    refine ⟨_, rfl, ifP (fun q1 => ⟨⟨by omega, by omega⟩, fun g29 n29 => ?_⟩) (fun q1 g32 _ => vF (fun hh => q1 (hQ.1 hh).1))⟩
    refine (k65l (t.kids.drop 1) [k] ((h.kids.exm (m15.trans m28)).drop (lo := 1) (by omega)) n29 (by simp)).mono ?_
    rintro v g30 _ rfl
    exact ⟨_, rfl, fun g31 _ => vP ⟨fun hh => hQ.2 ⟨q1, hh⟩, fun hh => (hQ.1 hh).2⟩⟩
  intro J hJ
  refine oneOfX [1, 5, 11, 12, 13, 21, 22, 23, 24, 48, 49, 62, 72, 82] (by simp) (fun g1 m1 => hJ _ g1 ?_)
  refine ifP (fun h1 g2 _ => ?_) (fun n1 => ?_)
  · rw [tf_eq]
    refine vP ?_
    unfold shapeP
    rw [if_pos h1, ← hl]
    cases t.kids with
    | nil => simp
    | cons x r => simp; omega
  have eS : shapeP t.dat t.kids ↔ shapeP t.dat t.kids := Iff.rfl
  conv at eS => rhs; unfold shapeP
  rw [if_neg n1] at eS
  refine ifEq (fun q => by rw [if_pos q] at eS; exact many 1 0 4 t.kids g1 _ (h.kids.exm m1) eS) (fun q => ?_)
  rw [if_neg q] at eS
  refine ifEq (fun q => by rw [if_pos q] at eS; exact parts [1, 1] g1 _ m1 (by decide) eS) (fun q => ?_)
  rw [if_neg q] at eS
  refine ifEq (fun q => by rw [if_pos q] at eS; exact many 1 2 9 t.kids g1 _ (h.kids.exm m1) eS) (fun q => ?_)
  rw [if_neg q] at eS
  refine ifEq (fun q => by rw [if_pos q] at eS; exact many 2 0 1 t.kids g1 _ (h.kids.exm m1) eS) (fun q => ?_)
  rw [if_neg q] at eS
  refine ifEq (fun q => ?_) (fun q => ?_)
  · rw [if_pos q] at eS
    exact ifNe (fun q2 => many 2 0 9 t.kids g1 _ (h.kids.exm m1) (eS.trans ⟨fun hh => hh.2, fun hh => ⟨by omega, hh⟩⟩)) (fun q2 g14 _ => vF (fun hh => (eS.1 hh).1 (by omega)))
  rw [if_neg q] at eS
  intro J1 hJ1
  refine oneOf [25, 41, 42] (hJ1 _ g1 ?_)
  refine ifP (fun q => by rw [if_pos q] at eS; exact parts [3] g1 _ m1 (by decide) eS) (fun q => ?_)
  rw [if_neg q] at eS
  refine ifEq (fun q => by rw [if_pos q] at eS; exact parts [3, 3] g1 _ m1 (by decide) eS) (fun q => ?_)
  rw [if_neg q] at eS
  refine ifEq (fun q => ?_) (fun q => ?_)
  · rw [if_pos q] at eS
    exact ifNe (fun q2 => many 3 0 9 t.kids g1 _ (h.kids.exm m1) (eS.trans ⟨fun hh => hh.2, fun hh => ⟨by omega, hh⟩⟩)) (fun q2 g14 _ => vF (fun hh => (eS.1 hh).1 (by omega)))
  rw [if_neg q] at eS
  refine ifEq (fun q => by rw [if_pos q] at eS; exact parts [3, 3, 3] g1 _ m1 (by decide) eS) (fun q => ?_)
  rw [if_neg q] at eS
  refine ifEq (fun q => ?_) (fun q => ?_)
  · rw [if_pos q] at eS
    exact ifLe (fun q2 => head g1 _ 3 30 0 m1 (by omega) (by omega) (eS.trans ⟨fun hh => hh.2, fun hh => ⟨by omega, hh⟩⟩)) (fun q2 g14 _ => vF (fun hh => by have := (eS.1 hh).1; omega))
  rw [if_neg q] at eS
  refine ifEq (fun q => by rw [if_pos q] at eS; exact parts [2, 3] g1 _ m1 (by decide) eS) (fun q => ?_)
  rw [if_neg q] at eS
  refine ifEq (fun q => ?_) (fun q => ?_)
  · rw [if_pos q] at eS
    refine ifLe (fun q2 => ?_) (fun q2 g14 _ => vF (fun hh => by have := (eS.1 hh).1; omega))
    have e1 : Int.toNat (((n : Nat) : Int) - 1) = n - 1 := by omega
    have e2 : t.kids.length - 1 = n - 1 := by omega
    refine ⟨i64 (by omega) (by omega), ⟨by omega, by omega⟩, ?_⟩
    refine rdT (h.kids.exm m1) (n - 1) (by omega) (getD_some (by omega)) (fun na' nn' nc' ka kn kc _ => (k31 3 _ na' nn' nc' ka kn kc g1).mono ?_)
    rintro v g37 m37 rfl
    refine ⟨_, rfl, ifP (fun q3 => ⟨i64 (by omega) (by omega), ⟨by omega, by omega⟩, fun g38 n38 => ?_⟩) (fun q3 g41 _ => vF (fun hh => q3 (by have := (eS.1 hh).2.1; rwa [e2] at this)))⟩
    rw [e1]
    refine (k65l (t.kids.take (n - 1)) [41, 42, 50] ((h.kids.exm (m1.trans m37)).take (by omega)) n38 (by decide)).mono ?_
    rintro v g39 _ rfl
    exact ⟨_, rfl, fun g40 _ => vP ⟨fun hh => eS.2 ⟨by omega, by rw [e2]; exact q3, by rw [e2]; exact hh⟩, fun hh => by have := (eS.1 hh).2.2; rwa [e2] at this⟩⟩
  rw [if_neg q] at eS
  refine ifEq (fun q => ?_) (fun q => ?_)
  · rw [if_pos q] at eS
    exact ifEq (fun q2 => by rw [if_pos q2] at eS; exact parts [3] g1 _ m1 (by decide) eS) (fun q2 => by rw [if_neg q2] at eS; exact parts [3, 3] g1 _ m1 (by decide) eS)
  rw [if_neg q] at eS
  refine ifEq (fun q => by rw [if_pos q] at eS; exact parts [3, 1] g1 _ m1 (by decide) eS) (fun q => ?_)
  rw [if_neg q] at eS
  refine ifEq (fun q => ?_) (fun q => ?_)
  · rw [if_pos q] at eS
    refine ifEq (fun q2 g52 n52 => (k65l t.kids [72] (h.kids.exm m1) n52 (by decide)).mono ?_) (fun q2 g14 _ => vF (fun hh => q2 (by have := (eS.1 hh).1; omega)))
    rintro v g53 _ rfl
    exact ⟨_, rfl, fun g54 _ => vP ⟨fun hh => eS.2 ⟨by omega, hh⟩, fun hh => (eS.1 hh).2⟩⟩
  rw [if_neg q] at eS
  intro J2 hJ2
  refine oneOf [43, 61] (hJ2 _ g1 ?_)
  refine ifP (fun q => by rw [if_pos q] at eS; exact parts [1] g1 _ m1 (by decide) eS) (fun q => ?_)
  rw [if_neg q] at eS
  refine ifEq (fun q => ?_) (fun q => ?_)
  · rw [if_pos q] at eS
    refine ifLe (fun q2 g60 n60 => (k65l t.kids [45] (h.kids.exm m1) n60 (by decide)).mono ?_) (fun q2 g14 _ => vF (fun hh => by have := (eS.1 hh).1; omega))
    rintro v g61 m61 rfl
    refine ⟨_, rfl, ifP (fun q3 => (k66 t.kids (h.kids.exm (m1.trans (n60.ex.trans m61)))).mono ?_) (fun q3 g64 _ => vF (fun hh => q3 (eS.1 hh).2.1))⟩
    rintro v g62 _ rfl
    exact ⟨_, rfl, fun g63 _ => vP ⟨fun hh => eS.2 ⟨by omega, q3, hh⟩, fun hh => (eS.1 hh).2.2⟩⟩
  rw [if_neg q] at eS
  refine ifEq (fun q => by rw [if_pos q] at eS; exact many 1 0 1 t.kids g1 _ (h.kids.exm m1) eS) (fun q => ?_)
  rw [if_neg q] at eS
  refine ifEq (fun q => by rw [if_pos q] at eS; exact parts [7] g1 _ m1 (by decide) eS) (fun q => ?_)
  rw [if_neg q] at eS
  intro J3 hJ3
  refine oneOf [47, 63, 64, 65] (hJ3 _ g1 ?_)
  refine ifP (fun q => by rw [if_pos q] at eS; exact parts [6] g1 _ m1 (by decide) eS) (fun q => ?_)
  rw [if_neg q] at eS
  intro J4 hJ4
  refine oneOf [50, 88] (hJ4 _ g1 ?_)
  refine ifP (fun q => ?_) (fun q => ?_)
  · rw [if_pos q] at eS
    exact ifEq (fun q2 => head g1 _ 3 72 0 m1 (by omega) (by omega) (eS.trans ⟨fun hh => hh.2, fun hh => ⟨by omega, hh⟩⟩)) (fun q2 g14 _ => vF (fun hh => by have := (eS.1 hh).1; omega))
  rw [if_neg q] at eS
  refine ifEq (fun q => ?_) (fun q => ?_)
  · rw [if_pos q] at eS
    refine ifEq (fun q2 g82 n82 => (k65l t.kids [2] (h.kids.exm m1) n82 (by decide)).mono ?_) (fun q2 g14 _ => vF (fun hh => by have := (eS.1 hh).1; omega))
    rintro v g83 m83 rfl
    refine ⟨_, rfl, ifP (fun q3 => ⟨⟨by omega, by omega⟩, ?_⟩) (fun q3 g64 _ => vF (fun hh => q3 (eS.1 hh).2.1))⟩
    refine rdF (h.kids.exm (m1.trans (n82.ex.trans m83))) 0 rfl (getD_some (by omega)) (fun ad na' nn' nc' ka kn kc hI hlv => ⟨ka, kn, kc, (hlv 4 _ rfl).1, fun g84 _ => ?_⟩)
    rw [tf_eq]
    have hk := hI.kids.len
    have : ((kn : Nat) : Int) = 0 ↔ (t.kids.getD 0 noSy).kids = [] := by
      rw [← hk]
      cases (t.kids.getD 0 noSy).kids with
      | nil => simp
      | cons x r => simp; omega
    exact vP ⟨fun hh => eS.2 ⟨by omega, q3, this.1 hh⟩, fun hh => this.2 (eS.1 hh).2.2⟩
  rw [if_neg q] at eS
  rw [hl] at eS
  refine ifEq (fun q => by rw [if_pos q] at eS; exact many 5 0 _ t.kids g1 _ (h.kids.exm m1) eS) (fun q => ?_)
  rw [if_neg q] at eS
  refine ifEq (fun q => by rw [if_pos q] at eS; exact parts [6, 6] g1 _ m1 (by decide) eS) (fun q => ?_)
  rw [if_neg q] at eS
  refine ifEq (fun q => ?_) (fun q => ?_)
  · rw [if_pos q] at eS
    exact ifEq (fun q2 => head g1 _ 6 43 0 m1 (by omega) (by omega) (eS.trans ⟨fun hh => hh.2, fun hh => ⟨by omega, hh⟩⟩)) (fun q2 g14 _ => vF (fun hh => by have := (eS.1 hh).1; omega))
  rw [if_neg q] at eS
  refine ifEq (fun q => by rw [if_pos q] at eS; exact many 4 0 _ t.kids g1 _ (h.kids.exm m1) eS) (fun q => ?_)
  rw [if_neg q] at eS
  refine ifEq (fun q => by rw [if_pos q] at eS; exact parts [6, 7] g1 _ m1 (by decide) eS) (fun q => ?_)
  rw [if_neg q] at eS
  refine ifEq (fun q => by rw [if_pos q] at eS; exact parts [7, 7] g1 _ m1 (by decide) eS) (fun q => ?_)
  rw [if_neg q] at eS
  intro J5 hJ5
  refine oneOf [85, 86] (hJ5 _ g1 ?_)
  refine ifP (fun q => by rw [if_pos q] at eS; exact parts [7, 6] g1 _ m1 (by decide) eS) (fun q => ?_)
  rw [if_neg q] at eS
  refine ifEq (fun q => ?_) (fun q g115 _ => ?_)
  · rw [if_pos q] at eS
    refine ifLe (fun q2 => ?_) (fun q2 g14 _ => vF (fun hh => by have := (eS.1 hh).1; omega))
    have e1 : Int.toNat (((n : Nat) : Int) - 1) = n - 1 := by omega
    refine ⟨i64 (by omega) (by omega), ⟨by omega, by omega⟩, ?_⟩
    refine rdT (h.kids.exm m1) (n - 1) (by omega) (getD_some (by omega)) (fun na' nn' nc' ka kn kc _ => (k31 7 _ na' nn' nc' ka kn kc g1).mono ?_)
    rintro v g37 m37 rfl
    refine ⟨_, rfl, ifP (fun q3 => ⟨i64 (by omega) (by omega), ⟨by omega, by omega⟩, ?_⟩) (fun q3 g41 _ => vF (fun hh => q3 (eS.1 hh).2.1))⟩
    rw [e1]
    refine many 4 0 _ (t.kids.take (n - 1)) g37 _ ((h.kids.exm (m1.trans m37)).take (by omega)) (eS.trans ⟨fun hh => hh.2.2, fun hh => ⟨by omega, q3, hh⟩⟩)
  · rw [if_neg q] at eS
    exact vF (fun hh => eS.1 hh)
end Go.Proofs.YtmakoecgogjemaaDoor
