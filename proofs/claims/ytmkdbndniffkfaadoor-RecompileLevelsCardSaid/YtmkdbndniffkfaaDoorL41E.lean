/- Joined texts. -/
import Derived.Test.YtmkdbndniffkfaaDoorL41A
/- Syntax trees: the fields of a node. -/
set_option linter.unusedVariables false
namespace Go.Proofs.YtmkdbndniffkfaaDoor
open Go Go.Vc Go.RowKit Go.Syn

/-- own. -/
theorem kk125 (t : Sy) (w : Bool) {na : Option Addr} {nn nc : Nat} {a : Option Addr} {n c : Nat} {g : G} (ht : TabG g) (h : SynI g t na nn nc a n c) (hs : t.dat.s.length ≤ 1048576) (hn : t.dat.names.length ≤ 1048576) :
    CallsP Tryd.prog 69 #[synV t na nn nc a n c, .bool w] g fun v _ => v = .bool (tf (ownP t.dat w)) := by
  refine call69 _ _ _ _ _ _ _ _ _ w g _ ?_
  have hl := h.names.len
  unfold F69
  generalize hd : t.dat = d at *
  refine fun g1 m1 => (kk142 d.op g1).mono ?_
  rintro v g2 m2 rfl
  refine ⟨_, _, _, rfl, ?_⟩
  have m02 := m1.trans m2
  intro J hJ
  -- the fields are right
  have key : bareP d → ∀ g3, Ex g2 g3 → J g3 := by
    intro hb g3 m3
    have m03 := m02.trans m3
    have ht3 := ht.exm m03
    have hN := h.names.exm m03
    rw [hd] at hN
    refine hJ g3 ?_
    have vB : ∀ {p : Prop}, (p ↔ ownB d w) → Value.bool (tf p) = .bool (tf (ownP d w)) := fun hp => vP ⟨fun hh => ⟨hb, hp.1 hh⟩, fun hh => hp.2 hh.2⟩
    have vO : ∀ {x : Bool}, (x = true ↔ ownB d w) → Value.bool x = .bool (tf (ownP d w)) := fun hp => by rw [← vB hp, tf_bool]
    refine ifEq (fun h1 => (kk143 d.s g3).mono ?_) (fun n1 => ?_)
    · rintro v g4 _ rfl
      exact ⟨_, rfl, fun g5 _ => vB (by unfold ownB; rw [if_pos h1])⟩
    have b1 : ∀ {p q : Prop}, (q ↔ p) → (q ↔ if d.op = 1 then tvarP d.s else p) := fun hp => by rw [if_neg n1]; exact hp
    intro J1 hJ1
    refine oneOf [2, 23, 66, 74] (hJ1 _ _ ?_)
    refine ifP (fun h2 => (kk144 d.names true ht3 hN).mono ?_) (fun n2 => ?_)
    · rintro v g7 _ rfl
      exact ⟨_, rfl, fun g8 _ => vB (by unfold ownB; rw [if_neg n1, if_pos h2])⟩
    intro J2 hJ2
    refine oneOf [5, 14, 24, 34, 48, 49, 72, 82] (hJ2 _ _ ?_)
    refine ifP (fun h3 => (kk144 d.names false ht3 hN).mono ?_) (fun n3 => ?_)
    · rintro v g7 _ rfl
      exact ⟨_, rfl, fun g8 _ => vB (by unfold ownB; rw [if_neg n1, if_neg n2, if_pos h3])⟩
    intro J3 hJ3
    refine oneOf [12, 41, 61] (hJ3 _ _ ?_)
    refine ifP (fun h4 => (kk145 d.s g3 ht3).mono ?_) (fun n4 => ?_)
    · rintro v g7 _ rfl
      exact ⟨_, rfl, fun g8 _ => vB (by unfold ownB; rw [if_neg n1, if_neg n2, if_neg n3, if_pos h4])⟩
    have eB : ownB d w ↔ (if d.op = 13 then -4503599627370496 ≤ d.n ∧ d.n ≤ 4503599627370496 else if d.op = 21 then 0 ≤ d.n ∧ d.n ≤ 4503599627370496 else
  if d.op = 22 then plainP d.s else if d.op = 25 then d.s = [] ∨ lowerP d.s else if d.op = 32 then 1 ≤ d.n ∧ d.n ≤ 12 else
  if d.op = 42 then lowerP d.s ∧ 1 ≤ d.names.length ∧ d.names.length ≤ 9 ∧ ∀ x ∈ d.names, lowerP x else
  if d.op = 43 then ((w = true ∧ d.s = []) ∨ (w = false ∧ lowerP d.s)) ∧ paramsP d.names else if d.op ∈ [44, 62] then lowerP d.s ∧ paramsP d.names else
  if d.op ∈ [45, 46, 47, 50, 63, 64] then upperP d.s else if d.op ∈ [73, 83] then upperP d.s ∧ (d.n = 0 ∨ d.n = 1) else True) := by
      unfold ownB
      rw [if_neg n1, if_neg n2, if_neg n3, if_neg n4]
    refine ifEq (fun h5 => ?_) (fun n5 => ?_)
    · rw [if_pos h5] at eB
      refine ifLe (fun q1 g15 _ => ?_) (fun q1 g16 _ => ?_)
      · rw [tf_le]; exact vB ⟨fun hh => eB.2 ⟨by omega, hh⟩, fun hh => (eB.1 hh).2⟩
      · exact vO ⟨fun hh => (by cases hh), fun hh => by have := (eB.1 hh).1; omega⟩
    rw [if_neg n5] at eB
    refine ifEq (fun h5 => ?_) (fun n5 => ?_)
    · rw [if_pos h5] at eB
      refine ifLe (fun q1 g15 _ => ?_) (fun q1 g16 _ => ?_)
      · rw [tf_le]; exact vB ⟨fun hh => eB.2 ⟨by omega, hh⟩, fun hh => (eB.1 hh).2⟩
      · exact vO ⟨fun hh => (by cases hh), fun hh => by have := (eB.1 hh).1; omega⟩
    rw [if_neg n5] at eB
    refine ifEq (fun h5 => (kk146 d.s g3 hs).mono ?_) (fun n5 => ?_)
    · rw [if_pos h5] at eB
      rintro v g7 _ rfl
      exact ⟨_, rfl, fun g8 _ => vB eB.symm⟩
    rw [if_neg n5] at eB
    refine ifEq (fun h5 => ?_) (fun n5 => ?_)
    · rw [if_pos h5] at eB
      rw [show bs [] = bstr [] from rfl, strEq_bstr]
      refine ifP (fun q1 g8 _ => vO ⟨fun _ => eB.2 (.inl q1), fun _ => rfl⟩) (fun q1 => (kk145 d.s g3 ht3).mono ?_)
      rintro v g7 _ rfl
      exact ⟨_, rfl, fun g8 _ => vB ⟨fun hh => eB.2 (.inr hh), fun hh => (eB.1 hh).resolve_left q1⟩⟩
    rw [if_neg n5] at eB
    refine ifEq (fun h5 => ?_) (fun n5 => ?_)
    · rw [if_pos h5] at eB
      refine ifLe (fun q1 g15 _ => ?_) (fun q1 g16 _ => ?_)
      · rw [tf_le]; exact vB ⟨fun hh => eB.2 ⟨by omega, hh⟩, fun hh => (eB.1 hh).2⟩
      · exact vO ⟨fun hh => (by cases hh), fun hh => by have := (eB.1 hh).1; omega⟩
    rw [if_neg n5] at eB
    refine ifEq (fun h5 => (kk145 d.s g3 ht3).mono ?_) (fun n5 => ?_)
    · rw [if_pos h5] at eB
      rintro v g26 m26 rfl
      refine ⟨_, rfl, ifP (fun q1 => ifLe (fun q2 => ifLe (fun q3 => ?_) (fun q3 g29 _ => ?_)) (fun q2 g30 _ => ?_)) (fun q1 g31 _ => ?_)⟩
      · refine (kk33 77 #[] (fun s => ¬ lowerP s) d.names (hN.exm m26) (by omega) ⟨_, Tryd.func77, by kernel_rfl, by kernel_rfl⟩ (fun g' le s _ => kk147 s g' ((ht3.exm m26).mono le))).mono ?_
        rintro v g27 _ rfl
        refine ⟨_, rfl, fun g28 _ => ?_⟩
        rw [tf_not]
        exact vB ⟨fun hh => eB.2 ⟨q1, by omega, by omega, fun x hx => Classical.byContradiction fun hn => hh ⟨x, hx, hn⟩⟩, fun hh ⟨x, hx, hn⟩ => hn ((eB.1 hh).2.2.2 x hx)⟩
      · exact vO ⟨fun hh => (by cases hh), fun hh => by have := (eB.1 hh).2.2.1; omega⟩
      · exact vO ⟨fun hh => (by cases hh), fun hh => by have := (eB.1 hh).2.1; omega⟩
      · exact vO ⟨fun hh => (by cases hh), fun hh => absurd (eB.1 hh).1 q1⟩
    rw [if_neg n5] at eB
    refine ifEq (fun h5 => ?_) (fun n5 => ?_)
    · rw [if_pos h5] at eB
      rw [show bs [] = bstr [] from rfl, strEq_bstr]
      have low : w = false → CallsP Tryd.prog 75 #[.string (bstr d.s)] g3 fun v g34 => ∃ x : Bool, v = .bool x ∧ ifB x (CallsP Tryd.prog 78 #[.slice na nn nc] g34 fun v g35 => ∃ y : Bool, v = .bool y ∧ ∀ g36, Ex g35 g36 → Value.bool y = .bool (tf (ownP d w))) (∀ g37, Ex g34 g37 → Value.bool false = .bool (tf (ownP d w))) := by
        intro hw
        refine (kk145 d.s g3 ht3).mono ?_
        rintro v g34 m34 rfl
        refine ⟨_, rfl, ifP (fun q1 => (kk148 d.names (hN.exm m34) (by omega)).mono ?_) (fun q1 g37 _ => vO ⟨fun hh => (by cases hh), fun hh => ?_⟩)⟩
        · rintro v g35 _ rfl
          exact ⟨_, rfl, fun g36 _ => vB ⟨fun hh => eB.2 ⟨.inr ⟨hw, q1⟩, hh⟩, fun hh => (eB.1 hh).2⟩⟩
        · rcases (eB.1 hh).1 with ⟨e, _⟩ | ⟨_, e⟩
          · rw [hw] at e; cases e
          · exact absurd e q1
      cases w with
      | true =>
        refine ifT (fun _ => ifP (fun q1 => (kk148 d.names hN (by omega)).mono ?_) (fun q1 => ifT (fun hh => by cases hh) (fun _ g38 _ => vO ⟨fun hh => (by cases hh), fun hh => ?_⟩))) (fun hh => by cases hh)
        · rintro v g35 _ rfl
          exact ⟨_, rfl, fun g36 _ => vB ⟨fun hh => eB.2 ⟨.inl ⟨rfl, q1⟩, hh⟩, fun hh => (eB.1 hh).2⟩⟩
        · rcases (eB.1 hh).1 with ⟨_, e⟩ | ⟨e, _⟩
          · exact absurd e q1
          · cases e
      | false => exact ifT (fun hh => by cases hh) (fun _ => ifT (fun _ => low rfl) (fun hh => by cases hh))
    rw [if_neg n5] at eB
    intro J4 hJ4
    refine oneOf [44, 62] (hJ4 _ _ ?_)
    refine ifP (fun h5 => (kk145 d.s g3 ht3).mono ?_) (fun n5 => ?_)
    · rw [if_pos h5] at eB
      rintro v g45 m45 rfl
      refine ⟨_, rfl, ifP (fun q1 => (kk148 d.names (hN.exm m45) (by omega)).mono ?_) (fun q1 g48 _ => vO ⟨fun hh => (by cases hh), fun hh => absurd (eB.1 hh).1 q1⟩)⟩
      rintro v g46 _ rfl
      exact ⟨_, rfl, fun g47 _ => vB ⟨fun hh => eB.2 ⟨q1, hh⟩, fun hh => (eB.1 hh).2⟩⟩
    rw [if_neg n5] at eB
    intro J5 hJ5
    refine oneOf [45, 46, 47, 50, 63, 64] (hJ5 _ _ ?_)
    refine ifP (fun h5 => (kk111 d.s g3).mono ?_) (fun n5 => ?_)
    · rw [if_pos h5] at eB
      rintro v g50 _ rfl
      exact ⟨_, rfl, fun g51 _ => vB eB.symm⟩
    rw [if_neg n5] at eB
    intro J6 hJ6
    refine oneOf [73, 83] (hJ6 _ _ ?_)
    refine ifP (fun h5 => (kk111 d.s g3).mono ?_) (fun n5 g57 _ => ?_)
    · rw [if_pos h5] at eB
      rintro v g53 _ rfl
      refine ⟨_, rfl, ifP (fun q1 => ifEq (fun q2 g54 _ => vO ⟨fun _ => eB.2 ⟨q1, .inl q2⟩, fun _ => rfl⟩) (fun q2 g55 _ => ?_)) (fun q1 g56 _ => vO ⟨fun hh => (by cases hh), fun hh => absurd (eB.1 hh).1 q1⟩)⟩
      rw [tf_eq]
      exact vB ⟨fun hh => eB.2 ⟨q1, .inr hh⟩, fun hh => (eB.1 hh).2.resolve_left q2⟩
    · rw [if_neg n5] at eB
      exact vO ⟨fun _ => eB.2 trivial, fun _ => rfl⟩
  have no : ¬ bareP d → Value.bool false = .bool (tf (ownP d w)) := fun hh => vF (fun h2 => hh h2.1)
  have hnl : ((0 : Int) < ((nn : Nat) : Int)) ↔ ¬ d.names = [] := by
    rw [← hl]
    cases d.names with
    | nil => simp
    | cons x r => simp
  rw [show bs [] = bstr [] from rfl, strEq_bstr]
  -- the third test
  have last : ((¬ usesN d.op → d.n = 0) ∧ (¬ usesS d.op → d.s = [])) → ifB (!tf (usesL d.op)) (ifB (ltI 0 ((nn : Nat) : Int)) (∀ g60 : G, Ex g2 g60 → Value.bool false = .bool (tf (ownP d w))) (∀ g61 : G, Ex g2 g61 → J g61)) (∀ g62 : G, Ex g2 g62 → J g62) := by
    intro h12
    refine ifPn (fun q1 => ifLt (fun q2 g60 _ => no (fun hh => (hnl.1 q2) (hh.2.2 q1))) (fun q2 => key ⟨h12.1, h12.2, fun _ => ?_⟩)) (fun q1 => key ⟨h12.1, h12.2, fun hh => absurd q1 hh⟩)
    exact Classical.byContradiction fun hh => by have := hnl.2 hh; omega
  have mid : (¬ usesN d.op → d.n = 0) → ifB (!tf (usesS d.op)) (ifB (!tf (d.s = [])) (∀ g60 : G, Ex g2 g60 → Value.bool false = .bool (tf (ownP d w))) (ifB (!tf (usesL d.op)) (ifB (ltI 0 ((nn : Nat) : Int)) (∀ g60 : G, Ex g2 g60 → Value.bool false = .bool (tf (ownP d w))) (∀ g61 : G, Ex g2 g61 → J g61)) (∀ g62 : G, Ex g2 g62 → J g62))) (ifB (!tf (usesL d.op)) (ifB (ltI 0 ((nn : Nat) : Int)) (∀ g60 : G, Ex g2 g60 → Value.bool false = .bool (tf (ownP d w))) (∀ g61 : G, Ex g2 g61 → J g61)) (∀ g62 : G, Ex g2 g62 → J g62)) := by
    intro h1
    exact ifPn (fun q1 => ifPn (fun q2 g60 _ => no (fun hh => q2 (hh.2.1 q1))) (fun q2 => last ⟨h1, fun _ => q2⟩)) (fun q1 => last ⟨h1, fun hh => absurd q1 hh⟩)
  exact ifPn (fun q1 => ifNe (fun q2 g58 _ => no (fun hh => q2 (hh.1 q1))) (fun q2 => mid (fun _ => q2))) (fun q1 => mid (fun hh => absurd q1 hh))
end Go.Proofs.YtmkdbndniffkfaaDoor
/- Syntax trees: the parts of a node. -/
set_option linter.unusedVariables false
namespace Go.Proofs.YtmkdbndniffkfaaDoor
open Go Go.Vc Go.RowKit Go.Syn

theorem ints_rws (g : G) (K : List Int) : Rws intE' g (K.map (Value.int .i64)) K := by
  refine ⟨K.map fun x => [.int .i64 x], ?_, ?_⟩
  · induction K with
    | nil => rfl
    | cons x r ih => simp [ih]
  · induction K with
    | nil => exact .nil
    | cons x r ih => exact .cons rfl ih
/-- parts, of a list that is written out. -/
theorem kk150l (t : Sy) (cats : List Int) {na : Option Addr} {nn nc : Nat} {a : Option Addr} {n c : Nat} {g g1 : G} (h : SynI g t na nn nc a n c) (hn : NewL g g1 3 (cats.map (Value.int .i64))) (hc : cats.length ≤ 1000) :
    CallsP Tryd.prog 80 #[synV t na nn nc a n c, .slice (some ⟨g.w.heap.size, 0, none⟩) cats.length cats.length] g1 fun v g2 => ∃ x, v = .bool x ∧ ∀ g3, Ex g2 g3 → Value.bool x = .bool (tf (partsP t.kids cats)) := by
  refine (kk150 t cats (h.exm hn.ex) (hn.sle (ints_rws g cats) (by unfold maxLen; omega)) (by omega)).mono ?_
  rintro v g2 _ rfl
  exact ⟨_, rfl, fun _ _ => rfl⟩
/-- only, of a list that is written out. -/
theorem kk151l (L : List Sy) (ops : List Int) {a : Option Addr} {n c : Nat} {g g1 : G} (h : SlE synE g a n c L) (hn : NewL g g1 3 (ops.map (Value.int .i64))) (hc : ops.length ≤ 1000) :
    CallsP Tryd.prog 81 #[.slice a n c, .slice (some ⟨g.w.heap.size, 0, none⟩) ops.length ops.length] g1 fun v g2 => v = .bool (tf (onlyP L ops)) := kk151 L ops (h.exm hn.ex) (hn.sle (ints_rws g ops) (by unfold maxLen; omega)) (by omega)
theorem getD_some {L : List Sy} {i : Nat} (h : i < L.length) : L[i]? = some (L.getD i noSy) := by rw [List.getD_eq_getElem?_getD, List.getElem?_eq_getElem h]; rfl
/-- shape. -/
theorem kk126 (t : Sy) {na : Option Addr} {nn nc : Nat} {a : Option Addr} {n c : Nat} {g : G} (h : SynI g t na nn nc a n c) :
    CallsP Tryd.prog 70 #[synV t na nn nc a n c] g fun v _ => v = .bool (tf (shapeP t.dat t.kids)) := by
  refine call70 _ _ _ _ _ _ _ _ _ g _ ?_
  have hl := h.kids.len
  have hcap := h.kids.le
  have hmx := h.kids.cap
  unfold maxLen at hmx
  unfold F70
  -- what is asked, at each of the branches
  have vT' : ∀ {p q : Prop}, (q ↔ p) → Value.bool (tf p) = .bool (tf q) := fun hp => vP hp.symm
  have many : ∀ (cat lo hi : Int) (L : List Sy) {a : Option Addr} {n c : Nat} (g1 : G) (Q : Prop), SlE synE g1 a n c L → (Q ↔ manyP L cat lo hi) → CallsP Tryd.prog 79 #[.slice a n c, .int .i64 cat, .int .i64 lo, .int .i64 hi] g1 fun v g3 => ∃ x, v = .bool x ∧ ∀ g4, Ex g3 g4 → Value.bool x = .bool (tf Q) := by
    intro cat lo hi L a n c g1 Q hL hQ
    refine (kk149 L cat lo hi hL).mono ?_
    rintro v g3 _ rfl
    exact ⟨_, rfl, fun _ _ => vT' hQ⟩
  have parts : ∀ (cats : List Int) (g1 : G) (Q : Prop), Ex g g1 → cats.length ≤ 1000 → (Q ↔ partsP t.kids cats) → ∀ g5, NewL g1 g5 3 (cats.map (Value.int .i64)) →
      CallsP Tryd.prog 80 #[synV t na nn nc a n c, .slice (some ⟨g1.w.heap.size, 0, none⟩) cats.length cats.length] g5 fun v g6 => ∃ x, v = .bool x ∧ ∀ g7, Ex g6 g7 → Value.bool x = .bool (tf Q) := by
    intro cats g1 Q m1 hc hQ g5 n5
    refine (kk150l t cats (h.exm m1) n5 hc).mono ?_
    rintro v g6 _ ⟨x, rfl, hx⟩
    exact ⟨x, rfl, fun g7 m7 => (hx g7 m7).trans (vT' hQ)⟩
  -- the first, or the last part, and the others
  have head : ∀ (g15 : G) (Q : Prop) (cat k : Int) (m : Nat), Ex g g15 → m ≤ n → 1 ≤ n → (Q ↔ belP cat (t.kids.getD 0 noSy).dat.op ∧ onlyP (t.kids.drop 1) [k]) →
      ((0 ≤ (0 : Int) ∧ (0 : Int) < ((n : Nat) : Int)) ∧ derefP a fun ad => ∃ x0 : Int, ∃ x1 : Int, ∃ x2 : ByteArray, ∃ x3a : Option Addr, ∃ x3l : Nat, ∃ x3c : Nat, ∃ x4a : Option Addr, ∃ x4l : Nat, ∃ x4c : Nat, g15.w.cell? (Addr.add ad (Int.toNat (0 : Int) * 5)) = some (.int .i64 x0) ∧ g15.w.cell? (Addr.add (Addr.add ad (Int.toNat (0 : Int) * 5)) 1) = some (.int .i64 x1) ∧ g15.w.cell? (Addr.add (Addr.add ad (Int.toNat (0 : Int) * 5)) 2) = some (.string x2) ∧ g15.w.cell? (Addr.add (Addr.add ad (Int.toNat (0 : Int) * 5)) 3) = some (.slice x3a x3l x3c) ∧ g15.w.cell? (Addr.add (Addr.add ad (Int.toNat (0 : Int) * 5)) 4) = some (.slice x4a x4l x4c) ∧
        (CallsP Tryd.prog 62 #[(.int .i64 cat), (.agg ⟨[(.int .i64 x0), (.int .i64 x1), (.string x2), (.slice x3a x3l x3c), (.slice x4a x4l x4c)]⟩)] g15 fun v g28 =>
          ∃ x_9 : Bool, v = (.bool x_9) ∧ ifB x_9 ((0 ≤ (1 : Int) ∧ (1 : Int) ≤ ((n : Nat) : Int)) ∧ ∀ g29 : G, NewL g28 g29 3 [(.int .i64 k)] →
            (CallsP Tryd.prog 81 #[(.slice (slAddr a c (Int.toNat (1 : Int)) 5) (n - (Int.toNat (1 : Int))) (c - (Int.toNat (1 : Int)))), (.slice (some ⟨g28.w.heap.size, 0, none⟩) 1 1)] g29 fun v g30 =>
              ∃ x_10 : Bool, v = (.bool x_10) ∧ ∀ g31 : G, Ex g30 g31 → Value.bool x_10 = .bool (tf Q))) (∀ g32 : G, Ex g28 g32 → Value.bool false = .bool (tf Q)))) := by
    intro g15 Q cat k m m15 hm h1 hQ
    refine ⟨⟨by omega, by omega⟩, rdT (h.kids.exm m15) 0 rfl (getD_some (by omega)) (fun na' nn' nc' ka kn kc _ => (kk95 cat _ na' nn' nc' ka kn kc g15).mono ?_)⟩
    rintro v g28 m28 rfl
    refine ⟨_, rfl, ifP (fun q1 => ⟨⟨by omega, by omega⟩, fun g29 n29 => ?_⟩) (fun q1 g32 _ => vF (fun hh => q1 (hQ.1 hh).1))⟩
    refine (kk151l (t.kids.drop 1) [k] ((h.kids.exm (m15.trans m28)).drop (lo := 1) (by omega)) n29 (by simp)).mono ?_
    rintro v g30 _ rfl
    exact ⟨_, rfl, fun g31 _ => vP ⟨fun hh => hQ.2 ⟨q1, hh⟩, fun hh => (hQ.1 hh).2⟩⟩
  intro J hJ
  refine oneOfX [1, 5, 11, 12, 13, 21, 22, 23, 24, 48, 49, 62, 72, 82] (by simp) (fun g1 m1 => hJ _ g1 ?_)
  refine ifP (fun h1 g2 _ => ?_) (fun n1 => ?_)
  · rw [tf_eq]
    refine vP ?_
    unfold shapeP
    rw [if_pos h1, ← hl]
    cases t.kids with
    | nil => simp
    | cons x r => simp; omega
  have eS : shapeP t.dat t.kids ↔ shapeP t.dat t.kids := Iff.rfl
  conv at eS => rhs; unfold shapeP
  rw [if_neg n1] at eS
  refine ifEq (fun q => by rw [if_pos q] at eS; exact many 1 0 4 t.kids g1 _ (h.kids.exm m1) eS) (fun q => ?_)
  rw [if_neg q] at eS
  refine ifEq (fun q => by rw [if_pos q] at eS; exact parts [1, 1] g1 _ m1 (by decide) eS) (fun q => ?_)
  rw [if_neg q] at eS
  refine ifEq (fun q => by rw [if_pos q] at eS; exact many 1 2 9 t.kids g1 _ (h.kids.exm m1) eS) (fun q => ?_)
  rw [if_neg q] at eS
  refine ifEq (fun q => by rw [if_pos q] at eS; exact many 2 0 1 t.kids g1 _ (h.kids.exm m1) eS) (fun q => ?_)
  rw [if_neg q] at eS
  refine ifEq (fun q => ?_) (fun q => ?_)
  · rw [if_pos q] at eS
    exact ifNe (fun q2 => many 2 0 9 t.kids g1 _ (h.kids.exm m1) (eS.trans ⟨fun hh => hh.2, fun hh => ⟨by omega, hh⟩⟩)) (fun q2 g14 _ => vF (fun hh => (eS.1 hh).1 (by omega)))
  rw [if_neg q] at eS
  intro J1 hJ1
  refine oneOf [25, 41, 42] (hJ1 _ g1 ?_)
  refine ifP (fun q => by rw [if_pos q] at eS; exact parts [3] g1 _ m1 (by decide) eS) (fun q => ?_)
  rw [if_neg q] at eS
  refine ifEq (fun q => by rw [if_pos q] at eS; exact parts [3, 3] g1 _ m1 (by decide) eS) (fun q => ?_)
  rw [if_neg q] at eS
  refine ifEq (fun q => ?_) (fun q => ?_)
  · rw [if_pos q] at eS
    exact ifNe (fun q2 => many 3 0 9 t.kids g1 _ (h.kids.exm m1) (eS.trans ⟨fun hh => hh.2, fun hh => ⟨by omega, hh⟩⟩)) (fun q2 g14 _ => vF (fun hh => (eS.1 hh).1 (by omega)))
  rw [if_neg q] at eS
  refine ifEq (fun q => by rw [if_pos q] at eS; exact parts [3, 3, 3] g1 _ m1 (by decide) eS) (fun q => ?_)
  rw [if_neg q] at eS
  refine ifEq (fun q => ?_) (fun q => ?_)
  · rw [if_pos q] at eS
    exact ifLe (fun q2 => head g1 _ 3 30 0 m1 (by omega) (by omega) (eS.trans ⟨fun hh => hh.2, fun hh => ⟨by omega, hh⟩⟩)) (fun q2 g14 _ => vF (fun hh => by have := (eS.1 hh).1; omega))
  rw [if_neg q] at eS
  refine ifEq (fun q => by rw [if_pos q] at eS; exact parts [2, 3] g1 _ m1 (by decide) eS) (fun q => ?_)
  rw [if_neg q] at eS
  refine ifEq (fun q => ?_) (fun q => ?_)
  · rw [if_pos q] at eS
    refine ifLe (fun q2 => ?_) (fun q2 g14 _ => vF (fun hh => by have := (eS.1 hh).1; omega))
    have e1 : Int.toNat (((n : Nat) : Int) - 1) = n - 1 := by omega
    have e2 : t.kids.length - 1 = n - 1 := by omega
    refine ⟨i64 (by omega) (by omega), ⟨by omega, by omega⟩, ?_⟩
    refine rdT (h.kids.exm m1) (n - 1) (by omega) (getD_some (by omega)) (fun na' nn' nc' ka kn kc _ => (kk95 3 _ na' nn' nc' ka kn kc g1).mono ?_)
    rintro v g37 m37 rfl
    refine ⟨_, rfl, ifP (fun q3 => ⟨i64 (by omega) (by omega), ⟨by omega, by omega⟩, fun g38 n38 => ?_⟩) (fun q3 g41 _ => vF (fun hh => q3 (by have := (eS.1 hh).2.1; rwa [e2] at this)))⟩
    rw [e1]
    refine (kk151l (t.kids.take (n - 1)) [41, 42, 50] ((h.kids.exm (m1.trans m37)).take (by omega)) n38 (by decide)).mono ?_
    rintro v g39 _ rfl
    exact ⟨_, rfl, fun g40 _ => vP ⟨fun hh => eS.2 ⟨by omega, by rw [e2]; exact q3, by rw [e2]; exact hh⟩, fun hh => by have := (eS.1 hh).2.2; rwa [e2] at this⟩⟩
  rw [if_neg q] at eS
  refine ifEq (fun q => ?_) (fun q => ?_)
  · rw [if_pos q] at eS
    exact ifEq (fun q2 => by rw [if_pos q2] at eS; exact parts [3] g1 _ m1 (by decide) eS) (fun q2 => by rw [if_neg q2] at eS; exact parts [3, 3] g1 _ m1 (by decide) eS)
  rw [if_neg q] at eS
  refine ifEq (fun q => by rw [if_pos q] at eS; exact parts [3, 1] g1 _ m1 (by decide) eS) (fun q => ?_)
  rw [if_neg q] at eS
  refine ifEq (fun q => ?_) (fun q => ?_)
  · rw [if_pos q] at eS
    refine ifEq (fun q2 g52 n52 => (kk151l t.kids [72] (h.kids.exm m1) n52 (by decide)).mono ?_) (fun q2 g14 _ => vF (fun hh => q2 (by have := (eS.1 hh).1; omega)))
    rintro v g53 _ rfl
    exact ⟨_, rfl, fun g54 _ => vP ⟨fun hh => eS.2 ⟨by omega, hh⟩, fun hh => (eS.1 hh).2⟩⟩
  rw [if_neg q] at eS
  intro J2 hJ2
  refine oneOf [43, 61] (hJ2 _ g1 ?_)
  refine ifP (fun q => by rw [if_pos q] at eS; exact parts [1] g1 _ m1 (by decide) eS) (fun q => ?_)
  rw [if_neg q] at eS
  refine ifEq (fun q => ?_) (fun q => ?_)
  · rw [if_pos q] at eS
    refine ifLe (fun q2 g60 n60 => (kk151l t.kids [45] (h.kids.exm m1) n60 (by decide)).mono ?_) (fun q2 g14 _ => vF (fun hh => by have := (eS.1 hh).1; omega))
    rintro v g61 m61 rfl
    refine ⟨_, rfl, ifP (fun q3 => (kk152 t.kids (h.kids.exm (m1.trans (n60.ex.trans m61)))).mono ?_) (fun q3 g64 _ => vF (fun hh => q3 (eS.1 hh).2.1))⟩
    rintro v g62 _ rfl
    exact ⟨_, rfl, fun g63 _ => vP ⟨fun hh => eS.2 ⟨by omega, q3, hh⟩, fun hh => (eS.1 hh).2.2⟩⟩
  rw [if_neg q] at eS
  refine ifEq (fun q => by rw [if_pos q] at eS; exact many 1 0 1 t.kids g1 _ (h.kids.exm m1) eS) (fun q => ?_)
  rw [if_neg q] at eS
  refine ifEq (fun q => by rw [if_pos q] at eS; exact parts [7] g1 _ m1 (by decide) eS) (fun q => ?_)
  rw [if_neg q] at eS
  intro J3 hJ3
  refine oneOf [47, 63, 64, 65] (hJ3 _ g1 ?_)
  refine ifP (fun q => by rw [if_pos q] at eS; exact parts [6] g1 _ m1 (by decide) eS) (fun q => ?_)
  rw [if_neg q] at eS
  intro J4 hJ4
  refine oneOf [50, 88] (hJ4 _ g1 ?_)
  refine ifP (fun q => ?_) (fun q => ?_)
  · rw [if_pos q] at eS
    exact ifEq (fun q2 => head g1 _ 3 72 0 m1 (by omega) (by omega) (eS.trans ⟨fun hh => hh.2, fun hh => ⟨by omega, hh⟩⟩)) (fun q2 g14 _ => vF (fun hh => by have := (eS.1 hh).1; omega))
  rw [if_neg q] at eS
  refine ifEq (fun q => ?_) (fun q => ?_)
  · rw [if_pos q] at eS
    refine ifEq (fun q2 g82 n82 => (kk151l t.kids [2] (h.kids.exm m1) n82 (by decide)).mono ?_) (fun q2 g14 _ => vF (fun hh => by have := (eS.1 hh).1; omega))
    rintro v g83 m83 rfl
    refine ⟨_, rfl, ifP (fun q3 => ⟨⟨by omega, by omega⟩, ?_⟩) (fun q3 g64 _ => vF (fun hh => q3 (eS.1 hh).2.1))⟩
    refine rdF (h.kids.exm (m1.trans (n82.ex.trans m83))) 0 rfl (getD_some (by omega)) (fun ad na' nn' nc' ka kn kc hI hlv => ⟨ka, kn, kc, (hlv 4 _ rfl).1, fun g84 _ => ?_⟩)
    rw [tf_eq]
    have hk := hI.kids.len
    have : ((kn : Nat) : Int) = 0 ↔ (t.kids.getD 0 noSy).kids = [] := by
      rw [← hk]
      cases (t.kids.getD 0 noSy).kids with
      | nil => simp
      | cons x r => simp; omega
    exact vP ⟨fun hh => eS.2 ⟨by omega, q3, this.1 hh⟩, fun hh => this.2 (eS.1 hh).2.2⟩
  rw [if_neg q] at eS
  rw [hl] at eS
  refine ifEq (fun q => by rw [if_pos q] at eS; exact many 5 0 _ t.kids g1 _ (h.kids.exm m1) eS) (fun q => ?_)
  rw [if_neg q] at eS
  refine ifEq (fun q => by rw [if_pos q] at eS; exact parts [6, 6] g1 _ m1 (by decide) eS) (fun q => ?_)
  rw [if_neg q] at eS
  refine ifEq (fun q => ?_) (fun q => ?_)
  · rw [if_pos q] at eS
    exact ifEq (fun q2 => head g1 _ 6 43 0 m1 (by omega) (by omega) (eS.trans ⟨fun hh => hh.2, fun hh => ⟨by omega, hh⟩⟩)) (fun q2 g14 _ => vF (fun hh => by have := (eS.1 hh).1; omega))
  rw [if_neg q] at eS
  refine ifEq (fun q => by rw [if_pos q] at eS; exact many 4 0 _ t.kids g1 _ (h.kids.exm m1) eS) (fun q => ?_)
  rw [if_neg q] at eS
  refine ifEq (fun q => by rw [if_pos q] at eS; exact parts [6, 7] g1 _ m1 (by decide) eS) (fun q => ?_)
  rw [if_neg q] at eS
  refine ifEq (fun q => by rw [if_pos q] at eS; exact parts [7, 7] g1 _ m1 (by decide) eS) (fun q => ?_)
  rw [if_neg q] at eS
  intro J5 hJ5
  refine oneOf [85, 86] (hJ5 _ g1 ?_)
  refine ifP (fun q => by rw [if_pos q] at eS; exact parts [7, 6] g1 _ m1 (by decide) eS) (fun q => ?_)
  rw [if_neg q] at eS
  refine ifEq (fun q => ?_) (fun q g115 _ => ?_)
  · rw [if_pos q] at eS
    refine ifLe (fun q2 => ?_) (fun q2 g14 _ => vF (fun hh => by have := (eS.1 hh).1; omega))
    have e1 : Int.toNat (((n : Nat) : Int) - 1) = n - 1 := by omega
    refine ⟨i64 (by omega) (by omega), ⟨by omega, by omega⟩, ?_⟩
    refine rdT (h.kids.exm m1) (n - 1) (by omega) (getD_some (by omega)) (fun na' nn' nc' ka kn kc _ => (kk95 7 _ na' nn' nc' ka kn kc g1).mono ?_)
    rintro v g37 m37 rfl
    refine ⟨_, rfl, ifP (fun q3 => ⟨i64 (by omega) (by omega), ⟨by omega, by omega⟩, ?_⟩) (fun q3 g41 _ => vF (fun hh => q3 (eS.1 hh).2.1))⟩
    rw [e1]
    refine many 4 0 _ (t.kids.take (n - 1)) g37 _ ((h.kids.exm (m1.trans m37)).take (by omega)) (eS.trans ⟨fun hh => hh.2.2, fun hh => ⟨by omega, q3, hh⟩⟩)
  · rw [if_neg q] at eS
    exact vF (fun hh => eS.1 hh)
end Go.Proofs.YtmkdbndniffkfaaDoor
/- Syntax trees: what is well-formed. -/
set_option linter.unusedVariables false
namespace Go.Proofs.YtmkdbndniffkfaaDoor
open Go Go.Vc Go.RowKit Go.Syn

theorem mut_le {g g' : G} {b : Nat} {e : TypeId} {L : List Value} (h : MutB g b e L) (k : But (fun x => x = b) g g') : Le g g' := k.le (fun x e i => e ▸ h.d i)
theorem set1 (u v : Value) : setsAt [u] 0 [v] = [v] := rfl
/-- A row of five cells. -/
theorem node_cells {g g' : G} {t : Sy} {na : Option Addr} {nn nc : Nat} {a : Option Addr} {n c : Nat} (h : NewL g g' 44 [.int .i64 t.dat.op, .int .i64 t.dat.n, .string (bstr t.dat.s), .slice na nn nc, .slice a n c]) {g2 : G} (m : Le g' g2) :
    g2.w.cell? ⟨g.w.heap.size, 0, none⟩ = some (.int .i64 t.dat.op) ∧ g2.w.cell? (Addr.add ⟨g.w.heap.size, 0, none⟩ 1) = some (.int .i64 t.dat.n) ∧ g2.w.cell? (Addr.add ⟨g.w.heap.size, 0, none⟩ 2) = some (.string (bstr t.dat.s)) ∧
      g2.w.cell? (Addr.add ⟨g.w.heap.size, 0, none⟩ 3) = some (.slice na nn nc) ∧ g2.w.cell? (Addr.add ⟨g.w.heap.size, 0, none⟩ 4) = some (.slice a n c) :=
  ⟨((h.at0 rfl).mono m).1, ((h.at_ (i := 1) rfl).mono m).1, ((h.at_ (i := 2) rfl).mono m).1, ((h.at_ (i := 3) rfl).mono m).1, ((h.at_ (i := 4) rfl).mono m).1⟩
/-- What walk does, for trees below a size. -/
def WW124 (N : Nat) : Prop := ∀ (t : Sy), size t ≤ N → okT t → ∀ (dep : Nat) (w : Bool) (m : Nat) {cb wb : Nat} {na : Option Addr} {nn nc : Nat} {a : Option Addr} {n c : Nat} {g : G}, TabG g → SynI g t na nn nc a n c → dep ≤ 401 → m + size t ≤ 20000 →
  MutB g cb 3 [.int .i64 ((m : Nat) : Int)] → Live g ⟨wb, 0, none⟩ (.func (.func 68) #[] ⟨[.pointer (some ⟨cb, 0, none⟩), .pointer (some ⟨wb, 0, none⟩)]⟩) →
  CallsG Tryd.prog 68 #[synV t na nn nc a n c, .int .i64 ((dep : Nat) : Int), .bool w, .pointer (some ⟨cb, 0, none⟩), .pointer (some ⟨wb, 0, none⟩)] g (fun b => b = cb) fun v g' =>
    ∃ m' : Nat, v = .bool (tf (walkP t w dep)) ∧ MutB g' cb 3 [.int .i64 ((m' : Nat) : Int)] ∧ m' ≤ m + size t ∧ (walkP t w dep → m' = m + size t)
theorem kk127 {N : Nat} (H : WW124 N) (x : Sy) (hN : size x ≤ N) (hx : okT x) (dep : Nat) (op : Int) (m : Nat) {cb wb db tb : Nat} {na : Option Addr} {nn nc : Nat} {a : Option Addr} {n c : Nat} {g : G} (ht : TabG g) (h : SynI g x na nn nc a n c) (hd : dep ≤ 400) (hm : m + size x ≤ 20000)
    (hc : MutB g cb 3 [.int .i64 ((m : Nat) : Int)]) (hw : Live g ⟨wb, 0, none⟩ (.func (.func 68) #[] ⟨[.pointer (some ⟨cb, 0, none⟩), .pointer (some ⟨wb, 0, none⟩)]⟩)) (hdp : Live g ⟨db, 0, none⟩ (.int .i64 ((dep : Nat) : Int))) (hop : Live g ⟨tb, 0, none⟩ (.int .i64 op)) :
    CallsG Tryd.prog 71 #[synV x na nn nc a n c, .pointer (some ⟨wb, 0, none⟩), .pointer (some ⟨db, 0, none⟩), .pointer (some ⟨tb, 0, none⟩)] g (fun b => b = cb) fun v g' =>
      ∃ m' : Nat, v = .bool (tf (¬ walkP x (decide (op = 74)) (dep + 1))) ∧ MutB g' cb 3 [.int .i64 ((m' : Nat) : Int)] ∧ m' ≤ m + size x ∧ (walkP x (decide (op = 74)) (dep + 1) → m' = m + size x) := by
  refine call71 _ _ _ _ _ _ _ _ _ _ _ _ g _ _ ?_
  unfold F71
  intro g1 m1
  have e : eqI op 74 = decide (op = 74) := by
    by_cases h : op = 74
    · rw [eqI_true.mpr h]; simp [h]
    · rw [eqI_false.mpr h]; simp [h]
  refine ⟨_, _, (hw.mono m1.le).1, _, (hdp.mono m1.le).1, i64 (by omega) (by omega), _, (hop.mono m1.le).1, ⟨_, Tryd.func68, by kernel_rfl, by kernel_rfl⟩, (fun b => b = cb), fun _ _ h => h, ?_⟩
  rw [e]
  have hcall := H x hN hx (dep + 1) (decide (op = 74)) m (ht.exm m1) (h.exm m1) (by omega) hm (hc.ex m1) (hw.mono m1.le)
  rw [show (((dep + 1 : Nat) : Int)) = ((dep : Nat) : Int) + 1 by omega] at hcall
  refine CallsG.mono hcall ?_
  rintro v g2 s2 ⟨m', rfl, hm', h1, h2⟩
  exact ⟨_, rfl, fun g3 m3 => ⟨m', by rw [tf_not], hm'.ex m3, h1, h2⟩⟩
theorem ww124 : ∀ N, WW124 N := by
  intro N
  induction N with
  | zero => intro t hN; have := size_pos t; omega
  | succ N ih =>
    intro t hN hok dep w m cb wb na nn nc a n c g ht h hd hm hc hw
    have hsz := size_eq t
    obtain ⟨hokD, hokL⟩ := okT_iff.1 hok
    refine call68 _ _ _ _ _ _ _ _ _ _ w _ _ g _ _ ?_
    have hl := h.kids.len
    unfold F68
    intro g1 n1 g2 n2
    have hc2 := (hc.ex n1.ex).ex n2.ex
    refine ⟨_, hc2.rd0 rfl, i64 (by omega) (by omega), hc2.ok0 (Nat.le_refl _), hc2.nx, hc2.mut0 _, fun _ => rfl, fun g3 k3 => ?_⟩
    obtain ⟨hc3, but3⟩ := hc2.st0 k3
    rw [set1] at hc3
    have le23 := mut_le hc2 but3
    have le13 : Le g1 g3 := n2.ex.le.trans le23
    have le03 : Le g g3 := n1.ex.le.trans le13
    have hsz3 : g.w.heap.size ≤ g3.w.heap.size := le03.size
    have hdep3 : Live g3 ⟨g1.w.heap.size, 0, none⟩ (.int .i64 ((dep : Nat) : Int)) := (n2.at0 rfl).mono le23
    have fin : ∀ {g' : G} {m' : Nat}, ¬ walkP t w dep → MutB g' cb 3 [.int .i64 ((m' : Nat) : Int)] → m' ≤ m + size t → ∃ m' : Nat, Value.bool false = .bool (tf (walkP t w dep)) ∧ MutB g' cb 3 [.int .i64 ((m' : Nat) : Int)] ∧ m' ≤ m + size t ∧ (walkP t w dep → m' = m + size t) :=
      fun hn hmb hle => ⟨_, vF hn, hmb, hle, fun hh => absurd hh hn⟩
    have e3 : ((m : Nat) : Int) + 1 = ((m + 1 : Nat) : Int) := by omega
    rw [e3] at hc3
    intro J hJ
    refine ⟨_, hc3.rd0 rfl, ifLt (fun q => by omega) (fun _ => ⟨_, hdep3.1, ifLt (fun q g8 m8 => fin (fun hh => by have := (walk_iff.1 hh).1; omega) (hc3.ex m8) (by omega)) (fun q => ?_)⟩)⟩
    obtain ⟨c0, c1, c2, c3, c4⟩ := node_cells n1 le13
    refine ⟨_, _, _, _, _, _, _, _, _, c0, c1, c2, c3, c4, (kk125 t w (ht.mono le03) (h.mono le03) hokD.1 hokD.2).mono ?_⟩
    rintro v g9 m9 rfl
    have hc9 := hc3.ex m9
    refine ⟨_, rfl, ifPn (fun q1 g10 m10 => fin (fun hh => q1 (walk_iff.1 hh).2.1) (hc9.ex m10) (by omega)) (fun q1 => ?_)⟩
    obtain ⟨c0, c1, c2, c3, c4⟩ := node_cells n1 (le13.trans m9.le)
    have le09 := le03.trans m9.le
    refine ⟨_, _, _, _, _, _, _, _, _, c0, c1, c2, c3, c4, (kk126 t (h.mono le09)).mono ?_⟩
    rintro v g11 m11 rfl
    have hc11 := hc9.ex m11
    refine ⟨_, rfl, ifPn (fun q2 g12 m12 => fin (fun hh => q2 (walk_iff.1 hh).2.2.1) (hc11.ex m12) (by omega)) (fun q2 => hJ g11 ?_)⟩
    have le011 := le09.trans m11.le
    have le111 := (le13.trans m9.le).trans m11.le
    obtain ⟨c0, c1, c2, c3, c4⟩ := node_cells n1 le111
    have hsz11 : g.w.heap.size ≤ g11.w.heap.size := le011.size
    have hdep11 := (hdep3.mono m9.le).mono m11.le
    have hop11 : Live g11 ⟨g.w.heap.size, 0, none⟩ (.int .i64 t.dat.op) := (n1.at0 rfl).mono le111
    refine ⟨_, _, _, c4, (fun b => b = cb), fun _ _ h => h, ?_⟩
    refine (kk55 71 ⟨[.pointer (some ⟨wb, 0, none⟩), .pointer (some ⟨g1.w.heap.size, 0, none⟩), .pointer (some ⟨g.w.heap.size, 0, none⟩)]⟩ (fun b => b = cb)
      (fun j g' => ∃ m' : Nat, MutB g' cb 3 [.int .i64 ((m' : Nat) : Int)] ∧ m' = m + 1 + sizeL (t.kids.take j) ∧ ∀ x ∈ t.kids.take j, walkP x (decide (t.dat.op = 74)) (dep + 1))
      (fun g' => ∃ m' : Nat, MutB g' cb 3 [.int .i64 ((m' : Nat) : Int)] ∧ m' ≤ m + size t ∧ ∃ x ∈ t.kids, ¬ walkP x (decide (t.dat.op = 74)) (dep + 1))
      t.kids (h.kids.mono le011) ⟨_, Tryd.func71, by kernel_rfl, by kernel_rfl⟩ ?_ ?_ ?_ ?_).mono ?_
    · rintro j ga gb mab ⟨m', p1, p2, p3⟩
      exact ⟨m', p1.ex mab, p2, p3⟩
    · rintro ga gb mab ⟨m', p1, p2, p3⟩
      exact ⟨m', p1.ex mab, p2, p3⟩
    · exact ⟨m + 1, hc11, by simp [sizeL], by simp⟩
    · rintro ga j x lea hsa gj ⟨m', p1, p2, p3⟩ na' nn' nc' ka kn kc hx
      have hin := List.mem_of_getElem? gj
      have hsx := size_mem hin
      have htk := sizeL_take gj
      have hle := sizeL_le t.kids (j + 1)
      refine ⟨fun b => b = cb, fun _ _ h => h, ?_⟩
      refine CallsG.mono (kk127 ih x (by omega) (hokL x hin) dep t.dat.op m' ((ht.mono le011).mono lea) hx (by omega) (by omega) p1 ((hw.mono le011).mono lea) (hdep11.mono lea) (hop11.mono lea)) ?_
      rintro v g2' s2 ⟨m2, rfl, r1, r2, r3⟩
      refine ⟨_, rfl, fun hb => ?_, fun hb => ?_⟩
      · exact ⟨m2, r1, by omega, x, hin, tf_true.mp hb⟩
      · have hwx := Classical.not_not.1 (tf_false.mp hb)
        exact ⟨m2, r1, by have := r3 hwx; omega, (all_take gj _).2 ⟨p3, hwx⟩⟩
    · rintro v g5 s5 ⟨b, rfl, hb1, hb2⟩
      refine ⟨_, rfl, fun g6 m6 => ?_⟩
      cases b with
      | true =>
        obtain ⟨m', p1, p2, x, hin, hnx⟩ := hb1 rfl
        exact fin (fun hh => hnx ((walk_iff.1 hh).2.2.2 x hin)) (p1.ex m6) p2
      | false =>
        obtain ⟨m', p1, p2, p3⟩ := hb2 rfl
        rw [take_all (Nat.le_refl _)] at p2 p3
        exact ⟨m', vT (walk_iff.2 ⟨by omega, q1, q2, p3⟩), p1.ex m6, by omega, fun _ => by omega⟩
/-- formed. -/
theorem kk96 (t : Sy) (hok : okT t) (hs : size t ≤ 20000) {na : Option Addr} {nn nc : Nat} {a : Option Addr} {n c : Nat} {g : G} (ht : TabG g) (h : SynI g t na nn nc a n c) :
    CallsP Tryd.prog 63 #[synV t na nn nc a n c] g fun v _ => v = .bool (tf (formedP t)) := by
  refine call63 _ _ _ _ _ _ _ _ _ g _ ?_
  unfold F63
  intro g1 m1 g2 n2
  have hsz1 : g.w.heap.size ≤ g1.w.heap.size := m1.size
  have hc2 := n2.mut
  refine ⟨hc2.ok0 (Nat.le_refl _), hc2.nx, hc2.mut0 _, fun hh => absurd hh (by show ¬ g1.w.heap.size < g.w.heap.size; omega), fun g3 k3 => ?_⟩
  obtain ⟨hc3, but3⟩ := hc2.st0 k3
  rw [set1] at hc3
  have le13 : Le g1 g3 := n2.ex.le.trans (mut_le hc2 but3)
  intro g4 n4
  have hsz3 : g1.w.heap.size ≤ g3.w.heap.size := le13.size
  have hw4 := n4.mut
  refine ⟨hw4.ok0 (Nat.le_refl _), hw4.nx, hw4.mut0 _, fun hh => absurd hh (by show ¬ g3.w.heap.size < g.w.heap.size; omega), fun g5 k5 => ?_⟩
  obtain ⟨hlv, but5⟩ := hw4.pub1 k5
  have le5 : Le g g5 := (m1.le.trans le13).trans (n4.ex.le.trans (mut_le hw4 but5))
  have hne : ¬ g1.w.heap.size = g3.w.heap.size := by have := hc3.lt; omega
  have hc5 := (hc3.ex n4.ex).but but5 hne
  refine ⟨_, _, hlv.1, ⟨_, Tryd.func68, by kernel_rfl, by kernel_rfl⟩, (fun b => b = g1.w.heap.size), fun b hb e => by omega, ?_⟩
  refine CallsG.mono (ww124 (size t) t (Nat.le_refl _) hok 1 false 0 (ht.mono le5) (h.mono le5) (by omega) (by omega) hc5 hlv) ?_
  rintro v g6 s6 ⟨m', rfl, _, _, _⟩
  exact ⟨_, rfl, fun g7 _ => rfl⟩
/-- Valid, known. -/
theorem kk58 (cat : Int) (t : Sy) (hok : okT t) (hs : size t ≤ 20000) {na : Option Addr} {nn nc : Nat} {a : Option Addr} {n c : Nat} {g : G} (ht : TabG g) (h : SynI g t na nn nc a n c) :
    CallsP Tryd.prog 53 #[.int .i64 cat, synV t na nn nc a n c] g fun v _ => v = .bool (tf (validP cat t)) := by
  refine call53 cat _ _ _ _ _ _ _ _ _ g _ ?_
  unfold F53 validP
  refine fun g0 m0 => (kk95 cat t na nn nc a n c g0).mono ?_
  rintro v g1 m01 rfl
  have m1 := m0.trans m01
  refine ⟨_, rfl, ifP (fun q => (kk96 t hok hs (ht.exm m1) (h.exm m1)).mono ?_) (fun q g4 _ => vF (fun hh => q hh.1))⟩
  rintro v g2 _ rfl
  exact ⟨_, rfl, fun g3 _ => vP ⟨fun hh => ⟨q, hh⟩, fun hh => hh.2⟩⟩
end Go.Proofs.YtmkdbndniffkfaaDoor
/- Syntax trees: size, depth, equality; and that a tree is small. -/
set_option linter.unusedVariables false
namespace Go.Proofs.YtmkdbndniffkfaaDoor
open Go Go.Vc Go.RowKit Go.Syn

/-- slices.Equal, of strings. -/
theorem kk21 (xs ys : List (List UInt8)) {a b : Option Addr} {n c m d : Nat} {g : G} (hx : SlE strE g a n c xs) (hy : SlE strE g b m d ys) : CallsP Tryd.prog 13 #[.slice a n c, .slice b m d] g fun v _ => v = .bool (tf (xs = ys)) := by
  refine call13 a n c b m d g _ ?_
  have h1 := hx.len
  have h2 := hy.len
  have hc := hx.le
  have hm := hx.cap
  unfold maxLen at hm
  unfold F13
  refine ifNe (fun q g1 _ => vF (fun hh => by rw [hh] at h1; omega)) (fun q => ?_)
  refine ⟨fun k i g' => ∃ j : Nat, i = ((j : Nat) : Int) ∧ j + k = n ∧ xs.take j = ys.take j, ⟨n, 0, rfl, by omega, by simp⟩, ?_⟩
  rintro k i g2 le ⟨j, rfl, hj, hall⟩
  refine ifLt (fun hlt g3 m3 => ⟨⟨by omega, by omega⟩, ?_⟩) (fun hge g5 _ => vT ?_)
  · have gx := List.getElem?_eq_getElem (show j < xs.length by omega)
    have gy := List.getElem?_eq_getElem (show j < ys.length by omega)
    refine rdS ((hx.mono le).exm m3) j rfl gx ⟨⟨by omega, by omega⟩, rdS ((hy.mono le).exm m3) j rfl gy ?_⟩
    rw [strEq_bstr]
    refine ifPn (fun q2 g4 _ => vF (fun hh => q2 ?_)) (fun q2 => ⟨i64 (by omega) (by omega), k - 1, by omega, j + 1, by omega, by omega, (take_eq gx gy).2 ⟨hall, q2⟩⟩)
    have : xs.take (j + 1) = ys.take (j + 1) := by rw [hh]
    exact ((take_eq gx gy).1 this).2
  · rwa [take_all (by omega), take_all (by omega)] at hall
end Go.Proofs.YtmkdbndniffkfaaDoor
