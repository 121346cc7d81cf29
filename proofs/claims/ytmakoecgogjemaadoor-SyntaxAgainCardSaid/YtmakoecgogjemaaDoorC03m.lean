/- Syntax trees: the forms of the reference. Printed by a program (wip/tools/genwalk.py). -/
import Derived.Test.YtmakoecgogjemaaDoorC03l
set_option linter.unusedVariables false
namespace Go.Proofs.YtmakoecgogjemaaDoor
open Go Go.Vc Go.RowKit Go.Syn

theorem k77 (t : Sy) (w : Bool) {na : Option Addr} {nn nc : Nat} {a : Option Addr} {n c : Nat} {g : G} (h : SynI g t na nn nc a n c) (hs : t.dat.s.length ≤ 1048576) (hR : 1 ≤ t.dat.op ∧ t.dat.op ≤ 5) :
    CallsP Tryd.prog 77 #[synV t na nn nc a n c] g fun v _ => v = .bool (tf (nodeP t.dat t.kids w)) := by
  refine call77 _ _ _ _ _ _ _ _ _ g _ ?_
  have hl := h.kids.len
  have hnl := h.names.len
  have hcp := h.kids.le
  have hmx := h.kids.cap
  unfold maxLen at hmx
  have h0 : ((n : Nat) : Int) = 0 ↔ t.kids = [] := by
    rw [← hl]
    cases t.kids with
    | nil => simp
    | cons x r => simp; omega
  unfold F77
  refine ifEq (fun q => ?_) (fun z1 => ?_)
  · rw [tf_iff (node_1 q)]
    intro a2 w2
    refine andC (k88 t false true false (h.exm ((Ex.refl g).trans w2))) (fun p3 x3 e3 => ?_)
    rw [tf_andT p3]
    refine andC (k89 t.dat.s _) (fun p4 x4 e4 => ?_)
    rw [tf_andT p4]
    exact fun _ _ => by rw [tf_eq]; exact vP h0
  refine ifEq (fun q => ?_) (fun z5 => ?_)
  · rw [tf_iff (node_2 q)]
    intro a6 w6
    refine andC (k88 t false false true (h.exm ((Ex.refl g).trans w6))) (fun p7 x7 e7 => ?_)
    rw [tf_andT p7]
    refine andC (k90 t.dat.names true (h.names.exm (((Ex.refl g).trans w6).trans e7))) (fun p8 x8 e8 => ?_)
    rw [tf_andT p8]
    refine ifLe (fun p9 => ?_) (fun p9 _ _ => vFl (by omega))
    rw [tf_andT (show ((t.kids.length : Nat) : Int) ≤ 4 by omega)]
    exact endC (k91a t 1 (by decide) (h.exm ((((Ex.refl g).trans w6).trans e7).trans e8)))
  refine ifEq (fun q => ?_) (fun z10 => ?_)
  · rw [tf_iff (node_3 q)]
    intro a11 w11
    refine andC (k88 t false false false (h.exm ((Ex.refl g).trans w11))) (fun p12 x12 e12 => ?_)
    rw [tf_andT p12]
    intro y13 n13
    exact endC (k92l t [1, 1] (h.exm (((Ex.refl g).trans w11).trans e12)) n13 (by decide))
  refine ifEq (fun q => ?_) (fun z14 => ?_)
  · rw [tf_iff (node_4 q)]
    intro a15 w15
    refine andC (k88 t false false false (h.exm ((Ex.refl g).trans w15))) (fun p16 x16 e16 => ?_)
    rw [tf_andT p16]
    refine ifLe (fun p17 => ?_) (fun p17 _ _ => vFl (by omega))
    rw [tf_andT (show 2 ≤ ((t.kids.length : Nat) : Int) by omega)]
    refine ifLe (fun p18 => ?_) (fun p18 _ _ => vFl (by omega))
    rw [tf_andT (show ((t.kids.length : Nat) : Int) ≤ 9 by omega)]
    exact endC (k91a t 1 (by decide) (h.exm (((Ex.refl g).trans w15).trans e16)))
  have q : t.dat.op = 5 := by omega
  rw [tf_iff (node_5 q)]
  intro a19 w19
  refine andC (k88 t false false true (h.exm ((Ex.refl g).trans w19))) (fun p20 x20 e20 => ?_)
  rw [tf_andT p20]
  refine andC (k90 t.dat.names false (h.names.exm (((Ex.refl g).trans w19).trans e20))) (fun p21 x21 e21 => ?_)
  rw [tf_andT p21]
  exact fun _ _ => by rw [tf_eq]; exact vP h0
theorem k78 (t : Sy) (w : Bool) {na : Option Addr} {nn nc : Nat} {a : Option Addr} {n c : Nat} {g : G} (h : SynI g t na nn nc a n c) (hs : t.dat.s.length ≤ 1048576) (hR : 11 ≤ t.dat.op ∧ t.dat.op ≤ 15) :
    CallsP Tryd.prog 78 #[synV t na nn nc a n c] g fun v _ => v = .bool (tf (nodeP t.dat t.kids w)) := by
  refine call78 _ _ _ _ _ _ _ _ _ g _ ?_
  have hl := h.kids.len
  have hnl := h.names.len
  have hcp := h.kids.le
  have hmx := h.kids.cap
  unfold maxLen at hmx
  have h0 : ((n : Nat) : Int) = 0 ↔ t.kids = [] := by
    rw [← hl]
    cases t.kids with
    | nil => simp
    | cons x r => simp; omega
  unfold F78
  refine ifEq (fun q => ?_) (fun z22 => ?_)
  · rw [tf_iff (node_11 q)]
    intro a23 w23
    refine andC (k88 t false false false (h.exm ((Ex.refl g).trans w23))) (fun p24 x24 e24 => ?_)
    rw [tf_andT p24]
    exact fun _ _ => by rw [tf_eq]; exact vP h0
  refine ifEq (fun q => ?_) (fun z25 => ?_)
  · rw [tf_iff (node_12 q)]
    intro a26 w26
    refine andC (k88 t false true false (h.exm ((Ex.refl g).trans w26))) (fun p27 x27 e27 => ?_)
    rw [tf_andT p27]
    refine andC (k93 t.dat.s _) (fun p28 x28 e28 => ?_)
    rw [tf_andT p28]
    exact fun _ _ => by rw [tf_eq]; exact vP h0
  refine ifEq (fun q => ?_) (fun z29 => ?_)
  · rw [tf_iff (node_13 q)]
    intro a30 w30
    refine andC (k88 t true false false (h.exm ((Ex.refl g).trans w30))) (fun p31 x31 e31 => ?_)
    rw [tf_andT p31]
    refine ifLe (fun p32 => ifLe (fun q32 => ?_) (fun q32 _ _ => vFl (by omega))) (fun p32 _ _ => vFl (by omega))
    rw [tf_andT (show -4503599627370496 ≤ t.dat.n ∧ t.dat.n ≤ 4503599627370496 from ⟨p32, q32⟩)]
    exact fun _ _ => by rw [tf_eq]; exact vP h0
  refine ifEq (fun q => ?_) (fun z33 => ?_)
  · rw [tf_iff (node_14 q)]
    intro a34 w34
    refine andC (k88 t false false true (h.exm ((Ex.refl g).trans w34))) (fun p35 x35 e35 => ?_)
    rw [tf_andT p35]
    refine andC (k90 t.dat.names false (h.names.exm (((Ex.refl g).trans w34).trans e35))) (fun p36 x36 e36 => ?_)
    rw [tf_andT p36]
    refine ifLe (fun p37 => ?_) (fun p37 _ _ => vFl (by omega))
    rw [tf_andT (show ((t.kids.length : Nat) : Int) ≤ 1 by omega)]
    exact endC (k91a t 2 (by decide) (h.exm ((((Ex.refl g).trans w34).trans e35).trans e36)))
  have q : t.dat.op = 15 := by omega
  rw [tf_iff (node_15 q)]
  intro a38 w38
  refine andC (k88 t false false false (h.exm ((Ex.refl g).trans w38))) (fun p39 x39 e39 => ?_)
  rw [tf_andT p39]
  refine ifNe (fun p40 => ?_) (fun p40 _ _ => vFl (by omega))
  rw [tf_andT (show t.kids.length ≠ 1 by omega)]
  refine ifLe (fun p41 => ?_) (fun p41 _ _ => vFl (by omega))
  rw [tf_andT (show ((t.kids.length : Nat) : Int) ≤ 9 by omega)]
  exact endC (k91a t 2 (by decide) (h.exm (((Ex.refl g).trans w38).trans e39)))
theorem k79 (t : Sy) (w : Bool) {na : Option Addr} {nn nc : Nat} {a : Option Addr} {n c : Nat} {g : G} (h : SynI g t na nn nc a n c) (hs : t.dat.s.length ≤ 1048576) (hR : 21 ≤ t.dat.op ∧ t.dat.op ≤ 34) :
    CallsP Tryd.prog 79 #[synV t na nn nc a n c] g fun v _ => v = .bool (tf (nodeP t.dat t.kids w)) := by
  refine call79 _ _ _ _ _ _ _ _ _ g _ ?_
  have hl := h.kids.len
  have hnl := h.names.len
  have hcp := h.kids.le
  have hmx := h.kids.cap
  unfold maxLen at hmx
  have h0 : ((n : Nat) : Int) = 0 ↔ t.kids = [] := by
    rw [← hl]
    cases t.kids with
    | nil => simp
    | cons x r => simp; omega
  unfold F79
  refine ifEq (fun q => ?_) (fun z42 => ?_)
  · rw [tf_iff (node_21 q)]
    intro a43 w43
    refine andC (k88 t true false false (h.exm ((Ex.refl g).trans w43))) (fun p44 x44 e44 => ?_)
    rw [tf_andT p44]
    refine ifLe (fun p45 => ifLe (fun q45 => ?_) (fun q45 _ _ => vFl (by omega))) (fun p45 _ _ => vFl (by omega))
    rw [tf_andT (show 0 ≤ t.dat.n ∧ t.dat.n ≤ 4503599627370496 from ⟨p45, q45⟩)]
    exact fun _ _ => by rw [tf_eq]; exact vP h0
  refine ifEq (fun q => ?_) (fun z46 => ?_)
  · rw [tf_iff (node_22 q)]
    intro a47 w47
    refine andC (k88 t false true false (h.exm ((Ex.refl g).trans w47))) (fun p48 x48 e48 => ?_)
    rw [tf_andT p48]
    refine andC (k94 t.dat.s _ hs) (fun p49 x49 e49 => ?_)
    rw [tf_andT p49]
    exact fun _ _ => by rw [tf_eq]; exact vP h0
  refine ifEq (fun q => ?_) (fun z50 => ?_)
  · rw [tf_iff (node_23 q)]
    intro a51 w51
    refine andC (k88 t false false true (h.exm ((Ex.refl g).trans w51))) (fun p52 x52 e52 => ?_)
    rw [tf_andT p52]
    refine andC (k90 t.dat.names true (h.names.exm (((Ex.refl g).trans w51).trans e52))) (fun p53 x53 e53 => ?_)
    rw [tf_andT p53]
    exact fun _ _ => by rw [tf_eq]; exact vP h0
  refine ifEq (fun q => ?_) (fun z54 => ?_)
  · rw [tf_iff (node_24 q)]
    intro a55 w55
    refine andC (k88 t false false true (h.exm ((Ex.refl g).trans w55))) (fun p56 x56 e56 => ?_)
    rw [tf_andT p56]
    refine andC (k90 t.dat.names false (h.names.exm (((Ex.refl g).trans w55).trans e56))) (fun p57 x57 e57 => ?_)
    rw [tf_andT p57]
    exact fun _ _ => by rw [tf_eq]; exact vP h0
  refine ifEq (fun q => ?_) (fun z58 => ?_)
  · rw [tf_iff (node_25 q)]
    intro g1 w1
    refine andC (k88 t false true false (h.exm w1)) (fun p1 g2 w2 => ?_)
    rw [tf_andT p1, show bs [] = bstr [] from rfl, strEq_bstr]
    refine ifP (fun q1 => ?_) (fun q1 => ?_)
    · rw [tf_andT (show t.dat.s = [] ∨ lowerP t.dat.s from .inl q1)]
      intro y n2
      exact endC (k92l t [3] (h.exm (w1.trans w2)) n2 (by decide))
    · rw [tf_iff (and_l (show (t.dat.s = [] ∨ lowerP t.dat.s) ↔ lowerP t.dat.s from ⟨fun hh => hh.resolve_left q1, .inr⟩))]
      refine andC (k93 t.dat.s _) (fun p2 g3 w3 => ?_)
      rw [tf_andT p2]
      intro y n2
      exact endC (k92l t [3] (h.exm ((w1.trans w2).trans w3)) n2 (by decide))
  refine ifEq (fun q => ?_) (fun z59 => ?_)
  · rw [tf_iff (node_26 q)]
    intro a60 w60
    refine andC (k88 t false false false (h.exm ((Ex.refl g).trans w60))) (fun p61 x61 e61 => ?_)
    rw [tf_andT p61]
    intro y62 n62
    exact endC (k92l t [3, 3] (h.exm (((Ex.refl g).trans w60).trans e61)) n62 (by decide))
  refine ifEq (fun q => ?_) (fun z63 => ?_)
  · rw [tf_iff (node_27 q)]
    intro a64 w64
    refine andC (k88 t false false false (h.exm ((Ex.refl g).trans w64))) (fun p65 x65 e65 => ?_)
    rw [tf_andT p65]
    refine ifNe (fun p66 => ?_) (fun p66 _ _ => vFl (by omega))
    rw [tf_andT (show t.kids.length ≠ 1 by omega)]
    refine ifLe (fun p67 => ?_) (fun p67 _ _ => vFl (by omega))
    rw [tf_andT (show ((t.kids.length : Nat) : Int) ≤ 9 by omega)]
    exact endC (k91a t 3 (by decide) (h.exm (((Ex.refl g).trans w64).trans e65)))
  refine ifEq (fun q => ?_) (fun z68 => ?_)
  · rw [tf_iff (node_28 q)]
    intro a69 w69
    refine andC (k88 t false false false (h.exm ((Ex.refl g).trans w69))) (fun p70 x70 e70 => ?_)
    rw [tf_andT p70]
    intro y71 n71
    exact endC (k92l t [3, 3, 3] (h.exm (((Ex.refl g).trans w69).trans e70)) n71 (by decide))
  refine ifEq (fun q => ?_) (fun z72 => ?_)
  · rw [tf_iff (node_29 q)]
    intro J hJ g1 w1
    refine andN (k88 t false false false (h.exm w1)) (fun p1 g2 w2 => ?_)
    rw [tf_andT p1] at hJ ⊢
    refine ifLt (fun p2 _ _ => vFl (by omega)) (fun p2 => ?_)
    rw [tf_andT (show 2 ≤ t.kids.length by omega)] at hJ ⊢
    refine andN (k91f t 3 (by decide) (h.exm (w1.trans w2)) (by omega)) (fun p3 g3 w3 => ?_)
    rw [tf_andT p3] at hJ
    refine hJ g3 ⟨fun m i g' => ∃ j : Nat, i = ((1 + j : Nat) : Int) ∧ 1 + j + m = n ∧ ∀ x ∈ (t.kids.drop 1).take j, x.dat.op ∈ [(30 : Int)], ⟨n - 1, 0, rfl, by omega, by simp⟩, ?_⟩
    rintro m i g4 le ⟨j, rfl, hj, hall⟩
    refine ifLt (fun hlt => ⟨⟨by omega, by omega⟩, ?_⟩) (fun hge _ _ => vT ?_)
    · have gj := List.getElem?_eq_getElem (show 1 + j < t.kids.length by omega)
      have gd : (t.kids.drop 1)[j]? = some t.kids[1 + j] := by rw [List.getElem?_drop]; exact gj
      generalize t.kids[1 + j] = y at gj gd
      exact rdO ((h.kids.exm ((w1.trans w2).trans w3)).mono le) (1 + j) rfl gj (ifNe (fun q2 _ _ => vF (fun hh => q2 (by simpa using hh _ (List.mem_of_getElem? gd)))) (fun q2 => ⟨i64 (by omega) (by omega), m - 1, by omega, j + 1, by omega, by omega, (all_take gd _).2 ⟨hall, by simp [q2]⟩⟩))
    · rwa [take_all (by rw [List.length_drop]; omega)] at hall
  refine ifEq (fun q => ?_) (fun z73 => ?_)
  · rw [tf_iff (node_30 q)]
    intro a74 w74
    refine andC (k88 t false false false (h.exm ((Ex.refl g).trans w74))) (fun p75 x75 e75 => ?_)
    rw [tf_andT p75]
    intro y76 n76
    exact endC (k92l t [2, 3] (h.exm (((Ex.refl g).trans w74).trans e75)) n76 (by decide))
  refine ifEq (fun q => ?_) (fun z77 => ?_)
  · rw [tf_iff (node_31 q)]
    intro J hJ g1 w1
    refine andN (k88 t false false false (h.exm w1)) (fun p1 g2 w2 => ?_)
    rw [tf_andT p1] at hJ ⊢
    refine ifLt (fun p2 _ _ => vFl (by omega)) (fun p2 => ⟨i64 (by omega) (by omega), ?_⟩)
    rw [tf_andT (show 1 ≤ t.kids.length by omega)] at hJ ⊢
    refine andN (k91z t 3 (by decide) (h.exm (w1.trans w2)) (by omega)) (fun p3 g3 w3 => ?_)
    rw [tf_andT p3] at hJ
    refine hJ g3 ⟨fun m i g' => ∃ j : Nat, i = ((j : Nat) : Int) ∧ j + m = n - 1 ∧ ∀ x ∈ (t.kids.take (t.kids.length - 1)).take j, x.dat.op ∈ [(41 : Int), 42, 50], ⟨n - 1, 0, rfl, by omega, by simp⟩, ?_⟩
    rintro m i g4 le ⟨j, rfl, hj, hall⟩
    refine ⟨i64 (by omega) (by omega), ifLt (fun hlt => ⟨⟨by omega, by omega⟩, ?_⟩) (fun hge _ _ => vT ?_)⟩
    · have gj := List.getElem?_eq_getElem (show j < t.kids.length by omega)
      have gd : (t.kids.take (t.kids.length - 1))[j]? = some t.kids[j] := by rw [List.getElem?_take, if_pos (by omega)]; exact gj
      generalize t.kids[j] = y at gj gd
      have hk := (h.kids.exm ((w1.trans w2).trans w3)).mono le
      have go : y.dat.op ∈ [(41 : Int), 42, 50] → InI64 (((j : Nat) : Int) + 1) ∧ ∃ m1 : Nat, m1 < m ∧ ∃ j2 : Nat, ((j : Nat) : Int) + 1 = ((j2 : Nat) : Int) ∧ j2 + m1 = n - 1 ∧ ∀ x ∈ (t.kids.take (t.kids.length - 1)).take j2, x.dat.op ∈ [(41 : Int), 42, 50] :=
        fun hm => ⟨i64 (by omega) (by omega), m - 1, by omega, j + 1, by omega, by omega, (all_take gd _).2 ⟨hall, hm⟩⟩
      refine rdO hk j rfl gj (ifNe (fun q2 => ⟨⟨by omega, by omega⟩, rdO hk j rfl gj (ifNe (fun q3 => ⟨⟨by omega, by omega⟩, rdO hk j rfl gj (ifNe (fun q4 _ _ => vF (fun hh => ?_)) (fun q4 => go (by simp [q4])))⟩) (fun q3 => go (by simp [q3])))⟩) (fun q2 => go (by simp [q2])))
      have := hh _ (List.mem_of_getElem? gd)
      simp only [List.mem_cons, List.not_mem_nil, or_false] at this
      omega
    · rwa [take_all (by rw [List.length_take]; omega)] at hall
  refine ifEq (fun q => ?_) (fun z78 => ?_)
  · refine ifEq (fun q2 => ?_) (fun q2 => ?_)
    · rw [tf_iff (node_32a q q2)]
      intro g1 w1
      refine andC (k88 t true false false (h.exm w1)) (fun p1 g2 w2 => ?_)
      rw [tf_andT p1]
      intro y n2
      exact endC (k92l t [3] (h.exm (w1.trans w2)) n2 (by decide))
    · rw [tf_iff (node_32b q q2)]
      intro g1 w1
      refine andC (k88 t true false false (h.exm w1)) (fun p1 g2 w2 => ?_)
      rw [tf_andT p1]
      refine ifLe (fun p2 => ?_) (fun p2 _ _ => vFl (by omega))
      rw [tf_andT p2]
      refine ifLe (fun p3 => ?_) (fun p3 _ _ => vFl (by omega))
      rw [tf_andT p3]
      intro y n2
      exact endC (k92l t [3, 3] (h.exm (w1.trans w2)) n2 (by decide))
  refine ifEq (fun q => ?_) (fun z79 => ?_)
  · rw [tf_iff (node_33 q)]
    intro a80 w80
    refine andC (k88 t false false false (h.exm ((Ex.refl g).trans w80))) (fun p81 x81 e81 => ?_)
    rw [tf_andT p81]
    intro y82 n82
    exact endC (k92l t [3, 1] (h.exm (((Ex.refl g).trans w80).trans e81)) n82 (by decide))
  have q : t.dat.op = 34 := by omega
  rw [tf_iff (node_34 q)]
  intro a83 w83
  refine andC (k88 t false false true (h.exm ((Ex.refl g).trans w83))) (fun p84 x84 e84 => ?_)
  rw [tf_andT p84]
  refine andC (k90 t.dat.names false (h.names.exm (((Ex.refl g).trans w83).trans e84))) (fun p85 x85 e85 => ?_)
  rw [tf_andT p85]
  intro y86 n86
  exact endC (k92l t [0] (h.exm ((((Ex.refl g).trans w83).trans e84).trans e85)) n86 (by decide))
theorem k80 (t : Sy) (w : Bool) {na : Option Addr} {nn nc : Nat} {a : Option Addr} {n c : Nat} {g : G} (h : SynI g t na nn nc a n c) (hs : t.dat.s.length ≤ 1048576) (hR : 41 ≤ t.dat.op ∧ t.dat.op ≤ 50) (hw : t.dat.op = 43 → (w = true ↔ t.dat.s = [])) :
    CallsP Tryd.prog 80 #[synV t na nn nc a n c] g fun v _ => v = .bool (tf (nodeP t.dat t.kids w)) := by
  refine call80 _ _ _ _ _ _ _ _ _ g _ ?_
  have hl := h.kids.len
  have hnl := h.names.len
  have hcp := h.kids.le
  have hmx := h.kids.cap
  unfold maxLen at hmx
  have h0 : ((n : Nat) : Int) = 0 ↔ t.kids = [] := by
    rw [← hl]
    cases t.kids with
    | nil => simp
    | cons x r => simp; omega
  unfold F80
  refine ifEq (fun q => ?_) (fun z87 => ?_)
  · rw [tf_iff (node_41 q)]
    intro a88 w88
    refine andC (k88 t false true false (h.exm ((Ex.refl g).trans w88))) (fun p89 x89 e89 => ?_)
    rw [tf_andT p89]
    refine andC (k93 t.dat.s _) (fun p90 x90 e90 => ?_)
    rw [tf_andT p90]
    intro y91 n91
    exact endC (k92l t [3] (h.exm ((((Ex.refl g).trans w88).trans e89).trans e90)) n91 (by decide))
  refine ifEq (fun q => ?_) (fun z92 => ?_)
  · rw [tf_iff (node_42 q)]
    intro J hJ g1 w1
    refine andN (k88 t false true true (h.exm w1)) (fun p1 g2 w2 => ?_)
    rw [tf_andT p1] at hJ ⊢
    refine andN (k93 t.dat.s _) (fun p2 g3 w3 => ?_)
    rw [tf_andT p2] at hJ ⊢
    refine ifLt (fun p3 _ _ => vFl (by omega)) (fun p3 => ?_)
    rw [tf_andT (show 1 ≤ t.dat.names.length by omega)] at hJ ⊢
    refine ifLt (fun p4 _ _ => vFl (by omega)) (fun p4 => ?_)
    rw [tf_andT (show t.dat.names.length ≤ 9 by omega)] at hJ
    have m3 := (w1.trans w2).trans w3
    refine hJ g3 ⟨fun m i g' => ∃ j : Nat, i = ((j : Nat) : Int) ∧ j + m = nn ∧ ∀ x ∈ t.dat.names.take j, lowerP x, ⟨nn, 0, rfl, by omega, by simp⟩, ?_⟩
    rintro m i g4 le ⟨j, rfl, hj, hall⟩
    refine ifLt (fun hlt => ⟨⟨by omega, by omega⟩, ?_⟩) (fun hge => ?_)
    · have gj := List.getElem?_eq_getElem (show j < t.dat.names.length by omega)
      have hin := List.mem_of_getElem? gj
      generalize t.dat.names[j] = y at gj hin
      refine rdS ((h.names.exm m3).mono le) j rfl gj ((k93 y g4).mono ?_)
      rintro v g5 _ rfl
      exact ⟨_, rfl, ifPn (fun q2 _ _ => vF (fun hh => q2 (hh.1 _ hin))) (fun q2 => ⟨i64 (by omega) (by omega), m - 1, by omega, j + 1, by omega, by omega, (all_take gj _).2 ⟨hall, q2⟩⟩)⟩
    · rw [take_all (by omega)] at hall
      rw [tf_andT hall]
      intro y n2
      exact endC (k92l t [3] ((h.exm m3).mono le) n2 (by decide))
  refine ifEq (fun q => ?_) (fun z93 => ?_)
  · rw [tf_iff (node_43 q)]
    intro g1 w1
    refine andC (k88 t false true true (h.exm w1)) (fun p1 g2 w2 => ?_)
    rw [tf_andT p1, show bs [] = bstr [] from rfl, strEq_bstr]
    refine ifP (fun q1 => ?_) (fun q1 => ?_)
    · rw [tf_andT (show (w = true ∧ t.dat.s = []) ∨ (w = false ∧ lowerP t.dat.s) from .inl ⟨(hw q).2 q1, q1⟩)]
      refine andC (k95 t.dat.names (h.names.exm (w1.trans w2))) (fun p2 g3 w3 => ?_)
      rw [tf_andT p2]
      intro y n2
      exact endC (k92l t [1] (h.exm ((w1.trans w2).trans w3)) n2 (by decide))
    · have hwf : w = false := by
        cases w with
        | false => rfl
        | true => exact absurd ((hw q).1 rfl) q1
      rw [tf_iff (and_l (show ((w = true ∧ t.dat.s = []) ∨ (w = false ∧ lowerP t.dat.s)) ↔ lowerP t.dat.s from ⟨fun hh => hh.elim (fun hh => absurd hh.2 q1) (fun hh => hh.2), fun hh => .inr ⟨hwf, hh⟩⟩))]
      refine andC (k93 t.dat.s _) (fun p2 g3 w3 => ?_)
      rw [tf_andT p2]
      refine andC (k95 t.dat.names (h.names.exm ((w1.trans w2).trans w3))) (fun p3 g4 w4 => ?_)
      rw [tf_andT p3]
      intro y n2
      exact endC (k92l t [1] (h.exm (((w1.trans w2).trans w3).trans w4)) n2 (by decide))
  refine ifEq (fun q => ?_) (fun z94 => ?_)
  · rw [tf_iff (node_44 q)]
    intro J hJ g1 w1
    refine andN (k88 t false true true (h.exm w1)) (fun p1 g2 w2 => ?_)
    rw [tf_andT p1] at hJ ⊢
    refine andN (k93 t.dat.s _) (fun p2 g3 w3 => ?_)
    rw [tf_andT p2] at hJ ⊢
    refine andN (k95 t.dat.names (h.names.exm ((w1.trans w2).trans w3))) (fun p3 g4 w4 => ?_)
    rw [tf_andT p3] at hJ ⊢
    refine ifLt (fun p4 _ _ => vFl (by omega)) (fun p4 => ?_)
    rw [tf_andT (show 1 ≤ t.kids.length by omega)] at hJ
    have m4 := ((w1.trans w2).trans w3).trans w4
    refine hJ g4 ⟨fun m i g' => ∃ j : Nat, i = ((j : Nat) : Int) ∧ j + m = n ∧ (∀ x ∈ t.kids.take j, x.dat.op ∈ [(45 : Int)]) ∧ differP (t.kids.take j), ⟨n, 0, rfl, by omega, by simp, by simp [differP]⟩, ?_⟩
    rintro m i g5 le ⟨j, rfl, hj, hall, hdf⟩
    refine ifLt (fun hlt => ⟨⟨by omega, by omega⟩, ?_⟩) (fun hge _ _ => vT ?_)
    · have gj := List.getElem?_eq_getElem (show j < t.kids.length by omega)
      have hin := List.mem_of_getElem? gj
      generalize t.kids[j] = y at gj hin
      have hk := (h.kids.exm m4).mono le
      refine rdO hk j rfl gj (ifNe (fun q2 _ _ => vF (fun hh => q2 (by simpa using hh.1 _ hin))) (fun q2 => ?_))
      refine ⟨fun m' i' g' => ∃ k : Nat, i' = ((k : Nat) : Int) ∧ k + m' = j ∧ ∀ z ∈ t.kids.take k, z.dat.s ≠ y.dat.s, ⟨j, 0, rfl, by omega, by simp⟩, ?_⟩
      rintro m' i' g6 le6 ⟨k, rfl, hk2, hne⟩
      refine ifLt (fun hlt2 g7 m7 => ⟨⟨by omega, by omega⟩, ?_⟩) (fun hge2 => ⟨i64 (by omega) (by omega), m - 1, by omega, j + 1, by omega, by omega, (all_take gj _).2 ⟨hall, by simp [q2]⟩, (pair_take gj).2 ⟨hdf, by rwa [show k = j by omega] at hne⟩⟩)
      have hk7 := (hk.mono le6).exm m7
      have gk := List.getElem?_eq_getElem (show k < t.kids.length by omega)
      generalize t.kids[k] = z at gk
      refine rdStr hk7 j rfl gj ⟨⟨by omega, by omega⟩, rdStr hk7 k rfl gk ?_⟩
      rw [strEq_bstr]
      refine ifP (fun q3 _ _ => vF (fun hh => ?_)) (fun q3 => ⟨i64 (by omega) (by omega), m' - 1, by omega, k + 1, by omega, by omega, (all_take gk _).2 ⟨hne, fun e => q3 e.symm⟩⟩)
      have h1 : differP (t.kids.take (j + 1)) := List.Pairwise.sublist (List.take_sublist _ _) hh.2
      refine ((pair_take gj).1 h1).2 z (List.mem_of_getElem? (i := k) ?_) q3.symm
      rw [List.getElem?_take, if_pos (by omega)]
      exact gk
    · rw [take_all (by omega)] at hall hdf
      exact ⟨hall, hdf⟩
  refine ifEq (fun q => ?_) (fun z95 => ?_)
  · rw [tf_iff (node_45 q)]
    intro a96 w96
    refine andC (k88 t false true false (h.exm ((Ex.refl g).trans w96))) (fun p97 x97 e97 => ?_)
    rw [tf_andT p97]
    refine andC (k96 t.dat.s _) (fun p98 x98 e98 => ?_)
    rw [tf_andT p98]
    refine ifLe (fun p99 => ?_) (fun p99 _ _ => vFl (by omega))
    rw [tf_andT (show ((t.kids.length : Nat) : Int) ≤ 1 by omega)]
    exact endC (k91a t 1 (by decide) (h.exm ((((Ex.refl g).trans w96).trans e97).trans e98)))
  refine ifEq (fun q => ?_) (fun z100 => ?_)
  · rw [tf_iff (node_46 q)]
    intro a101 w101
    refine andC (k88 t false true false (h.exm ((Ex.refl g).trans w101))) (fun p102 x102 e102 => ?_)
    rw [tf_andT p102]
    refine andC (k96 t.dat.s _) (fun p103 x103 e103 => ?_)
    rw [tf_andT p103]
    intro y104 n104
    exact endC (k92l t [7] (h.exm ((((Ex.refl g).trans w101).trans e102).trans e103)) n104 (by decide))
  refine ifEq (fun q => ?_) (fun z105 => ?_)
  · rw [tf_iff (node_47 q)]
    intro a106 w106
    refine andC (k88 t false true false (h.exm ((Ex.refl g).trans w106))) (fun p107 x107 e107 => ?_)
    rw [tf_andT p107]
    refine andC (k96 t.dat.s _) (fun p108 x108 e108 => ?_)
    rw [tf_andT p108]
    intro y109 n109
    exact endC (k92l t [6] (h.exm ((((Ex.refl g).trans w106).trans e107).trans e108)) n109 (by decide))
  intro J110 hJ110
  refine oneOfX [48, 49] (by simp) (fun a110 w110 => hJ110 _ a110 ?_)
  refine ifP (fun z110 => ?_) (fun z110 => ?_)
  · have q110 : t.dat.op = 48 ∨ t.dat.op = 49 := by simpa using z110
    rcases q110 with q | q
    · rw [tf_iff (node_48 q)]
      refine andC (k88 t false false true (h.exm w110)) (fun p111 x111 e111 => ?_)
      rw [tf_andT p111]
      refine andC (k90 t.dat.names false (h.names.exm (w110.trans e111))) (fun p112 x112 e112 => ?_)
      rw [tf_andT p112]
      exact fun _ _ => by rw [tf_eq]; exact vP h0
    · rw [tf_iff (node_49 q)]
      refine andC (k88 t false false true (h.exm w110)) (fun p113 x113 e113 => ?_)
      rw [tf_andT p113]
      refine andC (k90 t.dat.names false (h.names.exm (w110.trans e113))) (fun p114 x114 e114 => ?_)
      rw [tf_andT p114]
      exact fun _ _ => by rw [tf_eq]; exact vP h0
  have z110 : ¬ t.dat.op = 48 ∧ ¬ t.dat.op = 49 := by simpa using z110
  have q : t.dat.op = 50 := by omega
  rw [tf_iff (node_50 q)]
  refine andC (k88 t false true false (h.exm w110)) (fun p115 x115 e115 => ?_)
  rw [tf_andT p115]
  refine andC (k96 t.dat.s _) (fun p116 x116 e116 => ?_)
  rw [tf_andT p116]
  intro y117 n117
  exact endC (k92l t [3, 0] (h.exm ((w110.trans e115).trans e116)) n117 (by decide))
theorem k81 (t : Sy) (w : Bool) {na : Option Addr} {nn nc : Nat} {a : Option Addr} {n c : Nat} {g : G} (h : SynI g t na nn nc a n c) (hs : t.dat.s.length ≤ 1048576) (hR : (61 ≤ t.dat.op ∧ t.dat.op ≤ 66) ∨ (71 ≤ t.dat.op ∧ t.dat.op ≤ 74)) :
    CallsP Tryd.prog 81 #[synV t na nn nc a n c] g fun v _ => v = .bool (tf (nodeP t.dat t.kids w)) := by
  refine call81 _ _ _ _ _ _ _ _ _ g _ ?_
  have hl := h.kids.len
  have hnl := h.names.len
  have hcp := h.kids.le
  have hmx := h.kids.cap
  unfold maxLen at hmx
  have h0 : ((n : Nat) : Int) = 0 ↔ t.kids = [] := by
    rw [← hl]
    cases t.kids with
    | nil => simp
    | cons x r => simp; omega
  unfold F81
  refine ifEq (fun q => ?_) (fun z118 => ?_)
  · rw [tf_iff (node_61 q)]
    intro a119 w119
    refine andC (k88 t false true false (h.exm ((Ex.refl g).trans w119))) (fun p120 x120 e120 => ?_)
    rw [tf_andT p120]
    refine andC (k93 t.dat.s _) (fun p121 x121 e121 => ?_)
    rw [tf_andT p121]
    intro y122 n122
    exact endC (k92l t [1] (h.exm ((((Ex.refl g).trans w119).trans e120).trans e121)) n122 (by decide))
  refine ifEq (fun q => ?_) (fun z123 => ?_)
  · rw [tf_iff (node_62 q)]
    intro a124 w124
    refine andC (k88 t false true true (h.exm ((Ex.refl g).trans w124))) (fun p125 x125 e125 => ?_)
    rw [tf_andT p125]
    refine andC (k93 t.dat.s _) (fun p126 x126 e126 => ?_)
    rw [tf_andT p126]
    refine andC (k95 t.dat.names (h.names.exm ((((Ex.refl g).trans w124).trans e125).trans e126))) (fun p127 x127 e127 => ?_)
    rw [tf_andT p127]
    exact fun _ _ => by rw [tf_eq]; exact vP h0
  intro J128 hJ128
  refine oneOfX [63, 64] (by simp) (fun a128 w128 => hJ128 _ a128 ?_)
  refine ifP (fun z128 => ?_) (fun z128 => ?_)
  · have q128 : t.dat.op = 63 ∨ t.dat.op = 64 := by simpa using z128
    rcases q128 with q | q
    · rw [tf_iff (node_63 q)]
      refine andC (k88 t false true false (h.exm w128)) (fun p129 x129 e129 => ?_)
      rw [tf_andT p129]
      refine andC (k96 t.dat.s _) (fun p130 x130 e130 => ?_)
      rw [tf_andT p130]
      intro y131 n131
      exact endC (k92l t [6] (h.exm ((w128.trans e129).trans e130)) n131 (by decide))
    · rw [tf_iff (node_64 q)]
      refine andC (k88 t false true false (h.exm w128)) (fun p132 x132 e132 => ?_)
      rw [tf_andT p132]
      refine andC (k96 t.dat.s _) (fun p133 x133 e133 => ?_)
      rw [tf_andT p133]
      intro y134 n134
      exact endC (k92l t [6] (h.exm ((w128.trans e132).trans e133)) n134 (by decide))
  have z128 : ¬ t.dat.op = 63 ∧ ¬ t.dat.op = 64 := by simpa using z128
  refine ifEq (fun q => ?_) (fun z135 => ?_)
  · rw [tf_iff (node_65 q)]
    refine andC (k88 t false false false (h.exm w128)) (fun p136 x136 e136 => ?_)
    rw [tf_andT p136]
    intro y137 n137
    exact endC (k92l t [6] (h.exm (w128.trans e136)) n137 (by decide))
  refine ifEq (fun q => ?_) (fun z138 => ?_)
  · rw [tf_iff (node_66 q)]
    refine andC (k88 t false false true (h.exm w128)) (fun p1 g2 w2 => ?_)
    rw [tf_andT p1]
    refine andC (k90 t.dat.names true (h.names.exm (w128.trans w2))) (fun p2 g3 w3 => ?_)
    rw [tf_andT p2]
    refine ifEq (fun p3 => ?_) (fun p3 _ _ => vFl (by omega))
    have hl1 : t.kids.length = 1 := by omega
    rw [tf_andT hl1, tf_iff (and_l (only1 hl1 2))]
    have hk := h.kids.exm ((w128.trans w2).trans w3)
    refine ⟨⟨by omega, by omega⟩, rdO hk 0 rfl (getD_some (by omega)) (ifEq (fun q2 => ⟨⟨by omega, by omega⟩, ?_⟩) (fun q2 _ _ => vFl q2))⟩
    rw [tf_andT q2]
    refine rdA hk 0 rfl (getD_some (by omega)) (fun ad na' nn' nc' ka kn kc hI hcell => ⟨ka, kn, kc, (hcell _ (Le.refl _)).2.2.2.2, fun _ _ => ?_⟩)
    rw [tf_eq]
    have hkl := hI.kids.len
    refine vP ?_
    rw [← hkl]
    cases (t.kids.getD 0 noSy).kids with
    | nil => simp
    | cons x r => simp; omega
  refine ifEq (fun q => ?_) (fun z139 => ?_)
  · rw [tf_iff (node_71 q)]
    refine andC (k88 t false false false (h.exm w128)) (fun p140 x140 e140 => ?_)
    rw [tf_andT p140]
    exact endC (k91a t 5 (by decide) (h.exm (w128.trans e140)))
  refine ifEq (fun q => ?_) (fun z141 => ?_)
  · rw [tf_iff (node_72 q)]
    refine andC (k88 t false false true (h.exm w128)) (fun p142 x142 e142 => ?_)
    rw [tf_andT p142]
    refine andC (k90 t.dat.names false (h.names.exm (w128.trans e142))) (fun p143 x143 e143 => ?_)
    rw [tf_andT p143]
    exact fun _ _ => by rw [tf_eq]; exact vP h0
  refine ifEq (fun q => ?_) (fun z144 => ?_)
  · rw [tf_iff (node_73 q)]
    refine andC (k88 t true true false (h.exm w128)) (fun p145 x145 e145 => ?_)
    rw [tf_andT p145]
    refine ifEq (fun p146 => ?_) (fun p146 => ifEq (fun q146 => ?_) (fun q146 _ _ => vFl (by omega)))
    · rw [tf_andT (show t.dat.n = 0 ∨ t.dat.n = 1 by omega)]
      refine andC (k96 t.dat.s _) (fun p147 x147 e147 => ?_)
      rw [tf_andT p147]
      intro y148 n148
      exact endC (k92l t [6, 6] (h.exm ((w128.trans e145).trans e147)) n148 (by decide))
    · rw [tf_andT (show t.dat.n = 0 ∨ t.dat.n = 1 by omega)]
      refine andC (k96 t.dat.s _) (fun p149 x149 e149 => ?_)
      rw [tf_andT p149]
      intro y150 n150
      exact endC (k92l t [6, 6] (h.exm ((w128.trans e145).trans e149)) n150 (by decide))
  have q : t.dat.op = 74 := by omega
  rw [tf_iff (node_74 q)]
  refine andC (k88 t false false true (h.exm w128)) (fun p1 g2 w2 => ?_)
  rw [tf_andT p1]
  refine andC (k90 t.dat.names true (h.names.exm (w128.trans w2))) (fun p2 g3 w3 => ?_)
  rw [tf_andT p2]
  refine ifEq (fun p3 => ?_) (fun p3 _ _ => vFl (by omega))
  have hl1 : t.kids.length = 2 := by omega
  rw [tf_andT hl1]
  refine andC (k91f t 6 (by decide) (h.exm ((w128.trans w2).trans w3)) (by omega)) (fun p4 g4 w4 => ?_)
  rw [tf_andT p4, tf_iff (and_l (only2 hl1 43))]
  have hk := h.kids.exm (((w128.trans w2).trans w3).trans w4)
  refine ⟨⟨by omega, by omega⟩, rdO hk 1 rfl (getD_some (by omega)) (ifEq (fun q2 => ⟨⟨by omega, by omega⟩, ?_⟩) (fun q2 _ _ => vFl q2))⟩
  rw [tf_andT q2]
  refine rdStr hk 1 rfl (getD_some (by omega)) (fun _ _ => ?_)
  rw [show bs [] = bstr [] from rfl, strEq_bstr]
theorem k82 (t : Sy) (w : Bool) {na : Option Addr} {nn nc : Nat} {a : Option Addr} {n c : Nat} {g : G} (h : SynI g t na nn nc a n c) (hs : t.dat.s.length ≤ 1048576) (hR : 81 ≤ t.dat.op ∧ t.dat.op ≤ 88) :
    CallsP Tryd.prog 82 #[synV t na nn nc a n c] g fun v _ => v = .bool (tf (nodeP t.dat t.kids w)) := by
  refine call82 _ _ _ _ _ _ _ _ _ g _ ?_
  have hl := h.kids.len
  have hnl := h.names.len
  have hcp := h.kids.le
  have hmx := h.kids.cap
  unfold maxLen at hmx
  have h0 : ((n : Nat) : Int) = 0 ↔ t.kids = [] := by
    rw [← hl]
    cases t.kids with
    | nil => simp
    | cons x r => simp; omega
  unfold F82
  refine ifEq (fun q => ?_) (fun z151 => ?_)
  · rw [tf_iff (node_81 q)]
    intro a152 w152
    refine andC (k88 t false false false (h.exm ((Ex.refl g).trans w152))) (fun p153 x153 e153 => ?_)
    rw [tf_andT p153]
    exact endC (k91a t 4 (by decide) (h.exm (((Ex.refl g).trans w152).trans e153)))
  refine ifEq (fun q => ?_) (fun z154 => ?_)
  · rw [tf_iff (node_82 q)]
    intro a155 w155
    refine andC (k88 t false false true (h.exm ((Ex.refl g).trans w155))) (fun p156 x156 e156 => ?_)
    rw [tf_andT p156]
    refine andC (k90 t.dat.names false (h.names.exm (((Ex.refl g).trans w155).trans e156))) (fun p157 x157 e157 => ?_)
    rw [tf_andT p157]
    exact fun _ _ => by rw [tf_eq]; exact vP h0
  refine ifEq (fun q => ?_) (fun z158 => ?_)
  · rw [tf_iff (node_83 q)]
    intro a159 w159
    refine andC (k88 t true true false (h.exm ((Ex.refl g).trans w159))) (fun p160 x160 e160 => ?_)
    rw [tf_andT p160]
    refine ifEq (fun p161 => ?_) (fun p161 => ifEq (fun q161 => ?_) (fun q161 _ _ => vFl (by omega)))
    · rw [tf_andT (show t.dat.n = 0 ∨ t.dat.n = 1 by omega)]
      refine andC (k96 t.dat.s _) (fun p162 x162 e162 => ?_)
      rw [tf_andT p162]
      intro y163 n163
      exact endC (k92l t [6, 7] (h.exm ((((Ex.refl g).trans w159).trans e160).trans e162)) n163 (by decide))
    · rw [tf_andT (show t.dat.n = 0 ∨ t.dat.n = 1 by omega)]
      refine andC (k96 t.dat.s _) (fun p164 x164 e164 => ?_)
      rw [tf_andT p164]
      intro y165 n165
      exact endC (k92l t [6, 7] (h.exm ((((Ex.refl g).trans w159).trans e160).trans e164)) n165 (by decide))
  refine ifEq (fun q => ?_) (fun z166 => ?_)
  · rw [tf_iff (node_84 q)]
    intro a167 w167
    refine andC (k88 t false false false (h.exm ((Ex.refl g).trans w167))) (fun p168 x168 e168 => ?_)
    rw [tf_andT p168]
    intro y169 n169
    exact endC (k92l t [7, 7] (h.exm (((Ex.refl g).trans w167).trans e168)) n169 (by decide))
  intro J170 hJ170
  refine oneOfX [85, 86] (by simp) (fun a170 w170 => hJ170 _ a170 ?_)
  refine ifP (fun z170 => ?_) (fun z170 => ?_)
  · have q170 : t.dat.op = 85 ∨ t.dat.op = 86 := by simpa using z170
    rcases q170 with q | q
    · rw [tf_iff (node_85 q)]
      refine andC (k88 t false false false (h.exm w170)) (fun p171 x171 e171 => ?_)
      rw [tf_andT p171]
      intro y172 n172
      exact endC (k92l t [7, 6] (h.exm (w170.trans e171)) n172 (by decide))
    · rw [tf_iff (node_86 q)]
      refine andC (k88 t false false false (h.exm w170)) (fun p173 x173 e173 => ?_)
      rw [tf_andT p173]
      intro y174 n174
      exact endC (k92l t [7, 6] (h.exm (w170.trans e173)) n174 (by decide))
  have z170 : ¬ t.dat.op = 85 ∧ ¬ t.dat.op = 86 := by simpa using z170
  refine ifEq (fun q => ?_) (fun z175 => ?_)
  · rw [tf_iff (node_87 q)]
    refine andC (k88 t false false false (h.exm w170)) (fun p1 g2 w2 => ?_)
    rw [tf_andT p1]
    refine ifLe (fun p2 => ⟨i64 (by omega) (by omega), ?_⟩) (fun p2 _ _ => vFl (by omega))
    rw [tf_andT (show 1 ≤ ((t.kids.length : Nat) : Int) by omega)]
    refine andC (k91i t 4 (by decide) (h.exm (w170.trans w2)) (by omega)) (fun p3 g3 w3 => ⟨i64 (by omega) (by omega), ?_⟩)
    rw [tf_andT p3]
    exact endC (k91z t 7 (by decide) (h.exm ((w170.trans w2).trans w3)) (by omega))
  have q : t.dat.op = 88 := by omega
  rw [tf_iff (node_88 q)]
  refine andC (k88 t false false false (h.exm w170)) (fun p176 x176 e176 => ?_)
  rw [tf_andT p176]
  intro y177 n177
  exact endC (k92l t [3, 0] (h.exm (w170.trans e176)) n177 (by decide))
end Go.Proofs.YtmakoecgogjemaaDoor
