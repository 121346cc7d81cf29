/- Syntax trees: that the package is awake; the laws of Valid, of Paths, and of the sizes. -/
import Derived.Test.YtmakoecgogjemaaDoorC03o
import Derived.Test.YtmakoecgogjemaaDoorVop
import Derived.Lib.LaidU8
set_option linter.unusedVariables false
set_option maxRecDepth 20000
namespace Go.Proofs.YtmakoecgogjemaaDoor
open Go Go.Vc Go.RowKit Go.Syn Go.ChangeShapes Go.WideShapes Go.ChangeAt

/-- An example. -/
def exY : Sy := .mk ⟨23, 0, [], [[120]]⟩ []
def exZ : Sy := .mk ⟨21, 1, [], []⟩ []
def exX : Sy := .mk ⟨32, 7, [], []⟩ [exY, exZ]
def exT : Sy := .mk ⟨25, 0, [120], []⟩ [exX]
theorem low120 : lowerP [120] := by
  refine ⟨⟨by decide, by decide, ?_⟩, ?_, by decide⟩
  · intro c hc
    simp only [List.mem_cons, List.not_mem_nil, or_false] at hc
    subst hc
    exact .inl ⟨by decide, by decide⟩
  · exact ⟨by decide, by decide⟩
theorem ex_paths : pathsT exT = [[[120]]] := by decide +kernel
theorem ex_ok : okT exT := by simp [exT, exX, exY, exZ, okT, okL, okD]
theorem bel3 {op : Int} (h : catN op = 3) : belP 3 op := .inr ⟨by omega, h⟩
theorem ex_formed : formedP exT := by
  have c23 : catN 23 = 3 := by decide
  have c21 : catN 21 = 3 := by decide
  have c32 : catN 32 = 3 := by decide
  unfold formedP
  refine walk_iff.2 ⟨by omega, ⟨by simp [exT, bareP, usesN, usesS, usesL, Tr.dat], by simp [exT, ownB, Tr.dat, low120]⟩, by simp [exT, exX, shapeP, partsP, Tr.dat, Tr.kids, bel3 c32], ?_⟩
  intro x hx
  simp only [exT, Tr.kids, List.mem_cons, List.not_mem_nil, or_false] at hx
  subst hx
  refine walk_iff.2 ⟨by omega, ⟨by simp [exX, bareP, usesN, usesS, usesL, Tr.dat], by simp [exX, ownB, Tr.dat]⟩, by simp [exX, exY, exZ, shapeP, partsP, Tr.dat, Tr.kids, bel3 c23, bel3 c21], ?_⟩
  intro x hx
  simp only [exX, Tr.kids, List.mem_cons, List.not_mem_nil, or_false] at hx
  rcases hx with rfl | rfl
  · exact walk_iff.2 ⟨by omega, ⟨by simp [exY, bareP, usesN, usesS, usesL, Tr.dat], by simp [exY, ownB, Tr.dat, pathP, low120]⟩, by simp [exY, shapeP, Tr.dat, Tr.kids], by simp [exY, Tr.kids]⟩
  · exact walk_iff.2 ⟨by omega, ⟨by simp [exZ, bareP, usesN, usesS, usesL, Tr.dat], by simp [exZ, ownB, Tr.dat]⟩, by simp [exZ, shapeP, Tr.dat, Tr.kids], by simp [exZ, Tr.kids]⟩
theorem ex_val3 : validP 3 exT := ⟨bel3 (by decide), ex_formed⟩
theorem ex_val1 : ¬ validP 1 exT := by
  rintro ⟨h, _⟩
  rcases h with ⟨h, _⟩ | ⟨_, h⟩
  · omega
  · revert h; decide
/-- awake. -/
theorem k9 (g : G) (ht : TabG g) : CallsP Tryd.prog 9 #[] g fun v _ => v = .bool true := by
  refine call9 g _ ?_
  unfold F9
  intro g1 n1 g2 n2 g3 n3 g4 m4
  have m14 : Ex g1 g4 := n2.ex.trans (n3.ex.trans m4)
  have m24 : Ex g2 g4 := n3.ex.trans m4
  have hs : SlE strE g1 (some ⟨g.w.heap.size, 0, none⟩) 1 1 [[120]] := n1.sle (E := strE) (xs := [[120]]) (Rws.single rfl) (by unfold maxLen; simp)
  have hY : SynI g1 exY (some ⟨g.w.heap.size, 0, none⟩) 1 1 none 0 0 := ⟨hs, SlE.zero _⟩
  have hZ : SynI g1 exZ none 0 0 none 0 0 := ⟨SlE.zero _, SlE.zero _⟩
  have hk2 : SlE synE g2 (some ⟨g1.w.heap.size, 0, none⟩) 2 2 [exY, exZ] := n2.sle (E := synE) (xs := [exY, exZ]) ((Rws.single hY.rep).append (Rws.single hZ.rep)) (by unfold maxLen; simp)
  have hX : SynI g2 exX none 0 0 (some ⟨g1.w.heap.size, 0, none⟩) 2 2 := ⟨SlE.zero _, hk2⟩
  have hk3 : SlE synE g3 (some ⟨g2.w.heap.size, 0, none⟩) 1 1 [exX] := n3.sle (E := synE) (xs := [exX]) (Rws.single hX.rep) (by unfold maxLen; simp)
  have hT : SynI g4 exT none 0 0 (some ⟨g2.w.heap.size, 0, none⟩) 1 1 := ⟨SlE.zero _, hk3.exm m4⟩
  have ht4 : TabG g4 := ht.exm (n1.ex.trans m14)
  have hsz : size exT = 4 := by decide
  have hdp : depth exT = 3 := by decide
  have hcat : catN exT.dat.op ≠ 0 := by decide
  refine (k19 exT ex_ok (by omega) ht4 hT).mono ?_
  rintro v g5 m5 ⟨oa, on, oc, h⟩
  rcases h with ⟨rfl, hP, _⟩ | ⟨_, _, hn⟩
  · rw [ex_paths] at hP
    have hln := hP.len
    have hon : on = 1 := by simpa using hln.symm
    subst hon
    refine ⟨oa, 1, oc, 0, rfl, (k11 3 exT ex_ok (by omega) (ht4.exm m5) (hT.exm m5)).mono ?_⟩
    rintro v g6 m6 rfl
    rw [tf_of ex_val3]
    have m56 := m5.trans m6
    refine ⟨_, rfl, ifT (fun _ => (k11 1 exT ex_ok (by omega) (ht4.exm m56) (hT.exm m56)).mono ?_) (fun hh => by cases hh)⟩
    rintro v g7 m7 rfl
    rw [tf_no ex_val1]
    have m57 := m56.trans m7
    refine ⟨_, rfl, ifF (fun _ => (k17 exT (by omega) (hT.exm m57)).mono ?_) (fun hh => by cases hh)⟩
    rintro v g8 m8 rfl
    have m58 := m57.trans m8
    rw [hsz]
    refine ⟨_, rfl, ifEq (fun _ => (k18 exT (by omega) (hT.exm m58)).mono ?_) (fun hh => absurd rfl hh)⟩
    rintro v g9 m9 rfl
    have m59 := m58.trans m9
    rw [hdp]
    refine ⟨_, rfl, ifEq (fun _ => ifEq (fun _ => ifEq (fun _ => ?_) (fun hh => absurd rfl hh)) (fun hh => absurd rfl hh)) (fun hh => absurd rfl hh)⟩
    refine ⟨⟨by omega, by omega⟩, rdL (hP.exm (m6.trans (m7.trans (m8.trans m9)))) 0 rfl (x := [[120]]) rfl (fun xa xl xc hx g10 n10 => ?_)⟩
    have hr : SlE strE g10 (some ⟨g9.w.heap.size, 0, none⟩) 1 1 [[120]] := n10.sle (E := strE) (xs := [[120]]) (Rws.single rfl) (by unfold maxLen; simp)
    refine (k30 [[120]] [[120]] (hx.exm n10.ex) hr).mono ?_
    rintro v g11 _ rfl
    exact ⟨_, rfl, fun g12 _ => (vT rfl).symm⟩
  · exact absurd ⟨hcat, ex_formed⟩ hn
/-! ### The laws -/
theorem law3 (cat : Int) (t : Sy) (op : Int) {na : Option Addr} {nn nc : Nat} {a : Option Addr} {n c : Nat} {g : G} (ht : TabG g) (h : SynI g t na nn nc a n c) :
    CallsP Tryd.prog 3 #[.int .i64 cat, synV t na nn nc a n c, .int .i64 op] g fun v _ => v = .bool true := by
  refine call3 cat _ _ _ _ _ _ _ _ _ op g _ ?_
  unfold F3
  refine fun g1 m1 => (k9 g1 (ht.exm m1)).mono ?_
  rintro v g2 m2 rfl
  have m02 := m1.trans m2
  refine ⟨_, rfl, ifF (fun hh => by cases hh) (fun _ => (k10 t (h.exm m02)).mono ?_)⟩
  rintro v g4 m4 ⟨b, rfl, hb⟩
  have m04 := m02.trans m4
  refine ⟨_, rfl, ifF (fun q g5 _ => rfl) (fun q g6 m6 => ?_)⟩
  obtain ⟨hsz, hok⟩ := hb q
  have m06 := m04.trans m6
  refine (k11 cat t hok (by omega) (ht.exm m06) (h.exm m06)).mono ?_
  rintro v g7 m7 rfl
  have m07 := m06.trans m7
  refine ⟨_, rfl, (k12 cat t hok (by omega) (h.exm m07)).mono ?_⟩
  rintro v g8 m8 rfl
  refine ⟨_, rfl, ifT (fun _ => (k13 op g8).mono ?_) (fun hh => by simp at hh)⟩
  rintro v g9 _ rfl
  refine ⟨_, rfl, (k14 op g9).mono ?_⟩
  rintro v g10 _ rfl
  exact ⟨_, rfl, fun g11 _ => by rw [eqI_true.mpr rfl]⟩
theorem law5 (t : Sy) {na : Option Addr} {nn nc : Nat} {a : Option Addr} {n c : Nat} {g : G} (ht : TabG g) (h : SynI g t na nn nc a n c) :
    CallsP Tryd.prog 5 #[synV t na nn nc a n c] g fun v _ => v = .bool true := by
  refine call5 _ _ _ _ _ _ _ _ _ g _ ?_
  unfold F5
  refine fun g1 m1 => (k9 g1 (ht.exm m1)).mono ?_
  rintro v g2 m2 rfl
  have m02 := m1.trans m2
  refine ⟨_, rfl, ifF (fun hh => by cases hh) (fun _ => (k10 t (h.exm m02)).mono ?_)⟩
  rintro v g4 m4 ⟨b, rfl, hb⟩
  have m04 := m02.trans m4
  refine ⟨_, rfl, ifF (fun q g5 _ => rfl) (fun q => ?_)⟩
  obtain ⟨hsz, hok⟩ := hb q
  refine (k19 t hok (by omega) (ht.exm m04) (h.exm m04)).mono ?_
  rintro v g6 m6 ⟨oa, on, oc, hh⟩
  have m06 := m04.trans m6
  rcases hh with ⟨rfl, hP, hc, hf⟩ | ⟨rfl, rfl, hn⟩
  · refine ⟨_, _, _, _, rfl, (k20 t hok (by omega) (h.exm m06)).mono ?_⟩
    rintro v g7 m7 rfl
    have m07 := m06.trans m7
    refine ⟨_, rfl, ifPn (fun q2 => absurd ⟨hc, hf⟩ q2) (fun _ => ifEq (fun _ => (k22 t (by omega) (h.exm m07)).mono ?_) (fun hh => absurd rfl hh))⟩
    rintro v g10 m10 ⟨xa, xl, xc, rfl, hQ⟩
    refine ⟨_, _, _, rfl, (k21 _ _ (hP.exm (m7.trans m10)) hQ).mono ?_⟩
    rintro v g11 _ rfl
    exact ⟨_, rfl, fun g12 _ => (vT rfl).symm⟩
  · refine ⟨_, _, _, _, rfl, (k20 t hok (by omega) (h.exm m06)).mono ?_⟩
    rintro v g7 m7 rfl
    refine ⟨_, rfl, ifPn (fun q2 => ifEq (fun _ g8 _ => by rw [eqI_true.mpr rfl]) (fun hh => absurd rfl hh)) (fun q2 => absurd q2 hn)⟩
theorem law6 (t u : Sy) {na : Option Addr} {nn nc : Nat} {a : Option Addr} {n c : Nat} {na' : Option Addr} {nn' nc' : Nat} {a' : Option Addr} {n' c' : Nat} {g : G} (ht : TabG g) (h : SynI g t na nn nc a n c) (hu : SynI g u na' nn' nc' a' n' c') :
    CallsP Tryd.prog 6 #[synV t na nn nc a n c, synV u na' nn' nc' a' n' c'] g fun v _ => v = .bool true := by
  refine call6 _ _ _ _ _ _ _ _ _ _ _ _ _ _ _ _ _ _ g _ ?_
  unfold F6
  refine fun g1 m1 => (k9 g1 (ht.exm m1)).mono ?_
  rintro v g2 m2 rfl
  have m02 := m1.trans m2
  refine ⟨_, rfl, ifF (fun hh => by cases hh) (fun _ => ?_)⟩
  intro J hJ
  have main : ∀ g4, Ex g g4 → size t ≤ 4500 → size u ≤ 4500 → J g4 := by
    intro g4 m4 h1 h2
    refine hJ g4 (fun g5 m5 => ?_)
    have m05 := m4.trans m5
    refine (k17 t (by omega) (h.exm m05)).mono ?_
    rintro v g6 m6 rfl
    have m06 := m05.trans m6
    refine ⟨_, rfl, (k23 t (by omega) (h.exm m06)).mono ?_⟩
    rintro v g7 m7 rfl
    have m07 := m06.trans m7
    refine ⟨_, rfl, ifEq (fun _ => (k18 t (by omega) (h.exm m07)).mono ?_) (fun hh => absurd rfl hh)⟩
    rintro v g8 m8 rfl
    have m08 := m07.trans m8
    refine ⟨_, rfl, (k24 t (by omega) (h.exm m08)).mono ?_⟩
    rintro v g9 m9 rfl
    have m09 := m08.trans m9
    refine ⟨_, rfl, ifEq (fun _ => (k25 t u (h.exm m09) (hu.exm m09)).mono ?_) (fun hh => absurd rfl hh)⟩
    rintro v g10 m10 rfl
    have m010 := m09.trans m10
    refine ⟨_, rfl, (k26 t u (h.exm m010) (hu.exm m010)).mono ?_⟩
    rintro v g11 m11 rfl
    have m011 := m010.trans m11
    refine ⟨_, rfl, ifT (fun _ => (k25 u u (hu.exm m011) (hu.exm m011)).mono ?_) (fun hh => by simp at hh)⟩
    rintro v g12 _ rfl
    exact ⟨_, rfl, fun g13 _ => (vT rfl).symm⟩
  refine (k10 t (h.exm m02)).mono ?_
  rintro v g17 m17 ⟨b, rfl, hb⟩
  have m017 := m02.trans m17
  refine ⟨_, rfl, ifF (fun _ g18 _ => rfl) (fun q => (k10 u (hu.exm m017)).mono ?_)⟩
  rintro v g19 m19 ⟨b2, rfl, hb2⟩
  exact ⟨_, rfl, ifF (fun _ g20 _ => rfl) (fun q2 => main g19 (m017.trans m19) (hb q).1 (hb2 q2).1)⟩
/-! ### From the arguments -/
theorem cells3 : Tryd.prog.cellsOf 3 = 1 := by kernel_rfl
theorem cells9 : Tryd.prog.cellsOf 9 = 1 := by kernel_rfl
theorem cells22 : Tryd.prog.cellsOf 22 = 1 := by kernel_rfl
theorem cells23 : Tryd.prog.cellsOf 23 = 1 := by kernel_rfl
theorem cells25 : Tryd.prog.cellsOf 25 = 5 := by kernel_rfl
section
variable {H : Type} {enc : TypeId × Value → H} {w : World} {base : Nat} {spare : Nat → Bool} {held : Bool}
theorem one_str (n : Nat) (cs : List Value) (y : DataW H × List MemPlace) (hl : cs.length = 1) (h : DataW.trod enc Tryd.prog w base spare held n 9 cs = some y) : ∃ x, strE.rep (G.at0 w) cs x := by
  obtain ⟨c0, rfl⟩ : ∃ c, cs = [c] := List.length_eq_one_iff.1 hl
  obtain ⟨s, rfl⟩ := open_strC Tryd.underlying9 h
  exact ⟨s.data.toList, rfl⟩
theorem one_syn : ∀ (k fuel : Nat), fuel ≤ k → ∀ (cs : List Value) (y : DataW H × List MemPlace), cs.length = 5 → DataW.trod enc Tryd.prog w base spare held fuel 25 cs = some y → ∃ x, synE.rep (G.at0 w) cs x := by
  intro k
  induction k with
  | zero =>
    intro fuel hf cs y hl h
    obtain ⟨xs, n, hn, _⟩ := DataW.trod_struct Tryd.underlying25 h
    omega
  | succ k ih =>
    intro fuel hf cs y hl h
    obtain ⟨xs, n, hn, _, _, hlen, hfs⟩ := DataW.trod_struct Tryd.underlying25 h
    obtain ⟨c0, c1, c2, c3, c4, rfl⟩ := list5 hl
    obtain ⟨y0, y1, y2, y3, y4, rfl⟩ := list5 hlen
    have h0 : DataW.trod enc Tryd.prog w base spare held n 3 ((([c0, c1, c2, c3, c4] : List Value).drop 0).take (Tryd.prog.cellsOf 3)) = some y0 := hfs 0 _ rfl
    have h1 : DataW.trod enc Tryd.prog w base spare held n 3 ((([c0, c1, c2, c3, c4] : List Value).drop 1).take (Tryd.prog.cellsOf 3)) = some y1 := hfs 1 _ rfl
    have h2 : DataW.trod enc Tryd.prog w base spare held n 9 ((([c0, c1, c2, c3, c4] : List Value).drop 2).take (Tryd.prog.cellsOf 9)) = some y2 := hfs 2 _ rfl
    have h3 : DataW.trod enc Tryd.prog w base spare held n 22 ((([c0, c1, c2, c3, c4] : List Value).drop 3).take (Tryd.prog.cellsOf 22)) = some y3 := hfs 3 _ rfl
    have h4 : DataW.trod enc Tryd.prog w base spare held n 23 ((([c0, c1, c2, c3, c4] : List Value).drop 4).take (Tryd.prog.cellsOf 23)) = some y4 := hfs 4 _ rfl
    rw [cells3] at h0 h1
    rw [cells9] at h2
    rw [cells22] at h3
    rw [cells23] at h4
    obtain ⟨op, rfl, _⟩ := open_intC Tryd.underlying3 (show DataW.trod enc Tryd.prog w base spare held n 3 [c0] = some y0 from h0)
    obtain ⟨nn, rfl, _⟩ := open_intC Tryd.underlying3 (show DataW.trod enc Tryd.prog w base spare held n 3 [c1] = some y1 from h1)
    obtain ⟨s, rfl⟩ := open_strC Tryd.underlying9 (show DataW.trod enc Tryd.prog w base spare held n 9 [c2] = some y2 from h2)
    obtain ⟨na, nl, nc, names, rfl, hN⟩ := open_sliceE strE Tryd.underlying22 cells9 one_str (show DataW.trod enc Tryd.prog w base spare held n 22 [c3] = some y3 from h3)
    obtain ⟨la, ll, lc, l, rfl, hL⟩ := open_sliceN synE Tryd.underlying23 cells25 (fun n' hn' cs y hl h => ih n' (by omega) cs y hl h) (show DataW.trod enc Tryd.prog w base spare held n 23 [c4] = some y4 from h4)
    exact ⟨.mk ⟨op, nn, s.data.toList, names⟩ l, SynI.rep (t := .mk ⟨op, nn, s.data.toList, names⟩ l) ⟨hN, hL⟩⟩
theorem open_syn {r : Reach} {b0 : Nat} {v : Value} {d : DataW H} {ps : List MemPlace} (hval : Value.okWide Tryd.prog w r b0 25 v) (hd : DataW.Trod enc Tryd.prog w base spare held 25 v d ps) :
    ∃ t na nn nc a n c, v = synV t na nn nc a n c ∧ SynI (G.at0 w) t na nn nc a n c := by
  obtain ⟨cs, n, y, rfl, hl, h⟩ := open_cells Tryd.underlying25 hval hd
  obtain ⟨x, hx⟩ := one_syn (n + 1) n (by omega) cs y hl h
  obtain ⟨na, nn, nc, la, ln, lc, rfl, hI⟩ := syn_un hx
  exact ⟨x, na, nn, nc, la, ln, lc, rfl, hI⟩
end
end Go.Proofs.YtmakoecgogjemaaDoor
