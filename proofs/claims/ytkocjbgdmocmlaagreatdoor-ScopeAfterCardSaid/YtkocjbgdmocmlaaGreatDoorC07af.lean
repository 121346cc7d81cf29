/- Scope: the examples of the chapter. -/
import Derived.Test.YtkocjbgdmocmlaaGreatDoorC07AD
import Derived.Test.YtkocjbgdmocmlaaGreatDoorSdec
set_option linter.unusedVariables false
namespace Go.Proofs.YtkocjbgdmocmlaaGreatDoor
open Go Go.Vc Go.RowKit Go.Syn

def varS (l : List Lab) : Sy := .mk ⟨23, 0, [], l⟩ []
def appT (a b : Sy) : Sy := .mk ⟨26, 0, [], []⟩ [a, b]
def exB : Sy := appT (appT (varS [[77], [102]]) (varS [[122]])) (varS [[121]])
def exD : Sy := .mk ⟨41, 0, [121], []⟩ [varS [[120]]]
def exF : Sy := .mk ⟨25, 0, [122], []⟩ [exB]
def exT : Sy := .mk ⟨31, 0, [], []⟩ [exD, exF]
def exX : Sy := .mk ⟨12, 0, [120], []⟩ []
def exP : Sy := .mk ⟨15, 0, [], []⟩ [exX, exX]
def exU : List UnitD := [⟨[66], [[65]], []⟩, ⟨[65], [], []⟩]
theorem ex_valid : validP 3 exT := by decide +kernel
theorem ex_free : freeT exT [] = [[118, 97, 108, 46, 120], [109, 111, 100, 46, 77]] := by decide +kernel
theorem ex_sorted : sortS (freeT exT []) = [[109, 111, 100, 46, 77], [118, 97, 108, 46, 120]] := by
  rw [ex_free]
  refine srt_eq (srt_sortS _) ?_ (fun x => ?_)
  · refine List.pairwise_cons.2 ⟨fun y hy => ?_, List.pairwise_singleton _ _⟩
    cases List.mem_singleton.1 hy
    show Op.bytesLess _ _ = true
    decide +kernel
  · rw [mem_sortS]
    simp only [List.mem_cons, List.not_mem_nil, or_false]
    exact Or.comm
theorem ex_ok : okT exT := by simp [exT, exD, exF, exB, appT, varS, okT, okL, okD]
theorem ex_check : checkN 2 exP = 9 := by
  unfold checkN
  rw [if_pos (show validP 2 exP by decide +kernel)]
  unfold chk0
  rw [if_pos]
  exact ⟨rfl, by decide +kernel, by decide +kernel⟩
theorem exP_ok : okT exP := by simp [exP, exX, okT, okL, okD]
theorem ex_order : orderN exU = ([[65], [66]], 0) := by
  unfold orderN
  rw [if_neg (by decide), if_neg (by decide +kernel), if_neg (by decide +kernel), if_neg (by decide +kernel)]
  have h1 : pick exU [] = some [65] := by
    refine pick_some (u := ⟨[65], [], []⟩) (by simp [exU]) ⟨by simp, by simp⟩ (fun v hv hr hlt => ?_)
    simp only [exU, List.mem_cons, List.not_mem_nil, or_false] at hv
    rcases hv with rfl | rfl
    · exact absurd (hr.2 [65] (by simp)) (by simp)
    · exact klt_ne hlt rfl
  have h2 : pick exU [[65]] = some [66] := by
    refine pick_some (u := ⟨[66], [[65]], []⟩) (by simp [exU]) ⟨by decide, by simp⟩ (fun v hv hr hlt => ?_)
    simp only [exU, List.mem_cons, List.not_mem_nil, or_false] at hv
    rcases hv with rfl | rfl
    · exact klt_ne hlt rfl
    · exact absurd (show ([65] : Lab) ∈ [[65]] by simp) hr.1
  show topo exU 2 [] = _
  rw [topo_some h1, List.nil_append, topo_some h2]
  rfl
theorem exU_ok : ∀ u ∈ exU, unitOK u := by
  intro u hu
  simp only [exU, List.mem_cons, List.not_mem_nil, or_false] at hu
  rcases hu with rfl | rfl <;> exact ⟨by simp [sizeL], by simp, by simp⟩
theorem k53 (a : Option Addr) (n c : Nat) (g : G) : CallsP Tryz.prog 53 (#[.slice a n c] ++ #[]) g fun v _ => v = .agg ⟨[.int .i64 23, .int .i64 0, .string (bs []), .slice a n c, .slice none 0 0]⟩ := by
  refine call53 _ _ _ g _ ?_
  unfold F53
  exact fun g1 _ g2 _ => rfl
theorem k54 {g : G} {x y : Sy} {na : Option Addr} {nn nc : Nat} {a : Option Addr} {n c : Nat} {na' : Option Addr} {nn' nc' : Nat} {a' : Option Addr} {n' c' : Nat} (hx : SynI g x na nn nc a n c) (hy : SynI g y na' nn' nc' a' n' c') :
    CallsP Tryz.prog 54 (#[synV x na nn nc a n c, synV y na' nn' nc' a' n' c'] ++ #[]) g fun v g' => ∃ r, v = synV (appT x y) none 0 0 r 2 2 ∧ SynI g' (appT x y) none 0 0 r 2 2 := by
  refine call54 _ _ _ _ _ _ _ _ _ _ _ _ _ _ _ _ _ _ g _ ?_
  unfold F54
  refine fun g1 m1 g2 n2 g3 m3 => ⟨_, rfl, ⟨SlE.zero _, ?_⟩⟩
  exact (n2.sle (E := synE) (xs := [x, y]) ((Rws.single (hx.exm m1).rep).append (Rws.single (hy.exm m1).rep)) (by simp [maxLen])).exm m3
theorem names_row {g g' : G} {K : List Lab} (h : NewL g g' 9 (K.map fun x => .string (bstr x))) (hn : K.length ≤ 100) : SlE strE g' (some ⟨g.w.heap.size, 0, none⟩) K.length K.length K := h.sle (strs_rws g K) (by unfold maxLen; omega)
theorem v_syn {g : G} {l : List Lab} {a : Option Addr} {n c : Nat} (h : SlE strE g a n c l) : SynI g (varS l) a n c none 0 0 := ⟨h, SlE.zero _⟩
/-- awake. -/
theorem k11 (g : G) (ht : TabG g) : CallsP Tryz.prog 11 #[] g fun v _ => v = .bool true := by
  refine call11 g _ ?_
  unfold F11
  have E53 : Go.Vc.Enters Tryz.prog 53 := ⟨_, Tryz.func53, by kernel_rfl, by kernel_rfl⟩
  have E54 : Go.Vc.Enters Tryz.prog 54 := ⟨_, Tryz.func54, by kernel_rfl, by kernel_rfl⟩
  intro g1 n1
  refine ⟨E53, (k53 _ _ _ g1).mono ?_⟩
  rintro v g2 m2 rfl
  refine ⟨_, _, _, _, _, _, _, _, _, rfl, fun g3 n3 g4 n4 => ⟨E53, (k53 _ _ _ g4).mono ?_⟩⟩
  have hx : SynI g2 (varS [[120]]) (some ⟨g.w.heap.size, 0, none⟩) 1 1 none 0 0 := v_syn ((names_row (K := [[120]]) n1 (by decide)).exm m2)
  have hxr : SlE synE g3 (some ⟨g2.w.heap.size, 0, none⟩) 1 1 [varS [[120]]] := n3.sle (E := synE) (xs := [varS [[120]]]) (Rws.single hx.rep) (by simp [maxLen])
  rintro v g5 m5 rfl
  have hmf : SynI g5 (varS [[77], [102]]) (some ⟨g3.w.heap.size, 0, none⟩) 2 2 none 0 0 := v_syn ((names_row (K := [[77], [102]]) n4 (by decide)).exm m5)
  refine ⟨_, _, _, _, _, _, _, _, _, rfl, fun g6 n6 => ⟨E53, (k53 _ _ _ g6).mono ?_⟩⟩
  rintro v g7 m7 rfl
  have hz : SynI g7 (varS [[122]]) (some ⟨g5.w.heap.size, 0, none⟩) 1 1 none 0 0 := v_syn ((names_row (K := [[122]]) n6 (by decide)).exm m7)
  refine ⟨_, _, _, _, _, _, _, _, _, rfl, E54, (k54 (hmf.exm (n6.ex.trans m7)) hz).mono ?_⟩
  rintro v g8 m8 ⟨r1, rfl, h1⟩
  refine ⟨_, _, _, _, _, _, _, _, _, rfl, fun g9 n9 => ⟨E53, (k53 _ _ _ g9).mono ?_⟩⟩
  rintro v g10 m10 rfl
  have hy : SynI g10 (varS [[121]]) (some ⟨g8.w.heap.size, 0, none⟩) 1 1 none 0 0 := v_syn ((names_row (K := [[121]]) n9 (by decide)).exm m10)
  refine ⟨_, _, _, _, _, _, _, _, _, rfl, E54, (k54 (h1.exm (n9.ex.trans m10)) hy).mono ?_⟩
  rintro v g11 m11 ⟨r2, rfl, h2⟩
  refine ⟨_, _, _, _, _, _, _, _, _, rfl, fun g12 n12 g13 n13 g14 m14 => ?_⟩
  have hbr : SlE synE g12 (some ⟨g11.w.heap.size, 0, none⟩) 1 1 [exB] := n12.sle (E := synE) (xs := [exB]) (Rws.single (SynI.rep (t := exB) h2)) (by simp [maxLen])
  have m312 : Ex g3 g12 := (((((((n4.ex.trans m5).trans n6.ex).trans m7).trans m8).trans n9.ex).trans m10).trans m11).trans n12.ex
  have hd : SynI g12 exD none 0 0 (some ⟨g2.w.heap.size, 0, none⟩) 1 1 := ⟨SlE.zero _, hxr.exm m312⟩
  have hf : SynI g12 exF none 0 0 (some ⟨g11.w.heap.size, 0, none⟩) 1 1 := ⟨SlE.zero _, hbr⟩
  have htr : SynI g14 exT none 0 0 (some ⟨g12.w.heap.size, 0, none⟩) 2 2 := ⟨SlE.zero _, (n13.sle (E := synE) (xs := [exD, exF]) ((Rws.single hd.rep).append (Rws.single hf.rep)) (by simp [maxLen])).exm m14⟩
  have m014 : Ex g g14 := ((((n1.ex.trans m2).trans n3.ex).trans m312).trans n13.ex).trans m14
  refine (k13 3 exT ex_ok (by decide) (ht.exm m014) htr).mono ?_
  rintro v g15 m15 (⟨hh, _⟩ | ⟨_, oa, on, oc, rfl, ho⟩)
  · exact absurd ex_valid hh
  refine ⟨_, _, _, _, rfl, fun g16 m16 g17 n17 g18 n18 => ?_⟩
  have hA : SlE strE g17 (some ⟨g16.w.heap.size, 0, none⟩) 1 1 [[65]] := names_row (K := [[65]]) n17 (by decide)
  have hU : SlE unitE g18 (some ⟨g17.w.heap.size, 0, none⟩) 2 2 exU := by
    refine n18.sle (E := unitE) (xs := exU) ((Rws.single (r := [.string (bs [66]), .slice (some ⟨g16.w.heap.size, 0, none⟩) 1 1, .slice none 0 0]) ?_).append (Rws.single (r := [.string (bs [65]), .slice none 0 0, .slice none 0 0]) ?_)) (by simp [exU, maxLen])
    · exact ⟨_, _, _, _, _, _, rfl, hA, SlE.zero _⟩
    · exact ⟨_, _, _, _, _, _, rfl, SlE.zero _, SlE.zero _⟩
  have m018 : Ex g g18 := (((m014.trans m15).trans m16).trans n17.ex).trans n18.ex
  refine (k28 exU_ok (ht.exm m018) hU).mono ?_
  rintro v g19 m19 ⟨pa, pn, pc, rfl, hp⟩
  rw [ex_order] at hp ⊢
  refine ⟨_, _, _, _, rfl, fun g20 n20 => ?_⟩
  have h20 : SlE strE g20 (some ⟨g19.w.heap.size, 0, none⟩) 2 2 [[109, 111, 100, 46, 77], [118, 97, 108, 46, 120]] := names_row (K := [[109, 111, 100, 46, 77], [118, 97, 108, 46, 120]]) n20 (by decide)
  have m1520 : Ex g15 g20 := (((m16.trans n17.ex).trans n18.ex).trans m19).trans n20.ex
  rw [ex_sorted] at ho
  refine (kk21 _ _ (ho.exm m1520) h20).mono ?_
  rintro v g21 m21 rfl
  refine ⟨_, rfl, ifP (fun _ => ifEq (fun _ g22 n22 => ?_) (fun hh => absurd rfl hh)) (fun hh => absurd rfl hh)⟩
  have hxx : SynI g21 exX none 0 0 none 0 0 := ⟨SlE.zero _, SlE.zero _⟩
  have hP : SynI g22 exP none 0 0 (some ⟨g21.w.heap.size, 0, none⟩) 2 2 := ⟨SlE.zero _, n22.sle (E := synE) (xs := [exX, exX]) ((Rws.single hxx.rep).append (Rws.single hxx.rep)) (by simp [maxLen])⟩
  have m022 : Ex g g22 := (((m018.trans m19).trans n20.ex).trans m21).trans n22.ex
  refine (k23 2 exP exP_ok (by decide) (ht.exm m022) hP).mono ?_
  rintro v g23 m23 rfl
  rw [ex_check]
  refine ⟨_, rfl, ifEq (fun _ g24 n24 => ?_) (fun hh => absurd rfl hh)⟩
  have h24 : SlE strE g24 (some ⟨g23.w.heap.size, 0, none⟩) 2 2 [[65], [66]] := names_row (K := [[65], [66]]) n24 (by decide)
  have m1924 : Ex g19 g24 := (((n20.ex.trans m21).trans n22.ex).trans m23).trans n24.ex
  refine (kk21 _ _ (hp.exm m1924) h24).mono ?_
  rintro v g25 m25 rfl
  exact ⟨_, rfl, ifP (fun _ g26 _ => by show Value.bool (eqI 0 0) = Value.bool true; simp [eqI]) (fun hh => absurd rfl hh)⟩
end Go.Proofs.YtkocjbgdmocmlaaGreatDoor
