/- Syntax trees: the law of the parts. -/
import Derived.Test.YtmakoecgogjemaaDoorC03p
import Derived.Test.YtmakoecgogjemaaDoorFn4
set_option linter.unusedVariables false
namespace Go.Proofs.YtmakoecgogjemaaDoor
open Go Go.Vc Go.RowKit Go.Syn

theorem two74 {d : SynD} {l : List Sy} (q : d.op = 74) (hs : shapeP d l) : ∃ x y, l = [x, y] ∧ x.dat.op ≠ 43 ∧ y.dat.op = 43 := by
  unfold shapeP at hs
  simp [q] at hs
  obtain ⟨h1, h2, h3⟩ := hs
  match l, h1 with
  | [x, y], _ =>
    refine ⟨x, y, rfl, fun e => ?_, ?_⟩
    · simp only [List.getElem?_cons_zero, Option.getD_some, e, belP] at h2
      revert h2
      decide
    · exact by simpa [onlyP] using h3
/-- A part that is well-formed in its place is well-formed alone. -/
theorem walk_alone {t : Sy} {w : Bool} {n : Nat} (hn : 1 ≤ n) (h : walkP t w n) (hw : t.dat.op = 43 → w = false) : formedP t := by
  have h1 := (walk_nodes t w w n (fun _ => rfl) hn).1 h
  refine (walk_nodes t false w 1 (fun e => (hw e).symm) (Nat.le_refl _)).2 ⟨h1.1, by omega⟩
/-- all. -/
theorem k16 : ∀ (t : Sy), okT t → size t ≤ 20000 → ∀ (w : Bool) (dep : Nat), 1 ≤ dep → walkP t w dep → ∀ {ab : Nat} {na : Option Addr} {nn nc : Nat} {a : Option Addr} {n c : Nat} {g : G}, TabG g → SynI g t na nn nc a n c →
    Live g ⟨ab, 0, none⟩ (.func (.func 16) #[] ⟨[.pointer (some ⟨ab, 0, none⟩)]⟩) → CallsP Tryd.prog 16 #[synV t na nn nc a n c, .pointer (some ⟨ab, 0, none⟩)] g fun v _ => v = .bool true := by
  intro t
  induction t using Tr.ind with
  | h d l ih =>
    intro hok hsz w dep hdep hwk ab na nn nc a n c g ht h hab
    refine call16 _ _ _ _ _ _ _ _ _ _ g _ ?_
    obtain ⟨hokD, hokL⟩ := okT_iff.1 hok
    obtain ⟨hw1, hw2, hw3, hw4⟩ := walk_iff.1 hwk
    have hK : SlE synE g a n c l := h.kids
    have hl := hK.len
    have hcp := hK.le
    have hmx := hK.cap
    unfold maxLen at hmx
    have hse : size (.mk d l) = sizeL l + 1 := rfl
    have hde : depth (.mk d l) = depthL l + 1 := rfl
    have hds := depth_le (.mk d l)
    unfold F16
    refine ⟨fun m sz dp v g' => ∃ j : Nat, v = ((j : Nat) : Int) ∧ sz = ((1 + sizeL (l.take j) : Nat) : Int) ∧ dp = ((depthL (l.take j) : Nat) : Int) ∧ j + m = n, fun g1 _ => ⟨n, 0, rfl, by simp [sizeL], by simp [depthL], by omega⟩, ?_⟩
    rintro m sz dp v g2 le ⟨j, rfl, rfl, rfl, hj⟩
    refine ifLt (fun hlt => ?_) (fun hge => ?_)
    · intro J hJ
      have gj := List.getElem?_eq_getElem (show j < l.length by omega)
      generalize l[j] = y at gj
      have hin := List.mem_of_getElem? gj
      have hsy := size_mem hin
      have htk := depthL_take gj
      have hst := sizeL_take gj
      have hsl := sizeL_le l (j + 1)
      have hwy : walkP y (decide (d.op = 74)) (dep + 1) := hw4 y hin
      refine ⟨⟨by omega, by omega⟩, rdT (hK.mono le) j rfl gj (fun na' nn' nc' ka kn kc hy g4 m4 => (k17 y (by omega) (hy.exm m4)).mono ?_)⟩
      rintro v g5 m5 rfl
      have m25 := m4.trans m5
      refine ⟨_, rfl, i64 (by omega) (by omega), (k18 y (by omega) (hy.exm m25)).mono ?_⟩
      rintro v g6 m6 rfl
      have m26 := m25.trans m6
      refine ⟨_, rfl, (k13 y.dat.op g6).mono ?_⟩
      rintro v g7 m7 rfl
      have m27 := m26.trans m7
      have next : ∀ g', J (((1 + sizeL (l.take j) : Nat) : Int) + ((size y : Nat) : Int)) (maxI ((depthL (l.take j) : Nat) : Int) ((depth y : Nat) : Int)) g' := by
        intro g'
        exact hJ _ _ g' ⟨i64 (by omega) (by omega), m - 1, by omega, j + 1, by omega, by omega, by rw [maxI_nat, htk], by omega⟩
      have recc : ∀ g8, Ex g2 g8 → derefP (some ⟨ab, 0, none⟩) fun ad_1 => ∃ xf : FuncId, ∃ xc : Array Value, g8.w.cell? ad_1 = some (.func (.func xf) #[] xc) ∧ Go.Vc.Enters Tryd.prog xf ∧ (CallsP Tryd.prog xf ((⟨[synV y na' nn' nc' ka kn kc]⟩ : Array Value) ++ xc) g8 fun v g10 =>
          ∃ x_3 : Bool, v = (.bool x_3) ∧ ifB (!x_3) (∀ g11 : G, Ex g10 g11 → (fun (v : Value) (_ : G) => v = .bool true) (.bool false) g11)
            (J (((1 + sizeL (l.take j) : Nat) : Int) + ((size y : Nat) : Int)) (maxI ((depthL (l.take j) : Nat) : Int) ((depth y : Nat) : Int)) g10)) := by
        intro g8 m8
        have le8 := le.trans m8.le
        refine ⟨16, _, (hab.mono le8).1, ⟨_, Tryd.func16, by kernel_rfl, by kernel_rfl⟩, (ih y hin (hokL y hin) (by omega) _ (dep + 1) (by omega) hwy (ht.mono le8) (hy.exm m8) (hab.mono le8)).mono ?_⟩
        rintro v g10 _ rfl
        exact ⟨_, rfl, ifF (fun hh => by cases hh) (fun _ => next g10)⟩
      have val : (y.dat.op = 43 → decide (d.op = 74) = false) → catN y.dat.op ≠ 0 → CallsP Tryd.prog 11 #[.int .i64 (catN y.dat.op), synV y na' nn' nc' ka kn kc] g7 fun v g8 => v = .bool true := by
        intro hq hc
        refine (k11 _ y (hokL y hin) (by omega) (ht.mono (le.trans m27.le)) (hy.exm m27)).mono ?_
        rintro v g8 _ rfl
        rw [tf_of]
        exact ⟨.inr ⟨hc, rfl⟩, walk_alone (by omega) hwy hq⟩
      have afterV : ∀ {Q : G → Prop}, (∀ g8, Ex g7 g8 → Q g8) → (y.dat.op = 43 → decide (d.op = 74) = false) → catN y.dat.op ≠ 0 → CallsP Tryd.prog 11 #[.int .i64 (catN y.dat.op), synV y na' nn' nc' ka kn kc] g7 fun v g8 => ∃ x_2 : Bool, v = (.bool x_2) ∧ ifB (!x_2)
          (∀ g9 : G, Ex g8 g9 → (fun (v : Value) (_ : G) => v = .bool true) (.bool false) g9) (Q g8) := by
        intro Q hQ hq hc
        refine (val hq hc).mono ?_
        rintro v g8 m8 rfl
        exact ⟨_, rfl, ifF (fun hh => by cases hh) (fun _ => hQ g8 m8)⟩
      refine ⟨_, rfl, ifNe (fun hc => ifEq (fun q => ?_) (fun q => ?_)) (fun hc => recc g7 m27)⟩
      · have q' : d.op = 74 := q
        obtain ⟨x0, y0, rfl, hx0, hy0⟩ := two74 q' hw3
        refine ifNe (fun q1 => afterV (fun g8 m8 => recc g8 (m27.trans m8)) (fun e => ?_) hc) (fun q1 => recc g7 m27)
        have hj0 : j = 0 := by simp at hl; omega
        subst hj0
        cases gj
        exact absurd e hx0
      · have q' : ¬ d.op = 74 := q
        exact afterV (fun g8 m8 => recc g8 (m27.trans m8)) (fun _ => by simp [q']) hc
    · refine (k17 (.mk d l) (by omega) (h.mono le)).mono ?_
      rintro v g20 m20 rfl
      rw [take_all (by omega), hse, show 1 + sizeL l = sizeL l + 1 by omega]
      refine ⟨_, rfl, ifEq (fun _ => (k18 (.mk d l) (by omega) ((h.mono le).exm m20)).mono ?_) (fun hh => absurd rfl hh)⟩
      rintro v g21 _ rfl
      exact ⟨_, rfl, i64 (by omega) (by omega), fun g22 _ => by rw [hde, eqI_true.mpr (by omega)]⟩
theorem law4 (t : Sy) {na : Option Addr} {nn nc : Nat} {a : Option Addr} {n c : Nat} {g : G} (ht : TabG g) (h : SynI g t na nn nc a n c) :
    CallsP Tryd.prog 4 #[synV t na nn nc a n c] g fun v _ => v = .bool true := by
  refine P4.call4 _ _ _ _ _ _ _ _ _ g _ ?_
  unfold P4.F4
  refine fun g1 m1 => (k9 g1 (ht.exm m1)).mono ?_
  rintro v g2 m2 rfl
  have m02 := m1.trans m2
  have sz2 := m02.size
  refine ⟨_, rfl, ifF (fun hh => by cases hh) (fun _ g4 n4 => ?_)⟩
  have hm4 := n4.mut
  refine ⟨hm4.ok0 (Nat.le_refl _), hm4.nx, hm4.mut0 _, fun hh => absurd hh (by show ¬ g2.w.heap.size < g.w.heap.size; omega), fun g5 k5 => ?_⟩
  obtain ⟨hm5, but5⟩ := hm4.st0 k5
  rw [set1] at hm5
  have le5 : Le g g5 := m02.le.trans (n4.ex.le.trans (mut_le hm4 but5))
  intro J hJ g11 m11
  have le11 := le5.trans m11.le
  refine ⟨fun b => b = g2.w.heap.size, fun b e => e ▸ (hm5.ex m11).nx, fun b => b = g2.w.heap.size, fun b hb e => by omega, CallsG.mono (k15 t 0 1000 (h.mono le11) (by omega) (by omega) (hm5.ex m11)) ?_⟩
  rintro v g12 s12 ⟨b, k, rfl, hk, hb⟩
  have le12 := le11.trans s12.le
  refine ⟨b, rfl, fun b hlt _ hne => s12.same b hlt hne, ifF (fun _ g13 _ => rfl) (fun q => (k13 t.dat.op g12).mono ?_)⟩
  obtain ⟨hb1, hb2, hok⟩ := hb q
  rintro v g14 m14 rfl
  have le14 := le12.trans m14.le
  refine ⟨_, rfl, (k11 _ t hok (by omega) (ht.mono le14) (h.mono le14)).mono ?_⟩
  rintro v g15 m15 rfl
  have le15 := le14.trans m15.le
  refine ⟨_, rfl, ifPn (fun _ g16 _ => rfl) (fun hv => hJ g15 (fun g7 n7 => ?_))⟩
  have sz15 := le15.size
  have hm7 := n7.mut
  refine ⟨hm7.ok0 (Nat.le_refl _), hm7.nx, hm7.mut0 _, fun hh => absurd hh (by show ¬ g15.w.heap.size < g.w.heap.size; omega), fun g8 k8 => ?_⟩
  obtain ⟨hw8, but8⟩ := hm7.pub1 k8
  have le78 : Le g7 g8 := but8.le (fun x e i => e ▸ hm7.d i)
  have le8 := le15.trans (n7.ex.le.trans le78)
  refine ⟨16, _, hw8.1, ⟨_, Tryd.func16, by kernel_rfl, by kernel_rfl⟩, (k16 t hok (by omega) false 1 (Nat.le_refl _) hv.2 (ht.mono le8) (h.mono le8) hw8).mono ?_⟩
  rintro v g9 _ rfl
  exact ⟨_, rfl, fun g10 _ => rfl⟩
end Go.Proofs.YtmakoecgogjemaaDoor
