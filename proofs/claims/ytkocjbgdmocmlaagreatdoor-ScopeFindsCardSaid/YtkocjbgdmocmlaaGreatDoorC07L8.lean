/- Scope: the law ScopeFinds. -/
import Derived.Test.YtkocjbgdmocmlaaGreatDoorC07af
import Derived.Test.YtkocjbgdmocmlaaGreatDoorFnL8
set_option linter.unusedVariables false
namespace Go.Proofs.YtkocjbgdmocmlaaGreatDoor
open Go Go.Vc Go.RowKit Go.Syn

/-- ScopeFinds. -/
theorem law8 (cat : Int) (t : Sy) {na : Option Addr} {nn nc : Nat} {a : Option Addr} {n c : Nat} {g : G} (ht : TabG g) (h : SynI g t na nn nc a n c) :
    CallsP Tryz.prog 8 #[.int .i64 cat, synV t na nn nc a n c] g fun v _ => v = .bool true := by
  refine PL8.call8 cat _ _ _ _ _ _ _ _ _ g _ ?_
  unfold PL8.F8
  refine fun g1 m1 => (k11 g1 (ht.exm m1)).mono ?_
  rintro v g2 m2 rfl
  have m02 := m1.trans m2
  refine ⟨_, rfl, ifF (fun hh => by cases hh) (fun _ g4 n4 => ?_)⟩
  refine ⟨nobody, fun _ _ hh => hh, (k12 [t] (one_tree (h.exm m02) n4)).mono ?_⟩
  rintro v g5 m5 ⟨b, rfl, hb⟩
  have m05 := (m02.trans n4.ex).trans m5
  refine ⟨_, rfl, ifF (fun _ g6 _ => rfl) (fun q => ?_)⟩
  obtain ⟨hsz, hok1⟩ := hb q
  have hs1 : size t ≤ 600 := by simpa [sizeL] using hsz
  have hok := hok1 t (by simp)
  refine (k13 cat t hok (by omega) (ht.exm m05) (h.exm m05)).mono ?_
  intro v g7 m7 h13
  have m07 := m05.trans m7
  obtain ⟨x0a, x0l, x0c, x1, rfl, hF⟩ : ∃ x0a x0l x0c x1, v = .tuple ⟨[.slice x0a x0l x0c, .int .i64 x1]⟩ ∧ ((¬ validP cat t ∧ x0l = 0 ∧ x1 = 1) ∨ (validP cat t ∧ x1 = 0 ∧ SlE strE g7 x0a x0l x0c (sortS (freeT t [])))) := by
    rcases h13 with ⟨h1, rfl⟩ | ⟨h1, oa, on, oc, rfl, ho⟩
    · exact ⟨_, _, _, _, rfl, .inl ⟨h1, rfl, rfl⟩⟩
    · exact ⟨_, _, _, _, rfl, .inr ⟨h1, rfl, ho⟩⟩
  refine ⟨_, _, _, _, rfl, (k14 t hok (by omega) (ht.exm m07) (h.exm m07)).mono ?_⟩
  intro v g8 m8 h14
  have m08 := m07.trans m8
  obtain ⟨y0a, y0l, y0c, y1, rfl, hB⟩ : ∃ x0a x0l x0c x1, v = .tuple ⟨[.slice x0a x0l x0c, .int .i64 x1]⟩ ∧ ((¬ (validP 2 t ∨ validP 4 t ∨ validP 5 t) ∧ x0l = 0 ∧ x1 = 1) ∨ ((validP 2 t ∨ validP 4 t ∨ validP 5 t) ∧ x1 = 0 ∧ SlE strE g8 x0a x0l x0c (sortS (bindsT t)))) := by
    rcases h14 with ⟨h1, rfl⟩ | ⟨h1, oa, on, oc, rfl, ho⟩
    · exact ⟨_, _, _, _, rfl, .inl ⟨h1, rfl, rfl⟩⟩
    · exact ⟨_, _, _, _, rfl, .inr ⟨h1, rfl, ho⟩⟩
  refine ⟨_, _, _, _, rfl, ?_⟩
  intro J hJ
  have HJ : ∀ g9, Ex g8 g9 → J g9 := by
    intro g9 m9
    have m09 := m08.trans m9
    refine hJ g9 ?_
    intro J1 hJ1
    have H1 : ∀ (b : Bool) g10, Ex g9 g10 → (b = true ↔ ¬ (validP 2 t ∨ validP 4 t ∨ validP 5 t)) → J1 b g10 := by
      intro b g10 m10 hb
      refine hJ1 b g10 ?_
      refine ifT (fun e => ?_) (fun e => ?_)
      · rcases hB with ⟨_, rfl, rfl⟩ | ⟨h1, _⟩
        · exact ifEq (fun _ g11 _ => by simp [eqI]) (fun hh => absurd rfl hh)
        · exact absurd h1 (hb.1 e)
      · rcases hB with ⟨h1, _⟩ | ⟨h1, rfl, hB⟩
        · rw [hb.2 h1] at e; cases e
        · refine ifEq (fun _ => (k37 t hok (by omega) (h.exm (m09.trans m10))).mono ?_) (fun hh => absurd rfl hh)
          rintro v g13 m13 ⟨xa, xl, xc, rfl, hx⟩
          refine ⟨_, _, _, rfl, (kk21 _ _ (((hB.exm m9).exm m10).exm m13) hx).mono ?_⟩
          rintro v g14 _ rfl
          exact ⟨_, rfl, fun g15 _ => (vT rfl).symm⟩
    refine (kk35 2 t hok (by omega) (h.exm m09)).mono ?_
    rintro v g17 m17 rfl
    refine ⟨_, rfl, ifPn (fun q2 => (kk35 4 t hok (by omega) ((h.exm m09).exm m17)).mono ?_) (fun q2 => H1 false g17 m17 ⟨fun e => (by cases e), fun e => absurd (.inl q2) e⟩)⟩
    rintro v g18 m18 rfl
    refine ⟨_, rfl, ifPn (fun q4 => (kk35 5 t hok (by omega) (((h.exm m09).exm m17).exm m18)).mono ?_) (fun q4 => H1 false g18 (m17.trans m18) ⟨fun e => (by cases e), fun e => absurd (.inr (.inl q4)) e⟩)⟩
    rintro v g19 m19 rfl
    refine ⟨_, rfl, H1 _ g19 ((m17.trans m18).trans m19) ?_⟩
    rw [tf_not, tf_true]
    exact ⟨fun q5 hh => hh.elim q2 (fun hh => hh.elim q4 q5), fun hh q5 => hh (.inr (.inr q5))⟩
  refine (kk35 cat t hok (by omega) (h.exm m08)).mono ?_
  rintro v g20 m20 rfl
  refine ⟨_, rfl, ifPn (fun q2 => ?_) (fun q2 => ?_)⟩
  · rcases hF with ⟨_, rfl, rfl⟩ | ⟨h1, _⟩
    · exact ifNe (fun hh => absurd rfl hh) (fun _ => ifNe (fun hh => absurd rfl hh) (fun _ => HJ g20 m20))
    · exact absurd h1 q2
  · rcases hF with ⟨h1, _⟩ | ⟨h1, rfl, hF⟩
    · exact absurd q2 h1
    · refine ifNe (fun hh => absurd rfl hh) (fun _ => (k36 t false 1 q2.2 hok (by omega) (h.exm (m08.trans m20))).mono ?_)
      rintro v g24 m24 ⟨xa, xl, xc, rfl, hx⟩
      refine ⟨_, _, _, rfl, (kk21 _ _ (((hF.exm m8).exm m20).exm m24) hx).mono ?_⟩
      rintro v g25 m25 rfl
      exact ⟨_, rfl, ifPn (fun hh => absurd rfl hh) (fun _ => HJ g25 ((m20.trans m24).trans m25))⟩
end Go.Proofs.YtkocjbgdmocmlaaGreatDoor
