/- Scope: the law ScopeChecks. -/
import Derived.Test.YtkocjbgdmocmlaaGreatDoorC07af
import Derived.Test.YtkocjbgdmocmlaaGreatDoorFnL4
set_option linter.unusedVariables false
namespace Go.Proofs.YtkocjbgdmocmlaaGreatDoor
open Go Go.Vc Go.RowKit Go.Syn

/-- ScopeChecks. -/
theorem law4 (cat : Int) (t : Sy) {na : Option Addr} {nn nc : Nat} {a : Option Addr} {n c : Nat} {g : G} (ht : TabG g) (h : SynI g t na nn nc a n c) :
    CallsP Tryz.prog 4 #[.int .i64 cat, synV t na nn nc a n c] g fun v _ => v = .bool true := by
  refine PL4.call4 cat _ _ _ _ _ _ _ _ _ g _ ?_
  unfold PL4.F4
  refine fun g1 m1 => (k11 g1 (ht.exm m1)).mono ?_
  rintro v g2 m2 rfl
  have m02 := m1.trans m2
  refine ⟨_, rfl, ifF (fun hh => by cases hh) (fun _ g4 n4 => ?_)⟩
  refine ⟨nobody, fun _ _ hh => hh, (k12 [t] (one_tree (h.exm m02) n4)).mono ?_⟩
  rintro v g5 m5 ⟨b, rfl, hb⟩
  have m05 := (m02.trans n4.ex).trans m5
  refine ⟨_, rfl, ifF (fun _ g6 _ => rfl) (fun q g7 m57 => ?_)⟩
  obtain ⟨hsz, hok1⟩ := hb q
  have hs1 : size t ≤ 600 := by simpa [sizeL] using hsz
  have hok := hok1 t (by simp)
  have m05 := m05.trans m57
  refine (k23 cat t hok (by omega) (ht.exm m05) (h.exm m05)).mono ?_
  rintro v g7 m7 rfl
  refine ⟨_, rfl, (k24 cat t hok (by omega) (h.exm (m05.trans m7))).mono ?_⟩
  rintro v g8 m8 rfl
  exact ⟨_, rfl, fun g9 _ => by simp [eqI]⟩
end Go.Proofs.YtkocjbgdmocmlaaGreatDoor
