/- The store: what the law on the basics says. -/
import Derived.Test.YtlofbfbcnlgmaaaC53k
set_option linter.unusedVariables false
namespace Go.Proofs.Ytlofbfbcnlgmaaa
open Go Go.Vc Go.RowKit

theorem k4 (after : Int) (b : List UInt8) {a : Option Addr} {n c : Nat} {g : G} (h : SlB g a n c b) (d af keep : Int) (hi : InI64 keep) :
    CallsP Try.prog 4 #[.int .i64 after, stV a n c d af, .int .i64 keep] g fun v _ => v = .bool true := by
  refine call4 after a n c d af keep g _ ?_
  have hlb := SlB.length h
  unfold F4
  intro J hJ
  suffices main : ∀ g1, Ex g g1 → J g1 by
    refine fun g33 m33 => (k10 g33).mono ?_
    rintro v g34 m34 rfl
    refine ⟨_, rfl, (k11 a n c d af g34).mono ?_⟩
    rintro v g37 m37 rfl
    refine ⟨_, rfl, ifPn (fun _ => (k10 g37).mono ?_) (fun _ => main _ ((m33.trans m34).trans m37))⟩
    rintro v g38 m38 rfl
    exact ⟨_, rfl, fun g39 m39 => rfl⟩
  intro g1 m1
  refine hJ g1 ((k22 after g1).mono ?_)
  rintro v g2 m2 rfl
  have e22 : ∃ x1 x2, (if -1 ≤ after ∧ after ≤ 1048576 then resV none 0 0 0 after 0 else resV none 0 0 0 0 2) = resV none 0 0 0 x1 x2 ∧ ((-1 ≤ after ∧ after ≤ 1048576) ∧ x1 = after ∧ x2 = 0 ∨ ¬ (-1 ≤ after ∧ after ≤ 1048576) ∧ x1 = 0 ∧ x2 = 2) := by
    by_cases hh : -1 ≤ after ∧ after ≤ 1048576
    · exact ⟨after, 0, if_pos hh, .inl ⟨hh, rfl, rfl⟩⟩
    · exact ⟨0, 2, if_neg hh, .inr ⟨hh, rfl, rfl⟩⟩
  obtain ⟨x1, x2, e22, hx12⟩ := e22
  refine ⟨none, 0, 0, 0, x1, x2, e22, fun g3 m3 => (k23 b (h.ex ((m1.trans m2).trans m3)) d af keep hi).mono ?_⟩
  rintro v g4 m4 ⟨xa, xl, xc, rfl, hx⟩
  refine ⟨_, _, _, _, _, _, rfl, ?_⟩
  have m := ((m1.trans m2).trans m3).trans m4
  intro J1 hJ1
  have main1 : ∀ g5, Ex g4 g5 → J1 g5 := by
    intro g5 m5
    refine hJ1 g5 ((k14 a n c d af g5).mono ?_)
    rintro v g6 m6 rfl
    refine ⟨_, rfl, ifPn (fun hs => (k24 a n c d af g6).mono ?_) (fun hs => ?_)⟩
    · rintro v g7 m7 rfl
      have ec : crashR b d af keep = ⟨[], 0, 0, 1⟩ := by unfold crashR; rw [hlb, if_pos (tf_no hs)]
      have hx7 := hx.ex ((m5.trans m6).trans m7)
      rw [ec] at hx7 ⊢
      refine ⟨_, rfl, ifPn (fun _ => (k15 _ hx7 _ _).mono ?_) (fun hh => absurd hh hs)⟩
      rintro v g8 m8 rfl
      exact ⟨_, rfl, ifP (fun _ g11 m11 => congrArg Value.bool (eqI_true.mpr rfl)) (fun hh => absurd ⟨rfl, rfl, rfl⟩ hh)⟩
    refine ifLt (fun hk => (k24 a n c d af g6).mono ?_) (fun hk g17 m17 => (k24 a n c d af g17).mono ?_)
    · rintro v g12 m12 rfl
      have ec : crashR b d af keep = ⟨[], 0, 0, 2⟩ := by unfold crashR; rw [hlb, if_neg (by rw [tf_of hs]; simp), if_pos hk]
      have hx12 := hx.ex ((m5.trans m6).trans m12)
      rw [ec] at hx12 ⊢
      refine ⟨_, rfl, ifP (fun _ => (k15 _ hx12 _ _).mono ?_) (fun hh => absurd hs hh)⟩
      rintro v g8 m8 rfl
      exact ⟨_, rfl, ifP (fun _ g11 m11 => congrArg Value.bool (eqI_true.mpr rfl)) (fun hh => absurd ⟨rfl, rfl, rfl⟩ hh)⟩
    · rintro v g18 m18 rfl
      have ec : (crashR b d af keep).e = 0 := by unfold crashR; rw [hlb, if_neg (by rw [tf_of hs]; simp), if_neg (by omega)]
      have mm := ((m5.trans m6).trans m17).trans m18
      refine ⟨_, rfl, ifP (fun _ => (k25 b (h.ex (m.trans mm)) d af keep hs (by omega) hi).mono ?_) (fun hh => absurd hs hh)⟩
      rintro v g19 m19 ⟨ya, yl, yc, rfl, hy⟩
      refine ⟨_, _, _, _, _, rfl, (k19 _ _ (hx.ex (mm.trans m19)) hy _ _ _ _).mono ?_⟩
      rintro v g20 m20 rfl
      exact ⟨_, rfl, ifP (fun _ g21 m21 => congrArg Value.bool (eqI_true.mpr ec)) (fun hh => absurd ⟨rfl, rfl, rfl⟩ hh)⟩
  intro J2 hJ2
  have bad : ¬ (-1 ≤ after ∧ after ≤ 1048576) → ∀ g24, Ex g4 g24 → J2 true g24 := by
    intro hn g24 m24
    rcases hx12 with ⟨hh, _⟩ | ⟨_, rfl, rfl⟩
    · exact absurd hh hn
    refine hJ2 true g24 ((k15 [] (Sl.zero _ _) 0 0).mono ?_)
    rintro v g25 m25 rfl
    exact ⟨_, rfl, ifPn (fun hh => absurd ⟨rfl, rfl, rfl⟩ hh) (fun _ => ifNe (fun hh => absurd rfl hh) (fun _ => main1 _ (m24.trans m25)))⟩
  refine ifLt (fun hlt g31 m31 => bad (by omega) g31 m31) (fun hge g32 m32 => ?_)
  by_cases hc : (1048576 : Int) < after
  · rw [ltI_true.mpr hc]
    exact bad (by omega) g32 m32
  · rw [ltI_false.mpr (by omega)]
    rcases hx12 with ⟨_, rfl, rfl⟩ | ⟨hh, _⟩
    · refine hJ2 false g32 ((k19 [] [] (Sl.zero _ _) (Sl.zero _ _) 0 x1 0 x1).mono ?_)
      rintro v g28 m28 rfl
      exact ⟨_, rfl, ifPn (fun hh => absurd ⟨rfl, rfl, rfl⟩ hh) (fun _ => ifNe (fun hh => absurd rfl hh) (fun _ => main1 _ (m32.trans m28)))⟩
    · omega
end Go.Proofs.Ytlofbfbcnlgmaaa
