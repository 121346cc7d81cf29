/- The heap: HeapBasics, HeapPuts, HeapAllocs, HeapReads answer true. -/
import Derived.Test.YtcpclpkcanikiaaC49U
set_option linter.unusedVariables false
namespace Go.Proofs.Ytcpclpkcanikiaa
open Go Go.Vc Go.RowKit

/-- What stands behind 'awake() and few(h)'. -/
theorem awake_few {g : G} {a : Option Addr} {ll c : Nat} {fr lim : Int} {K : G → Prop} (hk : ll ≤ 600 → ∀ g', Ex g g' → K g') :
    ∀ g28, Ex g g28 → (CallsP Try.prog 15 #[] g28 fun v g29 => ∃ x_8, v = .bool x_8 ∧ ifB (!x_8) ((CallsP Try.prog 15 #[] g29 fun v g30 => ∃ x_9, v = .bool x_9 ∧ ∀ g31, Ex g30 g31 → (Value.bool x_9) = .bool true))
      ((CallsP Try.prog 16 #[hpV a ll c fr lim] g29 fun v g32 => ∃ x_10, v = .bool x_10 ∧ ifB (!x_10) ((CallsP Try.prog 15 #[] g32 fun v g33 => ∃ x_11, v = .bool x_11 ∧ ∀ g34, Ex g33 g34 → (Value.bool x_11) = .bool true)) (K g32)))) := by
  intro g28 m28
  refine (k15 g28).mono ?_
  rintro u g29 m29 rfl
  refine ⟨_, rfl, ifT (fun hh => by cases hh) (fun _ => (k16 fr lim g29).mono ?_)⟩
  rintro u g32 m32 rfl
  refine ⟨_, rfl, ifPn (fun _ => (k15 g32).mono ?_) (fun h => hk h g32 ((m28.trans m29).trans m32))⟩
  rintro u g33 m33 rfl
  exact ⟨_, rfl, fun g34 _ => rfl⟩

theorem law3 (l : List Wd) {a : Option Addr} {ll c : Nat} {g : G} (h : SlE wordE g a ll c l) (limit fr lim kind length : Int) (hk : InI64 length) : CallsP Try.prog 3 #[.int .i64 limit, hpV a ll c fr lim, .int .i64 kind, .int .i64 length] g fun u _ => u = .bool true := by
  refine call3 limit a ll c fr lim kind length g _ ?_
  unfold F3
  intro J hJ
  refine awake_few (K := J) (fun _ g1 m1 => hJ g1 ((k17 limit g1).mono ?_))
  have tail : ∀ (g5 : G) (x0 x1 : Int), Ex g g5 → (lenP kind length ∧ x0 = length + 3 ∧ x1 = 0 ∨ ¬ lenP kind length ∧ x0 = 0 ∧ x1 = 2) → ((CallsP Try.prog 22 #[.int .i64 kind, .int .i64 length] g5 fun v g6 =>
      ∃ x, v = .bool x ∧ ifB (!x) (∀ g7, Ex g6 g7 → ifB (eqI x0 0) (ifB (eqI x1 2) ((CallsP Try.prog 21 #[hpV a ll c fr lim] g7 fun v g8 => ∃ x_1, v = .bool x_1 ∧ (CallsP Try.prog 23 #[hpV a ll c fr lim] g8 fun v g9 => ∃ x_2, v = .bool x_2 ∧ ∀ g10, Ex g9 g10 → (Value.bool (x_1 == x_2)) = .bool true)))
        (∀ g11, Ex g7 g11 → (Value.bool false) = .bool true)) (∀ g12, Ex g7 g12 → (Value.bool false) = .bool true))
        (∀ g13, Ex g6 g13 → InI64 (length + 3) ∧ ifB (eqI x0 (length + 3)) (ifB (eqI x1 0) ((CallsP Try.prog 21 #[hpV a ll c fr lim] g13 fun v g14 => ∃ x_3, v = .bool x_3 ∧ (CallsP Try.prog 23 #[hpV a ll c fr lim] g14 fun v g15 => ∃ x_4, v = .bool x_4 ∧ ∀ g16, Ex g15 g16 → (Value.bool (x_3 == x_4)) = .bool true)))
        (∀ g17, Ex g13 g17 → (Value.bool false) = .bool true)) (∀ g18, Ex g13 g18 → (Value.bool false) = .bool true)))) := by
    intro g5 x0 x1 m5 hx
    refine (k22 kind length g5).mono ?_
    rintro u g6 m6 rfl
    have both : ∀ g7, Ex g6 g7 → (CallsP Try.prog 21 #[hpV a ll c fr lim] g7 fun v g8 => ∃ x_1, v = .bool x_1 ∧ (CallsP Try.prog 23 #[hpV a ll c fr lim] g8 fun v g9 => ∃ x_2, v = .bool x_2 ∧ ∀ g10, Ex g9 g10 → (Value.bool (x_1 == x_2)) = .bool true)) := by
      intro g7 m7
      have m07 := (m5.trans m6).trans m7
      refine (k21 k94 l (h.exm m07) fr lim).mono ?_
      rintro u g8 m8 rfl
      refine ⟨_, rfl, (k23 l ((h.exm m07).exm m8) fr lim).mono ?_⟩
      rintro u g9 m9 rfl
      exact ⟨_, rfl, fun g10 _ => by simp⟩
    refine ⟨_, rfl, ifPn (fun hn g7 m7 => ?_) (fun hn g13 m13 => ?_)⟩
    · rcases hx with ⟨hh, _⟩ | ⟨_, rfl, rfl⟩
      · exact absurd hh hn
      · exact ifEq (fun _ => ifEq (fun _ => both g7 m7) (fun hh => absurd rfl hh)) (fun hh => absurd rfl hh)
    · rcases hx with ⟨_, rfl, rfl⟩ | ⟨hh, _⟩
      · unfold lenP at hn
        exact ⟨i64 (by omega) (by omega), ifEq (fun _ => ifEq (fun _ => both g13 m13) (fun hh => absurd rfl hh)) (fun hh => absurd rfl hh)⟩
      · exact absurd hn hh
  intro u g2 m2 hnew
  have hu : ∃ lm er, u = .tuple ⟨[hpV none 0 0 0 lm, .int .i64 er]⟩ ∧ (0 ≤ limit ∧ limit ≤ 65536 ∧ lm = limit ∧ er = 0 ∨ ¬ (0 ≤ limit ∧ limit ≤ 65536) ∧ lm = 0 ∧ er = 2) := by
    rcases hnew with ⟨h1, h2, rfl⟩ | ⟨h1, rfl⟩
    · exact ⟨_, _, rfl, .inl ⟨h1, h2, rfl, rfl⟩⟩
    · exact ⟨_, _, rfl, .inr ⟨h1, rfl, rfl⟩⟩
  obtain ⟨lm, er, rfl, hlm⟩ := hu
  refine ⟨_, _, _, _, _, _, rfl, fun g3 m3 => (k18 kind length g3).mono ?_⟩
  intro u g4 m4 hneed
  have hu : ∃ x0 x1, u = .tuple ⟨[.int .i64 x0, .int .i64 x1]⟩ ∧ (lenP kind length ∧ x0 = length + 3 ∧ x1 = 0 ∨ ¬ lenP kind length ∧ x0 = 0 ∧ x1 = 2) := by
    rcases hneed with ⟨h1, rfl⟩ | ⟨h1, rfl⟩
    · exact ⟨_, _, rfl, .inl ⟨h1, rfl, rfl⟩⟩
    · exact ⟨_, _, rfl, .inr ⟨h1, rfl, rfl⟩⟩
  obtain ⟨x0, x1, rfl, hx⟩ := hu
  refine ⟨_, _, rfl, ?_⟩
  intro J1 hJ1
  have m04 := ((m1.trans m2).trans m3).trans m4
  have tl : ∀ g5, Ex g4 g5 → J1 g5 := fun g5 m5 => hJ1 g5 (tail g5 x0 x1 (m04.trans m5) hx)
  intro J2 hJ2
  have bad : ¬ (0 ≤ limit ∧ limit ≤ 65536) → J2 true g4 := by
    intro hn
    rcases hlm with ⟨q1, q2, _⟩ | ⟨_, rfl, rfl⟩
    · exact absurd ⟨q1, q2⟩ hn
    refine hJ2 _ g4 (ifT (fun _ => (k19 [] (SlE.zero g4) 0 0).mono ?_) (fun hh => by cases hh))
    rintro u g20 m20 rfl
    exact ⟨_, rfl, ifPn (fun hh => absurd ⟨rfl, rfl, rfl⟩ hh) (fun _ => ifNe (fun hh => absurd rfl hh) (fun _ => tl g20 m20))⟩
  refine ifLt (fun hh => bad (by omega)) (fun hh => ?_)
  rcases Classical.em ((65536 : Int) < limit) with hb | hb
  · rw [ltI_true.mpr hb]; exact bad (by omega)
  rw [ltI_false.mpr (by omega)]
  rcases hlm with ⟨q1, q2, rfl, rfl⟩ | ⟨hn, _⟩
  rotate_left
  · exact absurd (by omega) hn
  refine hJ2 _ g4 (ifT (fun hh => by cases hh) (fun _ => (k20 [] [] (SlE.zero g4) (SlE.zero g4) 0 lm 0 lm).mono ?_))
  rintro u g23 m23 rfl
  refine ⟨_, rfl, ifPn (fun hh => absurd ⟨rfl, rfl, rfl⟩ hh) (fun _ => ifNe (fun hh => absurd rfl hh) (fun _ => (k21 k94 [] (SlE.zero g23) 0 lm).mono ?_))⟩
  rintro u g26 m26 rfl
  exact ⟨_, rfl, ifPn (fun hh => absurd (valid0 lm ⟨q1, q2⟩) hh) (fun _ => tl g26 (m23.trans m26))⟩

/-- 'w == api.Word{}' and the like. -/
theorem wEq (w w' : Wd) {A B : Prop} (h : w = w') (hA : A) : ifB ((w.1 == w'.1) && ((eqI w.2 w'.2) && true)) A B := by
  subst h
  rw [eqW]
  exact ifP (fun _ => hA) (fun hh => absurd rfl hh)
/-- Two results of one meaning. -/
theorem law5 (l x : List Wd) {a xa : Option Addr} {ll c xl xc : Nat} {g : G} (h : SlE wordE g a ll c l) (hx : SlE wordE g xa xl xc x) (fr lim kind n : Int) : CallsP Try.prog 5 #[hpV a ll c fr lim, .int .i64 kind, .int .i64 n, .slice xa xl xc] g fun u _ => u = .bool true := by
  refine call5 a ll c fr lim kind n xa xl xc g _ ?_
  have hlen := h.len
  unfold F5
  intro J hJ
  have yes : ∀ g1, J true g1 := by
    intro g1
    refine hJ _ g1 (ifT (fun _ => (k15 g1).mono ?_) (fun hh => by cases hh))
    rintro u g2 m2 rfl
    exact ⟨_, rfl, fun g3 _ => rfl⟩
  have main : ll ≤ 600 → xl ≤ 1010 → ∀ g1, Ex g g1 → J false g1 := by
    intro h6 h10 g1 m1
    refine hJ _ g1 (ifT (fun hh => by cases hh) (fun _ => (k30 l x (h.exm m1) (hx.exm m1) fr lim kind n (by omega)).mono ?_))
    rintro u g4 m4 ⟨r, e, ho, hcs⟩
    obtain ⟨a1, n1, c1, f1, m1', w1, er, l1, rfl, hs1, hc1⟩ := ho.vals
    refine ⟨_, _, _, _, _, _, _, _, rfl, fun g5 m5 => (k23 l (h.exm ((m1.trans m4).trans m5)) fr lim).mono ?_⟩
    rintro u g6 m6 rfl
    refine ⟨_, rfl, ifPn (fun hn => ?_) (fun hv => ?_)⟩
    · rcases hcs with ⟨_, rfl, rfl⟩ | ⟨hv, _⟩
      rotate_left
      · exact absurd hv hn
      rcases hc1 with ⟨_, rfl, rfl, rfl, rfl, rfl⟩ | ⟨hh, _⟩
      rotate_left
      · cases hh
      refine (k19 [] ((hs1.exm m5).exm m6) 0 0).mono ?_
      rintro u g7 m7 rfl
      refine ⟨_, rfl, ifP (fun _ => wEq _ (false, 0) rfl (fun g8 _ => congrArg Value.bool (eqI_true.mpr rfl))) (fun hh => absurd ⟨rfl, rfl, rfl⟩ hh)⟩
    · have hval := hv
      obtain ⟨v1, v2, v3, v4, L, hL, _⟩ := hv
      have m06 := ((m1.trans m4).trans m5).trans m6
      refine (k31 l x hL (h.exm m06) (hx.exm m06) fr lim kind n ⟨by omega, v4, v2⟩ (by omega) (by omega)).mono ?_
      rintro u g11 m11 ⟨r2, e2, ho2, hcs2⟩
      obtain ⟨a2, n2, c2, f2, m2', w2, er2, l2, rfl, hs2, hc2⟩ := ho2.vals
      have hre : r = r2 ∧ e = e2 := by
        rcases hcs with ⟨hn, _⟩ | ⟨_, L', hL', hcs⟩
        · exact absurd hval hn
        rw [hL] at hL'
        cases hL'
        rcases hcs with ⟨q, rfl, rfl⟩ | ⟨q, rfl, rfl⟩ <;> rcases hcs2 with ⟨q', rfl, rfl⟩ | ⟨q', rfl, rfl⟩
        · exact ⟨rfl, rfl⟩
        · exact absurd q' q
        · exact absurd q q'
        · exact ⟨rfl, rfl⟩
      obtain ⟨rfl, rfl⟩ := hre
      have heq : l1 = l2 ∧ f1 = f2 ∧ m1' = m2' ∧ w1 = w2 ∧ er = er2 := by
        rcases hc1 with ⟨q1, rfl, rfl, rfl, rfl, rfl⟩ | ⟨q1, rfl, rfl, rfl, _⟩ <;> rcases hc2 with ⟨q2, rfl, rfl, rfl, rfl, rfl⟩ | ⟨q2, rfl, rfl, rfl, _⟩
        · exact ⟨rfl, rfl, rfl, rfl, rfl⟩
        · rw [q1] at q2; cases q2
        · rw [q1] at q2; cases q2
        · rw [q1] at q2; cases q2; exact ⟨rfl, rfl, rfl, rfl, rfl⟩
      obtain ⟨rfl, rfl, rfl, rfl, rfl⟩ := heq
      refine ⟨_, _, _, _, _, _, _, _, rfl, fun g12 m12 => (k20 l1 l1 ((((hs1.exm m5).exm m6).exm m11).exm m12) (hs2.exm m12) _ _ _ _).mono ?_⟩
      rintro u g13 m13 rfl
      exact ⟨_, rfl, ifP (fun _ => wEq _ _ rfl (fun g14 _ => congrArg Value.bool (eqI_true.mpr rfl))) (fun hh => absurd ⟨rfl, rfl, rfl⟩ hh)⟩
  intro g17 m17
  refine (k15 g17).mono ?_
  rintro u g18 m18 rfl
  refine ⟨_, rfl, ifT (fun hh => by cases hh) (fun _ => (k16 fr lim g18).mono ?_)⟩
  rintro u g19 m19 rfl
  have m019 := (m17.trans m18).trans m19
  refine ⟨_, rfl, ifPn (fun _ => yes g19) (fun h6 => ?_)⟩
  have last : ∀ g', Ex g g' → (xl : Int) ≤ 1010 ∨ (1010 : Int) < xl → J (ltI (1010 : Int) ((xl : Nat) : Int)) g' := by
    rintro g' m (hh | hh)
    · rw [ltI_false.mpr (by omega)]; exact main h6 (by omega) g' m
    · rw [ltI_true.mpr hh]; exact yes g'
  refine ifLt (fun h1 => ifLe (fun h2 => yes g19) (fun h2 => last g19 m019 (by omega))) (fun h1 => last g19 m019 (by omega))
end Go.Proofs.Ytcpclpkcanikiaa
