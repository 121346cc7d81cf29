/- The store: what the laws on reads and on compacting say. -/
import Derived.Test.YtlofbfbcnlgmaaaC53M
set_option linter.unusedVariables false
namespace Go.Proofs.Ytlofbfbcnlgmaaa
open Go Go.Vc Go.RowKit

theorem comp_ok {b : List UInt8} {d af : Int} (hs : okS b.length d af) : okS (compB (enL (recsL b))).length (cost (enL (recsL b)) : Nat) af ∧ cost (enL (recsL b)) ≤ 1048576 ∧
    recsL (compB (enL (recsL b))) = (enL (recsL b)).map toRec ∧ enL (recsL (compB (enL (recsL b)))) = enL (recsL b) := by
  have hok := (enL_ok _ (recs_ok b)).1
  have hce := cost_end b
  have hel := endR_le b
  unfold okS at hs ⊢
  have hr := recs_comp _ hok (by omega)
  exact ⟨by rw [compB_len]; omega, by omega, hr, by rw [hr]; exact en_comp _ hok.srt⟩
theorem comp_of {b : List UInt8} {d af : Int} (hs : okS b.length d af) : compR b d af = ⟨compB (enL (recsL b)), (cost (enL (recsL b)) : Nat), af, 0⟩ := by
  unfold compR; rw [if_neg (by rw [tf_of hs]; simp)]

theorem k5 (b : List UInt8) {a : Option Addr} {n c : Nat} {g : G} (h : SlB g a n c b) (d af : Int) :
    CallsP Try.prog 5 #[stV a n c d af] g fun v _ => v = .bool true := by
  refine call5 a n c d af g _ ?_
  have hlb := SlB.length h
  unfold F5
  intro J hJ
  suffices main : okS n d af → ∀ g1, Ex g g1 → J g1 by
    refine fun g33 m33 => (k10 g33).mono ?_
    rintro v g34 m34 rfl
    refine ⟨_, rfl, (k11 a n c d af g34).mono ?_⟩
    rintro v g37 m37 rfl
    refine ⟨_, rfl, ifPn (fun _ => (k10 g37).mono ?_) (fun _ => (k14 a n c d af g37).mono ?_)⟩
    · rintro v g38 m38 rfl
      exact ⟨_, rfl, fun g39 m39 => rfl⟩
    rintro v g40 m40 rfl
    refine ⟨_, rfl, ifPn (fun _ => (k10 g40).mono ?_) (fun hs => main hs _ (((m33.trans m34).trans m37).trans m40))⟩
    rintro v g38 m38 rfl
    exact ⟨_, rfl, fun g39 m39 => rfl⟩
  intro hs g1 m1
  have hs1 : okS b.length d af := by rw [hlb]; exact hs
  obtain ⟨hs2, hc, hr2, he2⟩ := comp_ok hs1
  have hce := cost_end b
  have hc1 := comp_of hs1
  have hc2 := comp_of hs2
  rw [he2] at hc2
  have hs3 := hs
  unfold okS at hs3
  refine hJ g1 ((k26 b (h.ex m1) d af).mono ?_)
  rintro v g2 m2 ⟨xa, xl, xc, rfl, hx⟩
  rw [hc1] at hx ⊢
  have hxl := SlB.length hx
  rw [compB_len] at hxl
  refine ⟨_, _, _, _, _, _, rfl, fun g3 m3 => (k26 _ (hx.ex m3) _ _).mono ?_⟩
  rintro v g4 m4 ⟨ya, yl, yc, rfl, hy⟩
  rw [hc2] at hy ⊢
  have hyl := SlB.length hy
  rw [compB_len] at hyl
  refine ⟨_, _, _, _, _, _, rfl, fun g5 m5 => (k27 b (h.ex ((((m1.trans m2).trans m3).trans m4).trans m5)) d af).mono ?_⟩
  rintro v g6 m6 (⟨hn, _⟩ | ⟨_, pa, pl, pc, rfl, hp⟩)
  · exact absurd hs1 hn
  have hx6 := hx.ex (((m3.trans m4).trans m5).trans m6)
  refine ⟨_, _, _, _, rfl, (k27 _ hx6 _ _).mono ?_⟩
  rintro v g7 m7 (⟨hn, _⟩ | ⟨_, qa, ql, qc, rfl, hq⟩)
  · exact absurd hs2 hn
  rw [he2] at hq
  refine ⟨_, _, _, _, rfl, fun g8 m8 => ifEq (fun _ => ifEq (fun _ => ifEq (fun _ => ifEq (fun _ => (k24 _ _ _ _ _ g8).mono ?_) (fun hh => absurd rfl hh)) (fun hh => absurd rfl hh)) (fun hh => absurd rfl hh)) (fun hh => absurd rfl hh)⟩
  rintro v g9 m9 rfl
  rw [compB_len, hxl] at hs2
  have hx9 := hx6.ex ((m7.trans m8).trans m9)
  have hy9 := hy.ex ((((m5.trans m6).trans m7).trans m8).trans m9)
  rw [hxl]
  refine ⟨_, rfl, ifP (fun _ => (k19 _ _ hx9 hy9 _ _ _ _).mono ?_) (fun hh => absurd hs2 hh)⟩
  rintro v g10 m10 rfl
  refine ⟨_, rfl, ifP (fun _ => (k28 _ _ (hp.exm (((m7.trans m8).trans m9).trans m10)) (hq.exm ((m8.trans m9).trans m10))).mono ?_) (fun hh => absurd ⟨rfl, rfl, rfl⟩ hh)⟩
  rintro v g11 m11 rfl
  refine ⟨_, rfl, ifP (fun _ => (k29 b (h.ex (((((((((((m1.trans m2).trans m3).trans m4).trans m5).trans m6).trans m7).trans m8).trans m9).trans m10).trans m11))) (by omega)).mono ?_) (fun hh => absurd rfl hh)⟩
  rintro v g12 m12 rfl
  exact ⟨_, rfl, ifLe (fun _ g13 m13 => congrArg Value.bool (eqI_true.mpr rfl)) (fun hh => by omega)⟩

theorem k7 (b k : List UInt8) {a : Option Addr} {n c : Nat} {g : G} (h : SlB g a n c b) (d af : Int) :
    CallsP Try.prog 7 #[stV a n c d af, .string (bstr k)] g fun v _ => v = .bool true := by
  refine call7 a n c d af (bstr k) g _ ?_
  have hlb := SlB.length h
  unfold F7
  intro J hJ
  suffices main : ∀ g1, Ex g g1 → J g1 by
    refine fun g33 m33 => (k10 g33).mono ?_
    rintro v g34 m34 rfl
    refine ⟨_, rfl, (k11 a n c d af g34).mono ?_⟩
    rintro v g37 m37 rfl
    refine ⟨_, rfl, ifPn (fun _ => (k10 g37).mono ?_) (fun _ => ifLt (fun _ => (k10 g37).mono ?_) (fun _ => main _ ((m33.trans m34).trans m37)))⟩
    · rintro v g38 m38 rfl
      exact ⟨_, rfl, fun g39 m39 => rfl⟩
    · rintro v g38 m38 rfl
      exact ⟨_, rfl, fun g39 m39 => rfl⟩
  intro g1 m1
  refine hJ g1 ((k35 b k (h.ex m1) d af).mono ?_)
  intro v g2 m2 hget
  have hgv : ∃ xa xl xc e, v = rsV xa xl xc e := by
    rcases hget with ⟨_, rfl⟩ | ⟨_, _, rfl⟩ | ⟨_, _, _, rfl⟩ | ⟨_, _, x, xa, xl, xc, _, rfl, _⟩ <;> exact ⟨_, _, _, _, rfl⟩
  obtain ⟨xa, xl, xc, e, rfl⟩ := hgv
  refine ⟨xa, xl, xc, e, rfl, (k36 b (h.ex (m1.trans m2)) d af).mono ?_⟩
  intro v g3 m3 hkeys
  have hkv : ∃ xa xl xc e, v = rsV xa xl xc e := by
    rcases hkeys with ⟨_, rfl⟩ | ⟨_, xa, xl, xc, rfl, _⟩ <;> exact ⟨_, _, _, _, rfl⟩
  obtain ⟨ya, yl, yc, ek, rfl⟩ := hkv
  refine ⟨ya, yl, yc, ek, rfl, (k27 b (h.ex ((m1.trans m2).trans m3)) d af).mono ?_⟩
  intro v g4 m4 hents
  have hev : ∃ xa xl xc e, v = rsV xa xl xc e := by
    rcases hents with ⟨_, rfl⟩ | ⟨_, xa, xl, xc, rfl, _⟩ <;> exact ⟨_, _, _, _, rfl⟩
  obtain ⟨za, zl, zc, ez, rfl⟩ := hev
  refine ⟨za, zl, zc, ez, rfl, (k26 b (h.ex (((m1.trans m2).trans m3).trans m4)) d af).mono ?_⟩
  rintro v g5 m5 ⟨wa, wl, wc, rfl, hw⟩
  refine ⟨wa, wl, wc, _, _, _, rfl, fun g6 m6 => (k14 a n c d af g6).mono ?_⟩
  rintro v g7 m7 rfl
  have hw7 := hw.ex (m6.trans m7)
  refine ⟨_, rfl, ifPn (fun hs => ?_) (fun hs => ?_)⟩
  · rw [← hlb] at hs
    have e1 : rsV xa xl xc e = rsV none 0 0 1 := by
      rcases hget with ⟨_, h⟩ | ⟨h, _⟩ | ⟨h, _⟩ | ⟨h, _⟩
      · exact h
      all_goals exact absurd h hs
    have e2 : rsV ya yl yc ek = rsV none 0 0 1 := by
      rcases hkeys with ⟨_, h⟩ | ⟨h, _⟩
      · exact h
      · exact absurd h hs
    have e3 : rsV za zl zc ez = rsV none 0 0 1 := by
      rcases hents with ⟨_, h⟩ | ⟨h, _⟩
      · exact h
      · exact absurd h hs
    cases e1; cases e2; cases e3
    have ec : compR b d af = ⟨[], 0, 0, 1⟩ := by unfold compR; rw [if_pos (tf_no hs)]
    rw [ec] at hw7 ⊢
    refine ifEq (fun _ => ifEq (fun _ => ifEq (fun _ => ifEq (fun _ => ifEq (fun _ => ifEq (fun _ => (k15 _ hw7 _ _).mono ?_) (fun hh => absurd rfl hh)) (fun hh => absurd rfl hh)) (fun hh => absurd rfl hh)) (fun hh => absurd rfl hh)) (fun hh => absurd rfl hh)) (fun hh => absurd rfl hh)
    rintro v g8 m8 rfl
    exact ⟨_, rfl, ifP (fun _ g9 m9 => congrArg Value.bool (eqI_true.mpr rfl)) (fun hh => absurd ⟨rfl, rfl, rfl⟩ hh)⟩
  have hs1 : okS b.length d af := by rw [hlb]; exact hs
  have hs3 := hs
  unfold okS at hs3
  have hc1 := comp_of hs1
  rw [hc1] at hw7 ⊢
  have hkeys' : ek = 0 ∧ SlE strE g3 ya yl yc ((enL (recsL b)).map Prod.fst) := by
    rcases hkeys with ⟨hn, _⟩ | ⟨_, xa', xl', xc', he, hx⟩
    · exact absurd hs1 hn
    · cases he; exact ⟨rfl, hx⟩
  obtain ⟨rfl, hky⟩ := hkeys'
  have hents' : ez = 0 ∧ SlE entE g4 za zl zc (enL (recsL b)) := by
    rcases hents with ⟨hn, _⟩ | ⟨_, xa', xl', xc', he, hx⟩
    · exact absurd hs1 hn
    · cases he; exact ⟨rfl, hx⟩
  obtain ⟨rfl, hez⟩ := hents'
  have m7' := ((((m1.trans m2).trans m3).trans m4).trans m5).trans (m6.trans m7)
  refine (k21 b (h.ex m7') d af (by omega)).mono ?_
  rintro v g17 m17 ⟨oa, on, oc, rfl, ho, hon⟩
  have hosl := ho.sl
  have hol := hosl.len
  have hkl := hky.len
  rw [List.length_map] at hkl
  refine ⟨_, _, _, rfl, ?_⟩
  intro J1 hJ1
  have fin : ∀ g18, Ex g17 g18 → J1 g18 := by
    intro g18 m18
    have h18 := hosl.exm m18
    have k18' := hky.exm (((m4.trans m5).trans (m6.trans m7)).trans (m17.trans m18))
    refine hJ1 g18 ⟨fun m i g' => ∃ j : Nat, i = j ∧ j + m = yl, ⟨yl, 0, rfl, by omega⟩, ?_⟩
    rintro m i g19 le19 ⟨j, rfl, hjm⟩
    refine ifLt (fun hlt g20 m20 => ⟨⟨by omega, by omega⟩, ?_⟩) (fun hge => ?_)
    · have hj : j < (enL (recsL b)).length := by omega
      have gj := List.getElem?_eq_getElem hj
      refine ((k18'.mono le19).exm m20).rd (i := j) (x := (enL (recsL b))[j].1) (by rw [List.getElem?_map, gj]; rfl) ?_
      rintro r ad rfl hr
      refine ⟨bstr (enL (recsL b))[j].1, ?_, ⟨by omega, by omega⟩, ?_⟩
      · rw [Int.toNat_natCast]
        have := (hr 0 _ rfl).1
        rwa [Addr.add_zero'] at this
      refine ((h18.mono le19).exm m20).rd (i := j) gj ?_
      rintro r2 ad2 ⟨fa, fn, fc, rfl, hd2⟩ hr2
      refine ⟨bstr (enL (recsL b))[j].1, ?_, ifSn (fun hne => absurd rfl hne) (fun _ => ⟨i64 (by omega) (by omega), m - 1, by omega, j + 1, by omega, by omega⟩)⟩
      rw [Int.toNat_natCast]
      have := (hr2 0 _ rfl).1
      rwa [Addr.add_zero'] at this
    · refine (k16 (bstr k) g19).mono ?_
      rintro v g22 m22 rfl
      rw [bstr_size]
      refine ⟨_, rfl, ifPn (fun hk => ?_) (fun hk => ?_)⟩
      · have e1 : rsV xa xl xc e = rsV none 0 0 2 := by
          rcases hget with ⟨h, _⟩ | ⟨_, _, h⟩ | ⟨_, h, _⟩ | ⟨_, h, _⟩
          · exact absurd hs1 h
          · exact h
          all_goals exact absurd h hk
        cases e1
        exact ifEq (fun _ g23 m23 => congrArg Value.bool (eqI_true.mpr rfl)) (fun hh => absurd rfl hh)
      · have ho22 := (h18.mono le19).exm m22
        refine (k20 k _ ho22).mono ?_
        rintro v g25 m25 ⟨i, rfl, hi⟩
        refine ⟨_, rfl, ifLt (fun hlt => ?_) (fun hge2 => ?_)⟩
        · have hno : mpF (recsL b) k = none := by
            rcases hi with ⟨_, hi⟩ | ⟨j, e, rfl, _⟩
            · cases hm : mpF (recsL b) k with
              | none => rfl
              | some dd => exact absurd rfl (hi _ ((en_mp (recsL b) k dd).2 hm))
            · omega
          have e1 : rsV xa xl xc e = rsV none 0 0 8 := by
            rcases hget with ⟨h, _⟩ | ⟨_, h, _⟩ | ⟨_, _, _, h⟩ | ⟨_, _, x, _, _, _, h, _⟩
            · exact absurd hs1 h
            · exact absurd hk h
            · exact h
            · rw [hno] at h; cases h
          cases e1
          exact ifEq (fun _ g23 m23 => congrArg Value.bool (eqI_true.mpr rfl)) (fun hh => absurd rfl hh)
        · rcases hi with ⟨rfl, _⟩ | ⟨q, en, rfl, hq, rfl⟩
          · omega
          have hql := (List.getElem?_eq_some_iff.1 hq).1
          have hsome := (en_mp (recsL b) en.1 en.2).1 (List.mem_of_getElem? hq)
          have hx : e = 0 ∧ SlB g2 xa xl xc en.2 := by
            rcases hget with ⟨h, _⟩ | ⟨_, h, _⟩ | ⟨_, _, h, _⟩ | ⟨_, _, x, pa, pl, pc, h, hv, hx⟩
            · exact absurd hs1 h
            · exact absurd hk h
            · rw [hsome] at h; cases h
            · rw [hsome] at h; cases h; cases hv; exact ⟨rfl, hx⟩
          obtain ⟨rfl, hx⟩ := hx
          refine ⟨⟨by omega, by omega⟩, (ho22.exm m25).rd (i := q) hq ?_⟩
          rintro r ad ⟨fa, fn, fc, rfl, hd⟩ hr
          have hx25 := (((hx.ex (((m3.trans m4).trans m5).trans (m6.trans m7))).ex (m17.trans m18)).mono le19).ex (m22.trans m25)
          refine ⟨fa, fn, fc, ?_, (k38 _ _ hx25 hd).mono ?_⟩
          · rw [Int.toNat_natCast]
            exact (hr 1 _ rfl).1
          rintro v g28 m28 rfl
          exact ⟨_, rfl, ifP (fun _ g29 m29 => congrArg Value.bool (eqI_true.mpr rfl)) (fun hh => absurd rfl hh)⟩
  refine fun g31 m31 => ifNe (fun hh => absurd rfl hh) (fun _ => ifNe (fun hh => absurd rfl hh) (fun _ => ifNe (fun hh => absurd rfl hh) (fun _ => ?_)))
  refine (k28 _ _ (hez.exm ((m5.trans (m6.trans m7)).trans (m17.trans m31))) (hosl.exm m31)).mono ?_
  rintro v g35 m35 rfl
  refine ⟨_, rfl, ifPn (fun hh => absurd rfl hh) (fun _ => ifNe (fun hh => by omega) (fun _ => (k37 b (h.ex (m7'.trans ((m17.trans m31).trans m35))) d af (by omega)).mono ?_))⟩
  rintro v g38 m38 ⟨ca, cc, rfl, hcc⟩
  refine ⟨_, _, _, _, _, rfl, (k19 _ _ (hw7.ex ((m17.trans m31).trans (m35.trans m38))) hcc _ _ _ _).mono ?_⟩
  rintro v g39 m39 rfl
  exact ⟨_, rfl, ifPn (fun hh => absurd ⟨rfl, rfl, rfl⟩ hh) (fun _ => fin g39 ((m31.trans m35).trans (m38.trans m39)))⟩
end Go.Proofs.Ytlofbfbcnlgmaaa
