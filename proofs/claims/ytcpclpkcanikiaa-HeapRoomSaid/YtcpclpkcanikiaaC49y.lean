/- The heap: HeapReads, HeapPuts answer true. -/
import Derived.Test.YtcpclpkcanikiaaC49x
set_option linter.unusedVariables false
namespace Go.Proofs.Ytcpclpkcanikiaa
open Go Go.Vc Go.RowKit

theorem law6 (l : List Wd) (w : Wd) {a : Option Addr} {ll c : Nat} {g : G} (h : SlE wordE g a ll c l) (fr lim : Int) : CallsP Try.prog 6 #[hpV a ll c fr lim, wdV w] g fun u _ => u = .bool true := by
  refine call6 a ll c fr lim w.1 w.2 g _ ?_
  have hlen := h.len
  unfold F6
  intro J hJ
  refine awake_few (K := J) (fun h6 g1 m1 => hJ g1 ((k32 l w (h.exm m1) fr lim).mono ?_))
  intro u g2 m2 hb0
  have hu : ∃ x0 x1 x2a x2l x2c x3, u = .tuple ⟨[.int .i64 x0, .int .i64 x1, .slice x2a x2l x2c, .int .i64 x3]⟩ ∧ ((¬ validP l fr lim ∧ x0 = 0 ∧ x1 = 0 ∧ x2l = 0 ∧ x3 = 1) ∨ (validP l fr lim ∧ ∃ L, sts l = some L ∧ ((¬ (w.1 = true ∧ w.2 ∈ L) ∧ x0 = 0 ∧ x1 = 0 ∧ x2l = 0 ∧ x3 = 2) ∨
      ∃ q : Nat, w = (true, ((q : Nat) : Int)) ∧ ((q : Nat) : Int) ∈ L ∧ hdrP l q ∧ x0 = (l.getD q zW).2 ∧ x1 = (l.getD (q + 1) zW).2 ∧ x3 = 0 ∧ SlE wordE g2 x2a x2l x2c (contW l q)))) := by
    rcases hb0 with ⟨hn, rfl⟩ | ⟨hv, L, hL, ⟨hn, rfl⟩ | ⟨q, hq, hqL, hhd, xa, xc, rfl, hx⟩⟩
    · exact ⟨_, _, _, _, _, _, rfl, .inl ⟨hn, rfl, rfl, rfl, rfl⟩⟩
    · exact ⟨_, _, _, _, _, _, rfl, .inr ⟨hv, L, hL, .inl ⟨hn, rfl, rfl, rfl, rfl⟩⟩⟩
    · exact ⟨_, _, _, _, _, _, rfl, .inr ⟨hv, L, hL, .inr ⟨q, hq, hqL, hhd, rfl, rfl, rfl, hx⟩⟩⟩
  obtain ⟨x0, x1, x2a, x2l, x2c, x3, rfl, hb⟩ := hu
  refine ⟨_, _, _, _, _, _, rfl, (k33 l w (h.exm (m1.trans m2)) fr lim).mono ?_⟩
  intro u g3 m3 hs0
  have hu : ∃ (s : List UInt8) (e : Int), u = .tuple ⟨[.string ⟨s.toArray⟩, .int .i64 e]⟩ ∧ ((¬ validP l fr lim ∧ s = [] ∧ e = 1) ∨ (validP l fr lim ∧ ∃ L, sts l = some L ∧ ((¬ (w.1 = true ∧ w.2 ∈ L) ∧ s = [] ∧ e = 2) ∨
      ∃ q : Nat, w = (true, ((q : Nat) : Int)) ∧ ((q : Nat) : Int) ∈ L ∧ hdrP l q ∧ ((l.getD q zW).2 ≠ 4 ∧ s = [] ∧ e = 12 ∨ (l.getD q zW).2 = 4 ∧ s = textW (contW l q) ∧ e = 0)))) := by
    rcases hs0 with ⟨hn, rfl⟩ | ⟨hv, L, hL, ⟨hn, rfl⟩ | ⟨q, hq, hqL, hhd, ⟨hk, rfl⟩ | ⟨hk, rfl⟩⟩⟩
    · exact ⟨[], _, rfl, .inl ⟨hn, rfl, rfl⟩⟩
    · exact ⟨[], _, rfl, .inr ⟨hv, L, hL, .inl ⟨hn, rfl, rfl⟩⟩⟩
    · exact ⟨[], _, rfl, .inr ⟨hv, L, hL, .inr ⟨q, hq, hqL, hhd, .inl ⟨hk, rfl, rfl⟩⟩⟩⟩
    · exact ⟨_, _, rfl, .inr ⟨hv, L, hL, .inr ⟨q, hq, hqL, hhd, .inr ⟨hk, rfl, rfl⟩⟩⟩⟩
  obtain ⟨s, e, rfl, hs⟩ := hu
  have hsn := str_nil s
  refine ⟨_, _, rfl, (k34 l (h.exm ((m1.trans m2).trans m3)) fr lim).mono ?_⟩
  intro u g4 m4 hbl0
  have hu : ∃ oa on oc e, u = .tuple ⟨[.slice oa on oc, .int .i64 e]⟩ ∧ ((¬ validP l fr lim ∧ on = 0 ∧ e = 1) ∨ (validP l fr lim ∧ ∃ L, sts l = some L ∧ e = 0 ∧ SlE intE g4 oa on oc L)) := by
    rcases hbl0 with ⟨hn, rfl⟩ | ⟨hv, L, oa, on, oc, hL, rfl, ho, _⟩
    · exact ⟨_, _, _, _, rfl, .inl ⟨hn, rfl, rfl⟩⟩
    · exact ⟨_, _, _, _, rfl, .inr ⟨hv, L, hL, rfl, ho⟩⟩
  obtain ⟨oa, on, oc, e4, rfl, hbl⟩ := hu
  have m04 := ((m1.trans m2).trans m3).trans m4
  refine ⟨_, _, _, _, rfl, (k23 l (h.exm m04) fr lim).mono ?_⟩
  rintro u g5 m5 rfl
  have tr : ∀ {x y : Int}, x = y → Value.bool (eqI x y) = .bool true := fun h => congrArg Value.bool (eqI_true.mpr h)
  refine ⟨_, rfl, ifPn (fun hn => ?_) (fun hv => ?_)⟩
  · rcases hb with ⟨_, rfl, rfl, rfl, rfl⟩ | ⟨hv, _⟩
    rotate_left
    · exact absurd hv hn
    rcases hs with ⟨_, rfl, rfl⟩ | ⟨hv, _⟩
    rotate_left
    · exact absurd hv hn
    rcases hbl with ⟨_, rfl, rfl⟩ | ⟨hv, _⟩
    rotate_left
    · exact absurd hv hn
    exact ifEq (fun _ => ifEq (fun _ => ifEq (fun _ => ifEq (fun _ => ifS (fun _ => ifEq (fun _ => ifEq (fun _ g6 _ => tr rfl) (fun hh => absurd rfl hh)) (fun hh => absurd rfl hh)) (fun hh => absurd rfl hh)) (fun hh => absurd rfl hh)) (fun hh => absurd rfl hh)) (fun hh => absurd rfl hh)) (fun hh => absurd rfl hh)
  have hval := hv
  obtain ⟨v1, v2, v3, v4, _⟩ := hv
  rcases hbl with ⟨hn, _⟩ | ⟨_, L, hL, rfl, ho⟩
  · exact absurd hval hn
  have m05 := m04.trans m5
  intro J1 hJ1
  refine (k36 l hL (h.exm m05) (by omega) fr lim).mono ?_
  rintro u g34 m34 ⟨ya, yn, yc, rfl, hy, _⟩
  refine ⟨_, _, _, rfl, (k35 L L ((ho.exm m5).exm m34) hy).mono ?_⟩
  rintro u g35 m35 rfl
  refine ⟨_, rfl, ifPn (fun hh => absurd rfl hh) (fun _ => ifNe (fun hh => absurd rfl hh) (fun _ => hJ1 g35 ?_))⟩
  have m035 := (m05.trans m34).trans m35
  refine (k37 l hL (h.exm m035) (by omega) fr lim w).mono ?_
  rintro u g15 m15 rfl
  have hL' : ∀ {L'}, sts l = some L' → L' = L := fun hh => by rw [hL] at hh; cases hh; rfl
  refine ⟨_, rfl, ifPn (fun hn => ?_) (fun hr => ?_)⟩
  · rcases hb with ⟨hh, _⟩ | ⟨_, L2, hL2, ⟨_, rfl, rfl, rfl, rfl⟩ | ⟨q, rfl, hqL, _⟩⟩
    · exact absurd hval hh
    rotate_left
    · rw [hL' hL2] at hqL; exact absurd ⟨rfl, hqL⟩ hn
    rcases hs with ⟨hh, _⟩ | ⟨_, L2, hL2, ⟨_, rfl, rfl⟩ | ⟨q, rfl, hqL, _⟩⟩
    · exact absurd hval hh
    rotate_left
    · rw [hL' hL2] at hqL; exact absurd ⟨rfl, hqL⟩ hn
    exact ifEq (fun _ => ifEq (fun _ => ifEq (fun _ => ifEq (fun _ => ifS (fun _ g16 _ => tr rfl) (fun hh => absurd rfl hh)) (fun hh => absurd rfl hh)) (fun hh => absurd rfl hh)) (fun hh => absurd rfl hh)) (fun hh => absurd rfl hh)
  rcases hb with ⟨hh, _⟩ | ⟨_, L2, hL2, ⟨hh, _⟩ | ⟨q, rfl, hqL, hhd, rfl, rfl, rfl, hx⟩⟩
  · exact absurd hval hh
  · rw [hL' hL2] at hh; exact absurd hr hh
  rcases hs with ⟨hh, _⟩ | ⟨_, L2, hL2, ⟨hh, _⟩ | ⟨q', hq', _, _, hs⟩⟩
  · exact absurd hval hh
  · rw [hL' hL2] at hh; exact absurd hr hh
  have : q' = q := by simp at hq'; omega
  subst this
  refine (k38 l q' hhd ((h.exm m035).exm m15) (by omega) fr lim).mono ?_
  rintro u g22 m22 ⟨xa, xc, rfl, hx2⟩
  refine ⟨_, _, _, _, _, rfl, ?_⟩
  intro J2 hJ2
  have hx22 : SlE wordE g22 x2a x2l x2c (contW l q') := hx.mono ((((((m3.trans m4).trans m5).trans m34).trans m35).trans m15).trans m22).le
  refine ifNe (fun hh => absurd rfl hh) (fun _ => ifNe (fun hh => absurd rfl hh) (fun _ => (k39 _ _ hx22 hx2).mono ?_))
  rintro u g31 m31 rfl
  refine ⟨_, rfl, ifPn (fun hh => absurd rfl hh) (fun _ => ifNe (fun hh => absurd rfl hh) (fun _ => hJ2 g31 ?_))⟩
  rcases hs with ⟨hk, rfl, rfl⟩ | ⟨hk, rfl, rfl⟩
  · exact ifNe (fun _ => ifS (fun _ g24 _ => tr rfl) (fun hh => absurd rfl hh)) (fun hh => absurd hh hk)
  · have hh5 := hhd.2.2.2.2.1
    have hh6 := hhd.2.2.2.2.2.1
    refine ifNe (fun hh => absurd hk hh) (fun _ => (k40 _ (hx2.exm m31) (by omega)).mono ?_)
    rintro u g26 m26 rfl
    exact ⟨_, rfl, ifS (fun _ g27 _ => tr rfl) (fun hh => absurd rfl hh)⟩

theorem law4 {d : Nat} (l : List Wd) (s : List UInt8) (v : Val) {a : Option Addr} {ll c : Nat} {na : Option Addr} {nn nc : Nat} {la : Option Addr} {ln lc : Nat} {g : G} (h : SlE wordE g a ll c l) (hv : VRep g d v na nn nc la ln lc) (fr lim : Int) :
    CallsP Try.prog 4 #[hpV a ll c fr lim, .string ⟨s.toArray⟩, .agg ⟨valC v na nn nc la ln lc⟩] g fun u _ => u = .bool true := by
  refine call4 a ll c fr lim ⟨s.toArray⟩ v.op v.n ⟨v.s.toArray⟩ na nn nc la ln lc g _ ?_
  have hlen := h.len
  unfold F4
  rw [bsz]
  intro J hJ
  have tr : ∀ {x y : Int}, x = y → Value.bool (eqI x y) = .bool true := fun h => congrArg Value.bool (eqI_true.mpr h)
  have yes : ∀ g1, J true g1 := by
    intro g1
    refine hJ _ g1 (ifT (fun _ => (k15 g1).mono ?_) (fun hh => by cases hh))
    rintro u g2 m2 rfl
    exact ⟨_, rfl, fun g3 _ => rfl⟩
  have main : ll ≤ 600 → s.length ≤ 16484 → szV v < 200 → dpV v ≤ 250 → ∀ g1, Ex g g1 → J false g1 := by
    intro h6 hsl hsz hdp g1 m1
    refine hJ _ g1 (ifT (fun hh => by cases hh) (fun _ => (k25 l s (h.exm m1) fr lim (by omega)).mono ?_))
    rintro u g4 m4 ⟨r, e, ho, hcs⟩
    obtain ⟨a1, n1, c1, f1, m1', w1, er, l1, rfl, hs1, hc1⟩ := ho.vals
    refine ⟨_, _, _, _, _, _, _, _, rfl, fun g5 m5 => (k26 v l (h.exm ((m1.trans m4).trans m5)) (hv.ex ((m1.trans m4).trans m5)) fr lim (by omega)).mono ?_⟩
    rintro u g6 m6 ⟨r2, e2, ho2, hcs2⟩
    obtain ⟨a2, n2, c2, f2, m2', w2, er2, l2, rfl, hs2, hc2⟩ := ho2.vals
    refine ⟨_, _, _, _, _, _, _, _, rfl, fun g7 m7 => (k23 l (h.exm ((((m1.trans m4).trans m5).trans m6).trans m7)) fr lim).mono ?_⟩
    rintro u g8 m8 rfl
    have m08 := (((((m1.trans m4).trans m5).trans m6).trans m7).trans m8)
    have hs1' : SlE wordE g8 a1 n1 c1 l1 := hs1.exm (((m5.trans m6).trans m7).trans m8)
    have hs2' : SlE wordE g8 a2 n2 c2 l2 := hs2.exm (m7.trans m8)
    have zero1 : r = none → l1 = [] ∧ f1 = 0 ∧ m1' = 0 ∧ w1 = (false, 0) ∧ er = e := by
      rintro rfl
      rcases hc1 with ⟨_, hh⟩ | ⟨hh, _⟩
      · exact hh
      · cases hh
    have zero2 : r2 = none → l2 = [] ∧ f2 = 0 ∧ m2' = 0 ∧ w2 = (false, 0) ∧ er2 = e2 := by
      rintro rfl
      rcases hc2 with ⟨_, hh⟩ | ⟨hh, _⟩
      · exact hh
      · cases hh
    refine ⟨_, rfl, ifPn (fun hn => ?_) (fun hval => ?_)⟩
    · have hr : r = none ∧ e = 1 := by
        rcases hcs with ⟨_, q1, q2⟩ | ⟨hh, _⟩ | ⟨hh, _⟩
        · exact ⟨q1, q2⟩
        · exact absurd hh hn
        · exact absurd hh hn
      have hr2 : r2 = none ∧ e2 = 1 := by
        rcases hcs2 with ⟨_, q1, q2⟩ | ⟨hh, _⟩
        · exact ⟨q1, q2⟩
        · exact absurd hh hn
      obtain ⟨rfl, rfl, rfl, rfl, rfl⟩ := zero1 hr.1
      obtain ⟨rfl, rfl, rfl, rfl, rfl⟩ := zero2 hr2.1
      obtain ⟨_, rfl⟩ := hr
      obtain ⟨_, rfl⟩ := hr2
      refine (k19 [] hs1' 0 0).mono ?_
      rintro u g9 m9 rfl
      refine ⟨_, rfl, ifP (fun _ => wEq (false, 0) (false, 0) rfl (ifEq (fun _ => (k19 [] (hs2'.exm m9) 0 0).mono ?_) (fun hh => absurd rfl hh))) (fun hh => absurd ⟨rfl, rfl, rfl⟩ hh)⟩
      rintro u g10 m10 rfl
      exact ⟨_, rfl, ifP (fun _ => wEq (false, 0) (false, 0) rfl (fun g11 _ => tr rfl)) (fun hh => absurd ⟨rfl, rfl, rfl⟩ hh)⟩
    have hval0 := hval
    obtain ⟨v1, v2, v3, v4, _⟩ := hval
    intro J1 hJ1
    have last : ∀ g17, Ex g8 g17 → J1 g17 := by
      intro g17 m17
      have m017 := m08.trans m17
      refine hJ1 g17 ((k28 v (hv.ex m017) (by omega) (by omega)).mono ?_)
      rintro u g18 m18 rfl
      refine ⟨_, rfl, ifPn (fun hd => ?_) (fun hd => ?_)⟩
      · have hr2 : r2 = none ∧ e2 = 1 := by
          rcases hcs2 with ⟨_, q1, q2⟩ | ⟨_, hh, _⟩
          · exact ⟨q1, q2⟩
          · exact absurd hh hd
        obtain ⟨rfl, rfl, rfl, rfl, rfl⟩ := zero2 hr2.1
        obtain ⟨_, rfl⟩ := hr2
        refine (k19 [] ((hs2'.exm m17).exm m18) 0 0).mono ?_
        rintro u g19 m19 rfl
        exact ⟨_, rfl, ifP (fun _ => wEq (false, 0) (false, 0) rfl (fun g20 _ => tr rfl)) (fun hh => absurd ⟨rfl, rfl, rfl⟩ hh)⟩
      · have hr2 : r2 = putV lim l v ∧ e2 = 25 := by
          rcases hcs2 with ⟨hh, _⟩ | ⟨_, _, q1, q2⟩
          · exact absurd ⟨hval0, by omega, by omega, hd⟩ hh
          · exact ⟨q1, q2⟩
        obtain ⟨rfl, rfl⟩ := hr2
        have efr : fr = ((ll : Nat) : Int) := by omega
        subst efr
        refine (k29 d v l lim (hv.ex (m017.trans m18)) hd (h.exm (m017.trans m18)) v4 v2).mono ?_
        intro u g23 m23 hp
        obtain ⟨a3, n3, c3, f3, m3', w3, ok, rfl, hc3⟩ := hp.cases
        refine ⟨_, _, _, _, _, _, _, _, rfl, ?_⟩
        rcases hc3 with ⟨rfl, hr, _⟩ | ⟨rfl, l3, hr, rfl, rfl, rfl, hs3, _⟩
        · obtain ⟨rfl, rfl, rfl, rfl, rfl⟩ := zero2 hr
          refine ifT (fun _ g24 m24 => (k19 [] ((((hs2'.exm m17).exm m18).exm m23).exm m24) 0 0).mono ?_) (fun hh => by cases hh)
          rintro u g25 m25 rfl
          exact ⟨_, rfl, ifP (fun _ => wEq (false, 0) (false, 0) rfl (fun g26 _ => tr rfl)) (fun hh => absurd ⟨rfl, rfl, rfl⟩ hh)⟩
        · rcases hc2 with ⟨hh, _⟩ | ⟨hh, rfl, rfl, rfl, _⟩
          · rw [hr] at hh; cases hh
          rw [hr] at hh
          cases hh
          refine ifT (fun hh => by cases hh) (fun _ g29 m29 => (k20 l2 l2 ((((hs2'.exm m17).exm m18).exm m23).exm m29) (hs3.exm m29) _ _ _ _).mono ?_)
          rintro u g30 m30 rfl
          exact ⟨_, rfl, ifP (fun _ => wEq _ _ rfl (fun g31 _ => tr rfl)) (fun hh => absurd ⟨rfl, rfl, rfl⟩ hh)⟩
    refine ifLt (fun hbig => ?_) (fun hbig => ?_)
    · have hr : r = none ∧ e = 5 := by
        rcases hcs with ⟨hh, _⟩ | ⟨_, _, q1, q2⟩ | ⟨_, hh, _⟩
        · exact absurd hval0 hh
        · exact ⟨q1, q2⟩
        · omega
      obtain ⟨rfl, rfl, rfl, rfl, rfl⟩ := zero1 hr.1
      obtain ⟨_, rfl⟩ := hr
      refine (k19 [] hs1' 0 0).mono ?_
      rintro u g34 m34 rfl
      refine ⟨_, rfl, ifPn (fun hh => absurd ⟨rfl, rfl, rfl⟩ hh) (fun _ => ?_)⟩
      rw [eqW]
      exact ifPn (fun hh => absurd rfl hh) (fun _ => ifNe (fun hh => absurd rfl hh) (fun _ => last g34 m34))
    · have hr : r = addF lim l 4 ((s.length : Nat) : Int) (bytesW s) ∧ e = 25 := by
        rcases hcs with ⟨hh, _⟩ | ⟨_, hh, _⟩ | ⟨_, _, q1, q2⟩
        · exact absurd hval0 hh
        · omega
        · exact ⟨q1, q2⟩
      obtain ⟨rfl, rfl⟩ := hr
      refine (k27 l s (h.exm m08) (by omega) fr lim ⟨by omega, v4, v2⟩ (by omega)).mono ?_
      intro u g38 m38 ha
      obtain ⟨a3, n3, c3, f3, m3', w3, ok, rfl, hc3⟩ := (ha.put v3).cases
      refine ⟨_, _, _, _, _, _, _, _, rfl, ?_⟩
      intro J2 hJ2
      have good : ∀ g', Ex g8 g' → J2 false g' := fun g' m => hJ2 _ g' (ifT (fun hh => by cases hh) (fun _ => last g' m))
      rcases hc3 with ⟨rfl, hr, _⟩ | ⟨rfl, l3, hr, rfl, rfl, rfl, hs3, _⟩
      · obtain ⟨rfl, rfl, rfl, rfl, rfl⟩ := zero1 hr
        refine ifT (fun hh => by cases hh) (fun _ => ifT (fun _ g44 m44 => (k19 [] ((hs1'.exm m38).exm m44) 0 0).mono ?_) (fun hh => by cases hh))
        rintro u g45 m45 rfl
        refine ⟨_, rfl, ifPn (fun hh => absurd ⟨rfl, rfl, rfl⟩ hh) (fun _ => ?_)⟩
        rw [eqW]
        refine ifPn (fun hh => absurd rfl hh) (fun _ => ?_)
        rw [eqI_true.mpr rfl]
        exact good g45 ((m38.trans m44).trans m45)
      · rcases hc1 with ⟨hh, _⟩ | ⟨hh, rfl, rfl, rfl, _⟩
        · rw [hr] at hh; cases hh
        rw [hr] at hh
        cases hh
        refine ifT (fun _ g41 m41 => (k20 l1 l1 ((hs1'.exm m38).exm m41) (hs3.exm m41) _ _ _ _).mono ?_) (fun hh => by cases hh)
        rintro u g42 m42 rfl
        refine ⟨_, rfl, ifPn (fun hh => absurd ⟨rfl, rfl, rfl⟩ hh) (fun _ => ?_)⟩
        rw [eqW]
        exact ifPn (fun hh => absurd rfl hh) (fun _ => ifNe (fun hh => absurd rfl hh) (fun _ => ifT (fun hh => by cases hh) (fun _ => good g42 ((m38.trans m41).trans m42))))
  intro g47 m47
  refine (k15 g47).mono ?_
  rintro u g48 m48 rfl
  refine ⟨_, rfl, ifT (fun hh => by cases hh) (fun _ => (k16 fr lim g48).mono ?_)⟩
  rintro u g49 m49 rfl
  have m049 := (m47.trans m48).trans m49
  have li : ll ≤ 600 → s.length ≤ 16484 → (CallsP Try.prog 24 #[.agg ⟨valC v na nn nc la ln lc⟩] g49 fun u g50 => ∃ x, u = .bool x ∧ J (!x) g50) := by
    intro h6 hsl
    refine (k24 v (hv.ex m049)).mono ?_
    rintro u g50 m50 ⟨b, rfl, hb⟩
    refine ⟨b, rfl, ?_⟩
    cases b with
    | false => exact yes g50
    | true => exact main h6 hsl (hb rfl).1 (hb rfl).2 g50 (m049.trans m50)
  refine ⟨_, rfl, ifPn (fun _ => yes g49) (fun h6 => ifLt (fun h1 => ifLe (fun h2 => yes g49) (fun h2 => ifLt (fun h3 => yes g49) (fun h3 => li h6 (by omega)))) (fun h1 => ifLt (fun h3 => yes g49) (fun h3 => li h6 (by omega))))⟩
end Go.Proofs.Ytcpclpkcanikiaa
