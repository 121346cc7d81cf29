/- Scope: the law ScopeOrders; the reference's order. -/
import Derived.Test.YtkocjbgdmocmlaaGreatDoorC07af
import Derived.Test.YtkocjbgdmocmlaaGreatDoorFnL5
set_option linter.unusedVariables false
namespace Go.Proofs.YtkocjbgdmocmlaaGreatDoor
open Go Go.Vc Go.RowKit Go.Syn

theorem upper_ne {s : Lab} (h : upperP s) : s ≠ [] := fun e => by
  have := h.1.1
  rw [e] at this
  simp at this
/-- ContainsFunc of units, by a test of which one side is known. -/
theorem k25w (f : FuncId) (c0 : Array Value) (q : UnitD → Prop) (L : List UnitD) {a : Option Addr} {n c : Nat} {g : G} (h : SlE unitE g a n c L) (hn : n ≤ 1048576) (he : Go.Vc.Enters Tryz.prog f)
    (hf : ∀ g' u, Le g g' → u ∈ L → ∀ ia im ic da dn dc, UnI g' u ia im ic da dn dc → CallsP Tryz.prog f (#[unitV u ia im ic da dn dc] ++ c0) g' fun v _ => ∃ b, v = .bool b ∧ (b = false → q u)) :
    CallsP Tryz.prog 25 #[.slice a n c, .func (.func f) #[] c0] g fun v _ => ∃ b, v = .bool b ∧ (b = false → ∀ u ∈ L, q u) := by
  have hl := h.len
  have k : CallsP Tryz.prog 70 #[.slice a n c, .func (.func f) #[] c0] g fun v _ => ∃ i : Int, v = .int .i64 i ∧ (i < 0 → ∀ u ∈ L, q u) := by
    refine call70 a n c f c0 g _ ?_
    unfold F70
    refine ⟨fun m i g' => ∃ j : Nat, i = ((j : Nat) : Int) ∧ j + m = n ∧ ∀ x ∈ L.take j, q x, ⟨n, 0, rfl, by omega, by simp⟩, ?_⟩
    rintro m i g1 le ⟨j, rfl, hj, hall⟩
    refine ifLt (fun hlt => ⟨⟨by omega, by omega⟩, ?_⟩) (fun hge g4 _ => ⟨_, rfl, fun _ => by rwa [take_all (by omega)] at hall⟩)
    have gj := List.getElem?_eq_getElem (show j < L.length by omega)
    generalize L[j] = u at gj
    refine rdUA (h.mono le) j rfl gj (fun ad ia im ic da dn dc hI hc => ?_)
    obtain ⟨c0', c1, c2⟩ := hc g1 (Le.refl _)
    refine ⟨_, _, _, _, _, _, _, c0', c1, c2, he, (hf g1 u le (List.mem_of_getElem? gj) ia im ic da dn dc hI).mono ?_⟩
    rintro v g2 _ ⟨b, rfl, hb⟩
    exact ⟨_, rfl, ifT (fun e g3 _ => ⟨_, rfl, fun hh => by omega⟩) (fun e => ⟨i64 (by omega) (by omega), m - 1, by omega, j + 1, by omega, by omega, (all_take gj _).2 ⟨hall, hb e⟩⟩)⟩
  refine call25 a n c f c0 g _ ?_
  unfold F25
  refine k.mono ?_
  rintro v g1 _ ⟨i, rfl, hi⟩
  refine ⟨_, rfl, fun g2 _ => ⟨_, rfl, fun hb => hi ?_⟩⟩
  rw [leI_false] at hb
  exact hb
/-- The least name of the ready ones among some units. -/
def BestP (L : List UnitD) (out : List Lab) (b : Lab) : Prop := (b = [] ∧ ∀ u ∈ L, ¬ readyU out u) ∨ ∃ u ∈ L, readyU out u ∧ u.name = b ∧ ∀ v ∈ L, readyU out v → ¬ klt v.name b
/-- Order, of the reference. -/
theorem k29 {L : List UnitD} {a : Option Addr} {n c : Nat} {g : G} (hL : ∀ u ∈ L, unitOK u) (h : SlE unitE g a n c L) : CallsP Tryz.prog 29 #[.slice a n c] g fun v g' => OrdSay L v g' := by
  refine PL5.call29 a n c g _ ?_
  have hl := h.len
  unfold PL5.F29
  refine ifLt (fun q g1 _ => ord_err (by unfold orderN; rw [if_pos (by omega)]) g1) (fun q => ?_)
  have h16 : ¬ 16 < L.length := by omega
  refine ⟨fun m na nl nc i g' => ∃ j : Nat, i = ((j : Nat) : Int) ∧ j + m = n ∧ OwnE strE g' g.w.heap.size 9 na nl nc (namesU (L.take j)) ∧ ∀ u ∈ L.take j, unitP u, ⟨n, 0, rfl, by omega, by simpa [namesU] using OwnE.nil _ _ _, by simp⟩, ?_⟩
  rintro m na nl nc i g2 le2 ⟨j, rfl, hj, ho, hall⟩
  have hol := ho.len
  have hnm : (namesU (L.take j)).length ≤ L.length := by unfold namesU; rw [List.length_map, List.length_take]; omega
  refine ifLt (fun q2 => ⟨⟨by omega, by omega⟩, ?_⟩) (fun q2 => ?_)
  · have gj := List.getElem?_eq_getElem (show j < L.length by omega)
    generalize L[j] = u at gj
    have hu := List.mem_of_getElem? gj
    refine rdUA (h.mono le2) j rfl gj (fun ad ia im ic da dn dc hI hc => ?_)
    obtain ⟨c0, c1, c2⟩ := hc g2 (Le.refl _)
    refine ⟨_, _, _, _, _, _, _, c0, c1, c2, (k39 (hL u hu) hI).mono ?_⟩
    rintro v g3 m3 rfl
    refine ⟨_, rfl, ifPn (fun q3 g4 _ => ord_err ?_ g4) (fun q3 => ⟨⟨by omega, by omega⟩, ?_⟩)⟩
    · unfold orderN
      rw [if_neg h16, if_pos ⟨u, hu, q3⟩]
    · refine rdUA ((h.mono le2).exm m3) j rfl gj (fun ad2 ia2 im2 ic2 da2 dn2 dc2 hI2 hc2 => ⟨_, (hc2 g3 (Le.refl _)).1, fun g5 n5 => ?_⟩)
      obtain ⟨a', c', w', hr, g6, hw, hs, ho6, _, _⟩ := (ho.exm m3).app1 E22 22 (Nat.le_trans le2.size m3.size) n5 (x := u.name) rfl (by omega) (by unfold maxLen; omega)
      refine ⟨a', _, c', w', hr, g6, hw, hs, i64 (by omega) (by omega), m - 1, by omega, j + 1, by omega, by omega, ?_, (all_take gj _).2 ⟨hall, q3⟩⟩
      rw [names_take gj]
      exact ho6
  rw [take_all (by omega)] at ho hall
  have hnl : (namesU L).length = L.length := by unfold namesU; simp
  have hun : ¬ ∃ u ∈ L, ¬ unitP u := fun ⟨u, hu, hh⟩ => hh (hall u hu)
  refine (k67 ho.sl (by omega)).mono ?_
  rintro v g7 m7 rfl
  refine ⟨_, rfl, ifP (fun q3 g8 _ => ord_err (by unfold orderN; rw [if_neg h16, if_neg hun, if_pos q3]) g8) (fun q3 => ?_)⟩
  have hnd : (namesU L).Nodup := Classical.not_not.1 q3
  have le7 : Le g g7 := le2.trans m7.le
  have hn7 := ho.sl.exm m7
  refine ⟨fun m i g' => ∃ j : Nat, i = ((j : Nat) : Int) ∧ j + m = n ∧ ∀ u ∈ L.take j, ∀ s ∈ u.imps, s ∈ namesU L, ⟨n, 0, rfl, by omega, by simp⟩, ?_⟩
  rintro m2 i1 g9 le9 ⟨j1, rfl, hj1, himp⟩
  have le09 := le7.trans le9
  refine ifLt (fun q4 => ?_) (fun q4 => ?_)
  · have gj := List.getElem?_eq_getElem (show j1 < L.length by omega)
    generalize L[j1] = u at gj
    have hu := List.mem_of_getElem? gj
    refine ⟨fun m k g' => ∃ p : Nat, k = ((p : Nat) : Int) ∧ p + m = u.imps.length ∧ ∀ s ∈ u.imps.take p, s ∈ namesU L, ⟨u.imps.length, 0, rfl, by omega, by simp⟩, ?_⟩
    rintro m4 k g10 le10 ⟨p, rfl, hp, hps⟩
    have le010 := le09.trans le10
    refine ⟨⟨by omega, by omega⟩, rdUA (h.mono le010) j1 rfl gj (fun ad ia im ic da dn dc hI hc => ⟨_, _, _, (hc g10 (Le.refl _)).2.1, ?_⟩)⟩
    have hil := hI.imps.len
    have hi3 := (hL u hu).2.2
    refine ifLt (fun q5 => ⟨⟨by omega, by omega⟩, rdUA (h.mono le010) j1 rfl gj (fun ad2 ia2 im2 ic2 da2 dn2 dc2 hI2 hc2 => ⟨_, _, _, (hc2 g10 (Le.refl _)).2.1, ?_⟩)⟩) (fun q5 => ?_)
    · have hil2 := hI2.imps.len
      refine ⟨⟨by omega, by omega⟩, ?_⟩
      have gp := List.getElem?_eq_getElem (show p < u.imps.length by omega)
      generalize u.imps[p] = s at gp
      refine rdS hI2.imps p rfl gp ((k79 (namesU L) s ((hn7.mono le9).mono le10) (by omega)).mono ?_)
      rintro v g11 m11 rfl
      refine ⟨_, rfl, ifPn (fun q6 g12 _ => ord_err ?_ g12) (fun q6 => ⟨i64 (by omega) (by omega), m4 - 1, by omega, p + 1, by omega, by omega, (all_take gp _).2 ⟨hps, q6⟩⟩)⟩
      unfold orderN
      rw [if_neg h16, if_neg hun, if_neg (fun hh => hh hnd), if_pos ⟨u, hu, s, List.mem_of_getElem? gp, q6⟩]
    · rw [take_all (by omega)] at hps
      exact ⟨i64 (by omega) (by omega), m2 - 1, by omega, j1 + 1, by omega, by omega, (all_take gj _).2 ⟨himp, hps⟩⟩
  rw [take_all (by omega)] at himp
  have hord : orderN L = topo L L.length [] := by
    unfold orderN
    rw [if_neg h16, if_neg hun, if_neg (fun hh => hh hnd), if_neg]
    rintro ⟨u, hu, s, hs, hh⟩
    exact hh (himp u hu s hs)
  refine ⟨fun m oa on oc g' => ∃ out : List Lab, OwnE strE g' g.w.heap.size 9 oa on oc out ∧ out.length + m = L.length ∧ topo L m out = topo L L.length [], ⟨L.length, [], OwnE.nil _ _ _, by simp, rfl⟩, ?_⟩
  rintro m6 oa on oc g13 le13 ⟨out, hout, hlen, htop⟩
  have le013 := le09.trans le13
  have houl := hout.len
  refine ifLt (fun q4 => ?_) (fun q4 g22 m22 => ?_)
  · obtain ⟨m5, rfl⟩ : ∃ m5, m6 = m5 + 1 := ⟨m6 - 1, by omega⟩
    refine ⟨fun m best i g' => ∃ (j : Nat) (b : Lab), best = bstr b ∧ i = ((j : Nat) : Int) ∧ j + m = n ∧ Ex g13 g' ∧ BestP (L.take j) out b, ⟨n, 0, [], rfl, rfl, by omega, Ex.refl _, .inl ⟨rfl, by simp⟩⟩, ?_⟩
    rintro m8 best i2 g14 le14 ⟨j2, b, rfl, rfl, hj2, m14, hbest⟩
    have le014 := le013.trans le14
    refine ifLt (fun q5 => ⟨⟨by omega, by omega⟩, ?_⟩) (fun q5 => ?_)
    · have gj := List.getElem?_eq_getElem (show j2 < L.length by omega)
      generalize L[j2] = u at gj
      have hu := List.mem_of_getElem? gj
      have et : L.take (j2 + 1) = L.take j2 ++ [u] := by rw [List.take_add_one, gj]; rfl
      refine rdUA (h.mono le014) j2 rfl gj (fun ad ia im ic da dn dc hI hc => ⟨_, (hc g14 (Le.refl _)).1, (k79 out u.name (hout.sl.exm m14) (by omega)).mono ?_⟩)
      rintro v g15 m15 rfl
      refine ⟨_, rfl, ?_⟩
      refine ⟨fun m r k g' => ∃ p : Nat, k = ((p : Nat) : Int) ∧ p + m = u.imps.length ∧ Ex g15 g' ∧ (r = true ↔ u.name ∉ out ∧ ∀ s ∈ u.imps.take p, s ∈ out), ⟨u.imps.length, 0, rfl, by omega, Ex.refl _, by rw [tf_not]; simp⟩, ?_⟩
      rintro m10 r k1 g16 le16 ⟨p, rfl, hp, m16, hr⟩
      have le016 : Le g g16 := (le014.trans m15.le).trans le16
      have m1316 := (m14.trans m15).trans m16
      refine ⟨⟨by omega, by omega⟩, rdUA (h.mono le016) j2 rfl gj (fun ad1 ia1 im1 ic1 da1 dn1 dc1 hI1 hc1 => ⟨_, _, _, (hc1 g16 (Le.refl _)).2.1, ?_⟩)⟩
      have hil := hI1.imps.len
      have hi3 := (hL u hu).2.2
      refine ifLt (fun q6 => ?_) (fun q6 => ?_)
      · have gp := List.getElem?_eq_getElem (show p < u.imps.length by omega)
        generalize u.imps[p] = s at gp
        refine ifT (fun e => ⟨⟨by omega, by omega⟩, rdUA (h.mono le016) j2 rfl gj (fun ad2 ia2 im2 ic2 da2 dn2 dc2 hI2 hc2 => ⟨_, _, _, (hc2 g16 (Le.refl _)).2.1, ?_⟩)⟩) (fun e => ⟨i64 (by omega) (by omega), m10 - 1, by omega, p + 1, by omega, by omega, m16, ?_⟩)
        · have hil2 := hI2.imps.len
          refine ⟨⟨by omega, by omega⟩, rdS hI2.imps p rfl gp ((k79 out s (hout.sl.exm m1316) (by omega)).mono ?_)⟩
          rintro v g17 m17 rfl
          refine ⟨_, rfl, i64 (by omega) (by omega), m10 - 1, by omega, p + 1, by omega, by omega, m16.trans m17, ?_⟩
          rw [tf_true]
          obtain ⟨h1, h2⟩ := hr.1 e
          exact ⟨fun hh => ⟨h1, (all_take gp _).2 ⟨h2, hh⟩⟩, fun hh => ((all_take gp _).1 hh.2).2⟩
        · constructor
          · intro hh; cases hh
          · rintro ⟨h1, h2⟩
            have := hr.2 ⟨h1, ((all_take gp _).1 h2).1⟩
            rw [e] at this; cases this
      · rw [take_all (by omega)] at hr
        have hr' : r = true ↔ readyU out u := hr
        intro J hJ
        have HJ : ∀ (v : Bool) (b' : Lab), (b' = if v = true then u.name else b) → BestP (L.take (j2 + 1)) out b' → J v g16 := by
          intro v b' hb' hB
          refine hJ v g16 ?_
          have step : InI64 (((j2 : Nat) : Int) + 1) ∧ (∃ m_9 : Nat, m_9 < m8 ∧ ∃ (j : Nat) (b : Lab), bstr b' = bstr b ∧ ((j2 : Nat) : Int) + 1 = ((j : Nat) : Int) ∧ j + m_9 = n ∧ Ex g13 g16 ∧ BestP (L.take j) out b) :=
            ⟨i64 (by omega) (by omega), m8 - 1, by omega, j2 + 1, b', rfl, by omega, by omega, m1316, hB⟩
          cases v with
          | true =>
            rw [if_pos rfl] at hb'
            subst hb'
            exact ifT (fun _ => ⟨⟨by omega, by omega⟩, rdUA (h.mono le016) j2 rfl gj (fun ad2 ia2 im2 ic2 da2 dn2 dc2 hI2 hc2 => ⟨_, (hc2 g16 (Le.refl _)).1, step⟩)⟩) (fun e => by cases e)
          | false =>
            rw [if_neg (by simp)] at hb'
            subst hb'
            exact ifT (fun e => by cases e) (fun _ => step)
        have keep : ∀ {b0 : Lab}, BestP (L.take j2) out b0 → (readyU out u → b0 ≠ [] ∧ ¬ klt u.name b0) → BestP (L.take (j2 + 1)) out b0 := by
          intro b0 hB hk
          rw [et]
          rcases hB with ⟨rfl, h2⟩ | ⟨v, hv, h2, rfl, h3⟩
          · refine .inl ⟨rfl, fun x hx => ?_⟩
            rcases List.mem_append.1 hx with hx | hx
            · exact h2 x hx
            · cases List.mem_singleton.1 hx
              exact fun hh => (hk hh).1 rfl
          · refine .inr ⟨v, List.mem_append_left _ hv, h2, rfl, fun x hx hrx => ?_⟩
            rcases List.mem_append.1 hx with hx | hx
            · exact h3 x hx hrx
            · cases List.mem_singleton.1 hx
              exact (hk hrx).2
        have new : readyU out u → (∀ v ∈ L.take j2, readyU out v → ¬ klt v.name u.name) → BestP (L.take (j2 + 1)) out u.name := by
          intro hru hmin
          rw [et]
          refine .inr ⟨u, by simp, hru, rfl, fun x hx hrx => ?_⟩
          rcases List.mem_append.1 hx with hx | hx
          · exact hmin x hx hrx
          · cases List.mem_singleton.1 hx
            exact fun hh => klt_ne hh rfl
        refine ifT (fun e => ?_) (fun e => HJ false b rfl (keep hbest (fun hh => by rw [hr'.2 hh] at e; cases e)))
        rw [show bs [] = bstr [] from rfl, strEq_bstr]
        refine ifP (fun q7 => HJ true u.name rfl (new (hr'.1 e) (fun v hv hrv => ?_))) (fun q7 => ⟨⟨by omega, by omega⟩, rdUA (h.mono le016) j2 rfl gj (fun ad2 ia2 im2 ic2 da2 dn2 dc2 hI2 hc2 => ⟨_, (hc2 g16 (Le.refl _)).1, ?_⟩)⟩)
        · rcases hbest with ⟨_, h2⟩ | ⟨x, hx, _, h3, _⟩
          · exact absurd hrv (h2 v hv)
          · rw [q7] at h3
            exact absurd h3 (upper_ne (hall x (List.mem_of_mem_take hx)).1)
        · rw [strLt_klt]
          by_cases q8 : klt u.name b
          · rw [tf_of q8]
            refine HJ true u.name rfl (new (hr'.1 e) (fun v hv hrv hlt => ?_))
            rcases hbest with ⟨h2, _⟩ | ⟨x, hx, _, rfl, h3⟩
            · exact q7 h2
            · exact h3 v hv hrv (klt_trans hlt q8)
          · rw [tf_no q8]
            exact HJ false b rfl (keep hbest (fun _ => ⟨q7, q8⟩))
    · rw [take_all (by omega)] at hbest
      rw [show bs [] = bstr [] from rfl, strEq_bstr]
      refine ifP (fun q6 g19 _ => ord_err ?_ g19) (fun q6 g20 n20 => ?_)
      · rw [hord, ← htop, topo_none (pick_none ?_)]
        rcases hbest with ⟨_, h2⟩ | ⟨x, hx, _, h3, _⟩
        · exact h2
        · rw [q6] at h3
          exact absurd h3 (upper_ne (hall x hx).1)
      · rcases hbest with ⟨h2, _⟩ | ⟨x, hx, hrx, rfl, hmin⟩
        · exact absurd h2 q6
        · obtain ⟨a', c', w', hr, g21, hw, hs, ho21, _, _⟩ := (hout.exm m14).app1 E22 22 (Nat.le_trans le013.size m14.size) n20 (x := x.name) rfl (by omega) (by unfold maxLen; omega)
          refine ⟨a', _, c', w', hr, g21, hw, hs, m5, by omega, out ++ [x.name], ho21, by simp; omega, ?_⟩
          rw [← htop, topo_some (pick_some hx hrx hmin)]
  · have hm0 : m6 = 0 := by omega
    subst hm0
    rw [topo_zero] at htop
    have e : orderN L = (out, 0) := hord.trans htop.symm
    exact ⟨oa, on, oc, by rw [e], by rw [e]; exact hout.sl.exm m22⟩
theorem k26 {u : UnitD} {ia : Option Addr} {im ic : Nat} {da : Option Addr} {dn dc : Nat} {g : G} (h : UnI g u ia im ic da dn dc) : CallsP Tryz.prog 26 #[unitV u ia im ic da dn dc] g fun v _ => ∃ b, v = .bool b ∧ (b = false → unitOK u) := by
  refine PL5.call26 _ _ _ _ _ _ _ g _ ?_
  unfold PL5.F26
  refine fun g1 m1 => (k27 (h.exm m1)).mono ?_
  rintro v g2 _ ⟨b, rfl, hb⟩
  exact ⟨_, rfl, fun g3 _ => ⟨_, rfl, fun e => (hb (by simpa using e)).1⟩⟩
/-- ScopeOrders. -/
theorem law5 (L : List UnitD) {a : Option Addr} {n c : Nat} {g : G} (ht : TabG g) (h : SlE unitE g a n c L) : CallsP Tryz.prog 5 #[.slice a n c] g fun v _ => v = .bool true := by
  refine PL5.call5 a n c g _ ?_
  unfold PL5.F5
  refine (k11 g ht).mono ?_
  rintro v g1 m1 rfl
  refine ⟨_, rfl, ifF (fun hh => by cases hh) (fun _ => ?_)⟩
  intro J hJ
  have HJ : ∀ g3, Ex g g3 → (∀ u ∈ L, unitOK u) → J g3 := by
    intro g3 m3 hL
    refine hJ g3 ((k28 hL (ht.exm m3) (h.exm m3)).mono ?_)
    rintro v g4 m4 ⟨pa, pn, pc, rfl, hp⟩
    refine ⟨_, _, _, _, rfl, (k29 hL (h.exm (m3.trans m4))).mono ?_⟩
    rintro v g5 m5 ⟨qa, qn, qc, rfl, hq⟩
    refine ⟨_, _, _, _, rfl, (kk21 _ _ (hp.exm m5) hq).mono ?_⟩
    rintro v g6 m6 rfl
    exact ⟨_, rfl, ifP (fun _ g7 _ => by simp [eqI]) (fun hh => absurd rfl hh)⟩
  refine ifLt (fun _ g9 _ => rfl) (fun q => ?_)
  have hl := h.len
  refine (k25w 26 #[] unitOK L (h.exm m1) (by omega) ⟨_, Tryz.func26, by kernel_rfl, by kernel_rfl⟩ (fun g' u le hu ia im ic da dn dc hI => k26 hI)).mono ?_
  rintro v g10 m10 ⟨b, rfl, hb⟩
  exact ⟨_, rfl, ifT (fun _ g11 _ => rfl) (fun e => HJ g10 (m1.trans m10) (hb e))⟩
end Go.Proofs.YtkocjbgdmocmlaaGreatDoor
