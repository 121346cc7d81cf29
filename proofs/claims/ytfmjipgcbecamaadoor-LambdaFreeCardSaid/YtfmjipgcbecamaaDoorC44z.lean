/- LambdaFree. -/
import Derived.Test.YtfmjipgcbecamaaDoorC44t
set_option linter.unusedVariables false
namespace Go.Proofs.YtfmjipgcbecamaaDoor
open Go Go.Vc Go.RowKit Go.Syn Go.Lam Go.Sort

theorem fv_wrap {y : E} {i : Nat} : FV (mkE 4 0 [y]) i ↔ FV y (i + 1) := by
  rw [FV_iff]
  constructor
  · rintro (⟨h, _⟩ | ⟨k, z, h1, h2⟩)
    · exact absurd h (by show ¬ (4 : Int) = 1; omega)
    · cases k with
      | zero =>
        have e : y = z := by simpa [mkE, Tr.kids] using h1
        subst e
        exact h2
      | succ k => simp [mkE, Tr.kids] at h1
  · intro h
    exact .inr ⟨0, y, rfl, h⟩
/-- What is free below one function more. -/
def wantN (k : Int) (l : List Int) : List Int := (l.filter fun s => decide (k < s)).map fun s => s - k - 1
theorem want_app (k : Int) (a b : List Int) : wantN k (a ++ b) = wantN k a ++ wantN k b := by simp [wantN]
theorem want_one (k s : Int) : wantN k [s] = if k < s then [s - k - 1] else [] := by
  unfold wantN
  by_cases q : k < s
  · simp [q]
  · simp [q]
theorem want_asc {k : Int} {l : List Int} (h : l.Pairwise (· < ·)) : (wantN k l).Pairwise (· < ·) := by
  unfold wantN
  rw [List.pairwise_map]
  exact (List.Pairwise.sublist List.filter_sublist h).imp (fun h => by omega)
theorem mem_want {k s : Int} {l : List Int} : s ∈ wantN k l ↔ k < s + k + 1 ∧ s + k + 1 ∈ l := by
  unfold wantN
  simp only [List.mem_map, List.mem_filter, decide_eq_true_eq]
  constructor
  · rintro ⟨t, ⟨h1, h2⟩, rfl⟩
    exact ⟨by omega, by rw [show t - k - 1 + k + 1 = t by omega]; exact h1⟩
  · rintro ⟨h1, h2⟩
    exact ⟨s + k + 1, ⟨h2, h1⟩, by omega⟩
theorem want_len (k : Int) (l : List Int) : (wantN k l).length ≤ l.length := by
  unfold wantN
  rw [List.length_map]
  exact List.length_filter_le _ _
theorem asc_last {F : List Int} (h : F.Pairwise (· < ·)) {b : Int} (hb : F[F.length - 1]? = some b) : ∀ s ∈ F, s ≤ b := by
  intro s hs
  obtain ⟨j, hj, rfl⟩ := List.mem_iff_getElem.1 hs
  obtain ⟨h1, rfl⟩ := List.getElem?_eq_some_iff.1 hb
  by_cases e : j = F.length - 1
  · subst e; omega
  · have := List.pairwise_iff_getElem.1 h j (F.length - 1) hj h1 (by omega)
    omega
theorem asc_len {x : E} {F : List Int} (h : AscF x F) : F.length ≤ sizeE x := by
  refine Nat.le_trans (nodup_le (l := F) (m := frees x 0) (h.1.imp (fun h => by omega)) (fun s hs => ?_)) (frees_len x 0)
  obtain ⟨i, e, hi⟩ := (h.2 s).1 hs
  exact (mem_frees x 0 s).2 ⟨i, e, hi⟩
theorem i64_wrap {y : E} (h : i64E y) : i64E (mkE 4 0 [y]) := by
  unfold mkE
  rw [i64E, i64EL_iff]
  exact ⟨by show (0 : Int) ≤ _; omega, fun z hz => by rw [List.mem_singleton] at hz; rw [hz]; exact h⟩
theorem law7 {x : E} (hx : i64E x) {a : Option Addr} {n c : Nat} {g : G} (ht : TabG g) (hI : SlE expE g a n c x.kids) : CallsP Tryd.prog 7 #[expV x a n c] g fun v _ => v = .bool true := by
  refine call7 _ _ _ _ _ _ g _ ?_
  unfold F7
  refine fun g1 m1 => (k9 g1 (ht.exm m1)).mono ?_
  rintro v g2 m2 rfl
  refine ⟨_, rfl, ifF (fun e => by cases e) (fun _ => ?_)⟩
  intro J hJ
  have m02 := m1.trans m2
  refine (k10 x (hI.exm m02)).mono ?_
  rintro v g3 m3 ⟨b, rfl, _⟩
  refine ⟨_, rfl, ifT (fun _ g4 _ => rfl) (fun _ => (k12 hx (hI.exm (m02.trans m3))).mono ?_)⟩
  rintro v g4 m4 rfl
  refine ⟨_, rfl, ifPn (fun _ g5 _ => rfl) (fun hv => hJ g4 ?_)⟩
  clear hJ
  have m04 := (m02.trans m3).trans m4
  refine (k24 hx (hI.exm m04)).mono ?_
  rintro v g5 m5 ⟨fa, fn, fc, fe, rfl, hF⟩
  have m05 := m04.trans m5
  rcases hF with ⟨_, rfl, F, hF, hA⟩ | ⟨h, _⟩
  rotate_left
  · exact absurd hv h
  have hlen := hF.len
  have hal := asc_len hA
  have hvs := hv.2.1
  have hcap := hF.cap
  have hlc := hF.le
  have h0 := asc_nil hA
  refine ⟨_, _, _, _, rfl, (k11 hx 10 (hI.exm m05) (ht.exm m05)).mono ?_⟩
  rintro v g6 m6 ⟨o, rfl, hO⟩
  have m06 := m05.trans m6
  obtain ⟨na, nn, nc, ka, kn, kc, oa, on, oc, rfl, _, _⟩ := hO
  refine ⟨_, _, _, _, _, _, _, _, _, _, _, _, _, _, _, _, rfl, ?_⟩
  intro J1 hJ1
  have hrun : (runA x 10).2 = 0 ↔ F = [] := by
    unfold runA
    by_cases q : closedE x
    · rw [if_pos q, if_pos ⟨by omega, by omega⟩]
      exact ⟨fun _ => h0.2 q.2, fun _ => rfl⟩
    · rw [if_neg q]
      exact ⟨fun h => absurd h (by show ¬ (1 : Int) = 0; omega), fun h => absurd ⟨hv, h0.1 h⟩ q⟩
  refine ifNe (fun h => absurd rfl h) (fun _ g26 m26 => (k25 hA.1 (hF.exm (m6.trans m26))).mono ?_)
  rintro v g27 m27 rfl
  refine ⟨_, rfl, ifF (fun e => by cases e) (fun _ => ifF (fun hne => ?_) (fun _ => hJ1 g27 ?_))⟩
  · exfalso
    have e : eqI (runA x 10).2 0 = eqI ((fn : Nat) : Int) 0 := by
      show tf ((runA x 10).2 = 0) = tf (((fn : Nat) : Int) = 0)
      refine tf_iff (hrun.trans ⟨fun h => by rw [h] at hlen; simp at hlen; omega, fun h => List.eq_nil_of_length_eq_zero (by omega)⟩)
    rw [e] at hne
    simp at hne
  clear hJ1
  have m027 := (m06.trans m26).trans m27
  have m527 := (m6.trans m26).trans m27
  intro J2 hJ2
  unfold maxLen at hcap
  refine ifEq (fun _ g23 _ => rfl) (fun hn0 => ?_)
  have hpos : 0 < F.length := by omega
  have gL := List.getElem?_eq_getElem (show F.length - 1 < F.length by omega)
  generalize F[F.length - 1] = L at gL
  obtain ⟨L', hL', _⟩ := (hA.2 L).1 (List.mem_of_getElem? gL)
  refine ⟨i64 (by omega) (by omega), ⟨by omega, by omega⟩, rdN (hF.exm m527) (F.length - 1) (by omega) gL (ifLt (fun _ g24 _ => rfl) (fun h100 => hJ2 g27 ?_))⟩
  clear hJ2
  refine ⟨i64 (by omega) (by omega), ⟨by omega, by omega⟩, rdN (hF.exm m527) (F.length - 1) (by omega) gL ⟨i64 (by omega) (by omega), ?_⟩⟩
  refine ⟨fun m v x0 x1 x2 x3a x3l x3c g' => ∃ (k : Nat) (y : E), v = ((k : Nat) : Int) ∧ k + m = L' + 1 ∧ x0 = y.dat.op ∧ x1 = y.dat.n ∧ x2 = bstr y.dat.s ∧ SlE expE g' x3a x3l x3c y.kids ∧ i64E y ∧ (∀ i, FV y i ↔ FV x (i + k)) ∧ validE y,
    ⟨L' + 1, 0, x, rfl, by omega, rfl, rfl, rfl, hI.exm m027, hx, fun i => Iff.rfl, hv⟩, ?_⟩
  rintro m v x0 x1 x2 x3a x3l x3c g9 le9 ⟨k, y, rfl, hkm, rfl, rfl, rfl, hY, hiy, hfy, hvy⟩
  refine ifLt (fun q g10 n10 => ?_) (fun q => ?_)
  · refine (k18 4 0 [y] g10).mono ?_
    rintro v g11 m11 rfl
    have h10 := new1 (t := y) hY n10
    refine ⟨_, _, _, _, _, _, rfl, fun g12 m12 => (k24 (i64_wrap hiy) ((h10.exm m11).exm m12)).mono ?_⟩
    rintro v g13 m13 ⟨ya, yn, yc, ye, rfl, hY2⟩
    have m9 := ((n10.ex.trans m11).trans m12).trans m13
    refine ⟨_, _, _, _, rfl, ifNe (fun h g14 _ => ?_) (fun h => ?_)⟩
    · rcases hY2 with ⟨_, h2, _⟩ | ⟨_, h2, _⟩
      · exact absurd h2 h
      · rw [h2]; simp
    rcases hY2 with ⟨hv2, _, F2, hF2, hA2⟩ | ⟨_, h2, _⟩
    rotate_left
    · omega
    have hF9 := ((hF.exm m527).mono le9).exm m9
    have le13 : Le g g13 := (m027.le.trans le9).trans m9.le
    refine ⟨fun m2 wa wl wc v2 g' => ∃ j : Nat, v2 = ((j : Nat) : Int) ∧ j + m2 = fn ∧ OwnE intE' g' g.w.heap.size 3 wa wl wc (wantN ((k : Nat) : Int) (F.take j)), ⟨fn, 0, rfl, by omega, by rw [List.take_zero]; exact OwnE.nil _ _ _⟩, ?_⟩
    rintro m2 wa wl wc v2 g15 le15 ⟨j, rfl, hj, hown⟩
    have hwl := hown.sl.len
    have hwn := want_len ((k : Nat) : Int) (F.take j)
    rw [List.length_take] at hwn
    refine ifLt (fun q2 => ⟨⟨by omega, by omega⟩, ?_⟩) (fun q2 => ?_)
    · have gj := List.getElem?_eq_getElem (show j < F.length by omega)
      generalize F[j] = s at gj
      have hsL := asc_last hA.1 gL s (List.mem_of_getElem? gj)
      obtain ⟨s', hs', _⟩ := (hA.2 s).1 (List.mem_of_getElem? gj)
      have htk : wantN ((k : Nat) : Int) (F.take (j + 1)) = wantN ((k : Nat) : Int) (F.take j) ++ (if ((k : Nat) : Int) < s then [s - ((k : Nat) : Int) - 1] else []) := by
        rw [List.take_add_one, gj, Option.toList, want_app, want_one]
      refine rdN (hF9.mono le15) j rfl gj (ifLt (fun q3 => ⟨i64 (by omega) (by omega), i64 (by omega) (by omega), fun g16 n16 => ?_⟩) (fun q3 => ⟨i64 (by omega) (by omega), m2 - 1, by omega, j + 1, by omega, by omega, ?_⟩))
      · obtain ⟨a', c', w', hr, g17, hw, hs17, ho17, _, _⟩ := hown.app1 E36 36 (le13.trans le15).size n16 (x := s - ((k : Nat) : Int) - 1) rfl (by omega) (by unfold maxLen; omega)
        rw [if_pos q3] at htk
        exact ⟨a', _, c', w', hr, g17, hw, hs17, i64 (by omega) (by omega), m2 - 1, by omega, j + 1, by omega, by omega, by rw [htk]; exact ho17⟩
      · rw [if_neg (by omega), List.append_nil] at htk
        rw [htk]
        exact hown
    · rw [List.take_of_length_le (by omega)] at hown
      refine (k26 (hF2.mono le15) hown.sl).mono ?_
      rintro v g18 m18 rfl
      have e : F2 = wantN ((k : Nat) : Int) F := by
        refine asc_unique hA2.1 (want_asc hA.1) (fun s => ?_)
        rw [hA2.2, mem_want, hA.2]
        constructor
        · rintro ⟨i, rfl, hi⟩
          rw [fv_wrap, hfy] at hi
          exact ⟨by omega, i + 1 + k, by omega, hi⟩
        · rintro ⟨h1, i, hi, hfi⟩
          refine ⟨i - k - 1, by omega, ?_⟩
          rw [fv_wrap, hfy, show i - k - 1 + 1 + k = i by omega]
          exact hfi
      refine ⟨_, rfl, ifPn (fun h => absurd e h) (fun _ => ⟨i64 (by omega) (by omega), m - 1, by omega, k + 1, mkE 4 0 [y], by omega, by omega, rfl, rfl, rfl, ?_, i64_wrap hiy, fun i => ?_, hv2⟩)⟩
      · exact ((((h10.exm m11).exm m12).exm m13).mono le15).exm m18
      · rw [fv_wrap, hfy, show i + 1 + k = i + (k + 1) by omega]
  · refine (k24 hiy hY).mono ?_
    rintro v g20 m20 ⟨ya, yn, yc, ye, rfl, hY2⟩
    rcases hY2 with ⟨_, h2, F3, hF3, hA3⟩ | ⟨h, _⟩
    · refine ⟨_, _, _, _, rfl, ifEq (fun _ g21 _ => ?_) (fun h => absurd h2 h)⟩
      have e : F3 = [] := by
        refine (asc_nil hA3).2 (fun i hi => ?_)
        rw [hfy] at hi
        have := asc_last hA.1 gL (((i + k : Nat) : Nat) : Int) ((hA.2 _).2 ⟨i + k, rfl, hi⟩)
        omega
      have hl3 := hF3.len
      rw [e] at hl3
      have : yn = 0 := by simpa using hl3.symm
      rw [this]
      simp
    · exact absurd hvy h
end Go.Proofs.YtfmjipgcbecamaaDoor
