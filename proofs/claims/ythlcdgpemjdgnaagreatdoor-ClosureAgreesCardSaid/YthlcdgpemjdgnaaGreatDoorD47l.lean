/- ClosureAgrees. -/
import Derived.Test.YthlcdgpemjdgnaaGreatDoorZL
import Derived.Test.YthlcdgpemjdgnaaGreatDoorZF
import Derived.Test.YthlcdgpemjdgnaaGreatDoorZV
import Derived.Test.YthlcdgpemjdgnaaGreatDoorLsim2
set_option linter.unusedVariables false
namespace Go.Proofs.YthlcdgpemjdgnaaGreatDoor
open Go Go.Vc Go.RowKit Go.Syn Go.Lam Go.Sort
theorem conv_valid {x : E} (hx : formE x) (hd : depthE x ≤ 400) (hs : sizeE x ≤ 900) (hsc : scopedE 0 x) : validF (convF x) 0 := by
  obtain ⟨hcaps, hgood⟩ := conv_good hx hd (by omega) hsc
  have hcaps : capsF (convF x) = 0 :: capsX (funs false x) := hcaps
  have hgood : ∀ (i : Nat) (f : FlatD), (convF x)[i]? = some f → ∃ c : Nat, f.cap = ((c : Nat) : Int) ∧ goodB (0 :: capsX (funs false x)) c 1 f.body := hgood
  have hcl : (convF x).length = (funs false x).length + 1 := by
    have := congrArg List.length hcaps
    simpa using this
  have hfl := funs_len x false
  have gf := List.getElem?_eq_getElem (show 0 < (convF x).length by omega)
  have hcapi : ∀ (i : Nat) (f : FlatD), (convF x)[i]? = some f → (0 :: capsX (funs false x))[i]? = some f.cap := by
    intro i f hi
    rw [← hcaps, List.getElem?_map, hi]
    rfl
  refine ⟨by omega, by omega, by omega, by omega, ⟨_, gf, ?_⟩, fun f hf => ?_⟩
  · exact (Option.some.inj (hcapi 0 _ gf)).symm
  · obtain ⟨i, hi⟩ := List.getElem?_of_mem hf
    obtain ⟨c, hc, hg⟩ := hgood i f hi
    have h1 := hcapi i f hi
    refine ⟨by omega, ?_, by rw [hcaps, show f.cap.toNat = c by omega]; exact hg⟩
    cases i with
    | zero =>
      have : f.cap = 0 := (Option.some.inj h1).symm
      omega
    | succ i =>
      rw [List.getElem?_cons_succ, List.getElem?_map] at h1
      cases gy : (funs false x)[i]? with
      | none => rw [gy] at h1; cases h1
      | some y =>
        rw [gy] at h1
        have e : f.cap = (((freeA y).length : Nat) : Int) := (Option.some.inj h1).symm
        obtain ⟨⟨y1, y2⟩, y5⟩ := mem_funs_of (P := fun t => formE t ∧ sizeE t ≤ sizeE x) (fun d l h t ht => ⟨(formE_un h.1).2 t ht, by have := sizeE_mem ht; have e2 : sizeE (.mk d l) = sizeEL l + 1 := rfl; omega⟩) x ⟨hx, Nat.le_refl _⟩ (List.mem_of_getElem? gy)
        have h1 := len_freeA y
        have h2 := frees_kids (x := y) (by omega)
        omega
theorem agr_conv {x : E} (hx : formE x) (hd : depthE x ≤ 400) (hsc : scopedE 0 x) (A B : Nat) : Agr (RV (convF x)) (evalN A x [] A []) (resF (convF x) 0 B) := by
  have hold := cv_old 400 x [] 1 [f0] 0 (by simp)
  have hb : bodyF (convF x) 0 = (cvN 400 x [] 1 [f0]).1 := by
    show ((convF x).getD 0 ⟨0, noE⟩).body = _
    have h : (convF x)[0]? = some ⟨0, (cvN 400 x [] 1 [f0]).1⟩ := setBody_at (f := f0) _ (hold.trans rfl)
    rw [List.getD_eq_getElem?_getD, h]
    rfl
  unfold resF
  rw [hb]
  refine sim A x 400 [] 0 1 [f0] [] [fcT 0 [], unitT] (B + 1) A B [] hx hd (fun i f hi hf => ?_) ⟨rfl, rfl, fun i hi => absurd (hsc i hi) (by omega)⟩
  show (setBody _ _ _)[i]? = some f
  rw [setBody_ne _ (by simp at hi; omega)]
  exact hf
theorem finR_op {t : Th} {left : Nat} {out : List Lab} : (finR (.ok t left out)).op ≠ 3 := by
  cases ho : obsN 400 t 20000 with
  | none => rw [finR_none ho]; show ¬ (2 : Int) = 3; omega
  | some p => obtain ⟨y, l2⟩ := p; rw [finR_some ho]; show ¬ (1 : Int) = 3; omega
theorem finRo (r : Res Th) : (finR r).out = r.out := by
  cases r with
  | stop => rfl
  | ok t left out =>
    cases ho : obsN 400 t 20000 with
    | none => rw [finR_none ho]; rfl
    | some p => obtain ⟨y, l2⟩ := p; rw [finR_some ho]; rfl
theorem agr_fin {Fz : List FlatD} {r r' : Res Th} (h : Agr (RV Fz) r r') : ((finR r).op = 3 → (finR r).out <+: (finR r').out ∨ (finR r').out <+: (finR r).out) ∧ ((finR r).op ≠ 3 → (finR r').op = 3 → (finR r').out <+: (finR r).out) ∧
    ((finR r).op ≠ 3 → (finR r').op ≠ 3 → (finR r).op = (finR r').op ∧ (finR r).code = (finR r').code ∧ (finR r).y = (finR r').y ∧ (finR r).out = (finR r').out) := by
  cases r with
  | ok t l o =>
    cases r' with
    | ok t' l' o' =>
      obtain ⟨h1, rfl⟩ := h
      refine ⟨fun q => absurd q finR_op, fun _ q => absurd q finR_op, fun _ _ => ?_⟩
      have e := obs_rv 400 t t' 20000 h1
      cases ho : obsN 400 t 20000 with
      | none =>
        rw [ho] at e
        rw [finR_none ho, finR_none e.symm]
        exact ⟨rfl, rfl, rfl, rfl⟩
      | some p =>
        obtain ⟨y, l2⟩ := p
        rw [ho] at e
        rw [finR_some ho, finR_some e.symm]
        exact ⟨rfl, rfl, rfl, rfl⟩
    | stop op c l' o' =>
      obtain ⟨rfl, h2⟩ := h
      refine ⟨fun q => absurd q finR_op, fun _ _ => ?_, fun _ q => absurd rfl q⟩
      rw [finRo, finRo]
      exact h2
  | stop op c l o =>
    cases r' with
    | ok t' l' o' =>
      obtain ⟨rfl, h2⟩ := h
      refine ⟨fun _ => .inl ?_, fun q => absurd rfl q, fun q => absurd rfl q⟩
      rw [finRo, finRo]
      exact h2
    | stop op' c' l' o' =>
      rcases h with ⟨rfl, rfl, h⟩ | ⟨rfl, h1, h⟩ | ⟨rfl, h1, h⟩ | ⟨rfl, rfl, h1, rfl⟩
      · exact ⟨fun _ => h, fun q => absurd rfl q, fun q => absurd rfl q⟩
      · exact ⟨fun _ => .inl h, fun q => absurd rfl q, fun q => absurd rfl q⟩
      · exact ⟨fun q => absurd q h1, fun _ _ => h, fun _ q => absurd rfl q⟩
      · exact ⟨fun q => absurd q h1, fun _ q => absurd q h1, fun _ _ => ⟨rfl, rfl, rfl, rfl⟩⟩
theorem law5 {x : E} (hx : i64E x) {a : Option Addr} {n c : Nat} {g : G} (hX : SlE expE g a n c x.kids) (ht : TabG g) : CallsP Tryz.prog 5 #[expV x a n c] g fun v _ => v = .bool true := by
  refine call5 _ _ _ _ _ _ g _ ?_
  unfold F5
  intro J hJ g23 m23
  have sl : ∀ g', CallsP Tryz.prog 6 #[] g' fun v g21 => ∃ x_3 : Bool, v = (.bool x_3) ∧ ∀ g22 : G, Ex g21 g22 → (fun (v : Value) (_ : G) => v = .bool true) (.bool x_3) g22 := by
    intro g'
    refine (kz6 g').mono ?_
    rintro v g2 _ rfl
    exact ⟨_, rfl, fun _ _ => rfl⟩
  refine (kz6 g23).mono ?_
  rintro v g24 m24 rfl
  refine ⟨_, rfl, ifF (fun e => by cases e) (fun _ => (kz14 x (most := 200) (depth := 1) (by omega) (by omega) (by omega) (hX.exm (m23.trans m24))).mono ?_)⟩
  rintro v g27 m27 ⟨r, rfl, r1, r2, r3⟩
  have m027 := (m23.trans m24).trans m27
  refine ⟨_, rfl, ifLe (fun _ => sl g27) (fun q => (kk8 hx (hX.exm m027)).mono ?_)⟩
  obtain ⟨r4, r5⟩ := r3 q
  rintro v g30 m30 rfl
  have m030 := m027.trans m30
  refine ⟨_, rfl, ifPn (fun _ => sl g30) (fun hv => (kk9 hx hv (hX.exm m030)).mono ?_)⟩
  rintro v g33 m33 ⟨fa, fn, fc, F, rfl, hF, hA⟩
  have hFl := hF.len
  have h0 := asc_nil hA
  have m033 := m030.trans m33
  refine ⟨_, _, _, rfl, ifLt (fun _ => sl g33) (fun qn => hJ g33 ?_)⟩
  clear hJ
  have hsc : scopedE 0 x := h0.1 (List.eq_nil_of_length_eq_zero (by omega))
  have e : convA x = (convF x, 0) := by unfold convA; rw [if_pos ⟨hv, hsc⟩]
  have hvF := conv_valid hv.1 hv.2.2 (by omega) hsc
  have hs := convF_small hv.1 hv.2.1 hv.2.2
  have eA : PL.runA x 10000 = (PL.outO x 10000, 0) := by
    unfold PL.runA
    rw [if_pos (show PL.closedE x from ⟨hv, hsc⟩), if_pos ⟨by omega, by omega⟩]
    rfl
  have eB : runAF (convF x) 0 20000 = (outF (convF x) 0 20000, 0) := by
    unfold runAF
    rw [if_pos hvF, if_pos ⟨by omega, by omega⟩]
    rfl
  obtain ⟨p1, p2, p3⟩ := agr_fin (agr_conv hv.1 hv.2.2 hsc 10000 20000)
  refine (kz17 hx (by omega) (hX.exm m033)).mono ?_
  rintro v g2 m2 ⟨ca, cn, cc, rfl, hC⟩
  rw [e] at hC ⊢
  have hC : SlE flatE g2 ca cn cc (convF x) := hC
  refine ⟨_, _, _, _, _, rfl, ?_⟩
  intro J1 hJ1
  refine ifNe (fun h => absurd rfl h) (fun _ => (k18 (main := 0) hs hC).mono ?_)
  rintro v g21 m21 rfl
  have m021 := (m033.trans m2).trans m21
  refine ⟨_, rfl, ifPn (fun h => absurd hvF h) (fun _ => hJ1 g21 ((PL.kl19 hx 10000 (hX.exm m021) (ht.exm m021)).mono ?_))⟩
  clear hJ1
  rintro v g4 m4 ⟨o, rfl, hO⟩
  rw [eA] at hO ⊢
  have hO : OutI g4 (PL.outO x 10000) o := hO
  obtain ⟨na, nn, nc, ya, yn, yc, oa, on, oc, rfl, hy, hOo⟩ := id hO
  refine ⟨_, _, _, _, _, _, _, _, _, _, _, _, _, _, _, _, rfl, fun g5 m5 => ?_⟩
  have m05 := (m021.trans m4).trans m5
  refine (k8 (main := 0) (fuel := 20000) hs (hC.exm ((m21.trans m4).trans m5)) (ht.exm m05)).mono ?_
  rintro v g6 m6 ⟨o2, rfl, hP⟩
  rw [eB] at hP ⊢
  have hP : OutI g6 (outF (convF x) 0 20000) o2 := hP
  obtain ⟨ma, mn, mc, za, zn, zc, pa, pn, pc, rfl, hz, hPo⟩ := id hP
  have hO6 := hO.exm (m5.trans m6)
  have hOo6 := hOo.exm (m5.trans m6)
  refine ⟨_, _, _, _, _, _, _, _, _, _, _, _, _, _, _, _, rfl, fun J2 hJ2 => ifNe (fun h => absurd rfl h) (fun _ => ifNe (fun h => absurd rfl h) (fun _ g19 m19 => hJ2 g19 ?_))⟩
  clear hJ2
  intro J3 hJ3
  have pre : (PL.outO x 10000).op ≠ 3 → (outF (convF x) 0 20000).op = 3 → ∀ b, b = true → J3 b g19 := by
    intro q q2 b hb
    refine hJ3 b g19 (ifT (fun _ => ifEq (fun h => absurd h q) (fun _ => (k13 (hPo.exm m19) (hOo6.exm m19)).mono ?_)) (fun h => by rw [hb] at h; cases h))
    rintro v g13 _ rfl
    exact ⟨_, rfl, fun g14 _ => by rw [tf_of (show (outF (convF x) 0 20000).out <+: (PL.outO x 10000).out from p2 q q2)]⟩
  refine ifEq (fun q => hJ3 _ g19 (ifT (fun _ => ifEq (fun _ => (k13 (hOo6.exm m19) (hPo.exm m19)).mono ?_) (fun h => absurd q h)) (fun h => by cases h))) (fun q => ?_)
  · rintro v g9 m9 rfl
    refine ⟨_, rfl, ifP (fun _ g10 _ => rfl) (fun hn => (k13 ((hPo.exm m19).exm m9) ((hOo6.exm m19).exm m9)).mono ?_)⟩
    rintro v g11 _ rfl
    refine ⟨_, rfl, fun g12 _ => ?_⟩
    rw [tf_of (show (outF (convF x) 0 20000).out <+: (PL.outO x 10000).out from (p1 q).resolve_left hn)]
  · by_cases q2 : (outF (convF x) 0 20000).op = 3
    · exact pre q q2 _ (by show eqI (outF (convF x) 0 20000).op 3 = true; rw [tf_eq, tf_of q2])
    · refine hJ3 _ g19 (ifT (fun h => ?_) (fun _ => (kz20 (hO6.exm m19) (hP.exm m19)).mono ?_))
      · have h' : eqI (outF (convF x) 0 20000).op 3 = true := h
        rw [tf_eq, tf_no q2] at h'
        cases h'
      · rintro v g15 _ rfl
        exact ⟨_, rfl, fun g16 _ => by rw [tf_of (show sameEndP (PL.outO x 10000) (outF (convF x) 0 20000) from p3 q q2)]⟩
end Go.Proofs.YthlcdgpemjdgnaaGreatDoor
