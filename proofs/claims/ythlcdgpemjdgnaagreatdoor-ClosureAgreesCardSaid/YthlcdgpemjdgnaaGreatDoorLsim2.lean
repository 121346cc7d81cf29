/- The conversion has the outcome of the expression: evaluation. -/
import Derived.Test.YthlcdgpemjdgnaaGreatDoorLsim
set_option linter.unusedVariables false
namespace Go.Lam
open Go Go.Vc Go.RowKit Go.Syn
section
variable {Fz : List FlatD}
theorem evL_agr {ev ev' : Ev} (H : EvExt ev) (H' : EvExt ev') {env env' : List Th} : ∀ (l l' : List E), l.length = l'.length → (∀ (i : Nat) (y y' : E), l[i]? = some y → l'[i]? = some y' → ∀ a a' o, Agr (RV Fz) (ev y env a o) (ev' y' env' a' o)) → ∀ a a' o, Agr (RVs Fz) (evL ev l env a o) (evL ev' l' env' a' o)
  | [], [], _, _, a, a', o => ⟨⟨rfl, fun i t t' h => by simp at h⟩, rfl⟩
  | [], _ :: _, h, _, _, _, _ => by simp at h
  | _ :: _, [], h, _, _, _, _ => by simp at h
  | y :: r, y' :: r', hl, h, a, a', o => by
    refine Agr.bind (h 0 y y' rfl rfl a a' o) (fun t t' l l' o ht => ?_) (fun t l o => (evL_ext H r env l o).bind fun ts l o => ext_ok _ _ _) (fun t l o => (evL_ext H' r' env' l o).bind fun ts l o => ext_ok _ _ _)
    exact Agr.bind (evL_agr H H' r r' (by simpa using hl) (fun i z z' hz hz' => h (i + 1) z z' (by simpa using hz) (by simpa using hz')) l l' o) (fun ts ts' l l' o hts => ⟨hts.cons ht, rfl⟩) (fun ts l o => ext_ok _ _ _) (fun ts l o => ext_ok _ _ _)
theorem env_body {x : E} {env : List Th} {n : Int} {vals : List Th} (hx : formE x) (h : x.dat.op = 4 ∨ x.dat.op = 10) (hs : ∀ s, FV x s → s < env.length) (hv : vals.length = (freeA x).length)
    (hr : ∀ (j : Nat) (s : Int) (t v : Th), (freeA x)[j]? = some s → env[s.toNat]? = some t → vals[j]? = some v → RV Fz t v) (hf : RV Fz (funT (kid (funOf x) 0) (decide (x.dat.op = 10)) env) (fcT n vals)) {a a' : Th} (ha : RV Fz a a') :
    EnvS Fz (freeA x).length 1 (kid (funOf x) 0) (innE x env.length) (a :: inner (funT (kid (funOf x) 0) (decide (x.dat.op = 10)) env)) [fcT n vals, a'] := by
  refine ⟨?_, rfl, fun i hi => ?_⟩
  · rw [innE_len, List.length_cons, inner_len]
    by_cases e : x.dat.op = 10 <;> simp [e] <;> omega
  · rcases fv_fun hx h hi with rfl | ⟨e, rfl⟩ | ⟨s, hv', rfl⟩
    · exact ⟨plc 21 0, a, rfl, .inl ⟨0, rfl, by omega⟩, rfl, ha⟩
    · refine ⟨plc 22 0, funT (kid (funOf x) 0) (decide (x.dat.op = 10)) env, ?_, .inr (.inl rfl), ?_, hf⟩
      · unfold innE
        rw [if_pos e]
        rfl
      · simp only [e, decide_true]
        rfl
    · have hlt := hs s hv'
      obtain ⟨j, e1, e2⟩ := innL_at (k := 0) (L := List.replicate env.length noE) (s := s) (asc_freeA x) (fun i hi => by obtain ⟨q, rfl, _⟩ := mem_freeA.1 hi; omega) (mem_freeA.2 ⟨s, rfl, hv'⟩) (by rw [List.length_replicate]; exact hlt)
      have hj := (List.getElem?_eq_some_iff.1 e1).1
      have gs := List.getElem?_eq_getElem hlt
      have gv := List.getElem?_eq_getElem (show j < vals.length by omega)
      refine ⟨plc 23 ((0 + j : Nat) : Int), env[s], ?_, .inr (.inr ⟨0 + j, rfl, by omega⟩), ?_, ?_⟩
      · unfold innE
        split
        · simpa using e2
        · simpa using e2
      · by_cases e : x.dat.op = 10
        · simp only [e, decide_true, if_true]
          exact gs
        · simp only [e, decide_false, if_false]
          exact gs
      · have e3 : plcV [fcT n vals, a'] (plc 23 ((0 + j : Nat) : Int)) = vals[j] := by
          show vals.getD ((0 + j : Nat) : Int).toNat unitT = _
          rw [show ((0 + j : Nat) : Int).toNat = j by omega, List.getD_eq_getElem?_getD, gv]
          rfl
        rw [e3]
        exact hr j _ _ _ e1 (by rw [show ((s : Nat) : Int).toNat = s by omega]; exact gs) gv
theorem bnd_plain {op : Int} {i : Nat} (h4 : op ≠ 4) (h10 : op ≠ 10) : bndN op i = if furP op i then 1 else 0 := by
  unfold bndN
  rw [if_neg (by omega)]
  by_cases q : furP op i
  · rw [if_pos q, if_pos ⟨q.2, q.1⟩]
  · rw [if_neg q, if_neg (fun h => q ⟨h.2, h.1⟩)]
set_option maxHeartbeats 1000000 in
theorem sim : ∀ (d : Nat) (x : E) (dd : Nat) (places : List E) (cap k : Nat) (fs : List FlatD) (env env' : List Th) (d' left left' : Nat) (out : List Lab), formE x → depthE x ≤ dd → Kept Fz fs.length (cvN dd x places k fs).2 → EnvS Fz cap k x places env env' →
    Agr (RV Fz) (evalN d x env left out) (evalF Fz d' (cvN dd x places k fs).1 env' left' out)
  | 0, x, dd, places, cap, k, fs, env, env', d', left, left', out, _, _, _, _ => Agr.left (evalF_ext Fz d' _ env' left' out).1
  | d + 1, x, dd, places, cap, k, fs, env, env', d', left, left', out, hx, hdd, hK, he => by
    have hext := (evalF_ext Fz d' (cvN dd x places k fs).1 env' left' out).1
    by_cases q : left = 0
    · rw [show evalN (d + 1) x env left out = .stop 3 0 0 out by unfold evalN; rw [if_pos q]]
      exact Agr.left hext
    have hext0 := (eval_ext (d + 1) x env left out).1
    cases d' with
    | zero => exact Agr.right hext0
    | succ d' =>
    by_cases q' : left' = 0
    · rw [show evalF Fz (d' + 1) (cvN dd x places k fs).1 env' left' out = .stop 3 0 0 out by unfold evalF; rw [if_pos q']]
      exact Agr.right hext0
    have eF : evalF Fz (d' + 1) (cvN dd x places k fs).1 env' left' out = stepF Fz (evalF Fz d') (cvN dd x places k fs).1 env' (left' - 1) out := by
      conv => lhs; unfold evalF
      rw [if_neg q']
    have eN : evalN (d + 1) x env left out = stepN (evalN d) x env (left - 1) out := by
      conv => lhs; unfold evalN
      rw [if_neg q]
    rw [eF] at hext ⊢
    rw [eN]
    clear eF eN hext0 q q'
    generalize left - 1 = a
    generalize left' - 1 = a' at hext ⊢
    clear left left'
    obtain ⟨dd, rfl⟩ : ∃ e, dd = e + 1 := ⟨dd - 1, by have := depth_pos x; omega⟩
    have hxd : depthE x = depthEL x.kids + 1 := by cases x; rfl
    obtain ⟨n4, n5, n7, n9, n10, n12, n6, n1, n2, n3, nr, nk⟩ := node_len hx
    by_cases e1 : x.dat.op = 1
    · have hcv : cvN (dd + 1) x places k fs = (places.getD x.dat.n.toNat noE, fs) := by
        conv => lhs; unfold cvN
        rw [if_pos e1]
      obtain ⟨p, t, h1, h2, h3, h4⟩ := he.2.2 x.dat.n.toNat (FV_iff.2 (.inl ⟨e1, by have := n1 e1; omega⟩))
      have hp : places.getD x.dat.n.toNat noE = p := by rw [List.getD_eq_getElem?_getD, h1]; rfl
      rw [hcv, hp]
      have eN : stepN (evalN d) x env a out = .ok t a out := by
        unfold stepN
        rw [if_pos e1, List.getD_eq_getElem?_getD, h3]
        rfl
      have eF : stepF Fz (evalF Fz d') p env' a' out = .ok (plcV env' p) a' out := by
        rcases h2 with ⟨n, rfl, hn⟩ | rfl | ⟨n, rfl, hn⟩ <;> rfl
      rw [eN, eF]
      exact ⟨h4, rfl⟩
    by_cases e : x.dat.op = 4 ∨ x.dat.op = 10
    · have hcv : cvN (dd + 1) x places k fs = (.mk ⟨24, ((fs.length : Nat) : Int), []⟩ ((freeA x).map fun i => places.getD i.toNat noE), setBody (cvN dd (kid (funOf x) 0) (innE x places.length) 1 (fs ++ [⟨(((freeA x).length : Nat) : Int), noE⟩])).2 fs.length (cvN dd (kid (funOf x) 0) (innE x places.length) 1 (fs ++ [⟨(((freeA x).length : Nat) : Int), noE⟩])).1) := by
        conv => lhs; unfold cvN
        rw [if_neg e1, if_pos e]
      rw [hcv] at hK hext ⊢
      obtain ⟨b1, b2, b3⟩ := fun_body hx e
      obtain ⟨hl, hl', hfv⟩ := he
      rw [hl] at hK
      have hold := cv_old dd (kid (funOf x) 0) (innE x env.length) 1 (fs ++ [⟨(((freeA x).length : Nat) : Int), noE⟩]) fs.length (by simp)
      rw [show (fs ++ [(⟨(((freeA x).length : Nat) : Int), noE⟩ : FlatD)])[fs.length]? = some ⟨(((freeA x).length : Nat) : Int), noE⟩ by simp] at hold
      have hfun : RV Fz (funT (kid (funOf x) 0) (decide (x.dat.op = 10)) env) (fcT ((fs.length : Nat) : Int) ((freeA x).map fun i => plcV env' (places.getD i.toNat noE))) := by
        refine .func x dd (fs ++ [⟨(((freeA x).length : Nat) : Int), noE⟩]) env _ _ (((freeA x).length : Nat) : Int) hx e (by omega) (fun s hs => ?_) ?_ (fun i f hi hf => hK i f (by rw [List.length_append] at hi; omega) ?_) (by simp) (fun j s t v h1 h2 h3 => ?_)
        · obtain ⟨p, t, _, _, h3, _⟩ := hfv s hs
          exact (List.getElem?_eq_some_iff.1 h3).1
        · rw [show ((fs.length : Nat) : Int).toNat = fs.length by omega]
          exact hK fs.length _ (Nat.le_refl _) (setBody_at _ hold)
        · show (setBody _ _ _)[i]? = some f
          rw [setBody_ne _ (by rw [List.length_append] at hi; simp at hi; omega)]
          exact hf
        · rw [List.getElem?_map, h1] at h3
          have h3' : plcV env' (places.getD s.toNat noE) = v := Option.some.inj h3
          obtain ⟨i, rfl, hi⟩ := mem_freeA.1 (List.mem_of_getElem? h1)
          obtain ⟨p, u, k1, k2, k3, k4⟩ := hfv i hi
          rw [show ((i : Nat) : Int).toNat = i by omega] at h2 h3'
          rw [k3] at h2
          cases h2
          have hp : places.getD i noE = p := by rw [List.getD_eq_getElem?_getD, k1]; rfl
          rw [← h3', hp]
          exact k4
      have hcap := places_eval (Fz := Fz) d' places env' cap k (freeA x) a' out (fun i hi => by
        obtain ⟨s, rfl, hs⟩ := mem_freeA.1 hi
        obtain ⟨p, u, k1, k2, _⟩ := hfv s hs
        exact ⟨p, by rw [show ((s : Nat) : Int).toNat = s by omega]; exact k1, k2⟩)
      have eF : ∀ K, stepF Fz (evalF Fz d') (.mk ⟨24, ((fs.length : Nat) : Int), []⟩ K) env' a' out = (evL (evalF Fz d') K env' a' out).bind fun ts l o => .ok (fcT ((fs.length : Nat) : Int) ts) l o := fun K => rfl
      have hN : stepN (evalN d) x env a out = .stop 3 0 0 out ∨ ∃ l, stepN (evalN d) x env a out = .ok (funT (kid (funOf x) 0) (decide (x.dat.op = 10)) env) l out := by
        rcases e with e | e
        · refine .inr ⟨a, ?_⟩
          have e10 : x.dat.op ≠ 10 := by omega
          unfold stepN funOf
          simp [e]
        · unfold stepN funOf
          simp only [e]
          by_cases q : a = 0
          · left; simp [q]
          · right; exact ⟨a - 1, by simp [q]⟩
      rcases hN with hN | ⟨l, hN⟩
      · rw [hN]
        exact Agr.left hext
      · rw [hN]
        rw [eF]
        rcases hcap with ⟨l2, e2⟩ | ⟨l2, e2⟩
        · rw [e2]
          exact ⟨hfun, rfl⟩
        · rw [e2]
          exact Agr.right (List.prefix_refl _)
    have hcv : cvN (dd + 1) x places k fs = (.mk ⟨if x.dat.op = 5 then 25 else x.dat.op, x.dat.n, x.dat.s⟩ (cvL (cvN dd) x.dat.op 0 x.kids places k fs).1, (cvL (cvN dd) x.dat.op 0 x.kids places k fs).2) := by
      conv => lhs; unfold cvN
      rw [if_neg e1, if_neg e]
    rw [hcv] at hK ⊢
    have hlen := cvL_len (cvN dd) x.dat.op x.kids 0 places k fs
    have hx'k : ((.mk ⟨if x.dat.op = 5 then 25 else x.dat.op, x.dat.n, x.dat.s⟩ (cvL (cvN dd) x.dat.op 0 x.kids places k fs).1 : E)).kids = (cvL (cvN dd) x.dat.op 0 x.kids places k fs).1 := rfl
    have hx'd : ((.mk ⟨if x.dat.op = 5 then 25 else x.dat.op, x.dat.n, x.dat.s⟩ (cvL (cvN dd) x.dat.op 0 x.kids places k fs).1 : E)).dat = ⟨if x.dat.op = 5 then 25 else x.dat.op, x.dat.n, x.dat.s⟩ := rfl
    generalize ((.mk ⟨if x.dat.op = 5 then 25 else x.dat.op, x.dat.n, x.dat.s⟩ (cvL (cvN dd) x.dat.op 0 x.kids places k fs).1 : E)) = x' at hx'k hx'd ⊢
    have hK' : Kept Fz fs.length (cvL (cvN dd) x.dat.op 0 x.kids places k fs).2 := hK
    have hkl : x'.kids.length = x.kids.length := by rw [hx'k, hlen]
    have hopx : x'.dat.op = if x.dat.op = 5 then 25 else x.dat.op := by rw [hx'd]
    have hnx : x'.dat.n = x.dat.n := by rw [hx'd]
    have hsx : x'.dat.s = x.dat.s := by rw [hx'd]
    have hdk : ∀ i, i < x.kids.length → depthE (kid x i) ≤ dd := fun i hi => by have := (kid_size (x := x) hi).2; omega
    -- a part without a further variable
    have part : ∀ i, i < x.kids.length → ¬ furP x.dat.op i → ∀ b b' o, Agr (RV Fz) (evalN d (kid x i) env b o) (evalF Fz d' (kid x' i) env' b' o) := by
      intro i hi hf b b' o
      obtain ⟨fs1, h1, h2⟩ := cv_kid (x' := x') (kid_get hi) hK' hx'k
      rw [if_neg hf, if_neg hf] at h1 h2
      rw [h1]
      refine sim d (kid x i) dd places cap k fs1 env env' d' b b' o (kid_form hx hi) (hdk i hi) h2 (he.sub fun s hs => FV_iff.2 (.inr ⟨i, kid x i, kid_get hi, ?_⟩))
      rw [bnd_plain (fun h => e (.inl h)) (fun h => e (.inr h)), if_neg hf]
      exact hs
    have further : ∀ i, i < x.kids.length → furP x.dat.op i → ∀ t t' b b' o, RV Fz t t' → Agr (RV Fz) (evalN d (kid x i) (t :: env) b o) (evalF Fz d' (kid x' i) (env' ++ [t']) b' o) := by
      intro i hi hf t t' b b' o ht
      obtain ⟨fs1, h1, h2⟩ := cv_kid (x' := x') (kid_get hi) hK' hx'k
      rw [if_pos hf, if_pos hf] at h1 h2
      rw [h1]
      refine sim d (kid x i) dd (plc 21 ((k : Nat) : Int) :: places) cap (k + 1) fs1 (t :: env) (env' ++ [t']) d' b b' o (kid_form hx hi) (hdk i hi) h2 (he.more ht fun s hs => FV_iff.2 (.inr ⟨i, kid x i, kid_get hi, ?_⟩))
      rw [bnd_plain (fun h => e (.inl h)) (fun h => e (.inr h)), if_pos hf]
      exact hs
    by_cases e2 : x.dat.op = 2
    · have eN : stepN (evalN d) x env a out = .ok (intT x.dat.n) a out := by unfold stepN; simp [e2]
      have eF : stepF Fz (evalF Fz d') x' env' a' out = .ok (intT x.dat.n) a' out := by unfold stepF; simp [hopx, hnx, e2]
      rw [eN, eF]
      exact ⟨rv_int _, rfl⟩
    by_cases e3 : x.dat.op = 3
    · have eN : stepN (evalN d) x env a out = .ok (textT x.dat.s) a out := by unfold stepN; simp [e3]
      have eF : stepF Fz (evalF Fz d') x' env' a' out = .ok (textT x.dat.s) a' out := by unfold stepF; simp [hopx, hsx, e3]
      rw [eN, eF]
      exact ⟨rv_text _, rfl⟩
    by_cases e13 : x.dat.op = 13
    · have eN : stepN (evalN d) x env a out = .stop 2 x.dat.n a out := by unfold stepN; simp [e13]
      have eF : stepF Fz (evalF Fz d') x' env' a' out = .stop 2 x.dat.n a' out := by unfold stepF; simp [hopx, hnx, e13]
      rw [eN, eF]
      exact .same _ _ _ _ _
    have hev := eval_ext d
    have hev' := evalF_ext Fz d'
    by_cases e11 : x.dat.op = 11
    · have h2 := n5 (.inr e11)
      have eN : stepN (evalN d) x env a out = (evalN d (kid x 0) env a out).bind fun t left out => evalN d (kid x 1) (t :: env) left out := by unfold stepN; simp [e11]
      have eF : stepF Fz (evalF Fz d') x' env' a' out = (evalF Fz d' (kid x' 0) env' a' out).bind fun t left out => evalF Fz d' (kid x' 1) (env' ++ [t]) left out := by unfold stepF; simp [hopx, e11]
      rw [eN, eF]
      exact Agr.bind (part 0 (by omega) (by unfold furP; omega) a a' out) (fun t t' l l' o ht => further 1 (by omega) (by unfold furP; omega) t t' l l' o ht) (fun t l o => hev _ _ _ _) (fun t l o => hev' _ _ _ _)
    by_cases e9 : x.dat.op = 9
    · have h2 := n9 e9
      have eN : stepN (evalN d) x env a out = (evalN d (kid x 0) env a out).bind fun t left out => if t.op = 4 ∧ t.n + 1 < ((x.kids.length : Nat) : Int) then evalN d (kid x (t.n + 1).toNat) (t.l.getD 0 unitT :: env) left out else .stop 4 0 left out := by unfold stepN; simp [e9]
      have eF : stepF Fz (evalF Fz d') x' env' a' out = (evalF Fz d' (kid x' 0) env' a' out).bind fun t left out => if t.op = 4 ∧ t.n + 1 < ((x'.kids.length : Nat) : Int) then evalF Fz d' (kid x' (t.n + 1).toNat) (env' ++ [t.l.getD 0 unitT]) left out else .stop 4 0 left out := by unfold stepF; simp [hopx, e9]
      rw [eN, eF]
      refine Agr.bind (part 0 (by omega) (by unfold furP; omega) a a' out) (fun t t' l l' o ht => ?_) (fun t l o => by split; exact hev _ _ _ _; exact ext_stop _ _ _ _) (fun t l o => by split; exact hev' _ _ _ _; exact ext_stop _ _ _ _)
      rw [hkl, ← ht.op]
      by_cases q4 : t.op = 4
      · obtain ⟨q1, q2, q3⟩ := ht.num (by omega)
        rw [← q1]
        by_cases q5 : t.n + 1 < ((x.kids.length : Nat) : Int)
        · rw [if_pos ⟨q4, q5⟩, if_pos ⟨q4, q5⟩]
          have q6 := ht.tag q4
          exact further _ (by omega) ⟨by omega, .inr e9⟩ _ _ l l' o ((ht.subs (by omega)).getD 0)
        · rw [if_neg (fun h => q5 h.2), if_neg (fun h => q5 h.2)]
          exact .same _ _ _ _ _
      · rw [if_neg (fun h => q4 h.1), if_neg (fun h => q4 h.1)]
        exact .same _ _ _ _ _
    have eN : stepN (evalN d) x env a out = (evL (evalN d) x.kids env a out).bind fun ts left out => combN (evalN d) x ts left out := by
      unfold stepN
      rw [if_neg e1, if_neg e2, if_neg e3, if_neg (fun h => e (.inl h)), if_neg (fun h => e (.inr h)), if_neg e13, if_neg e11, if_neg e9]
    have eF : stepF Fz (evalF Fz d') x' env' a' out = (evL (evalF Fz d') x'.kids env' a' out).bind fun ts left out => combF Fz (evalF Fz d') x' ts left out := by
      unfold stepF
      have o1 : x'.dat.op = 25 ∨ x'.dat.op = x.dat.op := by rw [hopx]; split <;> simp
      rw [if_neg (by omega), if_neg (by omega), if_neg (by omega), if_neg (by omega), if_neg (by omega), if_neg (by omega), if_neg (by omega), if_neg (by omega)]
    rw [eN, eF]
    refine Agr.bind (R := RVs Fz) (evL_agr (Fz := Fz) hev hev' x.kids x'.kids hkl.symm (fun i y y' hy hy' b b' o => ?_) a a' out) (fun ts ts' l l' o hts => ?_) (fun t l o => comb_ext hev _ _ _ _) (fun t l o => combF_ext hev' _ _ _ _)
    · have hi := (List.getElem?_eq_some_iff.1 hy).1
      have k1 : kid x i = y := by unfold kid; rw [List.getD_eq_getElem?_getD, hy]; rfl
      have k2 : kid x' i = y' := by unfold kid; rw [List.getD_eq_getElem?_getD, hy']; rfl
      rw [← k1, ← k2]
      exact part i hi (by unfold furP; omega) b b' o
    unfold combN combF
    rw [hopx, hnx]
    by_cases e5 : x.dat.op = 5
    · rw [if_pos e5, if_pos e5, if_pos rfl]
      have h0 := hts.getD 0
      have h1 := hts.getD 1
      rw [← h0.op]
      by_cases q7 : (ts.getD 0 unitT).op = 7
      · rw [if_pos q7, if_pos q7]
        generalize ts.getD 0 unitT = f at h0 q7
        generalize ts'.getD 0 unitT = f' at h0
        cases h0 with
        | data op n s l l' h1 h4 h2 h3 => exact absurd q7 h1
        | func y dy fsy envy n vals c y1 y2 y3 y4 y5 y6 y7 y8 =>
          have hb : bodyF Fz (fcT n vals).n = (cvN dy (kid (funOf y) 0) (innE y envy.length) 1 fsy).1 := by
            show (Fz.getD n.toNat ⟨0, noE⟩).body = _
            rw [List.getD_eq_getElem?_getD, y5]
            rfl
          rw [hb]
          exact sim d (kid (funOf y) 0) dy (innE y envy.length) (freeA y).length 1 fsy _ _ d' l l' o (fun_body y1 y2).1 y3 y6 (env_body y1 y2 y4 y7 y8 (.func y dy fsy envy n vals c y1 y2 y3 y4 y5 y6 y7 y8) h1)
      · rw [if_neg q7, if_neg q7]
        exact .same _ _ _ _ _
    rw [if_neg e5, if_neg e5, if_neg (show ¬ x.dat.op = 25 by omega), if_neg (show ¬ x.dat.op = 24 by omega)]
    split
    · exact ⟨hts.rec, rfl⟩
    split
    · next e8 => exact ⟨hts.inj (n7 (.inr e8)).2.1, rfl⟩
    split
    · have h0 := hts.getD 0
      rw [← h0.op]
      by_cases q3 : (ts.getD 0 unitT).op = 3
      · obtain ⟨q4, q5, q6⟩ := h0.num (by omega)
        rw [← q6]
        split
        · exact ⟨(h0.subs (by omega)).getD _, rfl⟩
        · exact .same _ _ _ _ _
      · rw [if_neg (fun h => q3 h.1), if_neg (fun h => q3 h.1)]
        exact .same _ _ _ _ _
    · exact prim_agr _ hts _ _ _
end
end Go.Lam
