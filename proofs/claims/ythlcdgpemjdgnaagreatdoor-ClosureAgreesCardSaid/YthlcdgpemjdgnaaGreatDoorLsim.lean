/- The conversion has the outcome of the expression. -/
import Derived.Test.YthlcdgpemjdgnaaGreatDoorLffuel
set_option linter.unusedVariables false
namespace Go.Lam
open Go Go.Vc Go.RowKit Go.Syn
def Agr {α β : Type} (R : α → β → Prop) : Res α → Res β → Prop
  | .ok t _ o, .ok t' _ o' => R t t' ∧ o = o'
  | .ok _ _ o, .stop op _ _ o' => op = 3 ∧ o' <+: o
  | .stop op _ _ o, .ok _ _ o' => op = 3 ∧ o <+: o'
  | .stop op c _ o, .stop op' c' _ o' => (op = 3 ∧ op' = 3 ∧ (o <+: o' ∨ o' <+: o)) ∨ (op = 3 ∧ op' ≠ 3 ∧ o <+: o') ∨ (op' = 3 ∧ op ≠ 3 ∧ o' <+: o) ∨ (op = op' ∧ c = c' ∧ op ≠ 3 ∧ o = o')
theorem Agr.left {α β : Type} {R : α → β → Prop} {c : Int} {l : Nat} {o : List Lab} : ∀ {r : Res β}, o <+: r.out → Agr R (.stop 3 c l o) r
  | .ok _ _ _, h => ⟨rfl, h⟩
  | .stop op _ _ _, h => by
    by_cases e : op = 3
    · exact .inl ⟨rfl, e, .inl h⟩
    · exact .inr (.inl ⟨rfl, e, h⟩)
theorem Agr.right {α β : Type} {R : α → β → Prop} {c : Int} {l : Nat} {o : List Lab} : ∀ {r : Res α}, o <+: r.out → Agr R r (.stop 3 c l o)
  | .ok _ _ _, h => ⟨rfl, h⟩
  | .stop op _ _ _, h => by
    by_cases e : op = 3
    · exact .inl ⟨e, rfl, .inr h⟩
    · exact .inr (.inr (.inl ⟨rfl, e, h⟩))
theorem Agr.same {α β : Type} {R : α → β → Prop} (op c : Int) (l l' : Nat) (o : List Lab) : Agr R (.stop op c l o) (.stop op c l' o) := by
  by_cases e : op = 3
  · exact .inl ⟨e, e, .inl (List.prefix_refl _)⟩
  · exact .inr (.inr (.inr ⟨rfl, rfl, e, rfl⟩))
theorem Agr.bind {α β γ δ : Type} {R : α → β → Prop} {S : γ → δ → Prop} {r : Res α} {r' : Res β} {f : α → Nat → List Lab → Res γ} {f' : β → Nat → List Lab → Res δ} (h : Agr R r r') (hf : ∀ t t' l l' o, R t t' → Agr S (f t l o) (f' t' l' o))
    (he : ∀ t l o, ext l o (f t l o)) (he' : ∀ t l o, ext l o (f' t l o)) : Agr S (r.bind f) (r'.bind f') := by
  cases r with
  | ok t l o =>
    cases r' with
    | ok t' l' o' =>
      obtain ⟨h1, rfl⟩ := h
      exact hf t t' l l' o h1
    | stop op c l' o' =>
      obtain ⟨rfl, h2⟩ := h
      exact Agr.right (h2.trans (he t l o).1)
  | stop op c l o =>
    cases r' with
    | ok t' l' o' =>
      obtain ⟨rfl, h2⟩ := h
      exact Agr.left (h2.trans (he' t' l' o').1)
    | stop op' c' l' o' => exact h
def Kept (Fz : List FlatD) (m : Nat) (L : List FlatD) : Prop := ∀ i f, m ≤ i → L[i]? = some f → Fz[i]? = some f
def plcV (env' : List Th) (p : E) : Th := if p.dat.op = 21 then env'.getD (p.dat.n.toNat + 1) unitT else if p.dat.op = 22 then env'.getD 0 unitT else (env'.getD 0 unitT).l.getD p.dat.n.toNat unitT
inductive RV (Fz : List FlatD) : Th → Th → Prop
  | data (op n : Int) (s : Lab) (l l' : List Th) : op ≠ 7 → (op = 4 → 0 ≤ n) → l.length = l'.length → (∀ (i : Nat) (t t' : Th), l[i]? = some t → l'[i]? = some t' → RV Fz t t') → RV Fz (.mk op n s noE false l []) (.mk op n s noE false l' [])
  | func (x : E) (d : Nat) (fs : List FlatD) (env : List Th) (n : Int) (vals : List Th) (c : Int) : formE x → (x.dat.op = 4 ∨ x.dat.op = 10) → depthE (kid (funOf x) 0) ≤ d → (∀ s, FV x s → s < env.length) →
      Fz[n.toNat]? = some ⟨c, (cvN d (kid (funOf x) 0) (innE x env.length) 1 fs).1⟩ → Kept Fz fs.length (cvN d (kid (funOf x) 0) (innE x env.length) 1 fs).2 → vals.length = (freeA x).length →
      (∀ (j : Nat) (s : Int) (t v : Th), (freeA x)[j]? = some s → env[s.toNat]? = some t → vals[j]? = some v → RV Fz t v) → RV Fz (funT (kid (funOf x) 0) (decide (x.dat.op = 10)) env) (fcT n vals)
section
variable {Fz : List FlatD}
theorem RV.op {t t' : Th} (h : RV Fz t t') : t.op = t'.op := by cases h <;> rfl
theorem RV.num {t t' : Th} (h : RV Fz t t') (e : t.op ≠ 7) : t.n = t'.n ∧ t.s = t'.s ∧ t.l.length = t'.l.length := by
  cases h with
  | data op n s l l' h1 h4 h2 h3 => exact ⟨rfl, rfl, h2⟩
  | func => exact absurd rfl e
theorem rv_leaf (op n : Int) (s : Lab) (h : op ≠ 7) (h4 : op ≠ 4) : RV Fz (.mk op n s noE false [] []) (.mk op n s noE false [] []) := .data op n s [] [] h (fun e => absurd e h4) rfl (fun i t t' h => by simp at h)
theorem rv_int (n : Int) : RV Fz (intT n) (intT n) := rv_leaf 1 n [] (by decide) (by decide)
theorem rv_text (s : Lab) : RV Fz (textT s) (textT s) := rv_leaf 2 0 s (by decide) (by decide)
theorem rv_unit : RV Fz unitT unitT := rv_leaf 3 0 [] (by decide) (by decide)
theorem rv_one {t t' : Th} (h : RV Fz t t') : ∀ (i : Nat) (u u' : Th), [t][i]? = some u → [t'][i]? = some u' → RV Fz u u' := by
  intro i u u' h1 h2
  cases i with
  | zero => simp at h1 h2; subst h1; subst h2; exact h
  | succ i => simp at h1
theorem rv_truth (p : Prop) [Decidable p] : RV Fz (truthT p) (truthT p) := by
  unfold truthT injT
  exact .data _ _ _ _ _ (by decide) (fun _ => by split <;> decide) rfl (rv_one rv_unit)
def RVs (Fz : List FlatD) (l l' : List Th) : Prop := l.length = l'.length ∧ ∀ (i : Nat) (t t' : Th), l[i]? = some t → l'[i]? = some t' → RV Fz t t'
theorem RVs.getD {l l' : List Th} (h : RVs Fz l l') (i : Nat) : RV Fz (l.getD i unitT) (l'.getD i unitT) := by
  rw [List.getD_eq_getElem?_getD, List.getD_eq_getElem?_getD]
  by_cases q : i < l.length
  · have q' : i < l'.length := by have := h.1; omega
    rw [List.getElem?_eq_getElem q, List.getElem?_eq_getElem q']
    exact h.2 i _ _ (List.getElem?_eq_getElem q) (List.getElem?_eq_getElem q')
  · rw [List.getElem?_eq_none (by omega), List.getElem?_eq_none (by have := h.1; omega)]
    exact rv_unit
theorem RVs.cons {t t' : Th} {l l' : List Th} (h : RV Fz t t') (k : RVs Fz l l') : RVs Fz (t :: l) (t' :: l') := by
  refine ⟨by simp [k.1], fun i u u' h1 h2 => ?_⟩
  cases i with
  | zero => simp at h1 h2; subst h1; subst h2; exact h
  | succ i => exact k.2 i u u' (by simpa using h1) (by simpa using h2)
theorem RVs.rec {l l' : List Th} (h : RVs Fz l l') : RV Fz (recT l) (recT l') := .data _ _ _ _ _ (by decide) (fun e => by cases e) h.1 h.2
theorem RVs.inj {l l' : List Th} (h : RVs Fz l l') {n : Int} (hn : 0 ≤ n) : RV Fz (injT n l) (injT n l') := .data _ _ _ _ _ (by decide) (fun _ => hn) h.1 h.2
theorem RV.tag {t t' : Th} (h : RV Fz t t') (e : t.op = 4) : 0 ≤ t.n := by
  cases h with
  | data op n s l l' h1 h4 h2 h3 => exact h4 e
  | func => cases e
theorem RV.subs {t t' : Th} (h : RV Fz t t') (e : t.op ≠ 7) : RVs Fz t.l t'.l := by
  cases h with
  | data op n s l l' h1 h4 h2 h3 => exact ⟨h2, h3⟩
  | func => exact absurd rfl e
theorem obsL_rv {f : Th → Nat → Option (Sy × Nat)} (H : ∀ t t' a, RV Fz t t' → f t a = f t' a) : ∀ (l l' : List Th) (a : Nat), RVs Fz l l' → obsL f l a = obsL f l' a
  | [], [], a, _ => rfl
  | [], t :: r, a, h => by have := h.1; simp at this
  | t :: r, [], a, h => by have := h.1; simp at this
  | t :: r, t' :: r', a, h => by
    have h0 : RV Fz t t' := h.2 0 t t' rfl rfl
    have h1 : RVs Fz r r' := ⟨by have := h.1; simpa using this, fun i u u' e e' => h.2 (i + 1) u u' (by simpa using e) (by simpa using e')⟩
    show (f t a).bind _ = (f t' a).bind _
    rw [H t t' a h0]
    congr 1
    funext p
    rw [obsL_rv H r r' p.2 h1]
theorem obs_rv : ∀ (d : Nat) (t t' : Th) (a : Nat), RV Fz t t' → obsN d t a = obsN d t' a
  | 0, _, _, _, _ => rfl
  | d + 1, t, t', a, h => by
    unfold obsN
    rw [← h.op]
    split
    · rfl
    split
    · rfl
    · next e =>
      obtain ⟨e1, e2, _⟩ := h.num e
      rw [obsL_rv (obs_rv d) t.l t'.l _ (h.subs e), e1, e2]
theorem number_agr (n : Int) (l l' : Nat) (o : List Lab) : Agr (RV Fz) (numberN n l o) (numberN n l' o) := by
  unfold numberN
  split
  · exact .same _ _ _ _ _
  · exact ⟨rv_int n, rfl⟩
theorem numbers_agr (op a b : Int) (l l' : Nat) (o : List Lab) : Agr (RV Fz) (numbersN op a b l o) (numbersN op a b l' o) := by
  have tr : ∀ (p : Prop) [Decidable p], Agr (RV Fz) (.ok (truthT p) l o) (.ok (truthT p) l' o) := fun p _ => ⟨rv_truth p, rfl⟩
  have tx : Agr (RV Fz) (.ok (textT (Lib.itoa a)) l o) (.ok (textT (Lib.itoa a)) l' o) := ⟨rv_text _, rfl⟩
  unfold numbersN
  repeat' (first | exact number_agr _ _ _ _ | exact tr _ | exact tx | exact .same _ _ _ _ _ | split)
theorem texts_agr (op : Int) (a b : Lab) (l l' : Nat) (o : List Lab) : Agr (RV Fz) (textsN op a b l o) (textsN op a b l' o) := by
  unfold textsN
  split
  · exact number_agr _ _ _ _
  split
  · exact ⟨rv_truth _, rfl⟩
  split
  · split
    · exact .same _ _ _ _ _
    · exact ⟨rv_text _, rfl⟩
  · split
    · exact .same _ _ _ _ _
    · exact ⟨rv_unit, rfl⟩
theorem prim_agr (n : Int) {ts ts' : List Th} (h : RVs Fz ts ts') (l l' : Nat) (o : List Lab) : Agr (RV Fz) (primN n ts l o) (primN n ts' l' o) := by
  have hall : (∀ t ∈ ts, t.op = (if textual n then 2 else 1)) ↔ ∀ t ∈ ts', t.op = (if textual n then 2 else 1) := by
    constructor
    · intro q t ht
      obtain ⟨i, hi⟩ := List.getElem?_of_mem ht
      have hlt := (List.getElem?_eq_some_iff.1 hi).1
      have hlt' : i < ts.length := by have := h.1; omega
      rw [← (h.2 i _ _ (List.getElem?_eq_getElem hlt') hi).op]
      exact q _ (List.getElem_mem hlt')
    · intro q t ht
      obtain ⟨i, hi⟩ := List.getElem?_of_mem ht
      have hlt := (List.getElem?_eq_some_iff.1 hi).1
      have hlt' : i < ts'.length := by have := h.1; omega
      rw [(h.2 i _ _ hi (List.getElem?_eq_getElem hlt')).op]
      exact q _ (List.getElem_mem hlt')
  unfold primN
  by_cases q : ∀ t ∈ ts, t.op = (if textual n then 2 else 1)
  · rw [if_pos q, if_pos (hall.1 q)]
    have op7 : ∀ i, (ts.getD i unitT).op ≠ 7 := by
      intro i
      by_cases qi : i < ts.length
      · have e : (ts.getD i unitT).op = _ := q _ (getD_mem qi)
        rw [e]
        split <;> decide
      · rw [List.getD_eq_getElem?_getD, List.getElem?_eq_none (by omega)]
        decide
    obtain ⟨e1, e2, _⟩ := (h.getD 0).num (op7 0)
    have hl : lastT ts' = ts'.getD (ts.length - 1) unitT := by unfold lastT; rw [h.1]
    obtain ⟨e3, e4, _⟩ := (h.getD (ts.length - 1)).num (op7 _)
    rw [hl, ← e1, ← e2, ← e3, ← e4]
    show Agr _ (if textual n then textsN n (ts.getD 0 unitT).s (lastT ts).s l o else _) _
    split
    · exact texts_agr _ _ _ _ _ _
    · exact numbers_agr _ _ _ _ _ _
  · rw [if_neg q, if_neg (fun hh => q (hall.2 hh))]
    exact .same _ _ _ _ _
def EnvS (Fz : List FlatD) (cap k : Nat) (x : E) (places : List E) (env env' : List Th) : Prop := places.length = env.length ∧ env'.length = k + 1 ∧ ∀ i, FV x i → ∃ p t, places[i]? = some p ∧ plcP cap k p ∧ env[i]? = some t ∧ RV Fz t (plcV env' p)
theorem plcV_more {cap k : Nat} {p : E} (h : plcP cap k p) {env' : List Th} (hl : env'.length = k + 1) (t : Th) : plcV (env' ++ [t]) p = plcV env' p := by
  have h0 : (env' ++ [t]).getD 0 unitT = env'.getD 0 unitT := by
    rw [List.getD_eq_getElem?_getD, List.getElem?_append_left (by omega), ← List.getD_eq_getElem?_getD]
  rcases h with ⟨n, rfl, hn⟩ | rfl | ⟨n, rfl, hn⟩
  · show (env' ++ [t]).getD (((n : Nat) : Int).toNat + 1) unitT = env'.getD (((n : Nat) : Int).toNat + 1) unitT
    rw [List.getD_eq_getElem?_getD, List.getElem?_append_left (by omega), ← List.getD_eq_getElem?_getD]
  · exact h0
  · show ((env' ++ [t]).getD 0 unitT).l.getD _ unitT = _
    rw [h0]
    rfl
theorem EnvS.more {cap k : Nat} {x y : E} {places : List E} {env env' : List Th} (h : EnvS Fz cap k x places env env') {t t' : Th} (ht : RV Fz t t') (hy : ∀ i, FV y (i + 1) → FV x i) : EnvS Fz cap (k + 1) y (plc 21 ((k : Nat) : Int) :: places) (t :: env) (env' ++ [t']) := by
  obtain ⟨h1, h2, h3⟩ := h
  refine ⟨by simp [h1], by simp [h2], fun i hi => ?_⟩
  cases i with
  | zero =>
    refine ⟨_, _, rfl, .inl ⟨k, rfl, by omega⟩, rfl, ?_⟩
    show RV Fz t ((env' ++ [t']).getD (((k : Nat) : Int).toNat + 1) unitT)
    rw [List.getD_eq_getElem?_getD, show ((k : Nat) : Int).toNat + 1 = env'.length by omega, List.getElem?_append_right (Nat.le_refl _), Nat.sub_self]
    exact ht
  | succ i =>
    obtain ⟨p, u, e1, e2, e3, e4⟩ := h3 i (hy i hi)
    exact ⟨p, u, by simpa using e1, e2.mono (by omega), by simpa using e3, by rw [plcV_more e2 h2]; exact e4⟩
theorem EnvS.sub {cap k : Nat} {x y : E} {places : List E} {env env' : List Th} (h : EnvS Fz cap k x places env env') (hy : ∀ i, FV y i → FV x i) : EnvS Fz cap k y places env env' := ⟨h.1, h.2.1, fun i hi => h.2.2 i (hy i hi)⟩
theorem cv_len (d : Nat) (x : E) (env : List E) (k : Nat) (fs : List FlatD) : fs.length ≤ (cvN d x env k fs).2.length := by
  by_cases q : fs.length = 0
  · omega
  · have h := cv_old d x env k fs (fs.length - 1) (by omega)
    rw [List.getElem?_eq_getElem (show fs.length - 1 < fs.length by omega)] at h
    have := (List.getElem?_eq_some_iff.1 h).1
    omega
theorem cvL_at (d : Nat) (op : Int) : ∀ (l : List E) (j i : Nat) (env : List E) (k : Nat) (fs : List FlatD) (y : E), l[i]? = some y → Kept Fz fs.length (cvL (cvN d) op j l env k fs).2 →
    ∃ fs1, (cvL (cvN d) op j l env k fs).1[i]? = some (cvN d y (if furP op (j + i) then plc 21 ((k : Nat) : Int) :: env else env) (if furP op (j + i) then k + 1 else k) fs1).1 ∧ Kept Fz fs1.length (cvN d y (if furP op (j + i) then plc 21 ((k : Nat) : Int) :: env else env) (if furP op (j + i) then k + 1 else k) fs1).2
  | [], _, _, _, _, _, _, h, _ => by simp at h
  | z :: r, j, i, env, k, fs, y, h, hK => by
    have e : cvL (cvN d) op j (z :: r) env k fs = ((cvN d z (if furP op j then plc 21 ((k : Nat) : Int) :: env else env) (if furP op j then k + 1 else k) fs).1 :: (cvL (cvN d) op (j + 1) r env k (cvN d z (if furP op j then plc 21 ((k : Nat) : Int) :: env else env) (if furP op j then k + 1 else k) fs).2).1, (cvL (cvN d) op (j + 1) r env k (cvN d z (if furP op j then plc 21 ((k : Nat) : Int) :: env else env) (if furP op j then k + 1 else k) fs).2).2) := by
      have e0 : cvL (cvN d) op j (z :: r) env k fs = ((if furP op j then cvN d z (plc 21 ((k : Nat) : Int) :: env) (k + 1) fs else cvN d z env k fs).1 :: (cvL (cvN d) op (j + 1) r env k (if furP op j then cvN d z (plc 21 ((k : Nat) : Int) :: env) (k + 1) fs else cvN d z env k fs).2).1, (cvL (cvN d) op (j + 1) r env k (if furP op j then cvN d z (plc 21 ((k : Nat) : Int) :: env) (k + 1) fs else cvN d z env k fs).2).2) := rfl
      rw [e0]
      by_cases q : furP op j
      · simp only [if_pos q]
      · simp only [if_neg q]
    rw [e] at hK ⊢
    have hlen := cv_len d z (if furP op j then plc 21 ((k : Nat) : Int) :: env else env) (if furP op j then k + 1 else k) fs
    cases i with
    | zero =>
      simp at h
      subst h
      refine ⟨fs, rfl, fun i f hi hf => hK i f hi ?_⟩
      show (cvL (cvN d) op (j + 1) r env k _).2[i]? = some f
      rw [Nat.add_zero] at hf
      rw [cvL_old (cv_old d) op r (j + 1) env k _ i (List.getElem?_eq_some_iff.1 hf).1, hf]
    | succ i =>
      obtain ⟨fs1, h1, h2⟩ := cvL_at d op r (j + 1) i env k _ y (by simpa using h) (fun i' f hi hf => hK i' f (by omega) hf)
      rw [show j + 1 + i = j + (i + 1) by omega] at h1 h2
      exact ⟨fs1, by simpa using h1, h2⟩
theorem cv_kid {d : Nat} {op : Int} {l : List E} {i : Nat} {env : List E} {k : Nat} {fs : List FlatD} {y x' : E} (h : l[i]? = some y) (hK : Kept Fz fs.length (cvL (cvN d) op 0 l env k fs).2) (hx : x'.kids = (cvL (cvN d) op 0 l env k fs).1) :
    ∃ fs1, kid x' i = (cvN d y (if furP op i then plc 21 ((k : Nat) : Int) :: env else env) (if furP op i then k + 1 else k) fs1).1 ∧ Kept Fz fs1.length (cvN d y (if furP op i then plc 21 ((k : Nat) : Int) :: env else env) (if furP op i then k + 1 else k) fs1).2 := by
  obtain ⟨fs1, h1, h2⟩ := cvL_at d op l 0 i env k fs y h hK
  rw [Nat.zero_add] at h1 h2
  refine ⟨fs1, ?_, h2⟩
  unfold kid
  rw [hx, List.getD_eq_getElem?_getD, h1]
  rfl
theorem places_eval (d' : Nat) (places : List E) (env' : List Th) (cap k : Nat) : ∀ (F : List Int) (left : Nat) (out : List Lab), (∀ i ∈ F, ∃ p, places[i.toNat]? = some p ∧ plcP cap k p) →
    (∃ l, evL (evalF Fz d') (F.map fun i => places.getD i.toNat noE) env' left out = .ok (F.map fun i => plcV env' (places.getD i.toNat noE)) l out) ∨ ∃ l, evL (evalF Fz d') (F.map fun i => places.getD i.toNat noE) env' left out = .stop 3 0 l out
  | [], left, out, _ => .inl ⟨left, rfl⟩
  | i :: r, left, out, h => by
    obtain ⟨p, h1, h2⟩ := h i (by simp)
    have hp : places.getD i.toNat noE = p := by rw [List.getD_eq_getElem?_getD, h1]; rfl
    have hone : (∃ l, evalF Fz d' p env' left out = .ok (plcV env' p) l out) ∨ ∃ l, evalF Fz d' p env' left out = .stop 3 0 l out := by
      cases d' with
      | zero => exact .inr ⟨_, rfl⟩
      | succ d' =>
        unfold evalF
        by_cases q : left = 0
        · rw [if_pos q]; exact .inr ⟨_, rfl⟩
        · rw [if_neg q]
          refine .inl ⟨left - 1, ?_⟩
          rcases h2 with ⟨n, rfl, hn⟩ | rfl | ⟨n, rfl, hn⟩ <;> rfl
    show (∃ l, (evalF Fz d' (places.getD i.toNat noE) env' left out).bind _ = .ok (plcV env' (places.getD i.toNat noE) :: _) l out) ∨ ∃ l, (evalF Fz d' (places.getD i.toNat noE) env' left out).bind _ = _
    rw [hp]
    rcases hone with ⟨l, e⟩ | ⟨l, e⟩
    · rw [e]
      rcases places_eval d' places env' cap k r l out (fun j hj => h j (by simp [hj])) with ⟨l2, e2⟩ | ⟨l2, e2⟩
      · refine .inl ⟨l2, ?_⟩
        show (evL _ _ env' l out).bind _ = _
        rw [e2]
        rfl
      · refine .inr ⟨l2, ?_⟩
        show (evL _ _ env' l out).bind _ = _
        rw [e2]
        rfl
    · rw [e]
      exact .inr ⟨l, rfl⟩
end
end Go.Lam
