/- Flat functions: what an evaluation gives; values in memory; the machine. -/
import Derived.Test.YthlcdgpemjdgnaaGreatDoorLcount
import Derived.Test.YthlcdgpemjdgnaaGreatDoorLflat
import Derived.Test.YthlcdgpemjdgnaaGreatDoorLamA
set_option linter.unusedVariables false
namespace Go.Lam
open Go Go.Vc Go.RowKit Go.Syn Go.Proofs Go.Sort
def fcT (n : Int) (l : List Th) : Th := .mk 7 n [] noE false l []
def bodyF (fs : List FlatD) (n : Int) : E := (fs.getD n.toNat ⟨0, noE⟩).body
def combF (fs : List FlatD) (ev : Ev) (x : E) (l : List Th) (left : Nat) (out : List Lab) : Res Th :=
  if x.dat.op = 25 then (if (l.getD 0 unitT).op = 7 then ev (bodyF fs (l.getD 0 unitT).n) [l.getD 0 unitT, l.getD 1 unitT] left out else .stop 4 0 left out)
  else if x.dat.op = 24 then .ok (fcT x.dat.n l) left out
  else if x.dat.op = 6 then .ok (recT l) left out
  else if x.dat.op = 8 then .ok (injT x.dat.n l) left out
  else if x.dat.op = 7 then (if (l.getD 0 unitT).op = 3 ∧ x.dat.n < (((l.getD 0 unitT).l.length : Nat) : Int) then .ok ((l.getD 0 unitT).l.getD x.dat.n.toNat unitT) left out else .stop 4 0 left out)
  else primN x.dat.n l left out
def stepF (fs : List FlatD) (ev : Ev) (x : E) (env : List Th) (left : Nat) (out : List Lab) : Res Th :=
  if x.dat.op = 2 then .ok (intT x.dat.n) left out
  else if x.dat.op = 3 then .ok (textT x.dat.s) left out
  else if x.dat.op = 21 then .ok (env.getD (x.dat.n.toNat + 1) unitT) left out
  else if x.dat.op = 22 then .ok (env.getD 0 unitT) left out
  else if x.dat.op = 23 then .ok ((env.getD 0 unitT).l.getD x.dat.n.toNat unitT) left out
  else if x.dat.op = 13 then .stop 2 x.dat.n left out
  else if x.dat.op = 11 then (ev (kid x 0) env left out).bind fun t left out => ev (kid x 1) (env ++ [t]) left out
  else if x.dat.op = 9 then (ev (kid x 0) env left out).bind fun t left out => if t.op = 4 ∧ t.n + 1 < ((x.kids.length : Nat) : Int) then ev (kid x (t.n + 1).toNat) (env ++ [t.l.getD 0 unitT]) left out else .stop 4 0 left out
  else (evL ev x.kids env left out).bind fun ts left out => combF fs ev x ts left out
def evalF (fs : List FlatD) : Nat → Ev
  | 0, _, _, _, out => .stop 3 0 0 out
  | d + 1, x, env, left, out => if left = 0 then .stop 3 0 0 out else stepF fs (evalF fs d) x env (left - 1) out
inductive OkF (cs : List Int) : Th → Prop
  | int (n : Int) : -mostN ≤ n → n ≤ mostN → OkF cs (intT n)
  | text (s : Lab) : s.length ≤ 16384 → OkF cs (textT s)
  | record (l : List Th) : l.length ≤ 1000 → (∀ t ∈ l, OkF cs t) → OkF cs (recT l)
  | inject (n : Int) (t : Th) : 0 ≤ n → n ≤ 999 → OkF cs t → OkF cs (injT n [t])
  | func (n : Int) (l : List Th) : 0 ≤ n → l.length ≤ 1000 → cs[n.toNat]? = some ((l.length : Nat) : Int) → (∀ t ∈ l, OkF cs t) → OkF cs (fcT n l)
section
variable {cs : List Int}
theorem okF_unit : OkF cs unitT := .record [] (by simp) (by simp)
theorem okF_truth (p : Prop) [Decidable p] : OkF cs (truthT p) := by
  unfold truthT
  split
  · exact .inject _ _ (by omega) (by omega) okF_unit
  · exact .inject _ _ (by omega) (by omega) okF_unit
theorem okF_int {t : Th} (h : OkF cs t) (e : t.op = 1) : ∃ n, t = intT n ∧ -mostN ≤ n ∧ n ≤ mostN := by
  cases h with
  | int n h1 h2 => exact ⟨n, rfl, h1, h2⟩
  | _ => simp [textT, recT, injT, fcT, Th.op] at e
theorem okF_text {t : Th} (h : OkF cs t) (e : t.op = 2) : ∃ s, t = textT s ∧ s.length ≤ 16384 := by
  cases h with
  | text s h1 => exact ⟨s, rfl, h1⟩
  | _ => simp [intT, recT, injT, fcT, Th.op] at e
theorem okF_rec {t : Th} (h : OkF cs t) (e : t.op = 3) : ∃ l, t = recT l ∧ l.length ≤ 1000 ∧ ∀ u ∈ l, OkF cs u := by
  cases h with
  | record l h1 h2 => exact ⟨l, rfl, h1, h2⟩
  | _ => simp [intT, textT, injT, fcT, Th.op] at e
theorem okF_inj {t : Th} (h : OkF cs t) (e : t.op = 4) : ∃ n u, t = injT n [u] ∧ 0 ≤ n ∧ n ≤ 999 ∧ OkF cs u := by
  cases h with
  | inject n u h1 h2 h3 => exact ⟨n, u, rfl, h1, h2, h3⟩
  | _ => simp [intT, textT, recT, fcT, Th.op] at e
theorem okF_fun {t : Th} (h : OkF cs t) (e : t.op = 7) : ∃ n l, t = fcT n l ∧ 0 ≤ n ∧ l.length ≤ 1000 ∧ cs[n.toNat]? = some ((l.length : Nat) : Int) ∧ ∀ u ∈ l, OkF cs u := by
  cases h with
  | func n l h1 h2 h3 h4 => exact ⟨n, l, rfl, h1, h2, h3, h4⟩
  | _ => simp [intT, textT, recT, injT, Th.op] at e
theorem okF_op {t : Th} (h : OkF cs t) : t.op = 1 ∨ t.op = 2 ∨ t.op = 3 ∨ t.op = 4 ∨ t.op = 7 := by
  cases h <;> simp [intT, textT, recT, injT, fcT, Th.op]
theorem okF_l {t : Th} (h : OkF cs t) : t.l.length ≤ 1000 ∧ ∀ u ∈ t.l, OkF cs u := by
  cases h with
  | int => exact ⟨by simp [intT, Th.l], by simp [intT, Th.l]⟩
  | text => exact ⟨by simp [textT, Th.l], by simp [textT, Th.l]⟩
  | record l h1 h2 => exact ⟨h1, h2⟩
  | inject n t h1 h2 h3 => exact ⟨by simp [injT, Th.l], by simp [injT, Th.l]; exact h3⟩
  | func n l h1 h2 h3 h4 => exact ⟨h2, h4⟩
theorem getD_okF {l : List Th} (h : ∀ t ∈ l, OkF cs t) (i : Nat) : OkF cs (l.getD i unitT) := by
  by_cases q : i < l.length
  · exact h _ (getD_mem q)
  · rw [List.getD_eq_getElem?_getD, List.getElem?_eq_none (by omega)]
    exact okF_unit
end
def OkRF (cs : List Int) (left : Nat) : Res Th → Prop
  | .ok t left' out => OkF cs t ∧ left' ≤ left ∧ out.length ≤ 1000
  | .stop op code left' out => left' ≤ left ∧ out.length ≤ 1000 ∧ (op = 2 ∨ op = 3 ∨ op = 4)
def OkRFL (cs : List Int) (left k : Nat) : Res (List Th) → Prop
  | .ok ts left' out => (∀ t ∈ ts, OkF cs t) ∧ ts.length = k ∧ left' ≤ left ∧ out.length ≤ 1000
  | .stop op code left' out => left' ≤ left ∧ out.length ≤ 1000 ∧ (op = 2 ∨ op = 3 ∨ op = 4)
theorem OkRF.mono {cs : List Int} {a b : Nat} (h : a ≤ b) : ∀ {r : Res Th}, OkRF cs a r → OkRF cs b r
  | .ok _ _ _, ⟨h1, h2, h3⟩ => ⟨h1, by omega, h3⟩
  | .stop _ _ _ _, ⟨h1, h2⟩ => ⟨by omega, h2⟩
theorem OkRF.bind {cs : List Int} {left : Nat} {r : Res Th} {f : Th → Nat → List Lab → Res Th} (h : OkRF cs left r) (hf : ∀ t left' out, OkF cs t → left' ≤ left → out.length ≤ 1000 → OkRF cs left' (f t left' out)) : OkRF cs left (r.bind f) := by
  cases r with
  | ok t l o => exact (hf t l o h.1 h.2.1 h.2.2).mono h.2.1
  | stop => exact h
structure EnvF (cs : List Int) (cap k : Nat) (env : List Th) : Prop where
  len : env.length = k + 1
  cap : (env.getD 0 unitT).l.length = cap
  ok : ∀ t ∈ env, OkF cs t
theorem EnvF.more {cs : List Int} {cap k : Nat} {env : List Th} (h : EnvF cs cap k env) {t : Th} (ht : OkF cs t) : EnvF cs cap (k + 1) (env ++ [t]) := by
  obtain ⟨h1, h2, h3⟩ := h
  refine ⟨by rw [List.length_append, h1]; rfl, ?_, fun u hu => (List.mem_append.1 hu).elim (h3 u) (fun e => by have : u = t := (by simpa using e); rw [this]; exact ht)⟩
  rw [List.getD_eq_getElem?_getD, List.getElem?_append_left (by omega), ← List.getD_eq_getElem?_getD]
  exact h2
def ProgF (cs : List Int) (fs : List FlatD) : Prop := cs = capsF fs ∧ ∀ (i : Nat) (f : FlatD), fs[i]? = some f → ∃ c : Nat, f.cap = ((c : Nat) : Int) ∧ goodB cs c 1 f.body ∧ depthE f.body ≤ 400
theorem ProgF.at_ {cs : List Int} {fs : List FlatD} (h : ProgF cs fs) {n : Int} {c : Nat} (hc : cs[n.toNat]? = some ((c : Nat) : Int)) : ∃ f, fs[n.toNat]? = some f ∧ f.body = bodyF fs n ∧ goodB cs c 1 f.body ∧ depthE f.body ≤ 400 := by
  obtain ⟨h1, h2⟩ := h
  rw [h1, List.getElem?_map] at hc
  cases hf : fs[n.toNat]? with
  | none => rw [hf] at hc; cases hc
  | some f =>
    rw [hf] at hc
    obtain ⟨c', e1, e2, e3⟩ := h2 _ f hf
    have e : f.cap = ((c : Nat) : Int) := Option.some.inj hc
    have : c' = c := by omega
    subst this
    exact ⟨f, rfl, by unfold bodyF; rw [List.getD_eq_getElem?_getD, hf]; rfl, e2, e3⟩
def EvOkF (cs : List Int) (ev : Ev) : Prop := ∀ x cap k env left out, goodB cs cap k x → EnvF cs cap k env → out.length ≤ 1000 → OkRF cs left (ev x env left out)
theorem evL_okF {cs : List Int} {ev : Ev} (H : EvOkF cs ev) {cap k : Nat} : ∀ (l : List E) (env : List Th) (left : Nat) (out : List Lab), (∀ y ∈ l, goodB cs cap k y) → EnvF cs cap k env → out.length ≤ 1000 → OkRFL cs left l.length (evL ev l env left out)
  | [], env, left, out, _, _, ho => ⟨by simp, rfl, Nat.le_refl _, ho⟩
  | y :: r, env, left, out, hl, he, ho => by
    have h1 := H y cap k env left out (hl y (by simp)) he ho
    show OkRFL cs left (r.length + 1) ((ev y env left out).bind _)
    cases hr : ev y env left out with
    | stop => rw [hr] at h1; exact h1
    | ok t l1 o1 =>
      rw [hr] at h1
      have h2 := evL_okF H r env l1 o1 (fun z hz => hl z (by simp [hz])) he h1.2.2
      show OkRFL cs left (r.length + 1) ((evL ev r env l1 o1).bind _)
      cases hr2 : evL ev r env l1 o1 with
      | stop => rw [hr2] at h2; exact ⟨by have := h2.1; have := h1.2.1; omega, h2.2⟩
      | ok ts l2 o2 =>
        rw [hr2] at h2
        exact ⟨fun t' ht => (List.mem_cons.1 ht).elim (fun e => e ▸ h1.1) (h2.1 t'), by simp [h2.2.1], by have := h2.2.2.1; have := h1.2.1; omega, h2.2.2.2⟩
section
variable {cs : List Int}
theorem number_okF (n : Int) (left : Nat) (out : List Lab) (ho : out.length ≤ 1000) : OkRF cs left (numberN n left out) := by
  unfold numberN
  split
  · exact ⟨Nat.le_refl _, ho, .inl rfl⟩
  · exact ⟨.int n (by omega) (by omega), Nat.le_refl _, ho⟩
theorem numbers_okF (op a b : Int) (left : Nat) (out : List Lab) (ho : out.length ≤ 1000) (h0 : -mostN ≤ a) (h1 : a ≤ mostN) : OkRF cs left (numbersN op a b left out) := by
  unfold mostN at h0 h1
  unfold numbersN
  have tr : ∀ (p : Prop) [Decidable p], OkRF cs left (.ok (truthT p) left out) := fun p _ => ⟨okF_truth p, Nat.le_refl _, ho⟩
  repeat' (first | exact number_okF _ _ _ ho | exact tr _ | exact ⟨Nat.le_refl _, ho, .inl rfl⟩ | exact ⟨.text _ (by have := Go.Lib.itoa_length_le a (by omega) (by omega); omega), Nat.le_refl _, ho⟩ | split)
theorem texts_okF (op : Int) (a b : Lab) (left : Nat) (out : List Lab) (ho : out.length ≤ 1000) : OkRF cs left (textsN op a b left out) := by
  unfold textsN
  split
  · exact number_okF _ _ _ ho
  split
  · exact ⟨okF_truth _, Nat.le_refl _, ho⟩
  split
  · split
    · exact ⟨Nat.le_refl _, ho, .inl rfl⟩
    · exact ⟨.text _ (by rw [List.length_append]; omega), Nat.le_refl _, ho⟩
  · split
    · exact ⟨Nat.le_refl _, ho, .inl rfl⟩
    · exact ⟨okF_unit, Nat.le_refl _, by rw [List.length_append]; simp; omega⟩
theorem prim_okF (n : Int) (l : List Th) (left : Nat) (out : List Lab) (hl : ∀ t ∈ l, OkF cs t) (h0 : l ≠ []) (ho : out.length ≤ 1000) : OkRF cs left (primN n l left out) := by
  unfold primN
  by_cases q : textual n
  · rw [if_pos q, if_pos q]
    split
    · exact texts_okF _ _ _ _ _ ho
    · exact ⟨Nat.le_refl _, ho, .inr (.inr rfl)⟩
  · rw [if_neg q, if_neg q]
    split
    · next h =>
      have hp : 0 < l.length := List.length_pos_iff.2 h0
      have hm := getD_mem (x := unitT) hp
      obtain ⟨a, e1, e2, e3⟩ := okF_int (hl _ hm) (h _ hm)
      rw [e1]
      exact numbers_okF _ _ _ _ _ ho e2 e3
    · exact ⟨Nat.le_refl _, ho, .inr (.inr rfl)⟩
end
theorem fkid {cs : List Int} {cap k : Nat} {x : E} (h : goodB cs cap k x) {i : Nat} (hi : i < x.kids.length) : goodB cs cap (if furP x.dat.op i then k + 1 else k) (kid x i) := by
  have := goodBL_get (goodB_un h).2 (kid_get hi)
  rwa [Nat.zero_add] at this
theorem fkids {cs : List Int} {cap k : Nat} {x : E} (h : goodB cs cap k x) (h9 : x.dat.op ≠ 9) (h11 : x.dat.op ≠ 11) : ∀ y ∈ x.kids, goodB cs cap k y := by
  intro y hy
  obtain ⟨i, hi, rfl⟩ := List.mem_iff_getElem.1 hy
  have := goodBL_get (goodB_un h).2 (List.getElem?_eq_getElem hi)
  rwa [if_neg (by unfold furP; intro q; rcases q.2 with q | q <;> contradiction)] at this
theorem fnode {cs : List Int} {cap k : Nat} {x : E} (h : goodB cs cap k x) : (x.dat.op = 2 → -mostN ≤ x.dat.n ∧ x.dat.n ≤ mostN) ∧ (x.dat.op = 3 → x.dat.s.length ≤ 16384) ∧ (x.dat.op = 25 ∨ x.dat.op = 11 → x.kids.length = 2) ∧ (x.dat.op = 6 → x.kids.length ≤ 1000) ∧
    (x.dat.op = 7 ∨ x.dat.op = 8 → x.kids.length = 1 ∧ 0 ≤ x.dat.n ∧ x.dat.n ≤ 999) ∧ (x.dat.op = 9 → 2 ≤ x.kids.length ∧ x.kids.length ≤ 1001) ∧ (x.dat.op = 12 → 1 ≤ x.dat.n ∧ x.dat.n ≤ 14 ∧ x.kids.length = arityN x.dat.n) ∧
    (x.dat.op = 13 → 1 ≤ x.dat.n ∧ x.dat.n ≤ 1000000) ∧ (x.dat.op = 21 → 0 ≤ x.dat.n ∧ x.dat.n + 1 ≤ ((k : Nat) : Int)) ∧ (x.dat.op = 23 → 0 ≤ x.dat.n ∧ x.dat.n + 1 ≤ ((cap : Nat) : Int)) ∧
    (x.dat.op = 24 → x.kids.length ≤ 1000 ∧ 0 ≤ x.dat.n ∧ cs[x.dat.n.toNat]? = some ((x.kids.length : Nat) : Int)) ∧
    (x.dat.op = 2 ∨ x.dat.op = 3 ∨ x.dat.op = 25 ∨ x.dat.op = 11 ∨ x.dat.op = 6 ∨ x.dat.op = 7 ∨ x.dat.op = 8 ∨ x.dat.op = 9 ∨ x.dat.op = 12 ∨ x.dat.op = 13 ∨ x.dat.op = 21 ∨ x.dat.op = 22 ∨ x.dat.op = 23 ∨ x.dat.op = 24) ∧ x.kids.length ≤ 1001 := by
  have hn := (goodB_un h).1.2
  have ha : arityN x.dat.n ≤ 2 := by unfold arityN; split <;> omega
  unfold mostN
  have h24 : x.dat.op = 24 → x.kids.length ≤ 1000 ∧ 0 ≤ x.dat.n ∧ cs[x.dat.n.toNat]? = some ((x.kids.length : Nat) : Int) := by
    intro e
    rcases hn with h | h | h | h | h | h | h | h | h | h | h | h <;> first | (exfalso; omega) | skip
    exact ⟨h.2.1, h.2.2.1, h.2.2.2.2⟩
  refine ⟨?_, ?_, ?_, ?_, ?_, ?_, ?_, ?_, ?_, ?_, h24, ?_, ?_⟩ <;>
    (rcases hn with h | h | h | h | h | h | h | h | h | h | h | h <;> omega)
theorem comb_okF {cs : List Int} {fs : List FlatD} (hP : ProgF cs fs) {ev : Ev} (H : EvOkF cs ev) {x : E} {cap k : Nat} (hx : goodB cs cap k x) (hop : x.dat.op = 25 ∨ x.dat.op = 24 ∨ x.dat.op = 6 ∨ x.dat.op = 7 ∨ x.dat.op = 8 ∨ x.dat.op = 12) {l : List Th} (hl : ∀ t ∈ l, OkF cs t) (hlen : l.length = x.kids.length) (left : Nat) (out : List Lab) (ho : out.length ≤ 1000) :
    OkRF cs left (combF fs ev x l left out) := by
  obtain ⟨_, _, n25, n6, n7, _, n12, _, _, _, n24, _⟩ := fnode hx
  unfold combF
  split
  · split
    · next h =>
      obtain ⟨n, lf, e, e0, e1, e2, e3⟩ := okF_fun (getD_okF hl 0) h
      obtain ⟨f, _, e4, e5, _⟩ := hP.at_ e2
      rw [e]
      show OkRF cs left (ev (bodyF fs n) _ left out)
      rw [← e4]
      refine H _ lf.length 1 _ _ _ e5 ⟨rfl, rfl, fun t ht => ?_⟩ ho
      rcases List.mem_cons.1 ht with rfl | ht
      · exact .func n lf e0 e1 e2 e3
      · have : t = l.getD 1 unitT := by simpa using ht
        rw [this]
        exact getD_okF hl 1
    · exact ⟨Nat.le_refl _, ho, .inr (.inr rfl)⟩
  split
  · next e =>
    obtain ⟨h1, h2, h3⟩ := n24 e
    exact ⟨.func _ _ h2 (by omega) (by rw [hlen]; exact h3) hl, Nat.le_refl _, ho⟩
  split
  · next e => exact ⟨.record l (by have := n6 e; omega) hl, Nat.le_refl _, ho⟩
  split
  · next e =>
    obtain ⟨h1, h2, h3⟩ := n7 (.inr e)
    obtain ⟨t, rfl⟩ : ∃ t, l = [t] := by
      match l, (hlen.trans h1) with
      | [t], _ => exact ⟨t, rfl⟩
    exact ⟨.inject _ _ h2 h3 (hl t (by simp)), Nat.le_refl _, ho⟩
  split
  · split
    · exact ⟨getD_okF (okF_l (getD_okF hl 0)).2 _, Nat.le_refl _, ho⟩
    · exact ⟨Nat.le_refl _, ho, .inr (.inr rfl)⟩
  · next h1 h2 h3 h4 h5 =>
    have e : x.dat.op = 12 := by clear n25 n6 n7 n12 n24; omega
    obtain ⟨_, _, h6⟩ := n12 e
    clear n25 n6 n7 n12 n24
    refine prim_okF _ _ _ _ hl (fun e => ?_) ho
    rw [e] at hlen
    unfold arityN at h6
    simp at hlen
    split at h6 <;> omega
theorem step_okF {cs : List Int} {fs : List FlatD} (hP : ProgF cs fs) {ev : Ev} (H : EvOkF cs ev) {x : E} {cap k : Nat} (hx : goodB cs cap k x) {env : List Th} (he : EnvF cs cap k env) (left : Nat) (out : List Lab) (ho : out.length ≤ 1000) : OkRF cs left (stepF fs ev x env left out) := by
  obtain ⟨n2, n3, n25, n6, n7, n9, n12, n13, n21, n23, n24, nr, nk⟩ := fnode hx
  unfold stepF
  split
  · next e => exact ⟨.int _ (n2 e).1 (n2 e).2, Nat.le_refl _, ho⟩
  split
  · next e => exact ⟨.text _ (n3 e), Nat.le_refl _, ho⟩
  split
  · exact ⟨getD_okF he.ok _, Nat.le_refl _, ho⟩
  split
  · exact ⟨getD_okF he.ok _, Nat.le_refl _, ho⟩
  split
  · exact ⟨getD_okF (okF_l (getD_okF he.ok 0)).2 _, Nat.le_refl _, ho⟩
  split
  · exact ⟨Nat.le_refl _, ho, .inl rfl⟩
  split
  · next e =>
    have h2 := n25 (.inr e)
    have g0 := fkid hx (i := 0) (by omega)
    have g1 := fkid hx (i := 1) (by omega)
    rw [if_neg (by unfold furP; omega)] at g0
    rw [if_pos (by unfold furP; omega)] at g1
    exact (H _ cap k env left out g0 he ho).bind fun t l' o' ht hl' ho' => H _ cap (k + 1) _ l' o' g1 (he.more ht) ho'
  split
  · next e =>
    have h2 := n9 e
    have g0 := fkid hx (i := 0) (by omega)
    rw [if_neg (by unfold furP; omega)] at g0
    refine (H _ cap k env left out g0 he ho).bind fun t l' o' ht hl' ho' => ?_
    split
    · next q =>
      obtain ⟨n, u, rfl, u1, u2, u3⟩ := okF_inj ht q.1
      have q2 : n + 1 < ((x.kids.length : Nat) : Int) := q.2
      have g1 := fkid hx (i := (n + 1).toNat) (by omega)
      rw [if_pos (by unfold furP; omega)] at g1
      exact H _ cap (k + 1) _ l' o' g1 (he.more u3) ho'
    · exact ⟨Nat.le_refl _, ho', .inr (.inr rfl)⟩
  · next h1 h2 h3 h4 h5 h6 h7 h8 =>
    have hk := fkids hx h8 h7
    have hL := evL_okF H x.kids env left out hk he ho
    cases hr : evL ev x.kids env left out with
    | stop => rw [hr] at hL; exact hL
    | ok ts l1 o1 =>
      rw [hr] at hL
      exact (comb_okF hP H hx (by omega) hL.1 hL.2.1 l1 o1 hL.2.2.2).mono hL.2.2.1
theorem eval_okF {cs : List Int} {fs : List FlatD} (hP : ProgF cs fs) : ∀ d, EvOkF cs (evalF fs d)
  | 0 => fun x cap k env left out _ _ ho => ⟨Nat.zero_le _, ho, .inr (.inl rfl)⟩
  | d + 1 => fun x cap k env left out hx he ho => by
    unfold evalF
    split
    · exact ⟨Nat.zero_le _, ho, .inr (.inl rfl)⟩
    · exact (step_okF hP (eval_okF hP d) hx he (left - 1) out ho).mono (by omega)
def srt (t : Th) : Int := if t.op = 7 then 5 else t.op
abbrev frow (t : Th) (la : Option Addr) (ln lc : Nat) : List Value := [.int .i64 (srt t), .int .i64 t.n, .string (bstr t.s), .slice la ln lc]
inductive VF (g : G) : Option Addr → Th → Prop
  | mk (ad : Addr) (t : Th) (la : Option Addr) (ln lc : Nat) (ps : List (Option Addr)) :
    (∀ (j : Nat) (v : Value), (frow t la ln lc)[j]? = some v → Live g (Addr.add ad j) v) →
    Sl g 1 la ln lc (ps.map Value.pointer) → ps.length = t.l.length → (∀ (i : Nat) (p : Option Addr) (u : Th), ps[i]? = some p → t.l[i]? = some u → VF g p u) → VF g (some ad) t
theorem VF.mono {g g' : G} (m : Le g g') {p : Option Addr} {t : Th} (h : VF g p t) : VF g' p t := by
  induction h with
  | mk ad t la ln lc ps h1 h2 h3 _ ih => exact .mk ad t la ln lc ps (fun j v hv => (h1 j v hv).mono m) (h2.mono m) h3 ih
def VFs (g : G) (la : Option Addr) (ln lc : Nat) (l : List Th) : Prop := ∃ ps : List (Option Addr), Sl g 1 la ln lc (ps.map Value.pointer) ∧ ps.length = l.length ∧ ∀ (i : Nat) (p : Option Addr) (u : Th), ps[i]? = some p → l[i]? = some u → VF g p u
theorem VFs.mono {g g' : G} (m : Le g g') {la : Option Addr} {ln lc : Nat} {l : List Th} : VFs g la ln lc l → VFs g' la ln lc l
  | ⟨ps, h1, h2, h3⟩ => ⟨ps, h1.mono m, h2, fun i q u hq hu => (h3 i q u hq hu).mono m⟩
theorem VFs.nil (g : G) : VFs g none 0 0 [] := ⟨[], Sl.zero _ _, rfl, fun i q u h => by simp at h⟩
theorem VFs.len {g : G} {la : Option Addr} {ln lc : Nat} {l : List Th} : VFs g la ln lc l → l.length = ln
  | ⟨ps, h1, h2, _⟩ => by have := h1.len; simp at this; omega
theorem VF.get {g : G} {p : Option Addr} {t : Th} (h : VF g p t) : ∃ ad la ln lc, p = some ad ∧ (∀ (j : Nat) (v : Value), (frow t la ln lc)[j]? = some v → Live g (Addr.add ad j) v) ∧ VFs g la ln lc t.l := by
  cases h with
  | mk ad t la ln lc ps h1 h2 h3 h4 => exact ⟨ad, la, ln, lc, rfl, h1, ps, h2, h3, h4⟩
theorem VF.new {g : G} {ad : Addr} {t : Th} {la : Option Addr} {ln lc : Nat} (h1 : ∀ j v, (frow t la ln lc)[j]? = some v → Live g (Addr.add ad j) v) (h2 : VFs g la ln lc t.l) : VF g (some ad) t := by
  obtain ⟨ps, k1, k2, k3⟩ := h2
  exact .mk ad t la ln lc ps h1 k1 k2 k3
theorem VFs.rd {g : G} {la : Option Addr} {ln lc : Nat} {l : List Th} (h : VFs g la ln lc l) {i : Int} (p : Nat) (hi : i = ((p : Nat) : Int)) {t : Th} (ht : l[p]? = some t) {K : Addr → Prop} (hk : ∀ ad q, VF g q t → Live g (Addr.add ad (Int.toNat i * 1)) (.pointer q) → K ad) : derefP la K := by
  subst hi
  obtain ⟨ps, h1, h2, h3⟩ := h
  have hp := (List.getElem?_eq_some_iff.1 ht).1
  have gp := List.getElem?_eq_getElem (show p < ps.length by omega)
  generalize ps[p] = q at gp
  cases la with
  | none =>
    have hlen := h1.len
    have h0 := h1.nil rfl
    have hle := h1.le
    rw [List.length_map] at hlen
    have := (List.getElem?_eq_some_iff.1 gp).1
    exfalso
    omega
  | some ad =>
    have := h1.at_ ad rfl p (.pointer q) (by rw [List.getElem?_map, gp]; rfl)
    refine hk ad q (h3 p q t gp ht) ?_
    rw [show Int.toNat ((p : Nat) : Int) * 1 = p by omega]
    exact this
theorem VFs.of {g : G} {la : Option Addr} {ln lc : Nat} {ps : List (Option Addr)} {l : List Th} (h : SlE ptrE g la ln lc ps) (hl : ps.length = l.length) (hv : ∀ (i : Nat) (p : Option Addr) (u : Th), ps[i]? = some p → l[i]? = some u → VF g p u) : VFs g la ln lc l := by
  obtain ⟨L, h1, h2⟩ := h.ex
  rw [rws_ptr h2] at h1
  exact ⟨ps, h1, hl, hv⟩
def FrP (g : G) (fp : Option Addr) (env : List Th) : Prop := ∃ fa p la ln lc f ls, fp = some fa ∧ env = f :: ls ∧ Live g fa (.pointer p) ∧ Live g (Addr.add fa 1) (.slice la ln lc) ∧ VF g p f ∧ VFs g la ln lc ls
theorem FrP.mono {g g' : G} (m : Le g g') {fp : Option Addr} {env : List Th} : FrP g fp env → FrP g' fp env
  | ⟨fa, p, la, ln, lc, f, ls, h1, h2, h3, h4, h5, h6⟩ => ⟨fa, p, la, ln, lc, f, ls, h1, h2, h3.mono m, h4.mono m, h5.mono m, h6.mono m⟩
structure MachF (T : TypeId) (g : G) (mb fuel left : Nat) (fa : Option Addr) (fn fc : Nat) (out : List Lab) (oa : Option Addr) (on oc : Nat) : Prop where
  blk : MutB g mb T [.slice fa fn fc, .int .i64 ((fuel : Nat) : Int), .int .i64 (((fuel : Nat) : Int) - ((left : Nat) : Int)), .slice oa on oc]
  row : MutR g 0 9 1 oa on oc (out.map encStr)
  apart : ¬ blkOf oa mb
namespace MachF
variable {T : TypeId} {g g' : G} {mb fuel left : Nat} {fa : Option Addr} {fn fc : Nat} {out : List Lab} {oa : Option Addr} {on oc : Nat}
theorem but (h : MachF T g mb fuel left fa fn fc out oa on oc) {p : Nat → Prop} (k : But p g g') (h1 : ¬ p mb) (h2 : ∀ b, blkOf oa b → ¬ p b) : MachF T g' mb fuel left fa fn fc out oa on oc := ⟨h.blk.but k h1, h.row.but k h2, h.apart⟩
theorem ex (h : MachF T g mb fuel left fa fn fc out oa on oc) (k : Ex g g') : MachF T g' mb fuel left fa fn fc out oa on oc := h.but (k.but nobody) (fun h => h) (fun _ _ h => h)
theorem frozP (h : MachF T g mb fuel left fa fn fc out oa on oc) {p : Nat → Prop} (h1 : ¬ p mb) (h2 : ∀ b, blkOf oa b → ¬ p b) : MachF T (g.frozP p) mb fuel left fa fn fc out oa on oc :=
  h.but (p := p) ⟨Nat.le_refl _, fun _ _ hx => hx, fun _ _ _ _ => rfl, fun b _ _ hp i => ⟨fun k => k.1, fun k => ⟨k, hp⟩⟩⟩ h1 h2
theorem lt (h : MachF T g mb fuel left fa fn fc out oa on oc) {b : Nat} (hb : mset mb oa b) : b < g.w.heap.size := by
  rcases hb with rfl | hb
  · exact h.blk.lt
  · exact h.row.lt hb
theorem nx (h : MachF T g mb fuel left fa fn fc out oa on oc) {b : Nat} (hb : mset mb oa b) : ¬ g.X b := by
  rcases hb with rfl | hb
  · exact h.blk.nx
  · exact h.row.nx hb
theorem d (h : MachF T g mb fuel left fa fn fc out oa on oc) {b : Nat} (hb : mset mb oa b) (i : Nat) : g.D b i := by
  rcases hb with rfl | ⟨ad, rfl, rfl⟩
  · exact h.blk.d i
  · rcases h.row.row with ⟨hh, _⟩ | ⟨b', cur, hh, _, h2, _⟩
    · cases hh
    · cases hh; exact h2.d i
theorem live (h : MachF T g mb fuel left fa fn fc out oa on oc) {ad : Addr} {v : Value} (hv : Live g ad v) : ¬ mset mb oa ad.block := fun hb => hv.2.2 (h.d hb _)
theorem len (h : MachF T g mb fuel left fa fn fc out oa on oc) : out.length = on := by have := h.row.len; simpa using this
end MachF
def MachFS (T : TypeId) (g : G) (mb fuel left : Nat) (fa : Option Addr) (fn fc : Nat) (out : List Lab) (oa0 : Option Addr) (sz : Nat) : Prop := ∃ oa on oc, MachF T g mb fuel left fa fn fc out oa on oc ∧ ∀ b, blkOf oa b → blkOf oa0 b ∨ sz ≤ b
theorem MachFS.ex {T : TypeId} {g g' : G} {mb fuel left : Nat} {fa : Option Addr} {fn fc : Nat} {out : List Lab} {oa0 : Option Addr} {sz : Nat} (k : Ex g g') : MachFS T g mb fuel left fa fn fc out oa0 sz → MachFS T g' mb fuel left fa fn fc out oa0 sz
  | ⟨oa, on, oc, h, h2⟩ => ⟨oa, on, oc, h.ex k, h2⟩
theorem MachFS.base {T : TypeId} {g : G} {mb fuel left : Nat} {fa : Option Addr} {fn fc : Nat} {out : List Lab} {oa0 oa1 : Option Addr} {sz sz1 : Nat} (hs : sz ≤ sz1) (ha : ∀ b, blkOf oa1 b → blkOf oa0 b ∨ sz ≤ b) : MachFS T g mb fuel left fa fn fc out oa1 sz1 → MachFS T g mb fuel left fa fn fc out oa0 sz
  | ⟨oa, on, oc, h, h2⟩ => ⟨oa, on, oc, h, fun b hb => (h2 b hb).elim (ha b) (fun hh => .inr (by omega))⟩
end Go.Lam
