/- Environments are no longer than the text is deep. -/
import Derived.Test.YtfmjipgcbecamaaDoorLamA
set_option linter.unusedVariables false
namespace Go.Lam
open Go Go.Vc Go.RowKit Go.Syn

inductive OkB (C : Nat) : Th → Prop
  | int (n : Int) : OkB C (intT n)
  | text (s : Lab) : OkB C (textT s)
  | record (l : List Th) : (∀ t ∈ l, OkB C t) → OkB C (recT l)
  | inject (n : Int) (l : List Th) : (∀ t ∈ l, OkB C t) → OkB C (injT n l)
  | func (body : E) (self : Bool) (env : List Th) : env.length + (if self then 1 else 0) + 1 + depthE body ≤ C → (∀ t ∈ env, OkB C t) → OkB C (funT body self env)
theorem okB_unit (C : Nat) : OkB C unitT := .record [] (by simp)
theorem okB_truth (C : Nat) (p : Prop) [Decidable p] : OkB C (truthT p) := .inject _ _ (by simp; exact okB_unit C)
theorem okB_fun {C : Nat} {body : E} {self : Bool} {env : List Th} (h : OkB C (funT body self env)) : env.length + (if self then 1 else 0) + 1 + depthE body ≤ C ∧ ∀ t ∈ env, OkB C t := by
  generalize e : funT body self env = t at h
  cases h with
  | func b s v h1 h2 => simp only [funT, Th.mk.injEq] at e; obtain ⟨_, _, _, rfl, rfl, _, rfl⟩ := e; exact ⟨h1, h2⟩
  | _ => simp [funT, intT, textT, recT, injT] at e
theorem okB_l {C : Nat} {t : Th} (h : OkB C t) : ∀ u ∈ t.l, OkB C u := by
  cases h with
  | record l h => exact h
  | inject n l h => exact h
  | _ => simp [intT, textT, funT, Th.l]
def B1 (C : Nat) : Res Th → Prop
  | .ok t _ _ => OkB C t
  | .stop _ _ _ _ => True
def BL (C : Nat) : Res (List Th) → Prop
  | .ok ts _ _ => ∀ t ∈ ts, OkB C t
  | .stop _ _ _ _ => True
def EvB (C : Nat) (ev : Ev) : Prop := ∀ x env left out, formE x → scopedE env.length x → env.length + depthE x ≤ C → (∀ t ∈ env, OkT t) → (∀ t ∈ env, OkB C t) → out.length ≤ 1000 → B1 C (ev x env left out)
theorem B1.bind {C left : Nat} {r : Res Th} {f : Th → Nat → List Lab → Res Th} (h1 : OkRes left r) (h2 : B1 C r) (hf : ∀ t l o, OkT t → OkB C t → o.length ≤ 1000 → B1 C (f t l o)) : B1 C (r.bind f) := by
  cases r with
  | ok t l o => exact hf t l o h1.1 h2 h1.2.2
  | stop => trivial
theorem okB_getD {C : Nat} {l : List Th} (h : ∀ t ∈ l, OkB C t) (i : Nat) : OkB C (l.getD i unitT) := by
  by_cases q : i < l.length
  · exact h _ (getD_mem q)
  · rw [List.getD_eq_getElem?_getD, List.getElem?_eq_none (by omega)]
    exact okB_unit C
theorem combB {C : Nat} {ev : Ev} (H : EvB C ev) {x : E} {l : List Th} (hl : ∀ t ∈ l, OkT t) (hb : ∀ t ∈ l, OkB C t) (left : Nat) (out : List Lab) (ho : out.length ≤ 1000) : B1 C (combN ev x l left out) := by
  have nb : ∀ n, B1 C (numberN n left out) := by
    intro n; unfold numberN; split
    · trivial
    · exact .int _
  unfold combN
  split
  · split
    · next e7 =>
      obtain ⟨body, self, env, ef, hbo, hs, he⟩ := ok_fun (getD_ok hl 0) e7
      have hin := ok_inner (getD_ok hl 0)
      have hB := okB_getD hb 0
      rw [ef] at hin hB ⊢
      obtain ⟨b1, b2⟩ := okB_fun hB
      refine H body _ left out hbo ?_ ?_ (fun t ht => (List.mem_cons.1 ht).elim (fun e => e ▸ getD_ok hl 1) (hin t)) (fun t ht => (List.mem_cons.1 ht).elim (fun e => e ▸ okB_getD hb 1) (fun ht => ?_)) ho
      · rw [List.length_cons, inner_len]; exact hs
      · rw [List.length_cons]
        have := inner_len (body := body) (self := self) (env := env)
        show (inner (funT body self env)).length + 1 + depthE body ≤ C
        omega
      · cases self with
        | false => exact b2 t ht
        | true =>
          rcases List.mem_cons.1 ht with rfl | ht
          · exact hB
          · exact b2 t ht
    · trivial
  split
  · exact .record l hb
  split
  · exact .inject _ l hb
  split
  · split
    · exact okB_getD (okB_l (okB_getD hb 0)) _
    · trivial
  · unfold primN
    by_cases q : textual x.dat.n
    · rw [if_pos q, if_pos q]
      split
      · unfold textsN
        repeat' (first | exact nb _ | exact okB_truth _ _ | exact OkB.text _ | exact okB_unit _ | trivial | split)
      · trivial
    · rw [if_neg q, if_neg q]
      split
      · unfold numbersN
        repeat' (first | exact nb _ | exact okB_truth _ _ | exact OkB.text _ | exact okB_unit _ | trivial | split)
      · trivial
section
variable {C : Nat} {ev : Ev} (HO : EvOk ev) (H : EvB C ev)
include HO H
theorem evLB : ∀ (l : List E) (env : List Th) (left : Nat) (out : List Lab), (∀ y ∈ l, formE y ∧ scopedE env.length y ∧ env.length + depthE y ≤ C) → (∀ t ∈ env, OkT t) → (∀ t ∈ env, OkB C t) → out.length ≤ 1000 → BL C (evL ev l env left out)
  | [], env, left, out, _, _, _, ho => by intro t ht; cases ht
  | y :: r, env, left, out, hl, he, hb, ho => by
    obtain ⟨k1, k2, k3⟩ := hl y (by simp)
    have h1 := HO y env left out k1 k2 he ho
    have h2 := H y env left out k1 k2 k3 he hb ho
    show BL C ((ev y env left out).bind _)
    cases hr : ev y env left out with
    | stop => trivial
    | ok t l1 o1 =>
      rw [hr] at h1 h2
      have h3 := evLB r env l1 o1 (fun z hz => hl z (by simp [hz])) he hb h1.2.2
      show BL C ((evL ev r env l1 o1).bind _)
      cases hr2 : evL ev r env l1 o1 with
      | stop => trivial
      | ok ts l2 o2 =>
        rw [hr2] at h3
        exact fun u hu => (List.mem_cons.1 hu).elim (fun e => e ▸ h2) (h3 u)
theorem stepB {x : E} (hx : formE x) {env : List Th} (hs : scopedE env.length x) (hd : env.length + depthE x ≤ C) (he : ∀ t ∈ env, OkT t) (hb : ∀ t ∈ env, OkB C t) (left : Nat) (out : List Lab) (ho : out.length ≤ 1000) : B1 C (stepN ev x env left out) := by
  obtain ⟨n4, n5, n7, n9, n10, n12, n6, n1, n2, n3, nr, nk⟩ := node_len hx
  have hkd : ∀ {i : Nat}, i < x.kids.length → depthE (kid x i) + 1 ≤ depthE x := by
    intro i hi
    have := depthE_mem (List.mem_of_getElem? (kid_get hi))
    rw [x.eta]
    simp only [depthE]
    have e : depthE (kid (Tr.mk x.dat x.kids) i) = depthE (kid x i) := by rw [← x.eta]
    omega
  have hk := fun {i : Nat} (hi : i < x.kids.length) => And.intro (kid_form hx hi) (scoped_kid hs (kid_get hi))
  have cons : ∀ {t : Th}, OkT t → ∀ u ∈ t :: env, OkT u := fun ht u hu => (List.mem_cons.1 hu).elim (fun e => e ▸ ht) (he u)
  have consB : ∀ {t : Th}, OkB C t → ∀ u ∈ t :: env, OkB C u := fun ht u hu => (List.mem_cons.1 hu).elim (fun e => e ▸ ht) (hb u)
  unfold stepN
  split
  · exact okB_getD hb _
  split
  · exact .int _
  split
  · exact .text _
  split
  · next e =>
    have := hkd (i := 0) (by have := n4 e; omega)
    exact .func _ false _ (by simp; omega) hb
  split
  · next e =>
    split
    · trivial
    · have h1 := hk (i := 0) (by have := n10 e; omega)
      have h2 := hkd (i := 0) (by have := n10 e; omega)
      have h4 := (n10 e).2
      have hk1 := (node_len h1.1).1 h4
      have h3 : depthE (kid (kid x 0) 0) + 1 ≤ depthE (kid x 0) := by
        have := depthE_mem (List.mem_of_getElem? (kid_get (x := kid x 0) (i := 0) (by omega)))
        have e2 : depthE (kid x 0) = depthEL (kid x 0).kids + 1 := by
          generalize kid x 0 = z
          cases z; rfl
        omega
      exact .func _ true _ (by simp; omega) hb
  split
  · trivial
  split
  · next e =>
    have hlen := n5 (.inr e)
    have h0 := hk (i := 0) (by omega)
    have h1 := hk (i := 1) (by omega)
    have d0 := hkd (i := 0) (by omega)
    have d1 := hkd (i := 1) (by omega)
    rw [bnd_first (by omega)] at h0
    rw [bnd_more (.inl e) (by omega)] at h1
    exact B1.bind (HO _ env left out h0.1 h0.2 he ho) (H _ env left out h0.1 h0.2 (by omega) he hb ho) fun t l1 o1 ht hB ho1 => H _ (t :: env) l1 o1 h1.1 (by simpa using h1.2) (by rw [List.length_cons]; omega) (cons ht) (consB hB) ho1
  split
  · next e =>
    obtain ⟨k1, k2⟩ := n9 e
    have h0 := hk (i := 0) (by omega)
    have d0 := hkd (i := 0) (by omega)
    rw [bnd_first (by omega)] at h0
    refine B1.bind (HO _ env left out h0.1 h0.2 he ho) (H _ env left out h0.1 h0.2 (by omega) he hb ho) fun t l1 o1 ht hB ho1 => ?_
    split
    · next e4 =>
      obtain ⟨n, u, rfl, k3, k4, hu⟩ := ok_inj ht e4.1
      have e5 : n + 1 < ((x.kids.length : Nat) : Int) := e4.2
      have hj := hk (i := (n + 1).toNat) (by omega)
      have dj := hkd (i := (n + 1).toNat) (by omega)
      rw [bnd_more (.inr e) (by omega)] at hj
      exact H _ (u :: env) l1 o1 hj.1 hj.2 (by rw [List.length_cons]; show env.length + 1 + depthE (kid x (n + 1).toNat) ≤ C; omega) (cons hu) (consB (okB_l hB u (by simp [injT, Th.l]))) ho1
    · trivial
  · next e1 e2 e3 e4 e10 e13 e11 e9 =>
    have hop : x.dat.op = 5 ∨ x.dat.op = 6 ∨ x.dat.op = 7 ∨ x.dat.op = 8 ∨ x.dat.op = 12 := by omega
    have hbn : ∀ j, bndN x.dat.op j = 0 := bnd_none (by omega)
    have hl : ∀ y ∈ x.kids, formE y ∧ scopedE env.length y ∧ env.length + depthE y ≤ C := by
      intro y hy
      obtain ⟨j, hj, rfl⟩ := List.mem_iff_getElem.1 hy
      have h1 := scoped_kid hs (List.getElem?_eq_getElem hj)
      have h2 := depthE_mem (List.getElem_mem hj)
      have h3 : depthE x = depthEL x.kids + 1 := by cases x; rfl
      rw [hbn] at h1
      exact ⟨(formE_un hx).2 _ hy, h1, by omega⟩
    have h1 := evL_ok HO x.kids env left out (fun y hy => ⟨(hl y hy).1, (hl y hy).2.1⟩) he ho
    have h2 := evLB HO H x.kids env left out hl he hb ho
    cases hr : evL ev x.kids env left out with
    | stop => trivial
    | ok ts l1 o1 =>
      rw [hr] at h1 h2
      exact combB H h1.1 h2 l1 o1 h1.2.2.2
end
theorem eval_okB (C : Nat) : ∀ d, EvB C (evalN d)
  | 0 => fun x env left out _ _ _ _ _ _ => trivial
  | d + 1 => fun x env left out hx hs hd he hb ho => by
    unfold evalN
    split
    · trivial
    · exact stepB (eval_ok d) (eval_okB C d) hx hs hd he hb (left - 1) out ho
end Go.Lam
