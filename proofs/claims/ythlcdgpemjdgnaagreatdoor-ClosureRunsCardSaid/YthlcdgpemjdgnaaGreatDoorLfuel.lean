/- More fuel changes nothing. -/
import Derived.Test.YthlcdgpemjdgnaaGreatDoorLamA
set_option linter.unusedVariables false
namespace Go.Lam
open Go Go.Vc Go.RowKit Go.Syn

def Res.out {α : Type} : Res α → List Lab
  | .ok _ _ o => o
  | .stop _ _ _ o => o
def Res.left {α : Type} : Res α → Nat
  | .ok _ l _ => l
  | .stop _ _ l _ => l
/-- What was printed goes on; no step comes back. -/
def ext {α : Type} (left : Nat) (out : List Lab) (r : Res α) : Prop := out <+: r.out ∧ r.left ≤ left
theorem ext.bind {α β : Type} {left : Nat} {out : List Lab} {r : Res α} {f : α → Nat → List Lab → Res β} (h : ext left out r) (hf : ∀ v l o, ext l o (f v l o)) : ext left out (r.bind f) := by
  cases r with
  | ok v l o => exact ⟨h.1.trans (hf v l o).1, Nat.le_trans (hf v l o).2 h.2⟩
  | stop => exact h
theorem ext_ok {α : Type} (v : α) (left : Nat) (out : List Lab) : ext left out (.ok v left out) := ⟨List.prefix_refl _, Nat.le_refl _⟩
theorem ext_stop {α : Type} (op code : Int) (left : Nat) (out : List Lab) : ext left out (.stop op code left out : Res α) := ⟨List.prefix_refl _, Nat.le_refl _⟩
/-- What more steps change. -/
def rel {α : Type} (δ : Nat) (r r' : Res α) : Prop := match r with
  | .ok v left out => r' = .ok v (left + δ) out
  | .stop op code left out => (op = 3 → code = 0 ∧ left = 0 ∧ out <+: r'.out ∧ (0 < δ → r'.left < δ)) ∧ (op ≠ 3 → r' = .stop op code (left + δ) out)
theorem rel_ok {α : Type} (δ : Nat) (v : α) (left : Nat) (out : List Lab) : rel δ (.ok v left out) (.ok v (left + δ) out) := rfl
theorem rel_stop {α : Type} (δ : Nat) {op code : Int} (h : op ≠ 3) (left : Nat) (out : List Lab) : rel δ (.stop op code left out : Res α) (.stop op code (left + δ) out) := ⟨fun e => absurd e h, fun _ => rfl⟩
theorem rel.bind {α β : Type} {δ l : Nat} {r r' : Res α} {f f' : α → Nat → List Lab → Res β} (h : rel δ r r') (hl : r.left ≤ l) (hf : ∀ v left o, left ≤ l → rel δ (f v left o) (f' v (left + δ) o)) (he : ∀ v left o, ext left o (f' v left o)) : rel δ (r.bind f) (r'.bind f') := by
  cases r with
  | ok v left o =>
    have e : r' = .ok v (left + δ) o := h
    subst e
    exact hf v left o hl
  | stop op code left o =>
    obtain ⟨h1, h2⟩ := h
    refine ⟨fun e => ?_, fun e => ?_⟩
    · obtain ⟨k1, k2, k3, k4⟩ := h1 e
      refine ⟨k1, k2, ?_, ?_⟩
      · cases r' with
        | ok v' l' o' => exact k3.trans (he v' l' o').1
        | stop => exact k3
      · intro hd
        have k5 := k4 hd
        cases r' with
        | ok v' l' o' => exact Nat.lt_of_le_of_lt (he v' l' o').2 k5
        | stop => exact k5
    · have e2 := h2 e
      subst e2
      rfl
def EvExt (ev : Ev) : Prop := ∀ x env left out, ext left out (ev x env left out)
theorem evL_ext {ev : Ev} (H : EvExt ev) : ∀ l env left out, ext left out (evL ev l env left out)
  | [], env, left, out => ext_ok _ _ _
  | y :: r, env, left, out => ext.bind (H y env left out) fun t l o => ext.bind (evL_ext H r env l o) fun ts l o => ext_ok _ _ _
theorem number_ext (n : Int) (left : Nat) (out : List Lab) : ext left out (numberN n left out) := by
  unfold numberN; split
  · exact ext_stop _ _ _ _
  · exact ext_ok _ _ _
theorem prim_ext (n : Int) (l : List Th) (left : Nat) (out : List Lab) : ext left out (primN n l left out) := by
  unfold primN
  by_cases q : textual n
  · rw [if_pos q, if_pos q]
    unfold textsN
    repeat' (first | exact number_ext _ _ _ | exact ext_ok _ _ _ | exact ext_stop _ _ _ _ | exact ⟨List.prefix_append _ _, Nat.le_refl _⟩ | split)
  · rw [if_neg q, if_neg q]
    unfold numbersN
    repeat' (first | exact number_ext _ _ _ | exact ext_ok _ _ _ | exact ext_stop _ _ _ _ | split)
theorem number_rel (δ : Nat) (n : Int) (left : Nat) (out : List Lab) : rel δ (numberN n left out) (numberN n (left + δ) out) := by
  unfold numberN; split
  · exact rel_stop _ (by omega) _ _
  · exact rel_ok _ _ _ _
theorem numbers_rel (δ : Nat) (op a b : Int) (left : Nat) (out : List Lab) : rel δ (numbersN op a b left out) (numbersN op a b (left + δ) out) := by
  unfold numbersN
  by_cases e1 : op = 1
  · rw [if_pos e1, if_pos e1]
    exact number_rel _ _ _ _
  rw [if_neg e1, if_neg e1]
  by_cases e2 : op = 2
  · rw [if_pos e2, if_pos e2]
    exact number_rel _ _ _ _
  rw [if_neg e2, if_neg e2]
  by_cases e3 : op = 3
  · rw [if_pos e3, if_pos e3]
    by_cases q : a ≠ 0 ∧ Int.tdiv mostN (absN a) < absN b
    · rw [if_pos q, if_pos q]; exact rel_stop _ (by omega) _ _
    · rw [if_neg q, if_neg q]; exact number_rel _ _ _ _
  rw [if_neg e3, if_neg e3]
  by_cases e6 : op = 6
  · rw [if_pos e6, if_pos e6]
    exact number_rel _ _ _ _
  rw [if_neg e6, if_neg e6]
  by_cases e7 : op = 7
  · rw [if_pos e7, if_pos e7]
    exact rel_ok _ _ _ _
  rw [if_neg e7, if_neg e7]
  by_cases e8 : op = 8
  · rw [if_pos e8, if_pos e8]
    exact rel_ok _ _ _ _
  rw [if_neg e8, if_neg e8]
  by_cases e9 : op = 9
  · rw [if_pos e9, if_pos e9]
    exact rel_ok _ _ _ _
  rw [if_neg e9, if_neg e9]
  by_cases e13 : op = 13
  · rw [if_pos e13, if_pos e13]
    exact rel_ok _ _ _ _
  rw [if_neg e13, if_neg e13]
  by_cases e0 : b = 0
  · rw [if_pos e0, if_pos e0]; exact rel_stop _ (by omega) _ _
  rw [if_neg e0, if_neg e0]
  by_cases e4 : op = 4
  · rw [if_pos e4, if_pos e4]; exact number_rel _ _ _ _
  · rw [if_neg e4, if_neg e4]; exact number_rel _ _ _ _
theorem prim_rel (δ : Nat) (n : Int) (l : List Th) (left : Nat) (out : List Lab) : rel δ (primN n l left out) (primN n l (left + δ) out) := by
  unfold primN
  by_cases q : textual n
  · rw [if_pos q, if_pos q, if_pos q]
    unfold textsN
    repeat' (first | exact number_rel _ _ _ _ | exact rel_ok _ _ _ _ | exact rel_stop _ (by omega) _ _ | split)
  · rw [if_neg q, if_neg q, if_neg q]
    by_cases p : ∀ t ∈ l, t.op = 1
    · rw [if_pos p, if_pos p]; exact numbers_rel _ _ _ _ _ _
    · rw [if_neg p, if_neg p]; exact rel_stop _ (by omega) _ _
/-- Two ways to evaluate, the second one with more steps. -/
def EvRel (δ b : Nat) (ev ev' : Ev) : Prop := ∀ x env left out, left ≤ b → rel δ (ev x env left out) (ev' x env (left + δ) out)
section
variable {δ b : Nat} {ev ev' : Ev} (H : EvRel δ b ev ev') (h0 : EvExt ev) (h1 : EvExt ev')
include H h0 h1
theorem evL_rel : ∀ l env left out, left ≤ b → rel δ (evL ev l env left out) (evL ev' l env (left + δ) out)
  | [], env, left, out, _ => rel_ok _ _ _ _
  | y :: r, env, left, out, hb => by
    refine rel.bind (l := left) (H y env left out hb) (h0 y env left out).2 (fun t l o hl => ?_) (fun t l o => ext.bind (evL_ext h1 r env l o) fun _ _ _ => ext_ok _ _ _)
    exact rel.bind (l := l) (evL_rel r env l o (by omega)) (evL_ext h0 r env l o).2 (fun ts l o _ => rel_ok _ _ _ _) (fun ts l o => ext_ok _ _ _)
end
end Go.Lam
