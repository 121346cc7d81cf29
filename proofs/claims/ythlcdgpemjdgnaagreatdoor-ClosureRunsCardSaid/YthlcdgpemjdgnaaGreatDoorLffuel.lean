/- More fuel changes nothing: flat functions. -/
import Derived.Test.YthlcdgpemjdgnaaGreatDoorLfuel
import Derived.Test.YthlcdgpemjdgnaaGreatDoorLfeval
set_option linter.unusedVariables false
namespace Go.Lam
open Go Go.Vc Go.RowKit Go.Syn

theorem combF_ext {fs : List FlatD} {ev : Ev} (H : EvExt ev) (x : E) (l : List Th) (left : Nat) (out : List Lab) : ext left out (combF fs ev x l left out) := by
  unfold combF
  repeat' (first | exact H _ _ _ _ | exact prim_ext _ _ _ _ | exact ext_ok _ _ _ | exact ext_stop _ _ _ _ | split)
theorem stepF_ext {fs : List FlatD} {ev : Ev} (H : EvExt ev) (x : E) (env : List Th) (left : Nat) (out : List Lab) : ext left out (stepF fs ev x env left out) := by
  unfold stepF
  split
  · exact ext_ok _ _ _
  split
  · exact ext_ok _ _ _
  split
  · exact ext_ok _ _ _
  split
  · exact ext_ok _ _ _
  split
  · exact ext_ok _ _ _
  split
  · exact ext_stop _ _ _ _
  split
  · exact ext.bind (H _ _ _ _) fun t l o => H _ _ _ _
  split
  · refine ext.bind (H _ _ _ _) fun t l o => ?_
    split
    · exact H _ _ _ _
    · exact ext_stop _ _ _ _
  · exact ext.bind (evL_ext H _ _ _ _) fun ts l o => combF_ext H _ _ _ _
theorem evalF_ext (fs : List FlatD) : ∀ d, EvExt (evalF fs d)
  | 0 => fun x env left out => ⟨List.prefix_refl _, Nat.zero_le _⟩
  | d + 1 => fun x env left out => by
    unfold evalF
    split
    · exact ⟨List.prefix_refl _, Nat.zero_le _⟩
    · have := stepF_ext (fs := fs) (evalF_ext fs d) x env (left - 1) out
      exact ⟨this.1, by have := this.2; omega⟩
theorem combF_rel {fs : List FlatD} {δ b : Nat} {ev ev' : Ev} (H : EvRel δ b ev ev') (x : E) (l : List Th) (left : Nat) (out : List Lab) (hb : left ≤ b) : rel δ (combF fs ev x l left out) (combF fs ev' x l (left + δ) out) := by
  unfold combF
  repeat' (first | exact H _ _ _ _ hb | exact prim_rel _ _ _ _ _ | exact rel_ok _ _ _ _ | exact rel_stop _ (by omega) _ _ | split)
theorem stepF_rel {fs : List FlatD} {δ b : Nat} {ev ev' : Ev} (H : EvRel δ b ev ev') (h0 : EvExt ev) (h1 : EvExt ev') (x : E) (env : List Th) (left : Nat) (out : List Lab) (hb : left ≤ b) : rel δ (stepF fs ev x env left out) (stepF fs ev' x env (left + δ) out) := by
  unfold stepF
  split
  · exact rel_ok _ _ _ _
  split
  · exact rel_ok _ _ _ _
  split
  · exact rel_ok _ _ _ _
  split
  · exact rel_ok _ _ _ _
  split
  · exact rel_ok _ _ _ _
  split
  · exact rel_stop _ (by omega) _ _
  split
  · exact rel.bind (l := left) (H _ _ _ _ hb) (h0 _ _ _ _).2 (fun t l o hl => H _ _ _ _ (by omega)) (fun t l o => h1 _ _ _ _)
  split
  · refine rel.bind (l := left) (H _ _ _ _ hb) (h0 _ _ _ _).2 (fun t l o hl => ?_) (fun t l o => ?_)
    · split
      · exact H _ _ _ _ (by omega)
      · exact rel_stop _ (by omega) _ _
    · split
      · exact h1 _ _ _ _
      · exact ext_stop _ _ _ _
  · exact rel.bind (l := left) (evL_rel H h0 h1 _ _ _ _ hb) (evL_ext h0 _ _ _ _).2 (fun ts l o hl => combF_rel H _ _ _ _ (by omega)) (fun ts l o => combF_ext h1 _ _ _ _)
theorem evalF_rel (fs : List FlatD) (δ : Nat) : ∀ d d', d + δ ≤ d' → EvRel δ d (evalF fs d) (evalF fs d') := by
  intro d
  induction d with
  | zero =>
    intro d' hd x env left out hb
    have e : left = 0 := by omega
    subst e
    refine ⟨fun _ => ⟨rfl, rfl, (evalF_ext fs d' x env (0 + δ) out).1, fun hp => ?_⟩, fun e => absurd rfl e⟩
    obtain ⟨d0, rfl⟩ : ∃ d0, d' = d0 + 1 := ⟨d' - 1, by omega⟩
    unfold evalF
    rw [if_neg (by omega)]
    have := (stepF_ext (fs := fs) (evalF_ext fs d0) x env (0 + δ - 1) out).2
    omega
  | succ d ih =>
    intro d' hd x env left out hb
    obtain ⟨d0, rfl⟩ : ∃ d0, d' = d0 + 1 := ⟨d' - 1, by omega⟩
    by_cases q : left = 0
    · subst q
      have e : evalF fs (d + 1) x env 0 out = .stop 3 0 0 out := by unfold evalF; rw [if_pos rfl]
      rw [e]
      refine ⟨fun _ => ⟨rfl, rfl, (evalF_ext fs (d0 + 1) x env (0 + δ) out).1, fun hp => ?_⟩, fun e => absurd rfl e⟩
      unfold evalF
      rw [if_neg (by omega)]
      have := (stepF_ext (fs := fs) (evalF_ext fs d0) x env (0 + δ - 1) out).2
      omega
    · unfold evalF
      rw [if_neg q, if_neg (by omega), show left + δ - 1 = left - 1 + δ by omega]
      exact stepF_rel (ih d0 (by omega)) (evalF_ext fs d) (evalF_ext fs d0) x env (left - 1) out (by omega)
end Go.Lam
