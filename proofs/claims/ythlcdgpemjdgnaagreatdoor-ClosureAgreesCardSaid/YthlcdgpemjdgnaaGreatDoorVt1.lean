/- Trees: a node's cells, and a slice of the nodes below it. -/
import Derived.Test.YthlcdgpemjdgnaaGreatDoorVop
set_option linter.unusedVariables false
namespace Go.Vc
open Go Go.RowKit
inductive Tr (δ : Type) : Type where
  | mk (d : δ) (l : List (Tr δ)) : Tr δ
namespace Tr
variable {δ : Type}
def dat : Tr δ → δ | .mk d _ => d
def kids : Tr δ → List (Tr δ) | .mk _ l => l
theorem eta (t : Tr δ) : t = .mk t.dat t.kids := by cases t; rfl
theorem ind {p : Tr δ → Prop} (h : ∀ d l, (∀ t ∈ l, p t) → p (.mk d l)) (t : Tr δ) : p t :=
  Tr.rec (motive_1 := p) (motive_2 := fun l => ∀ t ∈ l, p t) h (fun _ hm => by cases hm) (fun a l ha hl t ht => by
    rcases List.mem_cons.1 ht with rfl | ht
    · exact ha
    · exact hl t ht) t
end Tr
structure Hd (δ : Type) where
  m : Nat
  rep : G → List Value → Option Addr → Nat → Nat → δ → Prop
  len : ∀ {g r a n c x}, rep g r a n c x → r.length = m
  mono : ∀ {g g' r a n c x}, Le g g' → rep g r a n c x → rep g' r a n c x
  one : ∀ {g r a n c x}, rep g r a n c x → ∀ u ∈ r, u.oneCell' = true
variable {δ : Type} (H : Hd δ)
def repN : Nat → G → List Value → Tr δ → Prop
  | 0, _, _, _ => False
  | k + 1, g, r, t => ∃ a n c L rs, H.rep g r a n c t.dat ∧ Sl g H.m a n c L ∧ L = rs.flatten ∧ All2 (repN k g) rs t.kids ∧ t.kids.length = n
theorem repN_len : ∀ {k g r t}, repN H k g r t → r.length = H.m
  | 0, _, _, _, h => h.elim
  | k + 1, _, _, _, h => by obtain ⟨a, n, c, L, rs, h1, _⟩ := h; exact H.len h1
theorem repN_one : ∀ {k g r t}, repN H k g r t → ∀ u ∈ r, u.oneCell' = true
  | 0, _, _, _, h => h.elim
  | k + 1, _, _, _, h => by obtain ⟨a, n, c, L, rs, h1, _⟩ := h; exact H.one h1
theorem repN_mono : ∀ {k g g' r t}, Le g g' → repN H k g r t → repN H k g' r t
  | 0, _, _, _, _, _, h => h.elim
  | k + 1, _, _, _, _, m, h => by
    obtain ⟨a, n, c, L, rs, h1, h2, h3, h4, h5⟩ := h
    exact ⟨a, n, c, L, rs, H.mono m h1, h2.mono m, h3, h4.imp fun _ _ => repN_mono m, h5⟩
theorem repN_up : ∀ {k j g r t}, k ≤ j → repN H k g r t → repN H j g r t
  | 0, _, _, _, _, _, h => h.elim
  | k + 1, 0, _, _, _, hk, _ => by omega
  | k + 1, j + 1, _, _, _, hk, h => by
    obtain ⟨a, n, c, L, rs, h1, h2, h3, h4, h5⟩ := h
    exact ⟨a, n, c, L, rs, h1, h2, h3, h4.imp fun _ _ => repN_up (by omega), h5⟩
def trE : El (Tr δ) where
  m := H.m
  rep g r t := ∃ k, repN H k g r t
  len h := by obtain ⟨k, h⟩ := h; exact repN_len H h
  mono m h := by obtain ⟨k, h⟩ := h; exact ⟨k, repN_mono H m h⟩
  one h := by obtain ⟨k, h⟩ := h; exact repN_one H h
@[simp] theorem trE_m : (trE H).m = H.m := rfl
theorem all2_fuel {g : G} {rs : List (List Value)} {xs : List (Tr δ)} (h : All2 ((trE H).rep g) rs xs) : ∃ k, All2 (repN H k g) rs xs := by
  induction h with
  | nil => exact ⟨0, .nil⟩
  | cons h1 _ ih =>
    obtain ⟨k, h1⟩ := h1
    obtain ⟨j, h2⟩ := ih
    exact ⟨max k j, .cons (repN_up H (Nat.le_max_left _ _) h1) (h2.imp fun _ _ => repN_up H (Nat.le_max_right _ _))⟩
theorem trE_mk {g : G} {r : List Value} {a : Option Addr} {n c : Nat} {d : δ} {l : List (Tr δ)} (h : H.rep g r a n c d) (hl : SlE (trE H) g a n c l) : (trE H).rep g r (.mk d l) := by
  obtain ⟨⟨L, h1, h2⟩, h3⟩ := hl
  obtain ⟨rs, e, h2⟩ := h2.ex
  obtain ⟨k, h2⟩ := all2_fuel H h2
  exact ⟨k + 1, a, n, c, L, rs, h, h1, e, h2, h3⟩
theorem trE_un {g : G} {r : List Value} {t : Tr δ} (h : (trE H).rep g r t) : ∃ a n c, H.rep g r a n c t.dat ∧ SlE (trE H) g a n c t.kids := by
  obtain ⟨k, h⟩ := h
  cases k with
  | zero => exact h.elim
  | succ k =>
    obtain ⟨a, n, c, L, rs, h1, h2, h3, h4, h5⟩ := h
    exact ⟨a, n, c, h1, ⟨L, h2, ⟨rs, h3, h4.imp fun _ _ hh => ⟨k, hh⟩⟩⟩, h5⟩
end Go.Vc
