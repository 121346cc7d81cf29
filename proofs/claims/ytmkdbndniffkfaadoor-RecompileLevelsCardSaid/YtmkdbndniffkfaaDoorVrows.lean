/- A row of rows that grow: the outer row and all inner ones are one's own, at different blocks. -/
import Derived.Test.YtmkdbndniffkfaaDoorVmute
set_option linter.unusedVariables false
namespace Go.Vc
open Go Go.RowKit

/-- A slice's head. -/
structure SlH where
  a : Option Addr
  n : Nat
  c : Nat
abbrev SlH.v (h : SlH) : Value := .slice h.a h.n h.c
/-- The rows, in blocks that differ. -/
structure RowsM (g : G) (B : Nat) (e : TypeId) (hs : List SlH) (rows : List (List Value)) : Prop where
  row : All2 (fun h r => MutR g B e 1 h.a h.n h.c r) hs rows
  apart : ∀ (i j : Nat) (x y : SlH), hs[i]? = some x → hs[j]? = some y → i ≠ j → ∀ z, blkOf x.a z → ¬ blkOf y.a z
namespace RowsM
variable {g g' : G} {B : Nat} {e : TypeId} {hs : List SlH} {rows : List (List Value)}
theorem nil (g : G) (B : Nat) (e : TypeId) : RowsM g B e [] [] := ⟨.nil, fun i j x y h => by simp at h⟩
theorem all2_imp_at {α β : Type} {R S : α → β → Prop} : ∀ {l : List α} {m : List β}, All2 R l m → (∀ (i : Nat) a b, l[i]? = some a → m[i]? = some b → R a b → S a b) → All2 S l m
  | _, _, .nil, _ => .nil
  | _, _, .cons h1 h2, h => .cons (h 0 _ _ rfl rfl h1) (all2_imp_at h2 fun i a b ha hb => h (i + 1) a b (by simpa using ha) (by simpa using hb))
theorem all2_of_at {α β : Type} {R : α → β → Prop} : ∀ {l : List α} {m : List β}, l.length = m.length → (∀ (i : Nat) a b, l[i]? = some a → m[i]? = some b → R a b) → All2 R l m
  | [], [], _, _ => .nil
  | [], _ :: _, h, _ => by cases h
  | _ :: _, [], h, _ => by cases h
  | a :: l, b :: m, h, k => .cons (k 0 a b rfl rfl) (all2_of_at (by simpa using h) fun i x y hx hy => k (i + 1) x y (by simpa using hx) (by simpa using hy))
/-- Blocks of none of the rows have turned. -/
theorem but (h : RowsM g B e hs rows) {p : Nat → Prop} (k : But p g g') (hp : ∀ x ∈ hs, ∀ b, blkOf x.a b → ¬ p b) : RowsM g' B e hs rows :=
  ⟨all2_imp_at h.row fun i x r hx _ hr => hr.but k (hp x (List.mem_of_getElem? hx)), h.apart⟩
theorem ex (h : RowsM g B e hs rows) (k : Ex g g') : RowsM g' B e hs rows := h.but (k.but nobody) (fun _ _ _ _ h => h)
theorem at_ (h : RowsM g B e hs rows) {i : Nat} {r : List Value} (hr : rows[i]? = some r) : ∃ x, hs[i]? = some x ∧ MutR g B e 1 x.a x.n x.c r := h.row.get hr
theorem len (h : RowsM g B e hs rows) : hs.length = rows.length := h.row.length
/-- One row has turned: its head and what it shows are other ones. -/
theorem set (h : RowsM g B e hs rows) {i : Nat} {x y : SlH} {r : List Value} (hx : hs[i]? = some x) (k : But (blkOf x.a) g g') (hy : MutR g' B e 1 y.a y.n y.c r) (hb : ∀ b, blkOf y.a b → blkOf x.a b ∨ g.w.heap.size ≤ b) :
    RowsM g' B e (hs.set i y) (rows.set i r) := by
  have hlt := (List.getElem?_eq_some_iff.1 hx).1
  have below : ∀ (j : Nat) (z : SlH), hs[j]? = some z → ∀ b, blkOf z.a b → b < g.w.heap.size := by
    intro j z hz b hbz
    have hj := (List.getElem?_eq_some_iff.1 hz).1
    obtain ⟨z', h1, h2⟩ := h.at_ (List.getElem?_eq_getElem (show j < rows.length by have := h.len; omega))
    rw [hz] at h1
    cases h1
    exact h2.lt hbz
  refine ⟨all2_of_at (by rw [List.length_set, List.length_set]; exact h.len) fun j u v hu hv => ?_, fun j k u v hu hv hne z hz1 hz2 => ?_⟩
  · by_cases q : i = j
    · subst q
      rw [List.getElem?_set_self hlt] at hu
      rw [List.getElem?_set_self (by have := h.len; omega)] at hv
      cases hu; cases hv
      exact hy
    · rw [List.getElem?_set_ne q] at hu hv
      obtain ⟨u', h1, h2⟩ := h.at_ hv
      rw [hu] at h1
      cases h1
      exact h2.but k fun b hb hx' => h.apart i j x u hx hu q b hx' hb
  · by_cases q : i = j
    · subst q
      rw [List.getElem?_set_self hlt] at hu
      rw [List.getElem?_set_ne hne] at hv
      cases hu
      rcases hb z hz1 with h1 | h1
      · exact h.apart i k x v hx hv hne z h1 hz2
      · have := below k v hv z hz2; omega
    · rw [List.getElem?_set_ne q] at hu
      by_cases q2 : i = k
      · subst q2
        rw [List.getElem?_set_self hlt] at hv
        cases hv
        rcases hb z hz2 with h1 | h1
        · exact h.apart i j x u hx hu q z h1 hz1
        · have := below j u hu z hz1; omega
      · rw [List.getElem?_set_ne q2] at hv
        exact h.apart j k u v hu hv hne z hz1 hz2
/-- A nil row more. -/
theorem push (h : RowsM g B e hs rows) : RowsM g B e (hs ++ [⟨none, 0, 0⟩]) (rows ++ [[]]) := by
  refine ⟨h.row.append (.cons (MutR.nil _ _ _ _) .nil), fun i j x y hx hy hne z hz1 hz2 => ?_⟩
  have nn : ∀ {k : Nat} {u : SlH}, (hs ++ [⟨none, 0, 0⟩])[k]? = some u → blkOf u.a z → hs[k]? = some u := by
    intro k u hu hz
    rw [List.getElem?_append] at hu
    split at hu
    · exact hu
    · next hge =>
      have := List.mem_of_getElem? hu
      rw [List.mem_singleton] at this
      subst this
      obtain ⟨ad, hh, _⟩ := hz
      cases hh
  exact h.apart i j x y (nn hx hz1) (nn hy hz2) hne z hz1 hz2
end RowsM
end Go.Vc
