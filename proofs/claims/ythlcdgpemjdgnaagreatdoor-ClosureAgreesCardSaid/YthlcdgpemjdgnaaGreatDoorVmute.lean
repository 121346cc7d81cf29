/- Rows of elements of more than one cell that are written in place. -/
import Derived.Test.YthlcdgpemjdgnaaGreatDoorVclear
import Derived.Test.YthlcdgpemjdgnaaGreatDoorVsort
set_option linter.unusedVariables false
namespace Go.Vc
open Go Go.RowKit
theorem All2.set {α β : Type} {R : α → β → Prop} : ∀ {l : List α} {m : List β}, All2 R l m → ∀ (i : Nat) {a : α} {b : β}, R a b → All2 R (l.set i a) (m.set i b)
  | _, _, .nil, i, a, b, _ => .nil
  | _, _, .cons h1 h2, 0, a, b, h => .cons h h2
  | _, _, .cons h1 h2, i + 1, a, b, h => .cons h1 (All2.set h2 i h)
theorem setsAt_app : ∀ (r s rest : List Value) (o : Nat), setsAt (s ++ rest) (s.length + o) r = s ++ setsAt rest o r
  | [], _, _, _ => rfl
  | v :: r, s, rest, o => by
    show setsAt ((s ++ rest).set (s.length + o) v) (s.length + o + 1) r = s ++ setsAt (rest.set o v) (o + 1) r
    rw [List.set_append_right _ _ (by omega), Nat.add_sub_cancel_left, Nat.add_assoc]
    exact setsAt_app r s _ (o + 1)
theorem setsAt_zero : ∀ (r s rest : List Value), s.length = r.length → setsAt (s ++ rest) 0 r = r ++ rest
  | [], s, rest, h => by rw [List.eq_nil_of_length_eq_zero h]; rfl
  | v :: r, [], rest, h => by cases h
  | v :: r, x :: s, rest, h => by
    show setsAt (v :: (s ++ rest)) 1 r = v :: (r ++ rest)
    have := setsAt_app r [v] (s ++ rest) 0
    rw [setsAt_zero r s rest (by simpa using h)] at this
    exact this
theorem setsAt_flat {m : Nat} {r : List Value} (hr : r.length = m) : ∀ {rs : List (List Value)}, (∀ x ∈ rs, x.length = m) → ∀ {i : Nat}, i < rs.length → ∀ (tl : List Value), setsAt (rs.flatten ++ tl) (i * m) r = (rs.set i r).flatten ++ tl
  | [], _, i, h, _ => by simp at h
  | s :: rs, hl, 0, _, tl => by
    have hs := hl s (by simp)
    rw [Nat.zero_mul, List.flatten_cons, List.append_assoc, setsAt_zero r s _ (by omega)]
    simp
  | s :: rs, hl, i + 1, h, tl => by
    have hs := hl s (by simp)
    rw [List.flatten_cons, List.append_assoc, show (i + 1) * m = s.length + i * m by rw [Nat.succ_mul]; omega, setsAt_app, setsAt_flat hr (fun x hx => hl x (by simp [hx])) (by simpa using h) tl]
    simp
theorem mutb_le {g g' : G} {b : Nat} {e : TypeId} {L : List Value} (h : MutB g b e L) (k : But (fun x => x = b) g g') : Le g g' := k.le (fun x e i => e ▸ h.d i)
structure MutE {α : Type} (E : El α) (g : G) (b : Nat) (e : TypeId) (n c : Nat) (xs : List α) : Prop where
  ex : ∃ cur, MutB g b e cur ∧ cur.length = c * E.m ∧ Rws E g (cur.take (n * E.m)) xs
  len : xs.length = n
  le : n ≤ c
  cap : c ≤ maxLen
namespace MutE
variable {P : Program} {α : Type} {E : El α} {g g' : G} {b : Nat} {e : TypeId} {n c : Nat} {xs : List α}
theorem but (h : MutE E g b e n c xs) {p : Nat → Prop} (k : But p g g') (hp : ¬ p b) (hl : Le g g') : MutE E g' b e n c xs := by
  obtain ⟨cur, h1, h2, h3⟩ := h.ex
  exact ⟨⟨cur, h1.but k hp, h2, h3.mono hl⟩, h.len, h.le, h.cap⟩
theorem exm (h : MutE E g b e n c xs) (k : Ex g g') : MutE E g' b e n c xs := h.but (k.but nobody) (fun h => h) k.le
theorem lt (h : MutE E g b e n c xs) : b < g.w.heap.size := by
  obtain ⟨cur, h1, _⟩ := h.ex
  exact h1.lt
theorem sl (h : MutE E g b e n c xs) : SlE E (g.froz b) (some ⟨b, 0, none⟩) n c xs := by
  obtain ⟨cur, h1, h2, h3⟩ := h.ex
  refine ⟨⟨_, ⟨?_, h.le, h.cap, fun hh => (by cases hh), ?_⟩, h3.mono (froz_le g b)⟩, h.len⟩
  · rw [h3.len, h.len]
  · rintro ad e1 i v hi
    cases e1
    rw [List.getElem?_take] at hi
    split at hi
    · refine ⟨h1.rd hi, by rw [add_block]; exact h1.nx, fun k => ?_⟩
      exact k.2 (add_block _ _)
    · cases hi
theorem rd (h : MutE E g b e n c xs) {i : Nat} {x : α} (hi : xs[i]? = some x) : ∃ r, E.rep g r x ∧ ∀ j v, r[j]? = some v → g.w.cell? ((Addr.add ⟨b, 0, none⟩ (i * E.m)).add j) = some v := by
  obtain ⟨cur, h1, h2, h3⟩ := h.ex
  obtain ⟨r, hr, hc⟩ := h3.get hi
  refine ⟨r, hr, fun j v hj => ?_⟩
  have hlt := (List.getElem?_eq_some_iff.1 hj).1
  rw [E.len hr] at hlt
  have hx := hc j hlt
  rw [hj, List.getElem?_take] at hx
  split at hx
  · rw [addr_add_add]; exact h1.rd hx
  · cases hx
theorem ok (h : MutE E g b e n c xs) {i : Nat} (hi : i < n) : stOk g.w (Addr.add ⟨b, 0, none⟩ (i * E.m)) E.m ∧ ¬ g.X (Addr.block (Addr.add ⟨b, 0, none⟩ (i * E.m))) ∧ mutAt g (Addr.add ⟨b, 0, none⟩ (i * E.m)) E.m := by
  obtain ⟨cur, h1, h2, h3⟩ := h.ex
  refine ⟨h1.ok ?_, h1.nxA _, h1.mutA _ _⟩
  rw [h2]
  have := h.le
  calc i * E.m + E.m = (i + 1) * E.m := by rw [Nat.succ_mul]
    _ ≤ c * E.m := Nat.mul_le_mul_right _ (by omega)
theorem le_st (h : MutE E g b e n c xs) (k : But (fun x => x = b) g g') : Le g g' := by
  obtain ⟨cur, h1, _⟩ := h.ex
  exact mutb_le h1 k
theorem st (h : MutE E g b e n c xs) {i : Nat} {x : α} {r : List Value} (hr : E.rep g r x) (hi : i < n) (k : StG false g (Addr.add ⟨b, 0, none⟩ (i * E.m)) r g') : MutE E g' b e n c (xs.set i x) ∧ But (fun x => x = b) g g' := by
  obtain ⟨cur, h1, h2, h3⟩ := h.ex
  obtain ⟨h4, bt⟩ := h1.st k
  have hle := mutb_le h1 bt
  have hlen := h3.len
  have hxl := h.len
  obtain ⟨rs, e1, hh⟩ := h3.ex
  have hrl := E.len hr
  have hl := Rws.lens hh
  have hrn : rs.length = n := by rw [hh.length, h.len]
  have ecur : cur = rs.flatten ++ cur.drop (n * E.m) := by rw [← e1, List.take_append_drop]
  have eset : setsAt cur (i * E.m) r = (rs.set i r).flatten ++ cur.drop (n * E.m) := by
    have := setsAt_flat hrl hl (i := i) (by omega) (cur.drop (n * E.m))
    rw [← ecur] at this
    exact this
  refine ⟨⟨⟨_, h4, by rw [setsAt_len2]; exact h2, rs.set i r, ?_, (hh.set i hr).imp fun _ _ => E.mono hle⟩, by rw [List.length_set]; exact h.len, h.le, h.cap⟩, bt⟩
  rw [eset]
  refine List.take_left' ?_
  rw [flat_len (m := E.m) (fun y hy => by
    rcases List.mem_or_eq_of_mem_set hy with hy | rfl
    · exact hl y hy
    · exact hrl), List.length_set, hrn]
end MutE
end Go.Vc
