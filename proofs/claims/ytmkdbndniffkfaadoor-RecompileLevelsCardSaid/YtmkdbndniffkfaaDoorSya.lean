/- Joined texts. -/
import Derived.Test.YtmkdbndniffkfaaDoorSunit
/- The canonical order of units: the order in which they are given does not matter, each stands after what it imports, and if there is none some import each other. -/
set_option linter.unusedVariables false
namespace Go.Syn
open Go Go.Vc Go.RowKit

theorem nodup_len : ∀ {l m : List Lab}, l.Nodup → (∀ x ∈ l, x ∈ m) → l.length ≤ m.length
  | [], _, _, _ => by simp
  | x :: r, m, hn, hs => by
    rw [List.nodup_cons] at hn
    have hx : x ∈ m := hs x (by simp)
    have := nodup_len (m := m.erase x) hn.2 (fun y hy => (List.mem_erase_of_ne (fun e => hn.1 (by rw [← e]; exact hy))).2 (hs y (by simp [hy])))
    rw [List.length_erase_of_mem hx] at this
    have : 0 < m.length := List.length_pos_of_mem hx
    simp
    omega
/-- What is out already. -/
structure AfterI (L : List UnitD) (out : List Lab) : Prop where
  nd : out.Nodup
  sub : ∀ s ∈ out, s ∈ namesU L
  aft : ∀ u ∈ L, ∀ p, out[p]? = some u.name → ∀ s ∈ u.imps, s ∈ out.take p
theorem AfterI.nil (L : List UnitD) : AfterI L [] := ⟨List.nodup_nil, fun s h => (by cases h), fun u _ p h => by simp at h⟩
theorem pick_ready {L : List UnitD} {out : List Lab} {n : Lab} (h : pick L out = some n) : ∃ u ∈ L, u.name = n ∧ readyU out u := by
  unfold pick at h
  have hm : n ∈ sortS (namesU (L.filter (readyU out))) := List.mem_of_mem_head? (by rw [h]; rfl)
  obtain ⟨u, hu, rfl⟩ := mem_names.1 (mem_sortS.1 hm)
  obtain ⟨h1, h2⟩ := List.mem_filter.1 hu
  exact ⟨u, h1, rfl, by simpa using h2⟩
theorem pick_none_iff {L : List UnitD} {out : List Lab} (h : pick L out = none) : ∀ u ∈ L, ¬ readyU out u := by
  intro u hu hr
  unfold pick at h
  have hm : u.name ∈ sortS (namesU (L.filter (readyU out))) := mem_sortS.2 (mem_names.2 ⟨u, List.mem_filter.2 ⟨hu, by simpa using hr⟩, rfl⟩)
  rw [List.head?_eq_none_iff] at h
  rw [h] at hm
  cases hm
theorem AfterI.add {L : List UnitD} (hn : (namesU L).Nodup) {out : List Lab} {n : Lab} (h : AfterI L out) (hp : pick L out = some n) : AfterI L (out ++ [n]) := by
  obtain ⟨u, hu, rfl, h1, h2⟩ := pick_ready hp
  refine ⟨?_, ?_, ?_⟩
  · rw [List.nodup_append]
    exact ⟨h.nd, by simp, fun a ha b hb => by rw [List.mem_singleton] at hb; subst hb; exact fun e => h1 (e ▸ ha)⟩
  · intro s hs
    rcases List.mem_append.1 hs with hs | hs
    · exact h.sub s hs
    · rw [List.mem_singleton] at hs; rw [hs]; exact mem_names.2 ⟨u, hu, rfl⟩
  · intro v hv p hp s hs
    rw [List.getElem?_append] at hp
    split at hp
    · next hlt =>
      rw [List.take_append_of_le_length (Nat.le_of_lt hlt)]
      exact h.aft v hv p hp s hs
    · next hge =>
      have hp0 : p - out.length = 0 := by
        rcases Nat.eq_zero_or_pos (p - out.length) with e | e
        · exact e
        · rw [List.getElem?_eq_none (by simp; omega)] at hp; cases hp
      rw [hp0] at hp
      have hnm : u.name = v.name := by simpa using hp
      have hpe : p = out.length := by omega
      subst hpe
      rw [List.take_left']
      · have huv : u = v := by
          have : ∀ {L : List UnitD}, (namesU L).Nodup → u ∈ L → v ∈ L → u = v := by
            intro L
            induction L with
            | nil => intro _ h; cases h
            | cons x r ih =>
              intro hn h1 h2
              have hn' := List.nodup_cons.1 hn
              rcases List.mem_cons.1 h1 with e1 | h1 <;> rcases List.mem_cons.1 h2 with e2 | h2
              · rw [e1, e2]
              · exact absurd (mem_names.2 ⟨v, h2, by rw [← hnm, e1]⟩) hn'.1
              · exact absurd (mem_names.2 ⟨u, h1, by rw [hnm, e2]⟩) hn'.1
              · exact ih hn'.2 h1 h2
          exact this hn hu hv
        subst huv
        exact h2 s hs
      · rfl
theorem topo_ok {L : List UnitD} (hn : (namesU L).Nodup) : ∀ (k : Nat) (out : List Lab), AfterI L out → (AfterI L (topo L k out).1 ∧ (topo L k out).1.length = out.length + k ∧ (topo L k out).2 = 0) ∨
    (topo L k out = ([], 21) ∧ ∃ o, AfterI L o ∧ o.length < out.length + k ∧ ∀ u ∈ L, ¬ readyU o u)
  | 0, out, h => Or.inl ⟨h, rfl, rfl⟩
  | k + 1, out, h => by
    cases hp : pick L out with
    | none => rw [topo_none hp]; exact Or.inr ⟨rfl, out, h, by omega, pick_none_iff hp⟩
    | some n =>
      rw [topo_some hp]
      rcases topo_ok hn k (out ++ [n]) (h.add hn hp) with ⟨h1, h2, h3⟩ | ⟨h1, o, h2, h3, h4⟩
      · exact Or.inl ⟨h1, by rw [h2]; simp; omega, h3⟩
      · exact Or.inr ⟨h1, o, h2, by simp at h3; omega, h4⟩
/-- Each unit stands in the order, behind all that it imports. -/
def goodO (L : List UnitD) (o : List Lab) : Prop := o.length = L.length ∧ ∀ u ∈ L, ∃ p, o[p]? = some u.name ∧ (∀ i < p, o[i]? ≠ some u.name) ∧ ∀ s ∈ u.imps, s ∈ o.take p
theorem AfterI.good {L : List UnitD} (hn : (namesU L).Nodup) {o : List Lab} (h : AfterI L o) (hl : o.length = L.length) : goodO L o := by
  refine ⟨hl, fun u hu => ?_⟩
  have hm : u.name ∈ o := by
    refine Classical.byContradiction fun hno => ?_
    have := nodup_len (l := u.name :: o) (m := namesU L) (List.nodup_cons.2 ⟨hno, h.nd⟩) (fun x hx => by
      rcases List.mem_cons.1 hx with e | hx
      · rw [e]; exact mem_names.2 ⟨u, hu, rfl⟩
      · exact h.sub x hx)
    rw [List.length_cons, hl] at this
    unfold namesU at this
    rw [List.length_map] at this
    omega
  obtain ⟨p, hp⟩ := List.getElem?_of_mem hm
  refine ⟨p, hp, fun i hi e => ?_, h.aft u hu p hp⟩
  have hlt : p < o.length := (List.getElem?_eq_some_iff.1 hp).1
  have : i = p := by
    exact (List.getElem?_inj (by omega) h.nd).1 (by rw [e, hp])
  omega
end Go.Syn
/- Units along their order: levels, and what a unit needs. -/
set_option linter.unusedVariables false
namespace Go.Syn
open Go Go.Vc Go.RowKit

theorem units_inj : ∀ {L : List UnitD}, (namesU L).Nodup → ∀ {u v : UnitD}, u ∈ L → v ∈ L → u.name = v.name → u = v
  | [], _, _, _, h, _, _ => by cases h
  | x :: r, hn, u, v, h1, h2, e => by
    have hn' := List.nodup_cons.1 hn
    rcases List.mem_cons.1 h1 with e1 | h1 <;> rcases List.mem_cons.1 h2 with e2 | h2
    · rw [e1, e2]
    · exact absurd (mem_names.2 ⟨v, h2, by rw [← e, e1]⟩) hn'.1
    · exact absurd (mem_names.2 ⟨u, h1, by rw [e, e2]⟩) hn'.1
    · exact units_inj hn'.2 h1 h2 e
/-- What an order that is found says of the units. -/
structure Ordered (L : List UnitD) (o : List Lab) : Prop where
  ln : L.length ≤ 16
  ok : ∀ u ∈ L, unitP u
  nd : (namesU L).Nodup
  imp : ∀ u ∈ L, ∀ s ∈ u.imps, s ∈ namesU L
  af : AfterI L o
  len : o.length = L.length
theorem orderN_ordered {L : List UnitD} (h : (orderN L).2 = 0) : Ordered L (orderN L).1 := by
  unfold orderN at h ⊢
  by_cases h1 : 16 < L.length
  · rw [if_pos h1] at h; cases h
  rw [if_neg h1] at h ⊢
  by_cases h2 : ∃ u ∈ L, ¬ unitP u
  · rw [if_pos h2] at h; cases h
  rw [if_neg h2] at h ⊢
  by_cases h3 : ¬ (namesU L).Nodup
  · rw [if_pos h3] at h; cases h
  rw [if_neg h3] at h ⊢
  have hn : (namesU L).Nodup := Classical.byContradiction h3
  by_cases h4 : ∃ u ∈ L, ∃ s ∈ u.imps, s ∉ namesU L
  · rw [if_pos h4] at h; cases h
  rw [if_neg h4] at h ⊢
  rcases topo_ok hn L.length [] (AfterI.nil L) with ⟨h5, h6, h7⟩ | ⟨h5, o, h6, h7, h8⟩
  · exact ⟨by omega, fun u hu => Classical.byContradiction fun hc => h2 ⟨u, hu, hc⟩, hn, fun u hu s hs => Classical.byContradiction fun hc => h4 ⟨u, hu, s, hs, hc⟩, h5, by simpa using h6⟩
  · rw [h5] at h; cases h
theorem Ordered.good {L : List UnitD} {o : List Lab} (h : Ordered L o) : goodO L o := h.af.good h.nd h.len
theorem Ordered.unit {L : List UnitD} {o : List Lab} (h : Ordered L o) {s : Lab} (hs : s ∈ o) : ∃ u ∈ L, u.name = s := mem_names.1 (h.af.sub s hs)
/-- The greatest level of a list, and one. -/
def levOf (f : Lab → Nat) (l : List Lab) : Nat := l.foldl (fun n s => max n (f s + 1)) 0
theorem levOf_congr {f f' : Lab → Nat} {l : List Lab} (h : ∀ s ∈ l, f s = f' s) : levOf f l = levOf f' l := by
  unfold levOf
  have : ∀ (l : List Lab) (n : Nat), (∀ s ∈ l, f s = f' s) → l.foldl (fun n s => max n (f s + 1)) n = l.foldl (fun n s => max n (f' s + 1)) n := by
    intro l
    induction l with
    | nil => intro _ _; rfl
    | cons x r ih =>
      intro n h
      rw [List.foldl_cons, List.foldl_cons, h x (by simp)]
      exact ih _ (fun s hs => h s (by simp [hs]))
  exact this l 0 h
/-- The imports of the unit of a name. -/
noncomputable def impsOf (L : List UnitD) (s : Lab) : List Lab := match L.find? (fun u => tf (u.name = s)) with
  | some u => u.imps
  | none => []
theorem impsOf_unit {L : List UnitD} (hn : (namesU L).Nodup) {u : UnitD} (hu : u ∈ L) : impsOf L u.name = u.imps := by
  unfold impsOf
  cases hf : L.find? (fun v => tf (v.name = u.name)) with
  | none =>
    have := List.find?_eq_none.1 hf u hu
    simp at this
  | some v =>
    have h1 := List.mem_of_find?_eq_some hf
    have h2 : v.name = u.name := by have := List.find?_some hf; simpa using this
    rw [units_inj hn h1 hu h2]
open Classical in
/-- One name more has its level. -/
noncomputable def levStep (L : List UnitD) (f : Lab → Nat) (s : Lab) : Lab → Nat := fun x => if x = s then levOf f (impsOf L s) else f x
noncomputable def levs (L : List UnitD) (o : List Lab) : Lab → Nat := o.foldl (levStep L) (fun _ => 0)
theorem levs_snoc (L : List UnitD) (o : List Lab) (s : Lab) : levs L (o ++ [s]) = levStep L (levs L o) s := by unfold levs; rw [List.foldl_append]; rfl
/-- The levels of what stands in the order fit. -/
theorem levs_fit {L : List UnitD} {o : List Lab} (h : Ordered L o) : ∀ i, i ≤ o.length → ∀ u ∈ L, u.name ∈ o.take i → levs L (o.take i) u.name = levOf (levs L (o.take i)) u.imps := by
  intro i
  induction i with
  | zero => intro _ u _ hm; simp at hm
  | succ i ih =>
    intro hi u hu hm
    have gi := List.getElem?_eq_getElem (show i < o.length by omega)
    generalize o[i] = s at gi
    have ht : o.take (i + 1) = o.take i ++ [s] := by rw [List.take_add_one, gi]; rfl
    have hsn : s ∉ o.take i := by
      intro hc
      obtain ⟨x, hx⟩ := List.getElem?_of_mem hc
      rw [List.getElem?_take] at hx
      split at hx
      · next hlt =>
        have : x = i := (List.getElem?_inj (by omega) h.af.nd).1 (by rw [hx, gi])
        omega
      · cases hx
    -- what a unit of the beginning imports stands in the beginning
    have himp : ∀ p, p ≤ i → o[p]? = some u.name → ∀ t ∈ u.imps, t ∈ o.take i ∧ t ≠ s := by
      intro p hp hpu t ht
      have h1 := h.af.aft u hu p hpu t ht
      have h2 : t ∈ o.take i := by
        have : o.take p = (o.take i).take p := by rw [List.take_take, Nat.min_eq_left hp]
        rw [this] at h1
        exact List.mem_of_mem_take h1
      exact ⟨h2, fun e => hsn (e ▸ h2)⟩
    rw [ht, levs_snoc]
    rw [ht] at hm
    have hcg : ∀ t, t ≠ s → levStep L (levs L (o.take i)) s t = levs L (o.take i) t := fun t ht => if_neg ht
    rcases List.mem_append.1 hm with hm | hm
    · obtain ⟨p, hp⟩ := List.getElem?_of_mem hm
      rw [List.getElem?_take] at hp
      split at hp
      · next hlt =>
        have hne : u.name ≠ s := fun e => hsn (e ▸ hm)
        rw [hcg _ hne, ih (by omega) u hu hm]
        exact levOf_congr fun t ht => (hcg t (himp p (by omega) hp t ht).2).symm
      · cases hp
    · rw [List.mem_singleton] at hm
      have he : levStep L (levs L (o.take i)) s u.name = levOf (levs L (o.take i)) (impsOf L s) := if_pos hm
      rw [he, ← hm, impsOf_unit h.nd hu]
      rw [hm]
      exact levOf_congr fun t ht => (hcg t (himp i (Nat.le_refl _) (by rw [gi, hm]) t ht).2).symm
theorem levs_all {L : List UnitD} {o : List Lab} (h : Ordered L o) {u : UnitD} (hu : u ∈ L) : levs L o u.name = levOf (levs L o) u.imps := by
  have := levs_fit h o.length (Nat.le_refl _) u hu
  rw [List.take_length] at this
  obtain ⟨p, hp, _⟩ := h.good.2 u hu
  exact this (List.mem_of_getElem? hp)
/-- What holds of a unit if it holds of what it imports holds of all. -/
theorem Ordered.ind {L : List UnitD} {o : List Lab} (h : Ordered L o) {p : UnitD → Prop} (hp : ∀ u ∈ L, (∀ v ∈ L, v.name ∈ u.imps → p v) → p u) : ∀ u ∈ L, p u := by
  have key : ∀ n : Nat, ∀ i : Nat, i < n → ∀ u ∈ L, o[i]? = some u.name → p u := by
    intro n
    induction n with
    | zero => intro i hi; omega
    | succ n ih =>
      intro i hi u hu hiu
      refine hp u hu fun v hv hvi => ?_
      have h1 := h.af.aft u hu i hiu v.name hvi
      obtain ⟨x, hx⟩ := List.getElem?_of_mem h1
      rw [List.getElem?_take] at hx
      split at hx
      · exact ih x (by omega) v hv hx
      · cases hx
  intro u hu
  obtain ⟨i, hi, _⟩ := h.good.2 u hu
  exact key (i + 1) i (by omega) u hu hi
/-- A unit needs another one. -/
inductive NeedP (L : List UnitD) : Lab → Lab → Prop
  | imp {u : UnitD} {s : Lab} : u ∈ L → s ∈ u.imps → NeedP L u.name s
  | far {u : UnitD} {t s : Lab} : u ∈ L → t ∈ u.imps → NeedP L t s → NeedP L u.name s
theorem need_iff {L : List UnitD} (hn : (namesU L).Nodup) {u : UnitD} (hu : u ∈ L) {s : Lab} : NeedP L u.name s ↔ ∃ t ∈ u.imps, t = s ∨ NeedP L t s := by
  constructor
  · intro h
    generalize e : u.name = x at h
    cases h with
    | imp hv hs => rw [units_inj hn hu hv e]; exact ⟨_, hs, .inl rfl⟩
    | far hv ht h => rw [units_inj hn hu hv e]; exact ⟨_, ht, .inr h⟩
  · rintro ⟨t, ht, rfl | h⟩
    · exact .imp hu ht
    · exact .far hu ht h
theorem NeedP.trans {L : List UnitD} {a b c : Lab} (h : NeedP L a b) (k : NeedP L b c) : NeedP L a c := by
  induction h with
  | imp hu hs => exact .far hu hs k
  | far hu ht _ ih => exact .far hu ht (ih k)
end Go.Syn
/- The rows of names of each level. -/
set_option linter.unusedVariables false
namespace Go.Syn
open Go Go.Vc Go.RowKit

theorem snoc_ind {α : Type} {p : List α → Prop} (h0 : p []) (h1 : ∀ r x, p r → p (r ++ [x])) (l : List α) : p l := by
  have key : ∀ m : List α, p m.reverse := by
    intro m
    induction m with
    | nil => exact h0
    | cons x r ih => rw [List.reverse_cons]; exact h1 _ _ ih
  rw [← List.reverse_reverse l]
  exact key _
theorem levOf_snoc (f : Lab → Nat) (l : List Lab) (s : Lab) : levOf f (l ++ [s]) = max (levOf f l) (f s + 1) := by
  unfold levOf
  rw [List.foldl_append]
  rfl
theorem levOf_mem {f : Lab → Nat} : ∀ {l : List Lab} {s : Lab}, s ∈ l → f s < levOf f l := by
  intro l
  induction l using snoc_ind with
  | h0 => intro s h; cases h
  | h1 r x ih =>
    intro s h
    rw [levOf_snoc]
    rcases List.mem_append.1 h with h | h
    · have := ih h; omega
    · rw [List.mem_singleton] at h; rw [h]; omega
/-- The greatest one is attained. -/
theorem levOf_top {f : Lab → Nat} : ∀ {l : List Lab} {n : Nat}, levOf f l = n + 1 → ∃ s ∈ l, f s = n := by
  intro l
  induction l using snoc_ind with
  | h0 => intro n h; cases h
  | h1 r x ih =>
    intro n h
    rw [levOf_snoc] at h
    by_cases q : levOf f r ≤ f x + 1
    · exact ⟨x, by simp, by omega⟩
    · obtain ⟨s, h1, h2⟩ := ih (n := n) (by omega)
      exact ⟨s, List.mem_append_left _ h1, h2⟩
/-- Each level below one that is attained is attained. -/
theorem lev_below {L : List UnitD} {o : List Lab} (h : Ordered L o) {f : Lab → Nat} (hf : ∀ u ∈ L, f u.name = levOf f u.imps) : ∀ u ∈ L, ∀ n, n < f u.name → ∃ v ∈ L, f v.name = n := by
  refine h.ind fun u hu ih n hn => ?_
  rw [hf u hu] at hn
  obtain ⟨m, hm⟩ : ∃ m, levOf f u.imps = m + 1 := ⟨levOf f u.imps - 1, by omega⟩
  obtain ⟨s, hs, he⟩ := levOf_top hm
  obtain ⟨v, hv, rfl⟩ := mem_names.1 (h.imp u hu s hs)
  rcases Nat.lt_or_ge n (f v.name) with hlt | hge
  · exact ih v hv hs n hlt
  · exact ⟨v, hv, by omega⟩
open Classical in
noncomputable def rowAt (f : Lab → Nat) (o : List Lab) (n : Nat) : List Lab := o.filter fun s => decide (f s = n)
noncomputable def rowsN (f : Lab → Nat) (o : List Lab) : List (List Lab) := (List.range (levOf f o)).map (rowAt f o)
theorem mem_rowAt {f : Lab → Nat} {o : List Lab} {n : Nat} {s : Lab} : s ∈ rowAt f o n ↔ s ∈ o ∧ f s = n := by
  unfold rowAt
  rw [List.mem_filter]
  simp
theorem rowsN_len (f : Lab → Nat) (o : List Lab) : (rowsN f o).length = levOf f o := by simp [rowsN]
theorem rowsN_get {f : Lab → Nat} {o : List Lab} {n : Nat} (h : n < levOf f o) : (rowsN f o)[n]? = some (rowAt f o n) := by
  unfold rowsN
  rw [List.getElem?_map, List.getElem?_range h]
  rfl
theorem rowAt_congr {f f' : Lab → Nat} {o : List Lab} (h : ∀ s ∈ o, f s = f' s) (n : Nat) : rowAt f o n = rowAt f' o n := by
  unfold rowAt
  refine List.filter_congr fun s hs => ?_
  rw [h s hs]
theorem rowAt_snoc (f : Lab → Nat) (o : List Lab) (s : Lab) (n : Nat) : rowAt f (o ++ [s]) n = rowAt f o n ++ if f s = n then [s] else [] := by
  unfold rowAt
  rw [List.filter_append]
  congr 1
  by_cases h : f s = n <;> simp [h]
/-- One name more: its row may be a new one. -/
theorem rowsN_snoc {f : Lab → Nat} {o : List Lab} {s : Lab} (h : f s ≤ levOf f o) :
    rowsN f (o ++ [s]) = ((rowsN f o) ++ if f s = levOf f o then [[]] else []).set (f s) (rowAt f o (f s) ++ [s]) := by
  have hnil : ∀ n, levOf f o ≤ n → rowAt f o n = [] := by
    intro n hn
    refine List.eq_nil_iff_forall_not_mem.2 fun x hx => ?_
    obtain ⟨h1, h2⟩ := mem_rowAt.1 hx
    have := levOf_mem (f := f) h1
    omega
  have hl1 : levOf f (o ++ [s]) = max (levOf f o) (f s + 1) := levOf_snoc f o s
  apply List.ext_getElem?
  intro n
  by_cases hn : n < levOf f (o ++ [s])
  · rw [rowsN_get hn, rowAt_snoc]
    by_cases e : f s = n
    · rw [if_pos e, ← e, List.getElem?_set_self]
      rw [List.length_append, rowsN_len]
      split <;> simp <;> omega
    · rw [if_neg e, List.append_nil, List.getElem?_set_ne e]
      have hn2 : n < levOf f o := by omega
      rw [List.getElem?_append_left (by rw [rowsN_len]; exact hn2), rowsN_get hn2]
  · have h1 : (rowsN f (o ++ [s])).length ≤ n := by rw [rowsN_len]; omega
    rw [List.getElem?_eq_none h1, List.getElem?_eq_none]
    rw [List.length_set, List.length_append, rowsN_len]
    split <;> simp <;> omega
/-- The rows as they are returned: sorted. -/
noncomputable def levelsN (L : List UnitD) (o : List Lab) : List (List Lab) := (rowsN (levs L o) o).map sortS
theorem row_full {L : List UnitD} {o : List Lab} (h : Ordered L o) {n : Nat} : rowAt (levs L o) o n ≠ [] ↔ n < levOf (levs L o) o := by
  constructor
  · intro hne
    obtain ⟨s, hs⟩ := List.exists_mem_of_ne_nil _ hne
    obtain ⟨h1, h2⟩ := mem_rowAt.1 hs
    have := levOf_mem (f := levs L o) h1
    omega
  · intro hlt hnil
    obtain ⟨m, hm⟩ : ∃ m, levOf (levs L o) o = m + 1 := ⟨levOf (levs L o) o - 1, by omega⟩
    obtain ⟨s, hs, he⟩ := levOf_top hm
    obtain ⟨u, hu, rfl⟩ := h.unit hs
    have hv : ∃ v ∈ L, levs L o v.name = n := by
      rcases Nat.lt_or_ge n m with q | q
      · exact lev_below h (fun u hu => levs_all h hu) u hu n (by omega)
      · exact ⟨u, hu, by omega⟩
    obtain ⟨v, hv, hvn⟩ := hv
    obtain ⟨p, hp, _⟩ := h.good.2 v hv
    have : v.name ∈ rowAt (levs L o) o n := mem_rowAt.2 ⟨List.mem_of_getElem? hp, hvn⟩
    rw [hnil] at this
    cases this
end Go.Syn
