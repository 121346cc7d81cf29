/- The canonical order of units: the order in which they are given does not matter, each stands after what it imports, and if there is none some import each other. -/
import Derived.Test.YtkocjbgdmocmlaaGreatDoorSunit
set_option linter.unusedVariables false
namespace Go.Syn
open Go Go.Vc Go.RowKit

theorem pick_perm {L M : List UnitD} (h : L.Perm M) (out : List Lab) : pick L out = pick M out := by
  unfold pick
  rw [sortS_eq (l := namesU (L.filter (readyU out))) (m := namesU (M.filter (readyU out))) (fun x => by
    rw [mem_names, mem_names]
    constructor
    · rintro ⟨u, hu, rfl⟩
      rw [List.mem_filter] at hu
      exact ⟨u, List.mem_filter.2 ⟨h.mem_iff.1 hu.1, hu.2⟩, rfl⟩
    · rintro ⟨u, hu, rfl⟩
      rw [List.mem_filter] at hu
      exact ⟨u, List.mem_filter.2 ⟨h.mem_iff.2 hu.1, hu.2⟩, rfl⟩)]
theorem topo_perm {L M : List UnitD} (h : L.Perm M) : ∀ (k : Nat) (out : List Lab), topo L k out = topo M k out
  | 0, _ => rfl
  | k + 1, out => by
    cases hp : pick M out with
    | none => rw [topo_none hp, topo_none (by rw [pick_perm h, hp])]
    | some n => rw [topo_some hp, topo_some (by rw [pick_perm h, hp]), topo_perm h k]
theorem orderN_perm {L M : List UnitD} (h : L.Perm M) : orderN L = orderN M := by
  have e1 : (16 < L.length) = (16 < M.length) := by rw [h.length_eq]
  have e2 : (∃ u ∈ L, ¬ unitP u) = (∃ u ∈ M, ¬ unitP u) := propext ⟨fun ⟨u, hu, k⟩ => ⟨u, h.mem_iff.1 hu, k⟩, fun ⟨u, hu, k⟩ => ⟨u, h.mem_iff.2 hu, k⟩⟩
  have e3 : (¬ (namesU L).Nodup) = (¬ (namesU M).Nodup) := by rw [show (namesU L).Nodup = (namesU M).Nodup from propext (List.Perm.nodup_iff (h.map _))]
  have em : ∀ s, s ∈ namesU L ↔ s ∈ namesU M := fun s => (h.map _).mem_iff
  have e4 : (∃ u ∈ L, ∃ s ∈ u.imps, s ∉ namesU L) = (∃ u ∈ M, ∃ s ∈ u.imps, s ∉ namesU M) := propext ⟨fun ⟨u, hu, s, hs, k⟩ => ⟨u, h.mem_iff.1 hu, s, hs, fun x => k ((em s).2 x)⟩, fun ⟨u, hu, s, hs, k⟩ => ⟨u, h.mem_iff.2 hu, s, hs, fun x => k ((em s).1 x)⟩⟩
  have e5 : topo L L.length [] = topo M M.length [] := by rw [topo_perm h, h.length_eq]
  unfold orderN
  rw [e5, e1, e2, e3, e4]
theorem nodup_len : ∀ {l m : List Lab}, l.Nodup → (∀ x ∈ l, x ∈ m) → l.length ≤ m.length
  | [], _, _, _ => by simp
  | x :: r, m, hn, hs => by
    rw [List.nodup_cons] at hn
    have hx : x ∈ m := hs x (by simp)
    have := nodup_len (m := m.erase x) hn.2 (fun y hy => (List.mem_erase_of_ne (fun e => hn.1 (by rw [← e]; exact hy))).2 (hs y (by simp [hy])))
    rw [List.length_erase_of_mem hx] at this
    have : 0 < m.length := List.length_pos_of_mem hx
    simp
    omega
/-- What is out already. -/
structure AfterI (L : List UnitD) (out : List Lab) : Prop where
  nd : out.Nodup
  sub : ∀ s ∈ out, s ∈ namesU L
  aft : ∀ u ∈ L, ∀ p, out[p]? = some u.name → ∀ s ∈ u.imps, s ∈ out.take p
theorem AfterI.nil (L : List UnitD) : AfterI L [] := ⟨List.nodup_nil, fun s h => (by cases h), fun u _ p h => by simp at h⟩
theorem pick_ready {L : List UnitD} {out : List Lab} {n : Lab} (h : pick L out = some n) : ∃ u ∈ L, u.name = n ∧ readyU out u := by
  unfold pick at h
  have hm : n ∈ sortS (namesU (L.filter (readyU out))) := List.mem_of_mem_head? (by rw [h]; rfl)
  obtain ⟨u, hu, rfl⟩ := mem_names.1 (mem_sortS.1 hm)
  obtain ⟨h1, h2⟩ := List.mem_filter.1 hu
  exact ⟨u, h1, rfl, by simpa using h2⟩
theorem pick_none_iff {L : List UnitD} {out : List Lab} (h : pick L out = none) : ∀ u ∈ L, ¬ readyU out u := by
  intro u hu hr
  unfold pick at h
  have hm : u.name ∈ sortS (namesU (L.filter (readyU out))) := mem_sortS.2 (mem_names.2 ⟨u, List.mem_filter.2 ⟨hu, by simpa using hr⟩, rfl⟩)
  rw [List.head?_eq_none_iff] at h
  rw [h] at hm
  cases hm
theorem AfterI.add {L : List UnitD} (hn : (namesU L).Nodup) {out : List Lab} {n : Lab} (h : AfterI L out) (hp : pick L out = some n) : AfterI L (out ++ [n]) := by
  obtain ⟨u, hu, rfl, h1, h2⟩ := pick_ready hp
  refine ⟨?_, ?_, ?_⟩
  · rw [List.nodup_append]
    exact ⟨h.nd, by simp, fun a ha b hb => by rw [List.mem_singleton] at hb; subst hb; exact fun e => h1 (e ▸ ha)⟩
  · intro s hs
    rcases List.mem_append.1 hs with hs | hs
    · exact h.sub s hs
    · rw [List.mem_singleton] at hs; rw [hs]; exact mem_names.2 ⟨u, hu, rfl⟩
  · intro v hv p hp s hs
    rw [List.getElem?_append] at hp
    split at hp
    · next hlt =>
      rw [List.take_append_of_le_length (Nat.le_of_lt hlt)]
      exact h.aft v hv p hp s hs
    · next hge =>
      have hp0 : p - out.length = 0 := by
        rcases Nat.eq_zero_or_pos (p - out.length) with e | e
        · exact e
        · rw [List.getElem?_eq_none (by simp; omega)] at hp; cases hp
      rw [hp0] at hp
      have hnm : u.name = v.name := by simpa using hp
      have hpe : p = out.length := by omega
      subst hpe
      rw [List.take_left']
      · have huv : u = v := by
          have : ∀ {L : List UnitD}, (namesU L).Nodup → u ∈ L → v ∈ L → u = v := by
            intro L
            induction L with
            | nil => intro _ h; cases h
            | cons x r ih =>
              intro hn h1 h2
              have hn' := List.nodup_cons.1 hn
              rcases List.mem_cons.1 h1 with e1 | h1 <;> rcases List.mem_cons.1 h2 with e2 | h2
              · rw [e1, e2]
              · exact absurd (mem_names.2 ⟨v, h2, by rw [← hnm, e1]⟩) hn'.1
              · exact absurd (mem_names.2 ⟨u, h1, by rw [hnm, e2]⟩) hn'.1
              · exact ih hn'.2 h1 h2
          exact this hn hu hv
        subst huv
        exact h2 s hs
      · rfl
theorem topo_ok {L : List UnitD} (hn : (namesU L).Nodup) : ∀ (k : Nat) (out : List Lab), AfterI L out → (AfterI L (topo L k out).1 ∧ (topo L k out).1.length = out.length + k ∧ (topo L k out).2 = 0) ∨
    (topo L k out = ([], 21) ∧ ∃ o, AfterI L o ∧ o.length < out.length + k ∧ ∀ u ∈ L, ¬ readyU o u)
  | 0, out, h => Or.inl ⟨h, rfl, rfl⟩
  | k + 1, out, h => by
    cases hp : pick L out with
    | none => rw [topo_none hp]; exact Or.inr ⟨rfl, out, h, by omega, pick_none_iff hp⟩
    | some n =>
      rw [topo_some hp]
      rcases topo_ok hn k (out ++ [n]) (h.add hn hp) with ⟨h1, h2, h3⟩ | ⟨h1, o, h2, h3, h4⟩
      · exact Or.inl ⟨h1, by rw [h2]; simp; omega, h3⟩
      · exact Or.inr ⟨h1, o, h2, by simp at h3; omega, h4⟩
/-- Each unit stands in the order, behind all that it imports. -/
def goodO (L : List UnitD) (o : List Lab) : Prop := o.length = L.length ∧ ∀ u ∈ L, ∃ p, o[p]? = some u.name ∧ (∀ i < p, o[i]? ≠ some u.name) ∧ ∀ s ∈ u.imps, s ∈ o.take p
/-- Some units of which each imports one of them. -/
def stuck (L : List UnitD) : Prop := ∃ S : Lab → Prop, (∃ u ∈ L, S u.name) ∧ ∀ u ∈ L, S u.name → ∃ s ∈ u.imps, ∃ v ∈ L, v.name = s ∧ S s
theorem AfterI.good {L : List UnitD} (hn : (namesU L).Nodup) {o : List Lab} (h : AfterI L o) (hl : o.length = L.length) : goodO L o := by
  refine ⟨hl, fun u hu => ?_⟩
  have hm : u.name ∈ o := by
    refine Classical.byContradiction fun hno => ?_
    have := nodup_len (l := u.name :: o) (m := namesU L) (List.nodup_cons.2 ⟨hno, h.nd⟩) (fun x hx => by
      rcases List.mem_cons.1 hx with e | hx
      · rw [e]; exact mem_names.2 ⟨u, hu, rfl⟩
      · exact h.sub x hx)
    rw [List.length_cons, hl] at this
    unfold namesU at this
    rw [List.length_map] at this
    omega
  obtain ⟨p, hp⟩ := List.getElem?_of_mem hm
  refine ⟨p, hp, fun i hi e => ?_, h.aft u hu p hp⟩
  have hlt : p < o.length := (List.getElem?_eq_some_iff.1 hp).1
  have : i = p := by
    exact (List.getElem?_inj (by omega) h.nd).1 (by rw [e, hp])
  omega
theorem orderN_cases (L : List UnitD) : ((orderN L).2 = 0 ∧ goodO L (orderN L).1) ∨ (orderN L = ([], 21) ∧ stuck L) ∨ ((orderN L).2 ≠ 0 ∧ (orderN L).2 ≠ 21 ∧ (orderN L).1 = []) := by
  unfold orderN
  by_cases h1 : 16 < L.length
  · rw [if_pos h1]; exact Or.inr (Or.inr ⟨by decide, by decide, rfl⟩)
  rw [if_neg h1]
  by_cases h2 : ∃ u ∈ L, ¬ unitP u
  · rw [if_pos h2]; exact Or.inr (Or.inr ⟨by decide, by decide, rfl⟩)
  rw [if_neg h2]
  by_cases h3 : ¬ (namesU L).Nodup
  · rw [if_pos h3]; exact Or.inr (Or.inr ⟨by decide, by decide, rfl⟩)
  rw [if_neg h3]
  have hn : (namesU L).Nodup := Classical.byContradiction h3
  by_cases h4 : ∃ u ∈ L, ∃ s ∈ u.imps, s ∉ namesU L
  · rw [if_pos h4]; exact Or.inr (Or.inr ⟨by decide, by decide, rfl⟩)
  rw [if_neg h4]
  rcases topo_ok hn L.length [] (AfterI.nil L) with ⟨h5, h6, h7⟩ | ⟨h5, o, h6, h7, h8⟩
  · exact Or.inl ⟨h7, h5.good hn (by simpa using h6)⟩
  · refine Or.inr (Or.inl ⟨h5, fun s => s ∉ o, ?_, ?_⟩)
    · refine Classical.byContradiction fun hno => ?_
      have := nodup_len (l := namesU L) (m := o) hn (fun x hx => by
        obtain ⟨u, hu, rfl⟩ := mem_names.1 hx
        exact Classical.byContradiction fun hc => hno ⟨u, hu, hc⟩)
      unfold namesU at this
      rw [List.length_map] at this
      simp at h7
      omega
    · intro u hu hs
      have hr := h8 u hu
      have : ∃ s ∈ u.imps, s ∉ o := by
        refine Classical.byContradiction fun hc => hr ⟨hs, fun s hs' => ?_⟩
        exact Classical.byContradiction fun hc' => hc ⟨s, hs', hc'⟩
      obtain ⟨s, h9, h10⟩ := this
      have hin : s ∈ namesU L := Classical.byContradiction fun hc => h4 ⟨u, hu, s, h9, hc⟩
      obtain ⟨v, hv, hvn⟩ := mem_names.1 hin
      exact ⟨s, h9, v, hv, hvn, h10⟩
end Go.Syn
