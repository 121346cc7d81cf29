/- Rows of rows that are done: all that is new is frozen. -/
import Derived.Test.YtmkdbndniffkfaaDoorVrows
import Derived.Test.YtmkdbndniffkfaaDoorVkeys
import Derived.Test.YtmkdbndniffkfaaDoorSpath
import Derived.Test.YtmkdbndniffkfaaDoorSya
set_option linter.unusedVariables false
namespace Go.Syn
open Go Go.Vc Go.RowKit Go.Sort Go.Proofs Go.Shelf

theorem froz_new {g g1 : G} (hs : Stp g.size nobody g g1) : ∃ g' : G, g'.w = g1.w ∧ Stp g.size nobody g g' ∧ (∀ z, g'.X z ↔ g1.X z) ∧ ∀ z i, g.w.heap.size ≤ z → ¬ g'.D z i := by
  refine ⟨⟨g1.w, g1.X, fun x i => g1.D x i ∧ x < g.w.heap.size, g1.hX, fun x i hh => g1.hD x i hh.1⟩, rfl, ?_, fun _ => Iff.rfl, fun z i hz hh => by have := hh.2; omega⟩
  refine ⟨⟨hs.le.size, ?_, ?_, ?_⟩, hs.x, hs.keepX, hs.os, hs.tape, hs.output, hs.same, ?_⟩
  · intro a v h
    obtain ⟨k1, k2, k3⟩ := hs.le.cell a v h
    exact ⟨k1, k2, fun hh => k3 hh.1⟩
  · intro x m n h
    obtain ⟨k1, k2, k3⟩ := hs.le.obj x m n h
    exact ⟨k1, k2, fun hh => k3 hh.1⟩
  · intro x o h
    obtain ⟨ty, fr, k1, k2, k3⟩ := hs.le.blk x o h
    exact ⟨ty, fr, k1, k2, fun i hh => k3 i hh.1⟩
  · intro x hx hn i
    have := hs.d x hx hn i
    exact ⟨fun k => this.1 k.1, fun k => ⟨this.2 k, hx⟩⟩
theorem mut_shown {g g' : G} {B : Nat} {e : TypeId} {a : Option Addr} {n c : Nat} {L : List Value} (h : MutR g B e 1 a n c L) (hw : g'.w = g.w) (hX : ∀ z, g'.X z ↔ g.X z) (hD : ∀ z i, B ≤ z → ¬ g'.D z i) : Sl g' 1 a n c L := by
  rcases h.row with ⟨rfl, rfl, rfl⟩ | ⟨b, cur, rfl, h1, h2, h3, h4, h5, h6⟩
  · have : L = [] := List.eq_nil_of_length_eq_zero (by have := h.len; omega)
    subst this
    exact Sl.zero _ _
  · refine ⟨h.len, h3, h4, fun hh => (by cases hh), ?_⟩
    rintro ad e1 i v hi
    cases e1
    rw [← h6, List.getElem?_take] at hi
    split at hi
    · refine ⟨by rw [hw]; exact h2.rd hi, by rw [add_block, hX]; exact h2.nx, ?_⟩
      rw [add_block]
      exact hD _ _ h1
    · cases hi
/-- The outer row and all inner ones stand as they are. -/
theorem rows_done {g g1 : G} (hs : Stp g.size nobody g g1) {e e2 : TypeId} {hds : List SlH} {rows : List (List Lab)} (h : RowsM g1 g.w.heap.size e hds (rows.map (·.map encStr))) {a : Option Addr} {n c : Nat} (ho : MutR g1 g.w.heap.size e2 1 a n c (hds.map SlH.v)) :
    ∃ g' : G, g'.w = g1.w ∧ Stp g.size nobody g g' ∧ SlE (lsE strE) g' a n c rows := by
  obtain ⟨g', hw, hs', hX, hD⟩ := froz_new hs
  refine ⟨g', hw, hs', ⟨⟨_, mut_shown ho hw hX hD, hds.map fun x => [x.v], ?_, ?_⟩, ?_⟩⟩
  · clear ho h
    induction hds with
    | nil => rfl
    | cons x r ih => simp only [List.map_cons, List.flatten_cons, List.singleton_append]; rw [← ih]
  · refine RowsM.all2_of_at ?_ ?_
    · have := h.len; simpa using this
    · intro i u v hu hv
      rw [List.getElem?_map] at hu
      obtain ⟨x, hx, rfl⟩ := Option.map_eq_some_iff.1 hu
      obtain ⟨x', h1, h2⟩ := h.at_ (i := i) (r := v.map encStr) (by rw [List.getElem?_map, hv]; rfl)
      rw [hx] at h1
      cases h1
      exact ⟨_, _, _, rfl, strs_sle (mut_shown h2 hw hX hD) (by have := h2.len; simpa using this)⟩
  · have h1 := h.len
    have h2 := ho.len
    simp at h1 h2
    omega
end Go.Syn
