/- Units, and their canonical order. -/
import Derived.Test.YtmkdbndniffkfaaDoorSchk
set_option linter.unusedVariables false
namespace Go.Syn
open Go Go.Vc Go.RowKit

structure UnitD where
  name : Lab
  imps : List Lab
  decls : List Sy
/-- What the slices of a unit's value show. -/
structure UnI (g : G) (u : UnitD) (ia : Option Addr) (im ic : Nat) (da : Option Addr) (dn dc : Nat) : Prop where
  imps : SlE strE g ia im ic u.imps
  decls : SlE synE g da dn dc u.decls
theorem UnI.mono {g g' : G} {u : UnitD} {ia : Option Addr} {im ic : Nat} {da : Option Addr} {dn dc : Nat} (h : UnI g u ia im ic da dn dc) (m : Le g g') : UnI g' u ia im ic da dn dc := ⟨h.imps.mono m, h.decls.mono m⟩
theorem UnI.exm {g g' : G} {u : UnitD} {ia : Option Addr} {im ic : Nat} {da : Option Addr} {dn dc : Nat} (h : UnI g u ia im ic da dn dc) (m : Ex g g') : UnI g' u ia im ic da dn dc := h.mono m.le
abbrev unitV (u : UnitD) (ia : Option Addr) (im ic : Nat) (da : Option Addr) (dn dc : Nat) : Value := .agg ⟨[.string (bstr u.name), .slice ia im ic, .slice da dn dc]⟩
def unitE : El UnitD where
  m := 3
  rep g r u := ∃ ia im ic da dn dc, r = [.string (bstr u.name), .slice ia im ic, .slice da dn dc] ∧ UnI g u ia im ic da dn dc
  len := by rintro g r u ⟨ia, im, ic, da, dn, dc, rfl, _⟩; rfl
  mono := by rintro g g' r u m ⟨ia, im, ic, da, dn, dc, rfl, h⟩; exact ⟨ia, im, ic, da, dn, dc, rfl, h.mono m⟩
  one := by
    rintro g r u ⟨ia, im, ic, da, dn, dc, rfl, _⟩ x hx
    simp at hx
    rcases hx with rfl | rfl | rfl <;> rfl
/-- A read of a unit; its cells stand in all later worlds. -/
theorem rdUA {L : List UnitD} {a : Option Addr} {n c : Nat} {g : G} (h : SlE unitE g a n c L) {i : Int} (p : Nat) (hi : i = (p : Int)) {u : UnitD} (hu : L[p]? = some u) {K : Addr → Prop}
    (hk : ∀ ad ia im ic da dn dc, UnI g u ia im ic da dn dc → (∀ g', Le g g' → g'.w.cell? (Addr.add ad (Int.toNat i * 3)) = some (.string (bstr u.name)) ∧ g'.w.cell? (Addr.add (Addr.add ad (Int.toNat i * 3)) 1) = some (.slice ia im ic) ∧
      g'.w.cell? (Addr.add (Addr.add ad (Int.toNat i * 3)) 2) = some (.slice da dn dc)) → K ad) : derefP a K := by
  subst hi
  refine h.rd (i := p) hu ?_
  rintro r ad ⟨ia, im, ic, da, dn, dc, rfl, hI⟩ hl
  refine hk ad ia im ic da dn dc hI (fun g' m => ?_)
  rw [Int.toNat_natCast]
  have h0 := ((hl 0 _ rfl).mono m).1
  rw [Addr.add_zero'] at h0
  exact ⟨h0, ((hl 1 _ rfl).mono m).1, ((hl 2 _ rfl).mono m).1⟩
/-- A unit as a tree. -/
def unitT (u : UnitD) : Sy := .mk ⟨81, 0, [], []⟩ u.decls
def unitP (u : UnitD) : Prop := upperP u.name ∧ u.imps.length ≤ 16 ∧ (∀ s ∈ u.imps, upperP s) ∧ u.name ∉ u.imps ∧ u.imps.Nodup ∧ validP 7 (unitT u)
/-- A unit of a size. -/
def unitOK (u : UnitD) : Prop := sizeL u.decls ≤ 10000 ∧ (∀ t ∈ u.decls, okT t) ∧ u.imps.length ≤ 1048576
theorem unitOK.ok {u : UnitD} (h : unitOK u) : okT (unitT u) := okT_iff.2 ⟨⟨by simp [unitT, Tr.dat], by simp [unitT, Tr.dat]⟩, h.2.1⟩
theorem unitOK.size {u : UnitD} (h : unitOK u) : size (unitT u) ≤ 20000 := by
  have := h.1
  show sizeL u.decls + 1 ≤ _
  omega
def namesU (L : List UnitD) : List Lab := L.map (·.name)
def readyU (out : List Lab) (u : UnitD) : Prop := u.name ∉ out ∧ ∀ s ∈ u.imps, s ∈ out
noncomputable instance (out : List Lab) : DecidablePred (readyU out) := fun _ => Classical.propDecidable _
/-- The least name of a unit that is ready. -/
noncomputable def pick (L : List UnitD) (out : List Lab) : Option Lab := (sortS (namesU (L.filter (readyU out)))).head?
noncomputable def topo (L : List UnitD) : Nat → List Lab → List Lab × Int
  | 0, out => (out, 0)
  | k + 1, out => match pick L out with
    | none => ([], 21)
    | some n => topo L k (out ++ [n])
/-- The canonical order, and the error. -/
noncomputable def orderN (L : List UnitD) : List Lab × Int :=
  @ite _ (16 < L.length) (Classical.propDecidable _) ([], 5) (@ite _ (∃ u ∈ L, ¬ unitP u) (Classical.propDecidable _) ([], 1) (@ite _ (¬ (namesU L).Nodup) (Classical.propDecidable _) ([], 9)
    (@ite _ (∃ u ∈ L, ∃ s ∈ u.imps, s ∉ namesU L) (Classical.propDecidable _) ([], 17) (topo L L.length []))))
theorem mem_names {L : List UnitD} {s : Lab} : s ∈ namesU L ↔ ∃ u ∈ L, u.name = s := by unfold namesU; rw [List.mem_map]
theorem pick_none {L : List UnitD} {out : List Lab} (h : ∀ u ∈ L, ¬ readyU out u) : pick L out = none := by
  unfold pick
  rw [List.filter_eq_nil_iff.2 (fun u hu => by simpa using h u hu)]
  rfl
theorem pick_some {L : List UnitD} {out : List Lab} {u : UnitD} (hu : u ∈ L) (hr : readyU out u) (hmin : ∀ v ∈ L, readyU out v → ¬ klt v.name u.name) : pick L out = some u.name := by
  unfold pick
  have hm : u.name ∈ sortS (namesU (L.filter (readyU out))) := mem_sortS.2 (mem_names.2 ⟨u, List.mem_filter.2 ⟨hu, by simpa using hr⟩, rfl⟩)
  cases hs : sortS (namesU (L.filter (readyU out))) with
  | nil => rw [hs] at hm; cases hm
  | cons x r =>
    have hsrt := srt_sortS (namesU (L.filter (readyU out)))
    rw [hs] at hsrt hm
    have hx : x ∈ sortS (namesU (L.filter (readyU out))) := by rw [hs]; simp
    obtain ⟨v, hv, rfl⟩ := mem_names.1 (mem_sortS.1 hx)
    obtain ⟨hv1, hv2⟩ := List.mem_filter.1 hv
    rcases List.mem_cons.1 hm with e | hm
    · rw [e]; rfl
    · exact absurd ((List.pairwise_cons.1 hsrt).1 _ hm) (hmin v hv1 (by simpa using hv2))
theorem topo_zero (L : List UnitD) (out : List Lab) : topo L 0 out = (out, 0) := rfl
theorem topo_none {L : List UnitD} {out : List Lab} (h : pick L out = none) (k : Nat) : topo L (k + 1) out = ([], 21) := by
  show (match pick L out with | none => ([], 21) | some n => topo L k (out ++ [n])) = _
  rw [h]
theorem topo_some {L : List UnitD} {out : List Lab} {n : Lab} (h : pick L out = some n) (k : Nat) : topo L (k + 1) out = topo L k (out ++ [n]) := by
  show (match pick L out with | none => ([], 21) | some n => topo L k (out ++ [n])) = _
  rw [h]
end Go.Syn
