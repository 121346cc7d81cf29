/- Joined texts. -/
import Derived.Test.YtmkdbndniffkfaaDoorSya
/- Records of what was compiled, and the reasons to compile again. -/
set_option linter.unusedVariables false
namespace Go.Syn
open Go Go.Vc Go.RowKit

structure RecD where
  name : Lab
  source : Lab
  imps : List Lab
  digs : List Lab
  face : Lab
/-- What the slices of a record's value show. -/
structure RecI (g : G) (r : RecD) (ia : Option Addr) (im ic : Nat) (da : Option Addr) (dn dc : Nat) : Prop where
  imps : SlE strE g ia im ic r.imps
  digs : SlE strE g da dn dc r.digs
theorem RecI.mono {g g' : G} {r : RecD} {ia : Option Addr} {im ic : Nat} {da : Option Addr} {dn dc : Nat} (h : RecI g r ia im ic da dn dc) (m : Le g g') : RecI g' r ia im ic da dn dc := ⟨h.imps.mono m, h.digs.mono m⟩
theorem RecI.exm {g g' : G} {r : RecD} {ia : Option Addr} {im ic : Nat} {da : Option Addr} {dn dc : Nat} (h : RecI g r ia im ic da dn dc) (m : Ex g g') : RecI g' r ia im ic da dn dc := h.mono m.le
/-- Two reasons are alike if their cells are. -/
structure ReaD where
  op : Int
  unit : Lab
end Go.Syn
/- What recompile.Levels, Closure, Users and Plan answer. -/
set_option linter.unusedVariables false
namespace Go.Syn
open Go Go.Vc Go.RowKit

open Classical in
/-- Levels. -/
noncomputable def levelsA (L : List UnitD) : List (List Lab) × Int := if (orderN L).2 = 0 then (levelsN L (orderN L).1, 0) else ([], (orderN L).2)
open Classical in
/-- The units that stand in a relation with one, in the order. -/
noncomputable def relA (L : List UnitD) (name : Lab) (p : Lab → Prop) : List Lab × Int :=
  if (orderN L).2 = 0 then (if name ∈ (orderN L).1 then ((orderN L).1.filter fun s => decide (p s), 0) else ([], 8)) else ([], (orderN L).2)
noncomputable def closureA (L : List UnitD) (name : Lab) : List Lab × Int := relA L name (fun s => NeedP L name s)
noncomputable def usersA (L : List UnitD) (name : Lab) : List Lab × Int := relA L name (fun s => NeedP L s name)
theorem Ordered.mem {L : List UnitD} {o : List Lab} (h : Ordered L o) {s : Lab} : s ∈ o ↔ s ∈ namesU L := by
  refine ⟨h.af.sub s, fun hs => ?_⟩
  obtain ⟨u, hu, rfl⟩ := mem_names.1 hs
  obtain ⟨p, hp, _⟩ := h.good.2 u hu
  exact List.mem_of_getElem? hp
end Go.Syn
