/- Joined texts. -/
import Derived.Test.YtmkdbndniffkfaaGreatDoorSya
/- Records of what was compiled, and the reasons to compile again. -/
set_option linter.unusedVariables false
namespace Go.Syn
open Go Go.Vc Go.RowKit

structure RecD where
  name : Lab
  source : Lab
  imps : List Lab
  digs : List Lab
  face : Lab
/-- What the slices of a record's value show. -/
structure RecI (g : G) (r : RecD) (ia : Option Addr) (im ic : Nat) (da : Option Addr) (dn dc : Nat) : Prop where
  imps : SlE strE g ia im ic r.imps
  digs : SlE strE g da dn dc r.digs
theorem RecI.mono {g g' : G} {r : RecD} {ia : Option Addr} {im ic : Nat} {da : Option Addr} {dn dc : Nat} (h : RecI g r ia im ic da dn dc) (m : Le g g') : RecI g' r ia im ic da dn dc := ⟨h.imps.mono m, h.digs.mono m⟩
theorem RecI.exm {g g' : G} {r : RecD} {ia : Option Addr} {im ic : Nat} {da : Option Addr} {dn dc : Nat} (h : RecI g r ia im ic da dn dc) (m : Ex g g') : RecI g' r ia im ic da dn dc := h.mono m.le
abbrev recV (r : RecD) (ia : Option Addr) (im ic : Nat) (da : Option Addr) (dn dc : Nat) : Value := .agg ⟨[.string (bstr r.name), .string (bstr r.source), .slice ia im ic, .slice da dn dc, .string (bstr r.face)]⟩
def recE : El RecD where
  m := 5
  rep g c r := ∃ ia im ic da dn dc, c = [.string (bstr r.name), .string (bstr r.source), .slice ia im ic, .slice da dn dc, .string (bstr r.face)] ∧ RecI g r ia im ic da dn dc
  len := by rintro g c r ⟨ia, im, ic, da, dn, dc, rfl, _⟩; rfl
  mono := by rintro g g' c r m ⟨ia, im, ic, da, dn, dc, rfl, h⟩; exact ⟨ia, im, ic, da, dn, dc, rfl, h.mono m⟩
  one := by
    rintro g c r ⟨ia, im, ic, da, dn, dc, rfl, _⟩ x hx
    simp at hx
    rcases hx with rfl | rfl | rfl | rfl | rfl <;> rfl
/-- Two reasons are alike if their cells are. -/
structure ReaD where
  op : Int
  unit : Lab
def reaE : El ReaD where
  m := 2
  rep g c r := c = [.int .i64 r.op, .string (bstr r.unit)]
  len := by rintro g c r rfl; rfl
  mono := by rintro g g' c r m rfl; rfl
  one := by
    rintro g c r rfl x hx
    simp at hx
    rcases hx with rfl | rfl <;> rfl
def hexB (b : UInt8) : Prop := (48 ≤ b.toNat ∧ b.toNat ≤ 57) ∨ (97 ≤ b.toNat ∧ b.toNat ≤ 102)
def digestP (s : Lab) : Prop := (∀ b ∈ s, hexB b) ∧ s.length = 64
def namesP (l : List Lab) : Prop := l.length ≤ 16 ∧ (∀ s ∈ l, upperP s) ∧ l.Nodup
def recP (r : RecD) : Prop := upperP r.name ∧ digestP r.source ∧ digestP r.face ∧ namesP r.imps ∧ r.name ∉ r.imps ∧ r.digs.length = r.imps.length ∧ ∀ d ∈ r.digs, digestP d
open Classical in
/-- The first import of which the digest is another one. -/
noncomputable def otherF : List Lab → List Lab → List Lab → Option Lab
  | d :: ds, f :: fs, i :: is => if d = f then otherF ds fs is else some i
  | _, _, _ => none
open Classical in
noncomputable def reasonN (r : Option RecD) (source : Lab) (imps faces : List Lab) : ReaD := match r with
  | none => ⟨1, []⟩
  | some r => if r.source ≠ source then ⟨2, []⟩ else if r.imps ≠ imps then ⟨3, []⟩ else match otherF r.digs faces imps with
    | some u => ⟨4, u⟩
    | none => ⟨0, []⟩
end Go.Syn
/- What recompile.Levels, Closure, Users and Plan answer. -/
set_option linter.unusedVariables false
namespace Go.Syn
open Go Go.Vc Go.RowKit

open Classical in
/-- Levels. -/
noncomputable def levelsA (L : List UnitD) : List (List Lab) × Int := if (orderN L).2 = 0 then (levelsN L (orderN L).1, 0) else ([], (orderN L).2)
open Classical in
/-- The units that stand in a relation with one, in the order. -/
noncomputable def relA (L : List UnitD) (name : Lab) (p : Lab → Prop) : List Lab × Int :=
  if (orderN L).2 = 0 then (if name ∈ (orderN L).1 then ((orderN L).1.filter fun s => decide (p s), 0) else ([], 8)) else ([], (orderN L).2)
noncomputable def closureA (L : List UnitD) (name : Lab) : List Lab × Int := relA L name (fun s => NeedP L name s)
noncomputable def usersA (L : List UnitD) (name : Lab) : List Lab × Int := relA L name (fun s => NeedP L s name)
open Classical in
/-- The last record of a name; the index of a name. -/
noncomputable def recOf (R : List RecD) (s : Lab) : Option RecD := R.find? fun r => decide (r.name = s)
open Classical in
/-- The digest of the interface of a unit. -/
noncomputable def faceOf : List UnitD → List Lab → Lab → Lab
  | u :: us, f :: fs, s => if u.name = s then f else faceOf us fs s
  | _, _, _ => []
noncomputable def planRow (L : List UnitD) (R : List RecD) (faces : List Lab) : List UnitD → List Lab → List ReaD
  | u :: us, s :: ss => reasonN (recOf R u.name) s u.imps (u.imps.map (faceOf L faces)) :: planRow L R faces us ss
  | _, _ => []
open Classical in
/-- Plan. -/
noncomputable def planA (L : List UnitD) (R : List RecD) (sources faces : List Lab) : List ReaD × Int :=
  if (orderN L).2 = 0 then
    (if sources.length = L.length ∧ faces.length = L.length ∧ (∀ s ∈ sources, digestP s) ∧ (∀ s ∈ faces, digestP s) ∧ (∀ r ∈ R, recP r) then
      (if 1000 < R.length then ([], 5) else if (R.map (·.name)).Nodup then (planRow L R faces L sources, 0) else ([], 9))
    else ([], 1))
  else ([], (orderN L).2)
end Go.Syn
