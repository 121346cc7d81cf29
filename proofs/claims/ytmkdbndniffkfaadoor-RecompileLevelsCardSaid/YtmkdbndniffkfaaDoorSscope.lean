/- Scope: labels, what a tree binds, what is free in it. -/
import Derived.Test.YtmkdbndniffkfaaDoorSpath
set_option linter.unusedVariables false
namespace Go.Syn
open Go Go.Vc

abbrev Lab := List UInt8
def hVal : Lab := [118, 97, 108, 46]
def hType : Lab := [116, 121, 112, 101, 46]
def hCon : Lab := [99, 111, 110, 46]
def hMod : Lab := [109, 111, 100, 46]
def hSig : Lab := [115, 105, 103, 46]
/-- The beginning of the label to which the path of a kind refers. -/
def headOf (op : Int) : Option Lab :=
  if op = 23 then some hVal else if op ∈ [2, 66] then some hType else if op ∈ [14, 24] then some hCon else if op ∈ [34, 48, 49, 82] then some hMod else if op ∈ [5, 72] then some hSig else none
/-- The label to which a path refers. -/
def refersO (d : SynD) : Option Lab := match headOf d.op with
  | none => none
  | some h => match d.names with
    | [] => none
    | x :: r => some (if r = [] then h ++ x else hMod ++ x)
mutual
/-- What a pattern, a declaration, or a specification binds, in order. -/
def bindsT : Sy → List Lab
  | .mk d l => if d.op ∈ [12, 41, 42, 61] then [hVal ++ d.s] else if d.op ∈ [43, 62] then [hType ++ d.s] else if d.op = 44 then (hType ++ d.s) :: l.map (fun x => hCon ++ x.dat.s) else
    if d.op ∈ [46, 50, 63] then [hMod ++ d.s] else if d.op ∈ [47, 64] then [hSig ++ d.s] else if d.op ∈ [14, 15] then bindsL l else []
def bindsL : List Sy → List Lab
  | [] => []
  | t :: r => bindsT t ++ bindsL r
end
/-- What a node binds in its parts; what a part binds in those behind it. -/
def extra (d : SynD) : List Lab := if d.op = 25 ∧ d.s ≠ [] then [hVal ++ d.s] else if d.op = 42 then (hVal ++ d.s) :: d.names.map (hVal ++ ·) else if d.op = 44 then [hType ++ d.s] else []
def addOf (d : SynD) (t : Sy) : List Lab := if d.op ∈ [30, 31, 71, 81, 87] then bindsT t else if d.op ∈ [73, 83] then [hMod ++ d.s] else []
def ownRef (d : SynD) (B : List Lab) : List Lab := match refersO d with
  | none => []
  | some s => if s ∈ B then [] else [s]
mutual
/-- The free labels of a tree in which some labels are bound, as they are met. -/
def freeT : Sy → List Lab → List Lab
  | .mk d l, B => ownRef d B ++ freeL l d (B ++ extra d)
def freeL : List Sy → SynD → List Lab → List Lab
  | [], _, _ => []
  | t :: r, d, B => freeT t B ++ freeL r d (B ++ addOf d t)
end
end Go.Syn
