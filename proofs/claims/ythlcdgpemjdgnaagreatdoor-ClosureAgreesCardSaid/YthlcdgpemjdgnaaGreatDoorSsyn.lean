/- Syntax trees: categories, and what is well-formed. -/
import Derived.Test.YthlcdgpemjdgnaaGreatDoorSid
set_option linter.unusedVariables false
namespace Go.Syn
open Go Go.Vc
def chain (op : Int) (J : Bool → G → Prop) (g : G) : List Int → Prop
  | [] => J false g
  | [k] => J (eqI op k) g
  | k :: r => ifB (eqI op k) (J true g) (chain op J g r)
def catN (op : Int) : Int :=
  if op ∈ [1, 2, 3, 4, 5] then 1 else if op ∈ [11, 12, 13, 14, 15] then 2 else if op ∈ [21, 22, 23, 24, 25, 26, 27, 28, 29, 31, 32, 33, 34] then 3 else
  if op ∈ [41, 42, 43, 44, 46, 47, 48, 49, 50] then 4 else if op ∈ [61, 62, 63, 64, 65, 66] then 5 else if op ∈ [71, 72, 73, 74] then 6 else if op ∈ [81, 82, 83, 84, 85, 86, 87, 88] then 7 else 0
def belP (cat op : Int) : Prop := (cat = 5 ∧ (op = 43 ∨ op = 44)) ∨ (cat ≠ 0 ∧ catN op = cat)
def usesN (op : Int) : Prop := op ∈ [13, 21, 32] ∨ op = 73 ∨ op = 83
def usesS (op : Int) : Prop := op ∈ [1, 12, 22, 25, 41, 45, 46, 47, 50, 61, 63, 64] ∨ op ∈ [42, 43, 44, 62] ∨ op = 73 ∨ op = 83
def usesL (op : Int) : Prop := op ∈ [2, 5, 14, 23, 24, 34, 48, 49, 66, 72, 74, 82] ∨ op ∈ [42, 43, 44, 62]
def pathP (l : List (List UInt8)) (low : Bool) : Prop := 1 ≤ l.length ∧ l.length ≤ 8 ∧ (∀ s ∈ l.take (l.length - 1), upperP s) ∧ if low = true then lowerP (l.getD (l.length - 1) []) else upperP (l.getD (l.length - 1) [])
def paramsP (l : List (List UInt8)) : Prop := (∀ s ∈ l, tvarP s) ∧ l.Nodup ∧ l.length ≤ 4
def plainP (s : List UInt8) : Prop := (∀ c ∈ s, c.toNat = 10 ∨ (32 ≤ c.toNat ∧ c.toNat ≤ 126)) ∧ s.length ≤ 16384
def bareP (d : SynD) : Prop := (¬ usesN d.op → d.n = 0) ∧ (¬ usesS d.op → d.s = []) ∧ (¬ usesL d.op → d.names = [])
def ownB (d : SynD) (w : Bool) : Prop :=
  if d.op = 1 then tvarP d.s else if d.op ∈ [2, 23, 66, 74] then pathP d.names true else if d.op ∈ [5, 14, 24, 34, 48, 49, 72, 82] then pathP d.names false else
  if d.op ∈ [12, 41, 61] then lowerP d.s else if d.op = 13 then -4503599627370496 ≤ d.n ∧ d.n ≤ 4503599627370496 else if d.op = 21 then 0 ≤ d.n ∧ d.n ≤ 4503599627370496 else
  if d.op = 22 then plainP d.s else if d.op = 25 then d.s = [] ∨ lowerP d.s else if d.op = 32 then 1 ≤ d.n ∧ d.n ≤ 12 else
  if d.op = 42 then lowerP d.s ∧ 1 ≤ d.names.length ∧ d.names.length ≤ 9 ∧ ∀ x ∈ d.names, lowerP x else
  if d.op = 43 then ((w = true ∧ d.s = []) ∨ (w = false ∧ lowerP d.s)) ∧ paramsP d.names else if d.op ∈ [44, 62] then lowerP d.s ∧ paramsP d.names else
  if d.op ∈ [45, 46, 47, 50, 63, 64] then upperP d.s else if d.op ∈ [73, 83] then upperP d.s ∧ (d.n = 0 ∨ d.n = 1) else True
def ownP (d : SynD) (w : Bool) : Prop := bareP d ∧ ownB d w
def manyP (l : List Sy) (cat lo hi : Int) : Prop := lo ≤ ((l.length : Nat) : Int) ∧ ((l.length : Nat) : Int) ≤ hi ∧ ∀ t ∈ l, belP cat t.dat.op
def partsP (l : List Sy) (cats : List Int) : Prop := l.length = cats.length ∧ ∀ p ∈ l.zip cats, belP p.2 p.1.dat.op
def onlyP (l : List Sy) (ops : List Int) : Prop := ∀ t ∈ l, t.dat.op ∈ ops
def differP (l : List Sy) : Prop := l.Pairwise fun x y => x.dat.s ≠ y.dat.s
def noSy : Sy := .mk ⟨0, 0, [], []⟩ []
def shapeP (d : SynD) (l : List Sy) : Prop :=
  if d.op ∈ [1, 5, 11, 12, 13, 21, 22, 23, 24, 48, 49, 62, 72, 82] then l = [] else if d.op = 2 then manyP l 1 0 4 else if d.op = 3 then partsP l [1, 1] else if d.op = 4 then manyP l 1 2 9 else
  if d.op = 14 then manyP l 2 0 1 else if d.op = 15 then l.length ≠ 1 ∧ manyP l 2 0 9 else if d.op ∈ [25, 41, 42] then partsP l [3] else if d.op = 26 then partsP l [3, 3] else
  if d.op = 27 then l.length ≠ 1 ∧ manyP l 3 0 9 else if d.op = 28 then partsP l [3, 3, 3] else if d.op = 29 then 2 ≤ l.length ∧ belP 3 (l.getD 0 noSy).dat.op ∧ onlyP (l.drop 1) [30] else
  if d.op = 30 then partsP l [2, 3] else if d.op = 31 then 1 ≤ l.length ∧ belP 3 (l.getD (l.length - 1) noSy).dat.op ∧ onlyP (l.take (l.length - 1)) [41, 42, 50] else
  if d.op = 32 then (if d.n = 12 then partsP l [3] else partsP l [3, 3]) else if d.op = 33 then partsP l [3, 1] else if d.op = 34 then l.length = 1 ∧ onlyP l [72] else
  if d.op ∈ [43, 61] then partsP l [1] else if d.op = 44 then 1 ≤ l.length ∧ onlyP l [45] ∧ differP l else if d.op = 45 then manyP l 1 0 1 else if d.op = 46 then partsP l [7] else
  if d.op ∈ [47, 63, 64, 65] then partsP l [6] else if d.op ∈ [50, 88] then l.length = 2 ∧ belP 3 (l.getD 0 noSy).dat.op ∧ onlyP (l.drop 1) [72] else
  if d.op = 66 then l.length = 1 ∧ onlyP l [2] ∧ (l.getD 0 noSy).kids = [] else if d.op = 71 then manyP l 5 0 ((l.length : Nat) : Int) else if d.op = 73 then partsP l [6, 6] else
  if d.op = 74 then l.length = 2 ∧ belP 6 (l.getD 0 noSy).dat.op ∧ onlyP (l.drop 1) [43] else if d.op = 81 then manyP l 4 0 ((l.length : Nat) : Int) else if d.op = 83 then partsP l [6, 7] else
  if d.op = 84 then partsP l [7, 7] else if d.op ∈ [85, 86] then partsP l [7, 6] else
  if d.op = 87 then 1 ≤ l.length ∧ belP 7 (l.getD (l.length - 1) noSy).dat.op ∧ manyP (l.take (l.length - 1)) 4 0 ((l.length : Nat) : Int) else False
mutual
def size : Sy → Nat
  | .mk _ l => sizeL l + 1
def sizeL : List Sy → Nat
  | [] => 0
  | t :: r => size t + sizeL r
end
mutual
def depth : Sy → Nat
  | .mk _ l => depthL l + 1
def depthL : List Sy → Nat
  | [] => 0
  | t :: r => max (depth t) (depthL r)
end
mutual
def walkP : Sy → Bool → Nat → Prop
  | .mk d l, w, n => n ≤ 400 ∧ ownP d w ∧ shapeP d l ∧ walkL l (decide (d.op = 74)) (n + 1)
def walkL : List Sy → Bool → Nat → Prop
  | [], _, _ => True
  | t :: r, w, n => walkP t w n ∧ walkL r w n
end
def okD (d : SynD) : Prop := d.s.length ≤ 1048576 ∧ d.names.length ≤ 1048576
mutual
def okT : Sy → Prop
  | .mk d l => okD d ∧ okL l
def okL : List Sy → Prop
  | [] => True
  | t :: r => okT t ∧ okL r
end
end Go.Syn
