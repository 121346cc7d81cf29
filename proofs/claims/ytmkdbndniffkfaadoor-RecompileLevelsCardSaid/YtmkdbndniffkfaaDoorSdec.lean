/- What is well-formed can be decided: for the examples. -/
import Derived.Test.YtmkdbndniffkfaaDoorSunit
set_option linter.unusedVariables false
namespace Go.Syn
open Go Go.Vc

instance (c : UInt8) : Decidable (smallC c) := by unfold smallC; infer_instance
instance (c : UInt8) : Decidable (capC c) := by unfold capC; infer_instance
instance (c : UInt8) : Decidable (digC c) := by unfold digC; infer_instance
instance (c : UInt8) : Decidable (innerC c) := by unfold innerC; infer_instance
instance (s : List UInt8) : Decidable (innerP s) := by unfold innerP; infer_instance
instance (s : List UInt8) : Decidable (wordP s) := by unfold wordP; infer_instance
instance (s : List UInt8) : Decidable (lowerP s) := by unfold lowerP; infer_instance
instance (s : List UInt8) : Decidable (upperP s) := by unfold upperP; infer_instance
instance (s : List UInt8) : Decidable (tvarP s) := by unfold tvarP; infer_instance
instance (c o : Int) : Decidable (belP c o) := by unfold belP; infer_instance
instance (o : Int) : Decidable (usesN o) := by unfold usesN; infer_instance
instance (o : Int) : Decidable (usesS o) := by unfold usesS; infer_instance
instance (o : Int) : Decidable (usesL o) := by unfold usesL; infer_instance
instance (l : List (List UInt8)) (b : Bool) : Decidable (pathP l b) := by unfold pathP; infer_instance
instance (l : List (List UInt8)) : Decidable (paramsP l) := by unfold paramsP; infer_instance
instance (s : List UInt8) : Decidable (plainP s) := by unfold plainP; infer_instance
instance (d : SynD) : Decidable (bareP d) := by unfold bareP; infer_instance
instance (d : SynD) (w : Bool) : Decidable (ownB d w) := by unfold ownB; infer_instance
instance (d : SynD) (w : Bool) : Decidable (ownP d w) := by unfold ownP; infer_instance
instance (l : List Sy) (a b c : Int) : Decidable (manyP l a b c) := by unfold manyP; infer_instance
instance (l : List Sy) (a : List Int) : Decidable (partsP l a) := by unfold partsP; infer_instance
instance (l : List Sy) (a : List Int) : Decidable (onlyP l a) := by unfold onlyP; infer_instance
instance (l : List Sy) : Decidable (differP l) := by unfold differP; infer_instance
instance decNil (l : List Sy) : Decidable (l = []) := match l with
  | [] => isTrue rfl
  | _ :: _ => isFalse (fun h => by cases h)
instance (d : SynD) (l : List Sy) : Decidable (shapeP d l) := by unfold shapeP; infer_instance
mutual
def walkDec : (t : Sy) → (w : Bool) → (n : Nat) → Decidable (walkP t w n)
  | .mk d l, w, n => @instDecidableAnd _ _ _ (@instDecidableAnd _ _ _ (@instDecidableAnd _ _ _ (walkLDec l (decide (d.op = 74)) (n + 1))))
def walkLDec : (l : List Sy) → (w : Bool) → (n : Nat) → Decidable (walkL l w n)
  | [], _, _ => isTrue trivial
  | t :: r, w, n => @instDecidableAnd _ _ (walkDec t w n) (walkLDec r w n)
end
instance (t : Sy) (w : Bool) (n : Nat) : Decidable (walkP t w n) := walkDec t w n
instance (t : Sy) : Decidable (formedP t) := by unfold formedP; infer_instance
instance (c : Int) (t : Sy) : Decidable (validP c t) := by unfold validP; infer_instance
instance (u : UnitD) : Decidable (unitP u) := by unfold unitP; infer_instance
end Go.Syn
