/- Syntax trees: for each kind, that a node is right, in the order of the reference's tests. Printed by a program (wip/tools/genforms.py). -/
import Derived.Test.YtmakoecgogjemaaDoorC03j
set_option linter.unusedVariables false
namespace Go.Proofs.YtmakoecgogjemaaDoor
open Go Go.Vc Go.RowKit Go.Syn

/-- A node is right: its fields, its parts, and that a type behind 'with' has no name. -/
def nodeP (d : SynD) (l : List Sy) (w : Bool) : Prop := ownP d w ∧ shapeP d l ∧ (d.op = 74 → (l.getD 1 noSy).dat.s = [])
theorem exact_0 (l : List Sy) : exactP l [0] ↔ l.length = 1 ∧ onlyP l [72] := by
  unfold exactP onlyP
  match l with
  | [] => simp
  | [a] => simp [belP]
  | a :: b :: r => simp
theorem exact_30 (l : List Sy) : exactP l [3, 0] ↔ l.length = 2 ∧ belP 3 (l.getD 0 noSy).dat.op ∧ onlyP (l.drop 1) [72] := by
  unfold exactP onlyP
  match l with
  | [] => simp
  | [a] => simp
  | [a, b] => simp
  | a :: b :: c :: r => simp
theorem onlyP_mem {l : List Sy} {x : Sy} {ks : List Int} (h : onlyP l ks) (hx : x ∈ l) : x.dat.op ∈ ks := h x hx

theorem node_1 {d : SynD} {l : List Sy} {w : Bool} (h : d.op = 1) : nodeP d l w ↔ (bare3 d false true false) ∧ (tvarP d.s) ∧ (l = []) := by
  unfold nodeP ownP bareP bare3 ownB shapeP usesN usesS usesL manyP
  first | (simp [h]; done) | (simp [h, and_assoc]; done)
theorem node_2 {d : SynD} {l : List Sy} {w : Bool} (h : d.op = 2) : nodeP d l w ↔ (bare3 d false false true) ∧ (pathP d.names true) ∧ (((l.length : Nat) : Int) ≤ 4) ∧ (∀ x ∈ l, belP 1 x.dat.op) := by
  unfold nodeP ownP bareP bare3 ownB shapeP usesN usesS usesL manyP
  first | (simp [h]; done) | (simp [h, and_assoc]; done)
theorem node_3 {d : SynD} {l : List Sy} {w : Bool} (h : d.op = 3) : nodeP d l w ↔ (bare3 d false false false) ∧ (exactP l [1, 1]) := by
  rw [exact_parts (l := l) (show (0 : Int) ∉ [1, 1] by decide)]
  unfold nodeP ownP bareP bare3 ownB shapeP usesN usesS usesL manyP
  first | (simp [h]; done) | (simp [h, and_assoc]; done)
theorem node_4 {d : SynD} {l : List Sy} {w : Bool} (h : d.op = 4) : nodeP d l w ↔ (bare3 d false false false) ∧ (2 ≤ ((l.length : Nat) : Int)) ∧ (((l.length : Nat) : Int) ≤ 9) ∧ (∀ x ∈ l, belP 1 x.dat.op) := by
  unfold nodeP ownP bareP bare3 ownB shapeP usesN usesS usesL manyP
  first | (simp [h]; done) | (simp [h, and_assoc]; done)
theorem node_5 {d : SynD} {l : List Sy} {w : Bool} (h : d.op = 5) : nodeP d l w ↔ (bare3 d false false true) ∧ (pathP d.names false) ∧ (l = []) := by
  unfold nodeP ownP bareP bare3 ownB shapeP usesN usesS usesL manyP
  first | (simp [h]; done) | (simp [h, and_assoc]; done)
theorem node_11 {d : SynD} {l : List Sy} {w : Bool} (h : d.op = 11) : nodeP d l w ↔ (bare3 d false false false) ∧ (l = []) := by
  unfold nodeP ownP bareP bare3 ownB shapeP usesN usesS usesL manyP
  first | (simp [h]; done) | (simp [h, and_assoc]; done)
theorem node_12 {d : SynD} {l : List Sy} {w : Bool} (h : d.op = 12) : nodeP d l w ↔ (bare3 d false true false) ∧ (lowerP d.s) ∧ (l = []) := by
  unfold nodeP ownP bareP bare3 ownB shapeP usesN usesS usesL manyP
  first | (simp [h]; done) | (simp [h, and_assoc]; done)
theorem node_13 {d : SynD} {l : List Sy} {w : Bool} (h : d.op = 13) : nodeP d l w ↔ (bare3 d true false false) ∧ ((-4503599627370496 ≤ d.n ∧ d.n ≤ 4503599627370496)) ∧ (l = []) := by
  unfold nodeP ownP bareP bare3 ownB shapeP usesN usesS usesL manyP
  first | (simp [h]; done) | (simp [h, and_assoc]; done)
theorem node_14 {d : SynD} {l : List Sy} {w : Bool} (h : d.op = 14) : nodeP d l w ↔ (bare3 d false false true) ∧ (pathP d.names false) ∧ (((l.length : Nat) : Int) ≤ 1) ∧ (∀ x ∈ l, belP 2 x.dat.op) := by
  unfold nodeP ownP bareP bare3 ownB shapeP usesN usesS usesL manyP
  first | (simp [h]; done) | (simp [h, and_assoc]; done)
theorem node_15 {d : SynD} {l : List Sy} {w : Bool} (h : d.op = 15) : nodeP d l w ↔ (bare3 d false false false) ∧ (l.length ≠ 1) ∧ (((l.length : Nat) : Int) ≤ 9) ∧ (∀ x ∈ l, belP 2 x.dat.op) := by
  unfold nodeP ownP bareP bare3 ownB shapeP usesN usesS usesL manyP
  first | (simp [h]; done) | (simp [h, and_assoc]; done)
theorem node_21 {d : SynD} {l : List Sy} {w : Bool} (h : d.op = 21) : nodeP d l w ↔ (bare3 d true false false) ∧ ((0 ≤ d.n ∧ d.n ≤ 4503599627370496)) ∧ (l = []) := by
  unfold nodeP ownP bareP bare3 ownB shapeP usesN usesS usesL manyP
  first | (simp [h]; done) | (simp [h, and_assoc]; done)
theorem node_22 {d : SynD} {l : List Sy} {w : Bool} (h : d.op = 22) : nodeP d l w ↔ (bare3 d false true false) ∧ (plainP d.s) ∧ (l = []) := by
  unfold nodeP ownP bareP bare3 ownB shapeP usesN usesS usesL manyP
  first | (simp [h]; done) | (simp [h, and_assoc]; done)
theorem node_23 {d : SynD} {l : List Sy} {w : Bool} (h : d.op = 23) : nodeP d l w ↔ (bare3 d false false true) ∧ (pathP d.names true) ∧ (l = []) := by
  unfold nodeP ownP bareP bare3 ownB shapeP usesN usesS usesL manyP
  first | (simp [h]; done) | (simp [h, and_assoc]; done)
theorem node_24 {d : SynD} {l : List Sy} {w : Bool} (h : d.op = 24) : nodeP d l w ↔ (bare3 d false false true) ∧ (pathP d.names false) ∧ (l = []) := by
  unfold nodeP ownP bareP bare3 ownB shapeP usesN usesS usesL manyP
  first | (simp [h]; done) | (simp [h, and_assoc]; done)
theorem node_25 {d : SynD} {l : List Sy} {w : Bool} (h : d.op = 25) : nodeP d l w ↔ (bare3 d false true false) ∧ (d.s = [] ∨ lowerP d.s) ∧ (exactP l [3]) := by
  rw [exact_parts (l := l) (show (0 : Int) ∉ [3] by decide)]
  unfold nodeP ownP bareP bare3 ownB shapeP usesN usesS usesL manyP
  first | (simp [h]; done) | (simp [h, and_assoc]; done)
theorem node_26 {d : SynD} {l : List Sy} {w : Bool} (h : d.op = 26) : nodeP d l w ↔ (bare3 d false false false) ∧ (exactP l [3, 3]) := by
  rw [exact_parts (l := l) (show (0 : Int) ∉ [3, 3] by decide)]
  unfold nodeP ownP bareP bare3 ownB shapeP usesN usesS usesL manyP
  first | (simp [h]; done) | (simp [h, and_assoc]; done)
theorem node_27 {d : SynD} {l : List Sy} {w : Bool} (h : d.op = 27) : nodeP d l w ↔ (bare3 d false false false) ∧ (l.length ≠ 1) ∧ (((l.length : Nat) : Int) ≤ 9) ∧ (∀ x ∈ l, belP 3 x.dat.op) := by
  unfold nodeP ownP bareP bare3 ownB shapeP usesN usesS usesL manyP
  first | (simp [h]; done) | (simp [h, and_assoc]; done)
theorem node_28 {d : SynD} {l : List Sy} {w : Bool} (h : d.op = 28) : nodeP d l w ↔ (bare3 d false false false) ∧ (exactP l [3, 3, 3]) := by
  rw [exact_parts (l := l) (show (0 : Int) ∉ [3, 3, 3] by decide)]
  unfold nodeP ownP bareP bare3 ownB shapeP usesN usesS usesL manyP
  first | (simp [h]; done) | (simp [h, and_assoc]; done)
theorem node_29 {d : SynD} {l : List Sy} {w : Bool} (h : d.op = 29) : nodeP d l w ↔ (bare3 d false false false) ∧ (2 ≤ l.length) ∧ (belP 3 (l.getD 0 noSy).dat.op) ∧ (onlyP (l.drop 1) [30]) := by
  unfold nodeP ownP bareP bare3 ownB shapeP usesN usesS usesL manyP
  first | (simp [h]; done) | (simp [h, and_assoc]; done)
theorem node_30 {d : SynD} {l : List Sy} {w : Bool} (h : d.op = 30) : nodeP d l w ↔ (bare3 d false false false) ∧ (exactP l [2, 3]) := by
  rw [exact_parts (l := l) (show (0 : Int) ∉ [2, 3] by decide)]
  unfold nodeP ownP bareP bare3 ownB shapeP usesN usesS usesL manyP
  first | (simp [h]; done) | (simp [h, and_assoc]; done)
theorem node_31 {d : SynD} {l : List Sy} {w : Bool} (h : d.op = 31) : nodeP d l w ↔ (bare3 d false false false) ∧ (1 ≤ l.length) ∧ (belP 3 (l.getD (l.length - 1) noSy).dat.op) ∧ (onlyP (l.take (l.length - 1)) [41, 42, 50]) := by
  unfold nodeP ownP bareP bare3 ownB shapeP usesN usesS usesL manyP
  first | (simp [h]; done) | (simp [h, and_assoc]; done)
theorem node_33 {d : SynD} {l : List Sy} {w : Bool} (h : d.op = 33) : nodeP d l w ↔ (bare3 d false false false) ∧ (exactP l [3, 1]) := by
  rw [exact_parts (l := l) (show (0 : Int) ∉ [3, 1] by decide)]
  unfold nodeP ownP bareP bare3 ownB shapeP usesN usesS usesL manyP
  first | (simp [h]; done) | (simp [h, and_assoc]; done)
theorem node_34 {d : SynD} {l : List Sy} {w : Bool} (h : d.op = 34) : nodeP d l w ↔ (bare3 d false false true) ∧ (pathP d.names false) ∧ (exactP l [0]) := by
  rw [exact_0]
  unfold nodeP ownP bareP bare3 ownB shapeP usesN usesS usesL manyP
  first | (simp [h]; done) | (simp [h, and_assoc]; done)
theorem node_41 {d : SynD} {l : List Sy} {w : Bool} (h : d.op = 41) : nodeP d l w ↔ (bare3 d false true false) ∧ (lowerP d.s) ∧ (exactP l [3]) := by
  rw [exact_parts (l := l) (show (0 : Int) ∉ [3] by decide)]
  unfold nodeP ownP bareP bare3 ownB shapeP usesN usesS usesL manyP
  first | (simp [h]; done) | (simp [h, and_assoc]; done)
theorem node_42 {d : SynD} {l : List Sy} {w : Bool} (h : d.op = 42) : nodeP d l w ↔ (bare3 d false true true) ∧ (lowerP d.s) ∧ (1 ≤ d.names.length) ∧ (d.names.length ≤ 9) ∧ (∀ x ∈ d.names, lowerP x) ∧ (exactP l [3]) := by
  rw [exact_parts (l := l) (show (0 : Int) ∉ [3] by decide)]
  unfold nodeP ownP bareP bare3 ownB shapeP usesN usesS usesL manyP
  first | (simp [h]; done) | (simp [h, and_assoc]; done)
theorem node_43 {d : SynD} {l : List Sy} {w : Bool} (h : d.op = 43) : nodeP d l w ↔ (bare3 d false true true) ∧ ((w = true ∧ d.s = []) ∨ (w = false ∧ lowerP d.s)) ∧ (paramsP d.names) ∧ (exactP l [1]) := by
  rw [exact_parts (l := l) (show (0 : Int) ∉ [1] by decide)]
  unfold nodeP ownP bareP bare3 ownB shapeP usesN usesS usesL manyP
  first | (simp [h]; done) | (simp [h, and_assoc]; done)
theorem node_44 {d : SynD} {l : List Sy} {w : Bool} (h : d.op = 44) : nodeP d l w ↔ (bare3 d false true true) ∧ (lowerP d.s) ∧ (paramsP d.names) ∧ (1 ≤ l.length) ∧ (onlyP l [45]) ∧ (differP l) := by
  unfold nodeP ownP bareP bare3 ownB shapeP usesN usesS usesL manyP
  first | (simp [h]; done) | (simp [h, and_assoc]; done)
theorem node_45 {d : SynD} {l : List Sy} {w : Bool} (h : d.op = 45) : nodeP d l w ↔ (bare3 d false true false) ∧ (upperP d.s) ∧ (((l.length : Nat) : Int) ≤ 1) ∧ (∀ x ∈ l, belP 1 x.dat.op) := by
  unfold nodeP ownP bareP bare3 ownB shapeP usesN usesS usesL manyP
  first | (simp [h]; done) | (simp [h, and_assoc]; done)
theorem node_46 {d : SynD} {l : List Sy} {w : Bool} (h : d.op = 46) : nodeP d l w ↔ (bare3 d false true false) ∧ (upperP d.s) ∧ (exactP l [7]) := by
  rw [exact_parts (l := l) (show (0 : Int) ∉ [7] by decide)]
  unfold nodeP ownP bareP bare3 ownB shapeP usesN usesS usesL manyP
  first | (simp [h]; done) | (simp [h, and_assoc]; done)
theorem node_47 {d : SynD} {l : List Sy} {w : Bool} (h : d.op = 47) : nodeP d l w ↔ (bare3 d false true false) ∧ (upperP d.s) ∧ (exactP l [6]) := by
  rw [exact_parts (l := l) (show (0 : Int) ∉ [6] by decide)]
  unfold nodeP ownP bareP bare3 ownB shapeP usesN usesS usesL manyP
  first | (simp [h]; done) | (simp [h, and_assoc]; done)
theorem node_48 {d : SynD} {l : List Sy} {w : Bool} (h : d.op = 48) : nodeP d l w ↔ (bare3 d false false true) ∧ (pathP d.names false) ∧ (l = []) := by
  unfold nodeP ownP bareP bare3 ownB shapeP usesN usesS usesL manyP
  first | (simp [h]; done) | (simp [h, and_assoc]; done)
theorem node_49 {d : SynD} {l : List Sy} {w : Bool} (h : d.op = 49) : nodeP d l w ↔ (bare3 d false false true) ∧ (pathP d.names false) ∧ (l = []) := by
  unfold nodeP ownP bareP bare3 ownB shapeP usesN usesS usesL manyP
  first | (simp [h]; done) | (simp [h, and_assoc]; done)
theorem node_50 {d : SynD} {l : List Sy} {w : Bool} (h : d.op = 50) : nodeP d l w ↔ (bare3 d false true false) ∧ (upperP d.s) ∧ (exactP l [3, 0]) := by
  rw [exact_30]
  unfold nodeP ownP bareP bare3 ownB shapeP usesN usesS usesL manyP
  first | (simp [h]; done) | (simp [h, and_assoc]; done)
theorem node_61 {d : SynD} {l : List Sy} {w : Bool} (h : d.op = 61) : nodeP d l w ↔ (bare3 d false true false) ∧ (lowerP d.s) ∧ (exactP l [1]) := by
  rw [exact_parts (l := l) (show (0 : Int) ∉ [1] by decide)]
  unfold nodeP ownP bareP bare3 ownB shapeP usesN usesS usesL manyP
  first | (simp [h]; done) | (simp [h, and_assoc]; done)
theorem node_62 {d : SynD} {l : List Sy} {w : Bool} (h : d.op = 62) : nodeP d l w ↔ (bare3 d false true true) ∧ (lowerP d.s) ∧ (paramsP d.names) ∧ (l = []) := by
  unfold nodeP ownP bareP bare3 ownB shapeP usesN usesS usesL manyP
  first | (simp [h]; done) | (simp [h, and_assoc]; done)
theorem node_63 {d : SynD} {l : List Sy} {w : Bool} (h : d.op = 63) : nodeP d l w ↔ (bare3 d false true false) ∧ (upperP d.s) ∧ (exactP l [6]) := by
  rw [exact_parts (l := l) (show (0 : Int) ∉ [6] by decide)]
  unfold nodeP ownP bareP bare3 ownB shapeP usesN usesS usesL manyP
  first | (simp [h]; done) | (simp [h, and_assoc]; done)
theorem node_64 {d : SynD} {l : List Sy} {w : Bool} (h : d.op = 64) : nodeP d l w ↔ (bare3 d false true false) ∧ (upperP d.s) ∧ (exactP l [6]) := by
  rw [exact_parts (l := l) (show (0 : Int) ∉ [6] by decide)]
  unfold nodeP ownP bareP bare3 ownB shapeP usesN usesS usesL manyP
  first | (simp [h]; done) | (simp [h, and_assoc]; done)
theorem node_65 {d : SynD} {l : List Sy} {w : Bool} (h : d.op = 65) : nodeP d l w ↔ (bare3 d false false false) ∧ (exactP l [6]) := by
  rw [exact_parts (l := l) (show (0 : Int) ∉ [6] by decide)]
  unfold nodeP ownP bareP bare3 ownB shapeP usesN usesS usesL manyP
  first | (simp [h]; done) | (simp [h, and_assoc]; done)
theorem node_66 {d : SynD} {l : List Sy} {w : Bool} (h : d.op = 66) : nodeP d l w ↔ (bare3 d false false true) ∧ (pathP d.names true) ∧ (l.length = 1) ∧ (onlyP l [2]) ∧ ((l.getD 0 noSy).kids = []) := by
  unfold nodeP ownP bareP bare3 ownB shapeP usesN usesS usesL manyP
  first | (simp [h]; done) | (simp [h, and_assoc]; done)
theorem node_71 {d : SynD} {l : List Sy} {w : Bool} (h : d.op = 71) : nodeP d l w ↔ (bare3 d false false false) ∧ (∀ x ∈ l, belP 5 x.dat.op) := by
  unfold nodeP ownP bareP bare3 ownB shapeP usesN usesS usesL manyP
  first | (simp [h]; done) | (simp [h, and_assoc]; done)
theorem node_72 {d : SynD} {l : List Sy} {w : Bool} (h : d.op = 72) : nodeP d l w ↔ (bare3 d false false true) ∧ (pathP d.names false) ∧ (l = []) := by
  unfold nodeP ownP bareP bare3 ownB shapeP usesN usesS usesL manyP
  first | (simp [h]; done) | (simp [h, and_assoc]; done)
theorem node_73 {d : SynD} {l : List Sy} {w : Bool} (h : d.op = 73) : nodeP d l w ↔ (bare3 d true true false) ∧ ((d.n = 0 ∨ d.n = 1)) ∧ (upperP d.s) ∧ (exactP l [6, 6]) := by
  rw [exact_parts (l := l) (show (0 : Int) ∉ [6, 6] by decide)]
  unfold nodeP ownP bareP bare3 ownB shapeP usesN usesS usesL manyP
  simp [h, and_assoc]
  exact fun _ => and_left_comm
theorem node_74 {d : SynD} {l : List Sy} {w : Bool} (h : d.op = 74) : nodeP d l w ↔ (bare3 d false false true) ∧ (pathP d.names true) ∧ (l.length = 2) ∧ (belP 6 (l.getD 0 noSy).dat.op) ∧ (onlyP (l.drop 1) [43]) ∧ ((l.getD 1 noSy).dat.s = []) := by
  unfold nodeP ownP bareP bare3 ownB shapeP usesN usesS usesL manyP
  first | (simp [h]; done) | (simp [h, and_assoc]; done)
theorem node_81 {d : SynD} {l : List Sy} {w : Bool} (h : d.op = 81) : nodeP d l w ↔ (bare3 d false false false) ∧ (∀ x ∈ l, belP 4 x.dat.op) := by
  unfold nodeP ownP bareP bare3 ownB shapeP usesN usesS usesL manyP
  first | (simp [h]; done) | (simp [h, and_assoc]; done)
theorem node_82 {d : SynD} {l : List Sy} {w : Bool} (h : d.op = 82) : nodeP d l w ↔ (bare3 d false false true) ∧ (pathP d.names false) ∧ (l = []) := by
  unfold nodeP ownP bareP bare3 ownB shapeP usesN usesS usesL manyP
  first | (simp [h]; done) | (simp [h, and_assoc]; done)
theorem node_83 {d : SynD} {l : List Sy} {w : Bool} (h : d.op = 83) : nodeP d l w ↔ (bare3 d true true false) ∧ ((d.n = 0 ∨ d.n = 1)) ∧ (upperP d.s) ∧ (exactP l [6, 7]) := by
  rw [exact_parts (l := l) (show (0 : Int) ∉ [6, 7] by decide)]
  unfold nodeP ownP bareP bare3 ownB shapeP usesN usesS usesL manyP
  simp [h, and_assoc]
  exact fun _ => and_left_comm
theorem node_84 {d : SynD} {l : List Sy} {w : Bool} (h : d.op = 84) : nodeP d l w ↔ (bare3 d false false false) ∧ (exactP l [7, 7]) := by
  rw [exact_parts (l := l) (show (0 : Int) ∉ [7, 7] by decide)]
  unfold nodeP ownP bareP bare3 ownB shapeP usesN usesS usesL manyP
  first | (simp [h]; done) | (simp [h, and_assoc]; done)
theorem node_85 {d : SynD} {l : List Sy} {w : Bool} (h : d.op = 85) : nodeP d l w ↔ (bare3 d false false false) ∧ (exactP l [7, 6]) := by
  rw [exact_parts (l := l) (show (0 : Int) ∉ [7, 6] by decide)]
  unfold nodeP ownP bareP bare3 ownB shapeP usesN usesS usesL manyP
  first | (simp [h]; done) | (simp [h, and_assoc]; done)
theorem node_86 {d : SynD} {l : List Sy} {w : Bool} (h : d.op = 86) : nodeP d l w ↔ (bare3 d false false false) ∧ (exactP l [7, 6]) := by
  rw [exact_parts (l := l) (show (0 : Int) ∉ [7, 6] by decide)]
  unfold nodeP ownP bareP bare3 ownB shapeP usesN usesS usesL manyP
  first | (simp [h]; done) | (simp [h, and_assoc]; done)
theorem node_87 {d : SynD} {l : List Sy} {w : Bool} (h : d.op = 87) : nodeP d l w ↔ (bare3 d false false false) ∧ (1 ≤ ((l.length : Nat) : Int)) ∧ (∀ x ∈ l.take (l.length - 1), belP 4 x.dat.op) ∧ (belP 7 (l.getD (l.length - 1) noSy).dat.op) := by
  unfold nodeP ownP bareP bare3 ownB shapeP usesN usesS usesL manyP
  simp [h, and_assoc]
  exact fun _ _ _ => ⟨fun ⟨a, b, c⟩ => ⟨by omega, c, b⟩, fun ⟨a, b, c⟩ => ⟨by omega, c, b⟩⟩
theorem node_88 {d : SynD} {l : List Sy} {w : Bool} (h : d.op = 88) : nodeP d l w ↔ (bare3 d false false false) ∧ (exactP l [3, 0]) := by
  rw [exact_30]
  unfold nodeP ownP bareP bare3 ownB shapeP usesN usesS usesL manyP
  first | (simp [h]; done) | (simp [h, and_assoc]; done)
theorem node_32a {d : SynD} {l : List Sy} {w : Bool} (h : d.op = 32) (hn : d.n = 12) : nodeP d l w ↔ (bare3 d true false false) ∧ (exactP l [3]) := by
  rw [exact_parts (l := l) (show (0 : Int) ∉ [3] by decide)]
  unfold nodeP ownP bareP bare3 ownB shapeP usesN usesS usesL manyP
  simp [h, hn]
theorem node_32b {d : SynD} {l : List Sy} {w : Bool} (h : d.op = 32) (hn : d.n ≠ 12) : nodeP d l w ↔ (bare3 d true false false) ∧ (1 ≤ d.n) ∧ (d.n ≤ 11) ∧ (exactP l [3, 3]) := by
  rw [exact_parts (l := l) (show (0 : Int) ∉ [3, 3] by decide)]
  unfold nodeP ownP bareP bare3 ownB shapeP usesN usesS usesL manyP
  have e : d.n ≤ 12 ↔ d.n ≤ 11 := by omega
  simp [h, hn, and_assoc, e]
end Go.Proofs.YtmakoecgogjemaaDoor
