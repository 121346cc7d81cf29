/- What the converted functions are made of. -/
import Derived.Test.YthlcdgpemjdgnaaGreatDoorLconv
set_option linter.unusedVariables false
namespace Go.Lam
open Go Go.Vc Go.RowKit Go.Syn

mutual
/-- The functions of an expression, outer ones first. -/
def funs : Bool → E → List E
  | fixed, .mk d l => (if d.op = 10 ∨ (d.op = 4 ∧ fixed = false) then [.mk d l] else []) ++ funsL (decide (d.op = 10)) l
def funsL : Bool → List E → List E
  | _, [] => []
  | b, t :: r => funs b t ++ funsL b r
end
theorem kids1 {x : E} (h : x.kids.length = 1) : x.kids = [kid x 0] := by
  unfold kid
  match x.kids, h with
  | [y], _ => rfl
/-! ### Bodies -/
def plcP (cap k : Nat) (p : E) : Prop := (∃ n : Nat, p = plc 21 ((n : Nat) : Int) ∧ n < k) ∨ p = plc 22 0 ∨ ∃ n : Nat, p = plc 23 ((n : Nat) : Int) ∧ n < cap
theorem plcP.mono {cap k k' : Nat} {p : E} (h : k ≤ k') : plcP cap k p → plcP cap k' p
  | .inl ⟨n, e, h1⟩ => .inl ⟨n, e, by omega⟩
  | .inr h => .inr h
def fnodeP (cs : List Int) (cap k : Nat) (d : ExpD) (l : List E) : Prop :=
  (d.op = 3 ∨ d.s = []) ∧
  ((d.op = 2 ∧ l.length = 0 ∧ -4503599627370496 ≤ d.n ∧ d.n ≤ 4503599627370496) ∨ (d.op = 3 ∧ l.length = 0 ∧ d.n = 0 ∧ d.s.length ≤ 16384) ∨
   ((d.op = 25 ∨ d.op = 11) ∧ l.length = 2 ∧ d.n = 0) ∨ (d.op = 6 ∧ l.length ≤ 1000 ∧ d.n = 0) ∨ ((d.op = 7 ∨ d.op = 8) ∧ l.length = 1 ∧ 0 ≤ d.n ∧ d.n ≤ 999) ∨ (d.op = 9 ∧ 2 ≤ l.length ∧ l.length ≤ 1001 ∧ d.n = 0) ∨
   (d.op = 12 ∧ 1 ≤ d.n ∧ d.n ≤ 14 ∧ l.length = arityN d.n) ∨ (d.op = 13 ∧ l.length = 0 ∧ 1 ≤ d.n ∧ d.n ≤ 1000000) ∨
   (d.op = 21 ∧ l.length = 0 ∧ 0 ≤ d.n ∧ d.n + 1 ≤ ((k : Nat) : Int)) ∨ (d.op = 22 ∧ l.length = 0 ∧ d.n = 0) ∨ (d.op = 23 ∧ l.length = 0 ∧ 0 ≤ d.n ∧ d.n + 1 ≤ ((cap : Nat) : Int)) ∨
   (d.op = 24 ∧ l.length ≤ 1000 ∧ 0 ≤ d.n ∧ d.n ≤ 4095 ∧ cs[d.n.toNat]? = some ((l.length : Nat) : Int)))
mutual
def goodB (cs : List Int) (cap : Nat) : Nat → E → Prop
  | k, .mk d l => fnodeP cs cap k d l ∧ goodBL cs cap d.op 0 k l
def goodBL (cs : List Int) (cap : Nat) : Int → Nat → Nat → List E → Prop
  | _, _, _, [] => True
  | op, j, k, t :: r => goodB cs cap (if furP op j then k + 1 else k) t ∧ goodBL cs cap op (j + 1) k r
end
theorem goodBL_get {cs : List Int} {cap : Nat} {op : Int} {k : Nat} {t : E} : ∀ {l : List E} {j i : Nat}, goodBL cs cap op j k l → l[i]? = some t → goodB cs cap (if furP op (j + i) then k + 1 else k) t
  | a :: r, j, 0, h, e => by
    cases e
    exact h.1
  | a :: r, j, i + 1, h, e => by
    have := goodBL_get (j := j + 1) (i := i) h.2 (by simpa using e)
    rwa [show j + 1 + i = j + (i + 1) by omega] at this
theorem goodB_un {cs : List Int} {cap k : Nat} {x : E} (h : goodB cs cap k x) : fnodeP cs cap k x.dat x.kids ∧ goodBL cs cap x.dat.op 0 k x.kids := by
  cases x
  exact h
/-! ### The functions that are kept -/
abbrev capsF (fs : List FlatD) : List Int := fs.map FlatD.cap
theorem cvL_len (cv : Cv) (op : Int) : ∀ (l : List E) (j : Nat) (env : List E) (k : Nat) (fs : List FlatD), (cvL cv op j l env k fs).1.length = l.length
  | [], _, _, _, _ => rfl
  | y :: r, j, env, k, fs => by
    show (_ :: (cvL cv op (j + 1) r env k _).1).length = _
    rw [List.length_cons, cvL_len cv op r, List.length_cons]
/-! ### They are good -/
/-- What a conversion makes. -/
structure CvG (cs : List Int) (cap k : Nat) (fs : List FlatD) (r : E × List FlatD) : Prop where
  good : goodB cs cap k r.1
  new : ∀ i f, fs.length ≤ i → r.2[i]? = some f → ∃ c : Nat, f.cap = ((c : Nat) : Int) ∧ goodB cs c 1 f.body
end Go.Lam
