/- Let is application. -/
import Derived.Test.YtfmjipgcbecamaaDoorLdep
set_option linter.unusedVariables false
namespace Go.Lam
open Go Go.Vc Go.RowKit Go.Syn

def nodeE (op n : Int) (l : List E) : E := .mk ⟨op, n, []⟩ l
theorem step_let (ev : Ev) (x y : E) (env : List Th) (left : Nat) (out : List Lab) : stepN ev (nodeE 11 0 [x, y]) env left out = (ev x env left out).bind fun t left out => ev y (t :: env) left out := rfl
theorem step_fun (ev : Ev) (y : E) (env : List Th) (left : Nat) (out : List Lab) : stepN ev (nodeE 4 0 [y]) env left out = .ok (funT y false env) left out := rfl
theorem step_app (ev : Ev) (f x : E) (env : List Th) (left : Nat) (out : List Lab) : stepN ev (nodeE 5 0 [f, x]) env left out = (evL ev [f, x] env left out).bind fun ts left out => if (ts.getD 0 unitT).op = 7 then ev (ts.getD 0 unitT).body (ts.getD 1 unitT :: inner (ts.getD 0 unitT)) left out else .stop 4 0 left out := rfl
theorem step_rec (ev : Ev) (l : List E) (env : List Th) (left : Nat) (out : List Lab) : stepN ev (nodeE 6 0 l) env left out = (evL ev l env left out).bind fun ts left out => .ok (recT ts) left out := rfl
theorem step_tag (ev : Ev) (n : Int) (x : E) (env : List Th) (left : Nat) (out : List Lab) : stepN ev (nodeE 8 n [x]) env left out = (evL ev [x] env left out).bind fun ts left out => .ok (injT n ts) left out := rfl
theorem step_field (ev : Ev) (x : E) (env : List Th) (left : Nat) (out : List Lab) : stepN ev (nodeE 7 0 [x]) env left out = (evL ev [x] env left out).bind fun ts left out =>
    if (ts.getD 0 unitT).op = 3 ∧ (0 : Int) < (((ts.getD 0 unitT).l.length : Nat) : Int) then .ok ((ts.getD 0 unitT).l.getD 0 unitT) left out else .stop 4 0 left out := rfl
theorem step_switch (ev : Ev) (v z y : E) (env : List Th) (left : Nat) (out : List Lab) : stepN ev (nodeE 9 0 [v, z, y]) env left out = (ev v env left out).bind fun t left out =>
    if t.op = 4 ∧ t.n + 1 < ((3 : Nat) : Int) then ev (kid (nodeE 9 0 [v, z, y]) (t.n + 1).toNat) (t.l.getD 0 unitT :: env) left out else .stop 4 0 left out := rfl
/-- An application of a function, with a step more than the let. -/
theorem app_let (x y : E) (n : Nat) : evalN (n + 2) (nodeE 5 0 [nodeE 4 0 [y], x]) [] (n + 2) [] = evalN (n + 1) (nodeE 11 0 [x, y]) [] (n + 1) [] := by
  rw [eval_step (d := n + 1) (left := n + 1) (Nat.le_refl _), eval_step (d := n) (left := n) (Nat.le_refl _), step_app, step_let]
  show (((evalN (n + 1) (nodeE 4 0 [y]) [] (n + 1) []).bind fun t left out => (evL (evalN (n + 1)) [x] [] left out).bind fun ts left out => .ok (t :: ts) left out).bind _) = _
  rw [eval_step (d := n) (left := n) (Nat.le_refl _), step_fun, Res.bind_ok, Res.bind_assoc]
  show ((evalN (n + 1) x [] n []).bind fun t left out => (Res.ok ([] : List Th) left out).bind fun ts left out => .ok (t :: ts) left out).bind _ = _
  rw [Res.bind_assoc]
  refine bind_eq (l := n) (eval_eq n (n + 1) (by omega) x [] n [] (Nat.le_refl _)).symm (eval_ext (n + 1) x [] n []).2 (fun t left o hl => ?_)
  exact (eval_eq n (n + 1) (by omega) y [t] left o hl).symm
/-- A branch that is taken, and the let of the block without components. -/
theorem switch_let (z y : E) (n : Nat) : evalN (n + 3) (nodeE 9 0 [nodeE 8 1 [nodeE 6 0 []], z, y]) [] (n + 3) [] = evalN (n + 2) (nodeE 11 0 [nodeE 6 0 [], y]) [] (n + 2) [] := by
  rw [eval_step (d := n + 2) (left := n + 2) (Nat.le_refl _), eval_step (d := n + 1) (left := n + 1) (Nat.le_refl _), step_switch, step_let]
  rw [eval_step (d := n + 1) (left := n + 1) (by omega), step_tag]
  have e1 : evL (evalN (n + 1)) [nodeE 6 0 []] [] (n + 1) [] = .ok [unitT] n [] := by
    show (evalN (n + 1) (nodeE 6 0 []) [] (n + 1) []).bind _ = _
    rw [eval_step (d := n) (left := n) (Nat.le_refl _), step_rec]
    rfl
  rw [e1, Res.bind_ok, Res.bind_ok]
  rw [eval_step (d := n) (left := n) (Nat.le_refl _), step_rec]
  show (if _ then _ else _) = _
  rw [if_pos ⟨rfl, by show (1 : Int) + 1 < ((3 : Nat) : Int); omega⟩]
  show evalN (n + 2) y [unitT] n [] = evalN (n + 1) y [unitT] n []
  exact (eval_eq (n + 1) (n + 2) (by omega) y [unitT] n [] (by omega)).symm
/-- A function beside that is not called. -/
theorem field_rec (x z : E) (n : Nat) : evalN (n + 2) (nodeE 7 0 [nodeE 6 0 [x, nodeE 4 0 [z]]]) [] (n + 2) [] = (evalN n x [] n []).bind fun t left out => if left = 0 then .stop 3 0 0 out else .ok t (left - 1) out := by
  rw [eval_step (d := n + 1) (left := n + 1) (Nat.le_refl _), step_field]
  have e1 : evL (evalN (n + 1)) [nodeE 6 0 [x, nodeE 4 0 [z]]] [] (n + 1) [] = (evalN n x [] n []).bind fun t left out => if left = 0 then .stop 3 0 0 out else .ok [recT [t, funT z false []]] (left - 1) out := by
    show (evalN (n + 1) (nodeE 6 0 [x, nodeE 4 0 [z]]) [] (n + 1) []).bind _ = _
    rw [eval_step (d := n) (left := n) (Nat.le_refl _), step_rec]
    show (((evalN n x [] n []).bind fun t left out => (evL (evalN n) [nodeE 4 0 [z]] [] left out).bind fun ts left out => .ok (t :: ts) left out).bind _).bind _ = _
    rw [Res.bind_assoc, Res.bind_assoc]
    refine bind_eq (l := n) rfl (eval_ext n x [] n []).2 (fun t left o hl => ?_)
    by_cases q : left = 0
    · subst q
      rw [if_pos rfl]
      have e2 : evalN n (nodeE 4 0 [z]) [] 0 o = .stop 3 0 0 o := by
        cases n with
        | zero => rfl
        | succ n => unfold evalN; rw [if_pos rfl]
      have e3 : evL (evalN n) [nodeE 4 0 [z]] [] 0 o = .stop 3 0 0 o := by
        show (evalN n (nodeE 4 0 [z]) [] 0 o).bind _ = _
        rw [e2]
        rfl
      rw [e3]
      rfl
    · rw [if_neg q]
      obtain ⟨n', rfl⟩ : ∃ n', n = n' + 1 := ⟨n - 1, by omega⟩
      obtain ⟨l, rfl⟩ : ∃ l, left = l + 1 := ⟨left - 1, by omega⟩
      have e2 : evalN (n' + 1) (nodeE 4 0 [z]) [] (l + 1) o = .ok (funT z false []) l o := by
        rw [eval_step (by omega), step_fun]
      have e3 : evL (evalN (n' + 1)) [nodeE 4 0 [z]] [] (l + 1) o = .ok [funT z false []] l o := by
        show (evalN (n' + 1) (nodeE 4 0 [z]) [] (l + 1) o).bind _ = _
        rw [e2]
        rfl
      rw [e3]
      rfl
  rw [e1, Res.bind_assoc]
  refine bind_eq (l := n) rfl (eval_ext n x [] n []).2 (fun t left o hl => ?_)
  by_cases q : left = 0
  · rw [if_pos q, if_pos q]; rfl
  · rw [if_neg q, if_neg q, Res.bind_ok]
    exact if_pos ⟨rfl, by show (0 : Int) < ((2 : Nat) : Int); omega⟩
end Go.Lam
