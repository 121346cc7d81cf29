/- Joined texts. -/
import Derived.Test.YthlcdgpemjdgnaaGreatDoorSsyn
import Derived.Lib.ItoaNum
import Derived.Lib.ItoaLen
import Derived.Test.YthlcdgpemjdgnaaGreatDoorStre
import Derived.Test.YthlcdgpemjdgnaaGreatDoorVfb
import Derived.Test.YthlcdgpemjdgnaaGreatDoorVkeys
/- Untyped expressions: their rows, which are valid, their free variables. -/
set_option linter.unusedVariables false
namespace Go.Lam
open Go Go.Vc Go.RowKit Go.Syn
structure ExpD where
  op : Int
  n : Int
  s : List UInt8
instance : Inhabited ExpD := ⟨⟨0, 0, []⟩⟩
abbrev E := Tr ExpD
instance : Inhabited E := ⟨.mk ⟨0, 0, []⟩ []⟩
abbrev Lab := List UInt8
def expH : Hd ExpD where
  m := 4
  rep g r a n c d := r = [.int .i64 d.op, .int .i64 d.n, .string (bstr d.s), .slice a n c]
  len := by rintro g r a n c d rfl; rfl
  mono := by rintro g g' r a n c d m rfl; rfl
  one := by
    rintro g r a n c d rfl u hu
    simp at hu
    rcases hu with rfl | rfl | rfl | rfl <;> rfl
def expE : El E := trE expH
@[simp] theorem expE_m : expE.m = 4 := rfl
abbrev expV (t : E) (a : Option Addr) (n c : Nat) : Value := .agg ⟨[.int .i64 t.dat.op, .int .i64 t.dat.n, .string (bstr t.dat.s), .slice a n c]⟩
theorem exp_rep {g : G} {t : E} {a : Option Addr} {n c : Nat} (h : SlE expE g a n c t.kids) : expE.rep g [.int .i64 t.dat.op, .int .i64 t.dat.n, .string (bstr t.dat.s), .slice a n c] t := by
  have := trE_mk (H := expH) (r := [.int .i64 t.dat.op, .int .i64 t.dat.n, .string (bstr t.dat.s), .slice a n c]) (d := t.dat) rfl h
  rwa [← t.eta] at this
theorem exp_un {g : G} {r : List Value} {t : E} (h : expE.rep g r t) : ∃ a n c, r = [.int .i64 t.dat.op, .int .i64 t.dat.n, .string (bstr t.dat.s), .slice a n c] ∧ SlE expE g a n c t.kids := by
  obtain ⟨a, n, c, rfl, h2⟩ := trE_un expH h
  exact ⟨a, n, c, rfl, h2⟩
theorem rdEL {L : List E} {a : Option Addr} {n c : Nat} {g : G} (h : SlE expE g a n c L) {i : Int} (p : Nat) (hi : i = (p : Int)) {t : E} (ht : L[p]? = some t) {K : Addr → Prop}
    (hk : ∀ ad ka kn kc, a = some ad → SlE expE g ka kn kc t.kids → (∀ j v, [Value.int .i64 t.dat.op, .int .i64 t.dat.n, .string (bstr t.dat.s), .slice ka kn kc][j]? = some v → Live g (Addr.add (Addr.add ad (Int.toNat i * 4)) j) v) → K ad) : derefP a K := by
  subst hi
  have hrd := h.rd (i := p) ht (K := fun ad => ∃ rr, expE.rep g rr t ∧ ∀ j v, rr[j]? = some v → Live g ((Addr.add ad (p * 4)).add j) v) (fun rr ad h1 h2 => ⟨rr, h1, h2⟩)
  obtain ⟨ad, rfl, rr, hx, hl⟩ := derefP_some hrd
  obtain ⟨ka, kn, kc, rfl, hI⟩ := exp_un hx
  refine hk ad ka kn kc rfl hI ?_
  rw [Int.toNat_natCast]
  exact hl
theorem live0 {g : G} {ad : Addr} {v : Value} (h : Live g (Addr.add ad 0) v) : Live g ad v := by rwa [Addr.add_zero'] at h
theorem rdE {L : List E} {a : Option Addr} {n c : Nat} {g : G} (h : SlE expE g a n c L) {i : Int} (p : Nat) (hi : i = (p : Int)) {t : E} (ht : L[p]? = some t) {K : Int → Int → ByteArray → Option Addr → Nat → Nat → Prop}
    (hk : ∀ ka kn kc, SlE expE g ka kn kc t.kids → K t.dat.op t.dat.n (bstr t.dat.s) ka kn kc) :
    derefP a fun ad => ∃ x0 : Int, ∃ x1 : Int, ∃ x2 : ByteArray, ∃ x3a : Option Addr, ∃ x3l : Nat, ∃ x3c : Nat,
      g.w.cell? (Addr.add ad (Int.toNat i * 4)) = some (.int .i64 x0) ∧ g.w.cell? (Addr.add (Addr.add ad (Int.toNat i * 4)) 1) = some (.int .i64 x1) ∧ g.w.cell? (Addr.add (Addr.add ad (Int.toNat i * 4)) 2) = some (.string x2) ∧
      g.w.cell? (Addr.add (Addr.add ad (Int.toNat i * 4)) 3) = some (.slice x3a x3l x3c) ∧ K x0 x1 x2 x3a x3l x3c := by
  refine rdEL h p hi ht (fun ad ka kn kc _ hI hl => ?_)
  exact ⟨_, _, _, _, _, _, (live0 (hl 0 _ rfl)).1, (hl 1 _ rfl).1, (hl 2 _ rfl).1, (hl 3 _ rfl).1, hk ka kn kc hI⟩
mutual
def sizeE : E → Nat
  | .mk _ l => sizeEL l + 1
def sizeEL : List E → Nat
  | [] => 0
  | t :: r => sizeE t + sizeEL r
end
mutual
def depthE : E → Nat
  | .mk _ l => depthEL l + 1
def depthEL : List E → Nat
  | [] => 0
  | t :: r => max (depthE t) (depthEL r)
end
theorem sizeE_pos (t : E) : 1 ≤ sizeE t := by cases t; simp [sizeE]
theorem sizeEL_app : ∀ a b : List E, sizeEL (a ++ b) = sizeEL a + sizeEL b
  | [], b => by simp [sizeEL]
  | x :: a, b => by simp [sizeEL, sizeEL_app a b]; omega
theorem depthEL_app : ∀ a b : List E, depthEL (a ++ b) = max (depthEL a) (depthEL b)
  | [], b => by simp [depthEL]
  | x :: a, b => by simp [depthEL, depthEL_app a b, Nat.max_assoc]
theorem sizeEL_take {l : List E} {j : Nat} {t : E} (h : l[j]? = some t) : sizeEL (l.take (j + 1)) = sizeEL (l.take j) + sizeE t := by
  rw [List.take_add_one, h, sizeEL_app]; simp [sizeEL]
theorem depthEL_take {l : List E} {j : Nat} {t : E} (h : l[j]? = some t) : depthEL (l.take (j + 1)) = max (depthEL (l.take j)) (depthE t) := by
  rw [List.take_add_one, h, depthEL_app]; simp [depthEL]
theorem sizeEL_le (l : List E) (j : Nat) : sizeEL (l.take j) ≤ sizeEL l := by
  have := sizeEL_app (l.take j) (l.drop j)
  rw [List.take_append_drop] at this
  omega
theorem sizeEL_len : ∀ l : List E, l.length ≤ sizeEL l
  | [] => by simp
  | t :: r => by have := sizeEL_len r; have := sizeE_pos t; simp [sizeEL]; omega
theorem depthE_mem {l : List E} {t : E} (h : t ∈ l) : depthE t ≤ depthEL l := by
  induction l with
  | nil => cases h
  | cons a r ih =>
    rcases List.mem_cons.1 h with rfl | h
    · simp [depthEL]; omega
    · have := ih h; simp [depthEL]; omega
theorem sizeE_mem {l : List E} {t : E} (h : t ∈ l) : sizeE t ≤ sizeEL l := by
  induction l with
  | nil => cases h
  | cons a r ih =>
    rcases List.mem_cons.1 h with rfl | h
    · simp [sizeEL]
    · have := ih h; simp [sizeEL]; omega
def arityN (n : Int) : Nat := if n = 6 ∨ n = 11 ∨ n = 13 ∨ n = 14 then 1 else 2
def nodeP (d : ExpD) (l : List E) : Prop :=
  (d.op = 3 ∨ d.s = []) ∧
  ((d.op = 1 ∧ l.length = 0 ∧ 0 ≤ d.n ∧ d.n ≤ 9223372036854775807) ∨ (d.op = 2 ∧ l.length = 0 ∧ -4503599627370496 ≤ d.n ∧ d.n ≤ 4503599627370496) ∨ (d.op = 3 ∧ l.length = 0 ∧ d.n = 0 ∧ d.s.length ≤ 16384) ∨ (d.op = 4 ∧ l.length = 1 ∧ d.n = 0) ∨
   ((d.op = 5 ∨ d.op = 11) ∧ l.length = 2 ∧ d.n = 0) ∨ (d.op = 6 ∧ l.length ≤ 1000 ∧ d.n = 0) ∨ ((d.op = 7 ∨ d.op = 8) ∧ l.length = 1 ∧ 0 ≤ d.n ∧ d.n ≤ 999) ∨ (d.op = 9 ∧ 2 ≤ l.length ∧ l.length ≤ 1001 ∧ d.n = 0) ∨
   (d.op = 10 ∧ l.length = 1 ∧ d.n = 0 ∧ ∃ y, l[0]? = some y ∧ y.dat.op = 4) ∨ (d.op = 12 ∧ 1 ≤ d.n ∧ d.n ≤ 14 ∧ l.length = arityN d.n) ∨ (d.op = 13 ∧ l.length = 0 ∧ 1 ≤ d.n ∧ d.n ≤ 1000000))
mutual
def formE : E → Prop
  | .mk d l => nodeP d l ∧ formEL l
def formEL : List E → Prop
  | [] => True
  | t :: r => formE t ∧ formEL r
end
theorem formEL_iff : ∀ {l : List E}, formEL l ↔ ∀ y ∈ l, formE y
  | [] => by simp [formEL]
  | t :: r => by simp [formEL, formEL_iff (l := r)]
theorem formE_iff {d : ExpD} {l : List E} : formE (.mk d l) ↔ nodeP d l ∧ ∀ y ∈ l, formE y := by rw [formE, formEL_iff]
theorem formE_un {t : E} (h : formE t) : nodeP t.dat t.kids ∧ ∀ y ∈ t.kids, formE y := by
  rw [t.eta] at h
  exact formE_iff.1 h
def validE (x : E) : Prop := formE x ∧ sizeE x ≤ 20000 ∧ depthE x ≤ 400
def bndN (op : Int) (j : Nat) : Nat := if op = 4 ∨ op = 10 then 1 else if (op = 11 ∨ op = 9) ∧ 0 < j then 1 else 0
mutual
def FV : E → Nat → Prop
  | .mk d l, i => (d.op = 1 ∧ d.n = ((i : Nat) : Int)) ∨ FVL d.op 0 l i
def FVL : Int → Nat → List E → Nat → Prop
  | _, _, [], _ => False
  | op, j, t :: r, i => FV t (i + bndN op j) ∨ FVL op (j + 1) r i
end
theorem FVL_iff {op : Int} : ∀ {l : List E} {j i : Nat}, FVL op j l i ↔ ∃ k y, l[k]? = some y ∧ FV y (i + bndN op (j + k))
  | [], j, i => by simp [FVL]
  | t :: r, j, i => by
    rw [FVL, FVL_iff (l := r)]
    constructor
    · rintro (h | ⟨k, y, h1, h2⟩)
      · exact ⟨0, t, rfl, h⟩
      · exact ⟨k + 1, y, by simpa using h1, by rw [show j + (k + 1) = j + 1 + k by omega]; exact h2⟩
    · rintro ⟨k, y, h1, h2⟩
      cases k with
      | zero => simp at h1; subst h1; exact .inl h2
      | succ k => exact .inr ⟨k, y, by simpa using h1, by rw [show j + 1 + k = j + (k + 1) by omega]; exact h2⟩
theorem FV_iff {x : E} {i : Nat} : FV x i ↔ (x.dat.op = 1 ∧ x.dat.n = ((i : Nat) : Int)) ∨ ∃ k y, x.kids[k]? = some y ∧ FV y (i + bndN x.dat.op k) := by
  cases x with
  | mk d l => rw [FV, FVL_iff]; simp [Tr.dat, Tr.kids]
def scopedE (k : Nat) (x : E) : Prop := ∀ i, FV x i → i < k
theorem scoped_kid {k : Nat} {x : E} (h : scopedE k x) {j : Nat} {y : E} (hy : x.kids[j]? = some y) : scopedE (k + bndN x.dat.op j) y := by
  intro i hi
  by_cases q : i < bndN x.dat.op j
  · omega
  · have := h (i - bndN x.dat.op j) (FV_iff.2 (.inr ⟨j, y, hy, by rw [show i - bndN x.dat.op j + bndN x.dat.op j = i by omega]; exact hi⟩))
    omega
theorem scoped_var {k : Nat} {x : E} (h : scopedE k x) (hop : x.dat.op = 1) (hn : 0 ≤ x.dat.n) : x.dat.n.toNat < k := h _ (FV_iff.2 (.inl ⟨hop, by omega⟩))
end Go.Lam
/- What evaluation gives: values as things, outcomes; the invariants of a run. -/
set_option linter.unusedVariables false
namespace Go.Lam
open Go Go.Vc Go.RowKit Go.Syn
inductive Th where
  | mk (op n : Int) (s : Lab) (body : E) (self : Bool) (l env : List Th) : Th
namespace Th
def op : Th → Int | .mk o _ _ _ _ _ _ => o
def n : Th → Int | .mk _ n _ _ _ _ _ => n
def s : Th → Lab | .mk _ _ s _ _ _ _ => s
def body : Th → E | .mk _ _ _ b _ _ _ => b
def self : Th → Bool | .mk _ _ _ _ f _ _ => f
def l : Th → List Th | .mk _ _ _ _ _ l _ => l
def env : Th → List Th | .mk _ _ _ _ _ _ e => e
end Th
def noE : E := .mk ⟨0, 0, []⟩ []
def intT (n : Int) : Th := .mk 1 n [] noE false [] []
def textT (s : Lab) : Th := .mk 2 0 s noE false [] []
def recT (l : List Th) : Th := .mk 3 0 [] noE false l []
def injT (n : Int) (l : List Th) : Th := .mk 4 n [] noE false l []
def funT (body : E) (self : Bool) (env : List Th) : Th := .mk 7 0 [] body self [] env
def unitT : Th := recT []
def truthT (p : Prop) [Decidable p] : Th := injT (if p then 1 else 0) [unitT]
instance : Inhabited Th := ⟨unitT⟩
inductive Res (α : Type) where
  | ok (v : α) (left : Nat) (out : List Lab) : Res α
  | stop (op code : Int) (left : Nat) (out : List Lab) : Res α
def Res.bind {α β : Type} (r : Res α) (f : α → Nat → List Lab → Res β) : Res β := match r with
  | .ok v left out => f v left out
  | .stop op code left out => .stop op code left out
@[simp] theorem Res.bind_ok {α β : Type} (v : α) (left : Nat) (out : List Lab) (f : α → Nat → List Lab → Res β) : (Res.ok v left out).bind f = f v left out := rfl
@[simp] theorem Res.bind_stop {α β : Type} (op code : Int) (left : Nat) (out : List Lab) (f : α → Nat → List Lab → Res β) : (Res.stop op code left out).bind f = .stop op code left out := rfl
theorem Res.bind_assoc {α β γ : Type} (r : Res α) (f : α → Nat → List Lab → Res β) (k : β → Nat → List Lab → Res γ) : (r.bind f).bind k = r.bind fun v left out => (f v left out).bind k := by cases r <;> rfl
abbrev Ev := E → List Th → Nat → List Lab → Res Th
def evL (ev : Ev) : List E → List Th → Nat → List Lab → Res (List Th)
  | [], env, left, out => .ok [] left out
  | y :: r, env, left, out => (ev y env left out).bind fun t left out => (evL ev r env left out).bind fun ts left out => .ok (t :: ts) left out
theorem evL_app (ev : Ev) : ∀ (a b : List E) (env : List Th) (left : Nat) (out : List Lab), evL ev (a ++ b) env left out = (evL ev a env left out).bind fun ts left out => (evL ev b env left out).bind fun us left out => .ok (ts ++ us) left out
  | [], b, env, left, out => by
    show evL ev b env left out = (evL ev b env left out).bind _
    cases evL ev b env left out <;> rfl
  | y :: a, b, env, left, out => by
    show (ev y env left out).bind _ = ((ev y env left out).bind _).bind _
    rw [Res.bind_assoc]
    congr 1
    funext t left out
    rw [show a.append b = a ++ b from rfl, evL_app ev a b, Res.bind_assoc, Res.bind_assoc]
    congr 1
    funext ts left out
    rw [Res.bind_assoc]
    show _ = (evL ev b env left out).bind _
    cases evL ev b env left out <;> rfl
theorem evL_snoc (ev : Ev) (a : List E) (y : E) (env : List Th) (left : Nat) (out : List Lab) : evL ev (a ++ [y]) env left out = (evL ev a env left out).bind fun ts left out => (ev y env left out).bind fun t left out => .ok (ts ++ [t]) left out := by
  rw [evL_app]
  congr 1
  funext ts left out
  show ((ev y env left out).bind _).bind _ = _
  rw [Res.bind_assoc]
  rfl
theorem evL_take (ev : Ev) {l : List E} {j : Nat} {y : E} (h : l[j]? = some y) (env : List Th) (left : Nat) (out : List Lab) : evL ev (l.take (j + 1)) env left out = (evL ev (l.take j) env left out).bind fun ts left out => (ev y env left out).bind fun t left out => .ok (ts ++ [t]) left out := by
  rw [List.take_add_one, h, ← evL_snoc]; rfl
theorem evL_stop (ev : Ev) {l : List E} {j : Nat} {env : List Th} {left : Nat} {out : List Lab} {op code : Int} {left' : Nat} {out' : List Lab} (h : evL ev (l.take j) env left out = .stop op code left' out') : evL ev l env left out = .stop op code left' out' := by
  have e := evL_app ev (l.take j) (l.drop j) env left out
  rw [List.take_append_drop, h] at e
  exact e
def mostN : Int := 4503599627370496
def numberN (n : Int) (left : Nat) (out : List Lab) : Res Th := if mostN < n ∨ n < -mostN then .stop 2 2 left out else .ok (intT n) left out
def absN (n : Int) : Int := if n < 0 then 0 - n else n
def numbersN (op a b : Int) (left : Nat) (out : List Lab) : Res Th :=
  if op = 1 then numberN (a + b) left out else if op = 2 then numberN (a - b) left out
  else if op = 3 then (if a ≠ 0 ∧ Int.tdiv mostN (absN a) < absN b then .stop 2 2 left out else numberN (a * b) left out)
  else if op = 6 then numberN (0 - a) left out else if op = 7 then .ok (truthT (a < b)) left out else if op = 8 then .ok (truthT (a ≤ b)) left out else if op = 9 then .ok (truthT (a = b)) left out
  else if op = 13 then .ok (textT (Lib.itoa a)) left out
  else if b = 0 then .stop 2 3 left out else if op = 4 then numberN (Int.tdiv a b) left out else numberN (Int.tmod a b) left out
def textsN (op : Int) (a b : Lab) (left : Nat) (out : List Lab) : Res Th :=
  if op = 11 then numberN ((a.length : Nat) : Int) left out else if op = 12 then .ok (truthT (a = b)) left out
  else if op = 10 then (if 16384 < a.length + b.length then .stop 2 2 left out else .ok (textT (a ++ b)) left out)
  else if 1000 ≤ out.length then .stop 2 2 left out else .ok unitT left (out ++ [a])
def textual (n : Int) : Prop := n = 10 ∨ n = 11 ∨ n = 12 ∨ n = 14
instance (n : Int) : Decidable (textual n) := by unfold textual; infer_instance
def lastT (l : List Th) : Th := l.getD (l.length - 1) unitT
def primN (n : Int) (l : List Th) (left : Nat) (out : List Lab) : Res Th :=
  if ∀ t ∈ l, t.op = (if textual n then 2 else 1) then (if textual n then textsN n (l.getD 0 unitT).s (lastT l).s left out else numbersN n (l.getD 0 unitT).n (lastT l).n left out) else .stop 4 0 left out
def inner (f : Th) : List Th := if f.self then f :: f.env else f.env
def combN (ev : Ev) (x : E) (l : List Th) (left : Nat) (out : List Lab) : Res Th :=
  if x.dat.op = 5 then (if (l.getD 0 unitT).op = 7 then ev (l.getD 0 unitT).body (l.getD 1 unitT :: inner (l.getD 0 unitT)) left out else .stop 4 0 left out)
  else if x.dat.op = 6 then .ok (recT l) left out
  else if x.dat.op = 8 then .ok (injT x.dat.n l) left out
  else if x.dat.op = 7 then (if (l.getD 0 unitT).op = 3 ∧ x.dat.n < (((l.getD 0 unitT).l.length : Nat) : Int) then .ok ((l.getD 0 unitT).l.getD x.dat.n.toNat unitT) left out else .stop 4 0 left out)
  else primN x.dat.n l left out
def kid (x : E) (i : Nat) : E := x.kids.getD i noE
def stepN (ev : Ev) (x : E) (env : List Th) (left : Nat) (out : List Lab) : Res Th :=
  if x.dat.op = 1 then .ok (env.getD x.dat.n.toNat unitT) left out
  else if x.dat.op = 2 then .ok (intT x.dat.n) left out
  else if x.dat.op = 3 then .ok (textT x.dat.s) left out
  else if x.dat.op = 4 then .ok (funT (kid x 0) false env) left out
  else if x.dat.op = 10 then (if left = 0 then .stop 3 0 0 out else .ok (funT (kid (kid x 0) 0) true env) (left - 1) out)
  else if x.dat.op = 13 then .stop 2 x.dat.n left out
  else if x.dat.op = 11 then (ev (kid x 0) env left out).bind fun t left out => ev (kid x 1) (t :: env) left out
  else if x.dat.op = 9 then (ev (kid x 0) env left out).bind fun t left out => if t.op = 4 ∧ t.n + 1 < ((x.kids.length : Nat) : Int) then ev (kid x (t.n + 1).toNat) (t.l.getD 0 unitT :: env) left out else .stop 4 0 left out
  else (evL ev x.kids env left out).bind fun ts left out => combN ev x ts left out
def evalN : Nat → Ev
  | 0, _, _, _, out => .stop 3 0 0 out
  | d + 1, x, env, left, out => if left = 0 then .stop 3 0 0 out else stepN (evalN d) x env (left - 1) out
inductive OkT : Th → Prop
  | int (n : Int) : -mostN ≤ n → n ≤ mostN → OkT (intT n)
  | text (s : Lab) : s.length ≤ 16384 → OkT (textT s)
  | record (l : List Th) : l.length ≤ 1000 → (∀ t ∈ l, OkT t) → OkT (recT l)
  | inject (n : Int) (t : Th) : 0 ≤ n → n ≤ 999 → OkT t → OkT (injT n [t])
  | func (body : E) (self : Bool) (env : List Th) : formE body → scopedE (env.length + (if self then 1 else 0) + 1) body → (∀ t ∈ env, OkT t) → OkT (funT body self env)
theorem ok_unit : OkT unitT := .record [] (by simp) (by simp)
theorem ok_truth (p : Prop) [Decidable p] : OkT (truthT p) := by
  unfold truthT
  split
  · exact .inject _ _ (by omega) (by omega) ok_unit
  · exact .inject _ _ (by omega) (by omega) ok_unit
theorem ok_inner {f : Th} (h : OkT f) : ∀ t ∈ inner f, OkT t := by
  unfold inner
  intro t ht
  cases h with
  | func body self env hb hs he =>
    cases self
    · exact he t ht
    · rcases List.mem_cons.1 ht with rfl | ht
      · exact .func body true env hb hs he
      · exact he t ht
  | _ => simp [intT, textT, recT, injT, Th.self, Th.env] at ht
theorem inner_len {body : E} {self : Bool} {env : List Th} : (inner (funT body self env)).length = env.length + (if self then 1 else 0) := by
  cases self <;> simp [inner, funT, Th.self, Th.env]
end Go.Lam
/- What holds of the values of an evaluation. -/
set_option linter.unusedVariables false
namespace Go.Lam
open Go Go.Vc Go.RowKit Go.Syn
def OkRes (left : Nat) : Res Th → Prop
  | .ok t left' out => OkT t ∧ left' ≤ left ∧ out.length ≤ 1000
  | .stop op code left' out => left' ≤ left ∧ out.length ≤ 1000 ∧ (op = 2 ∨ op = 3 ∨ op = 4)
def OkResL (left k : Nat) : Res (List Th) → Prop
  | .ok ts left' out => (∀ t ∈ ts, OkT t) ∧ ts.length = k ∧ left' ≤ left ∧ out.length ≤ 1000
  | .stop op code left' out => left' ≤ left ∧ out.length ≤ 1000 ∧ (op = 2 ∨ op = 3 ∨ op = 4)
theorem OkRes.mono {a b : Nat} (h : a ≤ b) : ∀ {r : Res Th}, OkRes a r → OkRes b r
  | .ok _ _ _, ⟨h1, h2, h3⟩ => ⟨h1, by omega, h3⟩
  | .stop _ _ _ _, ⟨h1, h2⟩ => ⟨by omega, h2⟩
theorem OkRes.bind {left : Nat} {r : Res Th} {f : Th → Nat → List Lab → Res Th} (h : OkRes left r) (hf : ∀ t left' out, OkT t → left' ≤ left → out.length ≤ 1000 → OkRes left' (f t left' out)) : OkRes left (r.bind f) := by
  cases r with
  | ok t l o => exact (hf t l o h.1 h.2.1 h.2.2).mono h.2.1
  | stop => exact h
def EvOk (ev : Ev) : Prop := ∀ x env left out, formE x → scopedE env.length x → (∀ t ∈ env, OkT t) → out.length ≤ 1000 → OkRes left (ev x env left out)
section
variable {ev : Ev} (H : EvOk ev)
include H
theorem evL_ok : ∀ (l : List E) (env : List Th) (left : Nat) (out : List Lab), (∀ y ∈ l, formE y ∧ scopedE env.length y) → (∀ t ∈ env, OkT t) → out.length ≤ 1000 → OkResL left l.length (evL ev l env left out)
  | [], env, left, out, _, _, ho => ⟨by simp, rfl, Nat.le_refl _, ho⟩
  | y :: r, env, left, out, hl, he, ho => by
    have h1 := H y env left out (hl y (by simp)).1 (hl y (by simp)).2 he ho
    show OkResL left (r.length + 1) ((ev y env left out).bind _)
    cases hr : ev y env left out with
    | stop => rw [hr] at h1; exact h1
    | ok t l1 o1 =>
      rw [hr] at h1
      have h2 := evL_ok r env l1 o1 (fun z hz => hl z (by simp [hz])) he h1.2.2
      show OkResL left (r.length + 1) ((evL ev r env l1 o1).bind _)
      cases hr2 : evL ev r env l1 o1 with
      | stop => rw [hr2] at h2; exact ⟨by have := h2.1; have := h1.2.1; omega, h2.2⟩
      | ok ts l2 o2 =>
        rw [hr2] at h2
        exact ⟨fun t' ht => (List.mem_cons.1 ht).elim (fun e => e ▸ h1.1) (h2.1 t'), by simp [h2.2.1], by have := h2.2.2.1; have := h1.2.1; omega, h2.2.2.2⟩
end
theorem number_ok (n : Int) (left : Nat) (out : List Lab) (ho : out.length ≤ 1000) : OkRes left (numberN n left out) := by
  unfold numberN
  split
  · exact ⟨Nat.le_refl _, ho, .inl rfl⟩
  · exact ⟨.int n (by omega) (by omega), Nat.le_refl _, ho⟩
theorem ok_int {t : Th} (h : OkT t) (e : t.op = 1) : ∃ n, t = intT n ∧ -mostN ≤ n ∧ n ≤ mostN := by
  cases h with
  | int n h1 h2 => exact ⟨n, rfl, h1, h2⟩
  | _ => simp [textT, recT, injT, funT, Th.op] at e
theorem ok_text {t : Th} (h : OkT t) (e : t.op = 2) : ∃ s, t = textT s ∧ s.length ≤ 16384 := by
  cases h with
  | text s h1 => exact ⟨s, rfl, h1⟩
  | _ => simp [intT, recT, injT, funT, Th.op] at e
theorem ok_rec {t : Th} (h : OkT t) (e : t.op = 3) : ∃ l, t = recT l ∧ l.length ≤ 1000 ∧ ∀ u ∈ l, OkT u := by
  cases h with
  | record l h1 h2 => exact ⟨l, rfl, h1, h2⟩
  | _ => simp [intT, textT, injT, funT, Th.op] at e
theorem ok_inj {t : Th} (h : OkT t) (e : t.op = 4) : ∃ n u, t = injT n [u] ∧ 0 ≤ n ∧ n ≤ 999 ∧ OkT u := by
  cases h with
  | inject n u h1 h2 h3 => exact ⟨n, u, rfl, h1, h2, h3⟩
  | _ => simp [intT, textT, recT, funT, Th.op] at e
theorem ok_fun {t : Th} (h : OkT t) (e : t.op = 7) : ∃ body self env, t = funT body self env ∧ formE body ∧ scopedE (env.length + (if self then 1 else 0) + 1) body ∧ ∀ u ∈ env, OkT u := by
  cases h with
  | func body self env h1 h2 h3 => exact ⟨body, self, env, rfl, h1, h2, h3⟩
  | _ => simp [intT, textT, recT, injT, Th.op] at e
theorem getD_mem {α : Type} {l : List α} {i : Nat} {x : α} (h : i < l.length) : l.getD i x ∈ l := by
  rw [List.getD_eq_getElem?_getD, List.getElem?_eq_getElem h]
  exact List.getElem_mem h
theorem getD_ok {l : List Th} (h : ∀ t ∈ l, OkT t) (i : Nat) : OkT (l.getD i unitT) := by
  by_cases q : i < l.length
  · exact h _ (getD_mem q)
  · rw [List.getD_eq_getElem?_getD, List.getElem?_eq_none (by omega)]
    exact ok_unit
theorem numbers_ok (op a b : Int) (left : Nat) (out : List Lab) (ho : out.length ≤ 1000) (h0 : -mostN ≤ a) (h1 : a ≤ mostN) : OkRes left (numbersN op a b left out) := by
  unfold mostN at h0 h1
  unfold numbersN
  have tr : ∀ (p : Prop) [Decidable p], OkRes left (.ok (truthT p) left out) := fun p _ => ⟨ok_truth p, Nat.le_refl _, ho⟩
  repeat' (first | exact number_ok _ _ _ ho | exact tr _ | exact ⟨Nat.le_refl _, ho, .inl rfl⟩ | exact ⟨.text _ (by have := Go.Lib.itoa_length_le a (by omega) (by omega); omega), Nat.le_refl _, ho⟩ | split)
theorem texts_ok (op : Int) (a b : Lab) (left : Nat) (out : List Lab) (ho : out.length ≤ 1000) : OkRes left (textsN op a b left out) := by
  unfold textsN
  split
  · exact number_ok _ _ _ ho
  split
  · exact ⟨ok_truth _, Nat.le_refl _, ho⟩
  split
  · split
    · exact ⟨Nat.le_refl _, ho, .inl rfl⟩
    · exact ⟨.text _ (by rw [List.length_append]; omega), Nat.le_refl _, ho⟩
  · split
    · exact ⟨Nat.le_refl _, ho, .inl rfl⟩
    · exact ⟨ok_unit, Nat.le_refl _, by rw [List.length_append]; simp; omega⟩
theorem prim_ok (n : Int) (l : List Th) (left : Nat) (out : List Lab) (hl : ∀ t ∈ l, OkT t) (h0 : l ≠ []) (ho : out.length ≤ 1000) : OkRes left (primN n l left out) := by
  unfold primN
  by_cases q : textual n
  · rw [if_pos q, if_pos q]
    split
    · exact texts_ok _ _ _ _ _ ho
    · exact ⟨Nat.le_refl _, ho, .inr (.inr rfl)⟩
  · rw [if_neg q, if_neg q]
    split
    · next h =>
      have hp : 0 < l.length := List.length_pos_iff.2 h0
      have hm := getD_mem (x := unitT) hp
      obtain ⟨a, e1, e2, e3⟩ := ok_int (hl _ hm) (h _ hm)
      rw [e1]
      exact numbers_ok _ _ _ _ _ ho e2 e3
    · exact ⟨Nat.le_refl _, ho, .inr (.inr rfl)⟩
theorem bnd_body {op : Int} (h : op = 4 ∨ op = 10) (j : Nat) : bndN op j = 1 := by unfold bndN; rw [if_pos h]
theorem bnd_first {op : Int} (h : op ≠ 4 ∧ op ≠ 10) : bndN op 0 = 0 := by unfold bndN; rw [if_neg (by omega), if_neg (by omega)]
theorem bnd_more {op : Int} (h : op = 11 ∨ op = 9) {j : Nat} (hj : 0 < j) : bndN op j = 1 := by unfold bndN; rw [if_neg (by omega), if_pos ⟨h, hj⟩]
theorem bnd_none {op : Int} (h : op ≠ 4 ∧ op ≠ 10 ∧ op ≠ 11 ∧ op ≠ 9) (j : Nat) : bndN op j = 0 := by unfold bndN; rw [if_neg (by omega), if_neg (by omega)]
theorem kid_get {x : E} {i : Nat} (h : i < x.kids.length) : x.kids[i]? = some (kid x i) := by
  unfold kid
  rw [List.getD_eq_getElem?_getD, List.getElem?_eq_getElem h]
  rfl
theorem kid_form {x : E} (h : formE x) {i : Nat} (hi : i < x.kids.length) : formE (kid x i) := (formE_un h).2 _ (List.mem_of_getElem? (kid_get hi))
theorem node_len {x : E} (h : formE x) : (x.dat.op = 4 → x.kids.length = 1) ∧ (x.dat.op = 5 ∨ x.dat.op = 11 → x.kids.length = 2) ∧ (x.dat.op = 7 ∨ x.dat.op = 8 → x.kids.length = 1 ∧ 0 ≤ x.dat.n ∧ x.dat.n ≤ 999) ∧ (x.dat.op = 9 → 2 ≤ x.kids.length ∧ x.kids.length ≤ 1001) ∧ (x.dat.op = 10 → x.kids.length = 1 ∧ (kid x 0).dat.op = 4) ∧
    (x.dat.op = 12 → 1 ≤ x.dat.n ∧ x.dat.n ≤ 14 ∧ x.kids.length = arityN x.dat.n) ∧ (x.dat.op = 6 → x.kids.length ≤ 1000) ∧ (x.dat.op = 1 → 0 ≤ x.dat.n ∧ x.dat.n ≤ 9223372036854775807) ∧ (x.dat.op = 2 → -mostN ≤ x.dat.n ∧ x.dat.n ≤ mostN) ∧ (x.dat.op = 3 → x.dat.s.length ≤ 16384) ∧
    (1 ≤ x.dat.op ∧ x.dat.op ≤ 13) ∧ x.kids.length ≤ 1001 := by
  have hn := (formE_un h).1.2
  have ha : arityN x.dat.n ≤ 2 := by unfold arityN; split <;> omega
  unfold mostN
  have h10 : x.dat.op = 10 → x.kids.length = 1 ∧ (kid x 0).dat.op = 4 := by
    intro e
    rcases hn with h | h | h | h | h | h | h | h | h | h | h <;> first | (exfalso; omega) | skip
    obtain ⟨_, h1, _, y, hy, hy2⟩ := h
    have := kid_get (x := x) (i := 0) (by omega)
    rw [hy] at this
    cases this
    exact ⟨h1, hy2⟩
  refine ⟨?_, ?_, ?_, ?_, h10, ?_, ?_, ?_, ?_, ?_, ?_, ?_⟩ <;>
    (rcases hn with h | h | h | h | h | h | h | h | h | h | h <;> omega)
theorem comb_ok {ev : Ev} (H : EvOk ev) {x : E} (hx : formE x) (hop : x.dat.op = 5 ∨ x.dat.op = 6 ∨ x.dat.op = 7 ∨ x.dat.op = 8 ∨ x.dat.op = 12) {l : List Th} (hl : ∀ t ∈ l, OkT t) (hlen : l.length = x.kids.length) (left : Nat) (out : List Lab) (ho : out.length ≤ 1000) : OkRes left (combN ev x l left out) := by
  obtain ⟨_, n5, n7, _, _, n12, n6, _⟩ := node_len hx
  unfold combN
  split
  · next e =>
    split
    · next e7 =>
      obtain ⟨body, self, env, ef, hb, hs, he⟩ := ok_fun (getD_ok hl 0) e7
      have hin := ok_inner (getD_ok hl 0)
      rw [ef] at hin ⊢
      refine H body _ left out hb ?_ (fun t ht => (List.mem_cons.1 ht).elim (fun e => e ▸ getD_ok hl 1) (hin t)) ho
      rw [List.length_cons, inner_len]
      exact hs
    · exact ⟨Nat.le_refl _, ho, .inr (.inr rfl)⟩
  split
  · next e => exact ⟨.record l (by have := n6 e; omega) hl, Nat.le_refl _, ho⟩
  split
  · next e =>
    obtain ⟨k1, k2, k3⟩ := n7 (.inr e)
    obtain ⟨t, rfl⟩ : ∃ t, l = [t] := List.length_eq_one_iff.1 (by omega)
    exact ⟨.inject _ _ k2 k3 (hl t (by simp)), Nat.le_refl _, ho⟩
  split
  · split
    · next e3 =>
      obtain ⟨l2, e4, _, h6⟩ := ok_rec (getD_ok hl 0) e3.1
      rw [e4]
      exact ⟨getD_ok h6 _, Nat.le_refl _, ho⟩
    · exact ⟨Nat.le_refl _, ho, .inr (.inr rfl)⟩
  · refine prim_ok _ _ _ _ hl (fun e => ?_) ho
    have e12 : x.dat.op = 12 := by
      rcases hop with h | h | h | h | h
      · exact absurd h (by assumption)
      · exact absurd h (by assumption)
      · exact absurd h (by assumption)
      · exact absurd h (by assumption)
      · exact h
    obtain ⟨_, _, k3⟩ := n12 e12
    rw [e] at hlen
    have : 1 ≤ arityN x.dat.n := by unfold arityN; split <;> omega
    simp at hlen
    omega
theorem step_ok {ev : Ev} (H : EvOk ev) {x : E} (hx : formE x) {env : List Th} (hs : scopedE env.length x) (he : ∀ t ∈ env, OkT t) (left : Nat) (out : List Lab) (ho : out.length ≤ 1000) : OkRes left (stepN ev x env left out) := by
  obtain ⟨n4, n5, n7, n9, n10, n12, n6, n1, n2, n3, nr, nk⟩ := node_len hx
  have hk := fun {i : Nat} (hi : i < x.kids.length) => And.intro (kid_form hx hi) (scoped_kid hs (kid_get hi))
  have cons : ∀ {t : Th}, OkT t → ∀ u ∈ t :: env, OkT u := fun ht u hu => (List.mem_cons.1 hu).elim (fun e => e ▸ ht) (he u)
  unfold stepN
  split
  · next e => exact ⟨getD_ok he _, Nat.le_refl _, ho⟩
  split
  · next e => exact ⟨.int _ (n2 e).1 (n2 e).2, Nat.le_refl _, ho⟩
  split
  · next e => exact ⟨.text _ (n3 e), Nat.le_refl _, ho⟩
  split
  · next e =>
    have := hk (i := 0) (by have := n4 e; omega)
    rw [bnd_body (.inl e)] at this
    exact ⟨.func _ false _ this.1 (by simpa using this.2) he, Nat.le_refl _, ho⟩
  split
  · next e =>
    split
    · exact ⟨by omega, ho, .inr (.inl rfl)⟩
    · have h1 := hk (i := 0) (by have := n10 e; omega)
      have h4 := (n10 e).2
      have hk1 := (node_len h1.1).1 h4
      have h2 := And.intro (kid_form h1.1 (i := 0) (by omega)) (scoped_kid h1.2 (kid_get (i := 0) (by omega)))
      rw [bnd_body (.inr e), bnd_body (.inl h4)] at h2
      exact ⟨.func _ true _ h2.1 (by simpa using h2.2) he, by omega, ho⟩
  split
  · exact ⟨Nat.le_refl _, ho, .inl rfl⟩
  split
  · next e =>
    have hlen := n5 (.inr e)
    have h0 := hk (i := 0) (by omega)
    have h1 := hk (i := 1) (by omega)
    rw [bnd_first (by omega)] at h0
    rw [bnd_more (.inl e) (by omega)] at h1
    exact (H _ env left out h0.1 h0.2 he ho).bind fun t l1 o1 ht _ ho1 => H _ (t :: env) l1 o1 h1.1 (by simpa using h1.2) (cons ht) ho1
  split
  · next e =>
    obtain ⟨k1, k2⟩ := n9 e
    have h0 := hk (i := 0) (by omega)
    rw [bnd_first (by omega)] at h0
    refine (H _ env left out h0.1 h0.2 he ho).bind fun t l1 o1 ht _ ho1 => ?_
    split
    · next e4 =>
      obtain ⟨n, u, rfl, k3, k4, hu⟩ := ok_inj ht e4.1
      have e5 : n + 1 < ((x.kids.length : Nat) : Int) := e4.2
      have hj := hk (i := (n + 1).toNat) (by omega)
      rw [bnd_more (.inr e) (by omega)] at hj
      exact H _ (u :: env) l1 o1 hj.1 hj.2 (cons hu) ho1
    · exact ⟨Nat.le_refl _, ho1, .inr (.inr rfl)⟩
  · next e1 e2 e3 e4 e10 e13 e11 e9 =>
    have hop : x.dat.op = 5 ∨ x.dat.op = 6 ∨ x.dat.op = 7 ∨ x.dat.op = 8 ∨ x.dat.op = 12 := by omega
    have hb : ∀ j, bndN x.dat.op j = 0 := bnd_none (by omega)
    have hl : ∀ y ∈ x.kids, formE y ∧ scopedE env.length y := by
      intro y hy
      obtain ⟨j, hj, rfl⟩ := List.mem_iff_getElem.1 hy
      have := scoped_kid hs (List.getElem?_eq_getElem hj)
      rw [hb] at this
      exact ⟨(formE_un hx).2 _ hy, this⟩
    have h1 := evL_ok H x.kids env left out hl he ho
    cases hr : evL ev x.kids env left out with
    | stop => rw [hr] at h1; exact h1
    | ok ts l1 o1 =>
      rw [hr] at h1
      exact (comb_ok H hx hop h1.1 h1.2.1 l1 o1 h1.2.2.2).mono h1.2.2.1
theorem eval_ok : ∀ d, EvOk (evalN d)
  | 0 => fun x env left out _ _ _ ho => ⟨by omega, ho, .inr (.inl rfl)⟩
  | d + 1 => fun x env left out hx hs he ho => by
    unfold evalN
    split
    · exact ⟨by omega, ho, .inr (.inl rfl)⟩
    · exact (step_ok (eval_ok d) hx hs he (left - 1) out ho).mono (by omega)
end Go.Lam
/- Values and environments in memory; the machine. -/
set_option linter.unusedVariables false
namespace Go.Lam
open Go Go.Vc Go.RowKit Go.Syn Go.Proofs Go.Sort
theorem frozP_stp {g g' : G} {M p : Nat → Prop} (h : Stp g.size M g g') (hp : ∀ b, p b → g.w.heap.size ≤ b) : Stp g.size M g (g'.frozP p) :=
  ⟨h.le.trans (frozP_le g' p), h.x, h.keepX, h.os, h.tape, h.output, h.same, fun b hb hm i => ⟨fun k => (h.d b hb hm i).1 k.1, fun k => ⟨(h.d b hb hm i).2 k, fun q => by have := hp b q; have : b < g.w.heap.size := hb; omega⟩⟩⟩
theorem CallsX.frz {P : Program} {k : FuncId} {args : Array Value} {g : G} {M : Nat → Prop} {Q : Value → G → Prop} {R : List PanicEntry → G → Prop}
    (h : CallsX P k args g M (fun v g' => ∃ p : Nat → Prop, (∀ b, p b → g.w.heap.size ≤ b) ∧ Q v (g'.frozP p)) (fun ch g' => ∃ p : Nat → Prop, (∀ b, p b → g.w.heap.size ≤ b) ∧ R ch (g'.frozP p))) : CallsX P k args g M Q R := by
  refine Calls.mono h ?_
  rintro e w' ⟨g', rfl, hs, ⟨v, rfl, p, hp, hq⟩ | ⟨ch, rfl, p, hp, hq⟩⟩
  · exact ⟨g'.frozP p, rfl, frozP_stp hs hp, .inl ⟨v, rfl, hq⟩⟩
  · exact ⟨g'.frozP p, rfl, frozP_stp hs hp, .inr ⟨ch, rfl, hq⟩⟩
theorem CallsP.frz {P : Program} {k : FuncId} {args : Array Value} {g : G} {Q : Value → G → Prop}
    (h : CallsP P k args g (fun v g' => ∃ p : Nat → Prop, (∀ b, p b → g.w.heap.size ≤ b) ∧ Q v (g'.frozP p))) : CallsP P k args g Q := by
  refine Calls.mono h ?_
  rintro e w' ⟨v, g', rfl, rfl, hs, p, hp, hq⟩
  exact ⟨v, g'.frozP p, rfl, rfl, frozP_stp hs hp, hq⟩
theorem G.ext' {g g' : G} (hw : g.w = g'.w) (hX : g.X = g'.X) (hD : g.D = g'.D) : g = g' := by
  cases g; cases g'
  cases hw; cases hX; cases hD
  rfl
theorem CallsX.thawP {P : Program} {k : FuncId} {args : Array Value} {g : G} {M p : Nat → Prop} {Q : Value → G → Prop} {R : List PanicEntry → G → Prop} (hb : ∀ b, p b → b < g.w.heap.size ∧ ¬ M b) (h : CallsX P k args (g.frozP p) M Q R) :
    CallsX P k args g M (fun v g' => Q v (g'.frozP p)) (fun ch g' => R ch (g'.frozP p)) := by
  refine Calls.mono h ?_
  rintro e w' ⟨g1, rfl, hs, hq⟩
  have hsz : g.w.heap.size ≤ g1.w.heap.size := hs.le.size
  let g' : G := ⟨g1.w, g1.X, fun x i => g1.D x i ∨ (p x ∧ g.D x i), g1.hX, fun x i hh => by
    rcases hh with hh | ⟨_, hh⟩
    · exact g1.hD x i hh
    · exact Nat.lt_of_lt_of_le (g.hD x i hh) hsz⟩
  have hst : Stp g.size M g g' := by
    refine ⟨⟨hsz, ?_, ?_, ?_⟩, hs.x, hs.keepX, hs.os, hs.tape, hs.output, hs.same, ?_⟩
    · rintro a v ⟨h1, h2, h3⟩
      obtain ⟨k1, k2, k3⟩ := hs.le.cell a v ⟨h1, h2, fun k => h3 k.1⟩
      refine ⟨k1, k2, ?_⟩
      rintro (k | ⟨_, k⟩)
      · exact k3 k
      · exact h3 k
    · rintro x m n ⟨h1, h2, h3⟩
      obtain ⟨k1, k2, k3⟩ := hs.le.obj x m n ⟨h1, h2, fun k => h3 k.1⟩
      refine ⟨k1, k2, ?_⟩
      rintro (k | ⟨_, k⟩)
      · exact k3 k
      · exact h3 k
    · rintro x o ⟨ty, fr, h1, h2, h3⟩
      obtain ⟨ty2, fr2, k1, k2, k3⟩ := hs.le.blk x o ⟨ty, fr, h1, h2, fun i k => h3 i k.1⟩
      refine ⟨ty2, fr2, k1, k2, fun i => ?_⟩
      rintro (k | ⟨_, k⟩)
      · exact k3 i k
      · exact h3 i k
    · intro x hx hn i
      have := hs.d x hx hn i
      show (g1.D x i ∨ (p x ∧ g.D x i)) ↔ _
      rw [this]
      show ((g.D x i ∧ ¬ p x) ∨ (p x ∧ g.D x i)) ↔ _
      by_cases e : p x <;> simp [e]
  have e1 : g'.frozP p = g1 := by
    refine G.ext' rfl rfl ?_
    funext x i
    refine propext ?_
    show ((g1.D x i ∨ (p x ∧ g.D x i)) ∧ ¬ p x) ↔ g1.D x i
    constructor
    · rintro ⟨k | ⟨q, _⟩, hn⟩
      · exact k
      · exact absurd q hn
    · intro k
      refine ⟨.inl k, fun q => ?_⟩
      obtain ⟨h1, h2⟩ := hb x q
      exact ((hs.d x h1 h2 i).1 k).2 q
  refine ⟨g', rfl, hst, ?_⟩
  show (∃ v, e = Ending.returned v ∧ Q v (g'.frozP p)) ∨ ∃ ch, e = Ending.panicked ch ∧ R ch (g'.frozP p)
  rw [e1]
  exact hq
def Chain (g : G) : Option Addr → List (Option Addr) → Prop
  | _, [] => True
  | p, v :: r => ∃ c nx, p = some c ∧ Live g c (.pointer v) ∧ Live g (Addr.add c 1) (.pointer nx) ∧ Chain g nx r
theorem Chain.mono {g g' : G} (m : Le g g') : ∀ {cs : List (Option Addr)} {p : Option Addr}, Chain g p cs → Chain g' p cs
  | [], _, _ => trivial
  | v :: r, p, ⟨c, nx, h1, h2, h3, h4⟩ => ⟨c, nx, h1, h2.mono m, h3.mono m, Chain.mono m h4⟩
abbrev vrow (t : Th) (la : Option Addr) (ln lc : Nat) (ba : Option Addr) (bn bc : Nat) (ep : Option Addr) : List Value :=
  [.int .i64 t.op, .int .i64 t.n, .string (bstr t.s), .slice la ln lc, .int .i64 t.body.dat.op, .int .i64 t.body.dat.n, .string (bstr t.body.dat.s), .slice ba bn bc, .pointer ep]
inductive VP (g : G) : Option Addr → Th → Prop
  | mk (ad : Addr) (t : Th) (la : Option Addr) (ln lc : Nat) (ba : Option Addr) (bn bc : Nat) (ep : Option Addr) (ps cs : List (Option Addr)) :
    (∀ (j : Nat) (v : Value), (vrow t la ln lc ba bn bc ep)[j]? = some v → Live g (Addr.add ad j) v) →
    Sl g 1 la ln lc (ps.map Value.pointer) → ps.length = t.l.length → (∀ (i : Nat) (p : Option Addr) (u : Th), ps[i]? = some p → t.l[i]? = some u → VP g p u) →
    SlE expE g ba bn bc t.body.kids →
    (t.self = false → Chain g ep cs) → (t.self = true → ∃ c nx, ep = some c ∧ Live g c (.pointer (some ad)) ∧ Live g (Addr.add c 1) (.pointer nx) ∧ Chain g nx cs) →
    cs.length = t.env.length → (∀ (i : Nat) (p : Option Addr) (u : Th), cs[i]? = some p → t.env[i]? = some u → VP g p u) → VP g (some ad) t
theorem VP.mono {g g' : G} (m : Le g g') {p : Option Addr} {t : Th} (h : VP g p t) : VP g' p t := by
  induction h with
  | mk ad t la ln lc ba bn bc ep ps cs h1 h2 h3 _ h5 h6 h7 h8 _ ih1 ih2 =>
    exact .mk ad t la ln lc ba bn bc ep ps cs (fun j v hv => (h1 j v hv).mono m) (h2.mono m) h3 ih1 (h5.mono m) (fun e => (h6 e).mono m)
      (fun e => by obtain ⟨c, nx, k1, k2, k3, k4⟩ := h7 e; exact ⟨c, nx, k1, k2.mono m, k3.mono m, k4.mono m⟩) h8 ih2
def EP (g : G) (p : Option Addr) (env : List Th) : Prop := ∃ cs : List (Option Addr), Chain g p cs ∧ cs.length = env.length ∧ ∀ (i : Nat) (q : Option Addr) (u : Th), cs[i]? = some q → env[i]? = some u → VP g q u
theorem EP.mono {g g' : G} (m : Le g g') {p : Option Addr} {env : List Th} : EP g p env → EP g' p env
  | ⟨cs, h1, h2, h3⟩ => ⟨cs, h1.mono m, h2, fun i q u hq hu => (h3 i q u hq hu).mono m⟩
theorem EP.nil (g : G) (p : Option Addr) : EP g p [] := ⟨[], trivial, rfl, fun i q u h => by simp at h⟩
theorem EP.cons {g : G} {c : Addr} {v nx : Option Addr} {t : Th} {env : List Th} (h1 : Live g c (.pointer v)) (h2 : Live g (Addr.add c 1) (.pointer nx)) (hv : VP g v t) (he : EP g nx env) : EP g (some c) (t :: env) := by
  obtain ⟨cs, k1, k2, k3⟩ := he
  refine ⟨v :: cs, ⟨c, nx, rfl, h1, h2, k1⟩, by simp [k2], fun i q u hq hu => ?_⟩
  cases i with
  | zero => simp at hq hu; subst hq; subst hu; exact hv
  | succ i => exact k3 i q u (by simpa using hq) (by simpa using hu)
def VPs (g : G) (la : Option Addr) (ln lc : Nat) (l : List Th) : Prop := ∃ ps : List (Option Addr), Sl g 1 la ln lc (ps.map Value.pointer) ∧ ps.length = l.length ∧ ∀ (i : Nat) (p : Option Addr) (u : Th), ps[i]? = some p → l[i]? = some u → VP g p u
theorem VPs.mono {g g' : G} (m : Le g g') {la : Option Addr} {ln lc : Nat} {l : List Th} : VPs g la ln lc l → VPs g' la ln lc l
  | ⟨ps, h1, h2, h3⟩ => ⟨ps, h1.mono m, h2, fun i q u hq hu => (h3 i q u hq hu).mono m⟩
theorem VPs.nil (g : G) : VPs g none 0 0 [] := ⟨[], Sl.zero _ _, rfl, fun i q u h => by simp at h⟩
theorem VPs.len {g : G} {la : Option Addr} {ln lc : Nat} {l : List Th} : VPs g la ln lc l → l.length = ln
  | ⟨ps, h1, h2, _⟩ => by have := h1.len; simp at this; omega
theorem VP.get {g : G} {p : Option Addr} {t : Th} (h : VP g p t) : ∃ ad la ln lc ba bn bc ep, p = some ad ∧ (∀ (j : Nat) (v : Value), (vrow t la ln lc ba bn bc ep)[j]? = some v → Live g (Addr.add ad j) v) ∧ VPs g la ln lc t.l ∧ SlE expE g ba bn bc t.body.kids ∧ EP g ep (inner t) := by
  have hh := h
  cases h with
  | mk ad t la ln lc ba bn bc ep ps cs h1 h2 h3 h4 h5 h6 h7 h8 h9 =>
    refine ⟨ad, la, ln, lc, ba, bn, bc, ep, rfl, h1, ⟨ps, h2, h3, h4⟩, h5, ?_⟩
    unfold inner
    cases hs : t.self with
    | false => exact ⟨cs, h6 hs, h8, h9⟩
    | true =>
      obtain ⟨c, nx, rfl, k2, k3, k4⟩ := h7 hs
      exact EP.cons k2 k3 hh ⟨cs, k4, h8, h9⟩
theorem VP.new {g : G} {ad : Addr} {t : Th} {la : Option Addr} {ln lc : Nat} {ba : Option Addr} {bn bc : Nat} {ep : Option Addr} (h1 : ∀ j v, (vrow t la ln lc ba bn bc ep)[j]? = some v → Live g (Addr.add ad j) v) (h2 : VPs g la ln lc t.l) (h3 : SlE expE g ba bn bc t.body.kids) (hs : t.self = false) (he : EP g ep t.env) : VP g (some ad) t := by
  obtain ⟨ps, k1, k2, k3⟩ := h2
  obtain ⟨cs, e1, e2, e3⟩ := he
  exact .mk ad t la ln lc ba bn bc ep ps cs h1 k1 k2 k3 h3 (fun _ => e1) (fun e => by rw [hs] at e; cases e) e2 e3
theorem VPs.rd {g : G} {la : Option Addr} {ln lc : Nat} {l : List Th} (h : VPs g la ln lc l) {i : Int} (p : Nat) (hi : i = ((p : Nat) : Int)) {t : Th} (ht : l[p]? = some t) {K : Option Addr → Prop} (hk : ∀ q, VP g q t → K q) :
    derefP la fun ad => ∃ x : Option Addr, g.w.cell? (Addr.add ad (Int.toNat i * 1)) = some (.pointer x) ∧ K x := by
  subst hi
  obtain ⟨ps, h1, h2, h3⟩ := h
  have hp := (List.getElem?_eq_some_iff.1 ht).1
  have gp := List.getElem?_eq_getElem (show p < ps.length by omega)
  generalize ps[p] = q at gp
  cases la with
  | none =>
    have hlen := h1.len
    have h0 := h1.nil rfl
    have hle := h1.le
    rw [List.length_map] at hlen
    have := (List.getElem?_eq_some_iff.1 gp).1
    exfalso
    omega
  | some ad =>
    have := h1.at_ ad rfl p (.pointer q) (by rw [List.getElem?_map, gp]; rfl)
    refine ⟨q, ?_, hk q (h3 p q t gp ht)⟩
    rw [show Int.toNat ((p : Nat) : Int) * 1 = p by omega]
    exact this.1
theorem EP.un {g : G} {p : Option Addr} {t : Th} {env : List Th} (h : EP g p (t :: env)) : ∃ c v nx, p = some c ∧ Live g c (.pointer v) ∧ Live g (Addr.add c 1) (.pointer nx) ∧ VP g v t ∧ EP g nx env := by
  obtain ⟨cs, h1, h2, h3⟩ := h
  cases cs with
  | nil => simp at h2
  | cons v cs =>
    obtain ⟨c, nx, k1, k2, k3, k4⟩ := h1
    exact ⟨c, v, nx, k1, k2, k3, h3 0 v t rfl rfl, cs, k4, by simpa using h2, fun i q u hq hu => h3 (i + 1) q u (by simpa using hq) (by simpa using hu)⟩
def ptrE : El (Option Addr) where
  m := 1
  rep g r x := r = [.pointer x]
  len := by rintro g r x rfl; rfl
  mono := by rintro g g' r x k rfl; rfl
  one := by
    rintro g r x rfl u hu
    simp at hu
    subst hu
    rfl
theorem rws_ptr {g : G} {L : List Value} {ps : List (Option Addr)} (h : Rws ptrE g L ps) : L = ps.map Value.pointer := by
  obtain ⟨rs, rfl, h⟩ := h
  induction h with
  | nil => rfl
  | cons h1 h2 ih =>
    have e : _ = [Value.pointer _] := h1
    simp [e, ih]
theorem VPs.of {g : G} {la : Option Addr} {ln lc : Nat} {ps : List (Option Addr)} {l : List Th} (h : SlE ptrE g la ln lc ps) (hl : ps.length = l.length) (hv : ∀ (i : Nat) (p : Option Addr) (u : Th), ps[i]? = some p → l[i]? = some u → VP g p u) : VPs g la ln lc l := by
  obtain ⟨L, h1, h2⟩ := h.ex
  rw [rws_ptr h2] at h1
  exact ⟨ps, h1, hl, hv⟩
structure Mach (T : TypeId) (g : G) (mb fuel left : Nat) (op n : Int) (out : List Lab) (oa : Option Addr) (on oc : Nat) : Prop where
  blk : MutB g mb T [.int .i64 (((fuel : Nat) : Int) - ((left : Nat) : Int)), .int .i64 ((fuel : Nat) : Int), .slice oa on oc, .int .i64 op, .int .i64 n]
  row : MutR g 0 9 1 oa on oc (out.map encStr)
  apart : ¬ blkOf oa mb
def mset (mb : Nat) (oa : Option Addr) : Nat → Prop := fun b => b = mb ∨ blkOf oa b
namespace Mach
variable {T : TypeId} {g g' : G} {mb fuel left : Nat} {op n : Int} {out : List Lab} {oa : Option Addr} {on oc : Nat}
theorem but (h : Mach T g mb fuel left op n out oa on oc) {p : Nat → Prop} (k : But p g g') (h1 : ¬ p mb) (h2 : ∀ b, blkOf oa b → ¬ p b) : Mach T g' mb fuel left op n out oa on oc := ⟨h.blk.but k h1, h.row.but k h2, h.apart⟩
theorem ex (h : Mach T g mb fuel left op n out oa on oc) (k : Ex g g') : Mach T g' mb fuel left op n out oa on oc := h.but (k.but nobody) (fun h => h) (fun _ _ h => h)
theorem frozP (h : Mach T g mb fuel left op n out oa on oc) {p : Nat → Prop} (h1 : ¬ p mb) (h2 : ∀ b, blkOf oa b → ¬ p b) : Mach T (g.frozP p) mb fuel left op n out oa on oc :=
  h.but (p := p) ⟨Nat.le_refl _, fun _ _ hx => hx, fun _ _ _ _ => rfl, fun b _ _ hp i => ⟨fun k => k.1, fun k => ⟨k, hp⟩⟩⟩ h1 h2
theorem lt (h : Mach T g mb fuel left op n out oa on oc) {b : Nat} (hb : mset mb oa b) : b < g.w.heap.size := by
  rcases hb with rfl | hb
  · exact h.blk.lt
  · exact h.row.lt hb
theorem nx (h : Mach T g mb fuel left op n out oa on oc) {b : Nat} (hb : mset mb oa b) : ¬ g.X b := by
  rcases hb with rfl | hb
  · exact h.blk.nx
  · exact h.row.nx hb
theorem d (h : Mach T g mb fuel left op n out oa on oc) {b : Nat} (hb : mset mb oa b) (i : Nat) : g.D b i := by
  rcases hb with rfl | ⟨ad, rfl, rfl⟩
  · exact h.blk.d i
  · rcases h.row.row with ⟨hh, _⟩ | ⟨b', cur, hh, _, h2, _⟩
    · cases hh
    · cases hh; exact h2.d i
theorem live (h : Mach T g mb fuel left op n out oa on oc) {ad : Addr} {v : Value} (hv : Live g ad v) : ¬ mset mb oa ad.block := fun hb => hv.2.2 (h.d hb _)
theorem len (h : Mach T g mb fuel left op n out oa on oc) : out.length = on := by have := h.row.len; simpa using this
end Mach
def MachS (T : TypeId) (g : G) (mb fuel left : Nat) (op n : Int) (out : List Lab) (oa0 : Option Addr) (sz : Nat) : Prop := ∃ oa on oc, Mach T g mb fuel left op n out oa on oc ∧ ∀ b, blkOf oa b → blkOf oa0 b ∨ sz ≤ b
theorem MachS.ex {T : TypeId} {g g' : G} {mb fuel left : Nat} {op n : Int} {out : List Lab} {oa0 : Option Addr} {sz : Nat} (k : Ex g g') : MachS T g mb fuel left op n out oa0 sz → MachS T g' mb fuel left op n out oa0 sz
  | ⟨oa, on, oc, h, h2⟩ => ⟨oa, on, oc, h.ex k, h2⟩
theorem MachS.base {T : TypeId} {g : G} {mb fuel left : Nat} {op n : Int} {out : List Lab} {oa0 oa1 : Option Addr} {sz sz1 : Nat} (hs : sz ≤ sz1) (ha : ∀ b, blkOf oa1 b → blkOf oa0 b ∨ sz ≤ b) : MachS T g mb fuel left op n out oa1 sz1 → MachS T g mb fuel left op n out oa0 sz
  | ⟨oa, on, oc, h, h2⟩ => ⟨oa, on, oc, h, fun b hb => (h2 b hb).elim (ha b) (fun hh => .inr (by omega))⟩
theorem mset_sub {mb : Nat} {oa0 oa : Option Addr} {sz : Nat} (h : ∀ b, blkOf oa b → blkOf oa0 b ∨ sz ≤ b) : ∀ b, b < sz → mset mb oa b → mset mb oa0 b := by
  rintro b hb (rfl | h2)
  · exact .inl rfl
  · rcases h b h2 with h3 | h3
    · exact .inr h3
    · omega
def PostV (T : TypeId) (mb fuel : Nat) (oa0 : Option Addr) (sz : Nat) (r : Res Th) (v : Value) (g' : G) : Prop := ∃ t left out p, r = .ok t left out ∧ v = .pointer p ∧ VP g' p t ∧ MachS T g' mb fuel left 1 0 out oa0 sz
def PostX (T W : TypeId) (mb fuel : Nat) (oa0 : Option Addr) (sz : Nat) (r : Res Th) (ch : List PanicEntry) (g' : G) : Prop := ∃ op code left out, r = .stop op code left out ∧ ch = [{ v := .iface W (.agg ⟨[]⟩), recovered := false }] ∧ MachS T g' mb fuel left op code out oa0 sz
end Go.Lam
/- How values are observed. -/
set_option linter.unusedVariables false
namespace Go.Lam
open Go Go.Vc Go.RowKit Go.Syn
def obsL (f : Th → Nat → Option (Sy × Nat)) : List Th → Nat → Option (List Sy × Nat)
  | [], left => some ([], left)
  | t :: r, left => (f t left).bind fun p => (obsL f r p.2).map fun q => (p.1 :: q.1, q.2)
theorem obsL_app (f : Th → Nat → Option (Sy × Nat)) : ∀ (a b : List Th) (left : Nat), obsL f (a ++ b) left = (obsL f a left).bind fun p => (obsL f b p.2).map fun q => (p.1 ++ q.1, q.2)
  | [], b, left => by
    show obsL f b left = (obsL f b left).map _
    cases obsL f b left <;> rfl
  | t :: a, b, left => by
    show (f t left).bind _ = ((f t left).bind _).bind _
    cases f t left with
    | none => rfl
    | some p =>
      show (obsL f (a ++ b) p.2).map _ = ((obsL f a p.2).map _).bind _
      rw [obsL_app f a b]
      cases obsL f a p.2 with
      | none => rfl
      | some q =>
        show ((obsL f b q.2).map _).map _ = (obsL f b q.2).map _
        cases obsL f b q.2 <;> rfl
theorem obsL_take (f : Th → Nat → Option (Sy × Nat)) {l : List Th} {j : Nat} {t : Th} (h : l[j]? = some t) (left : Nat) : obsL f (l.take (j + 1)) left = (obsL f (l.take j) left).bind fun p => (f t p.2).map fun q => (p.1 ++ [q.1], q.2) := by
  rw [List.take_add_one, h]
  show obsL f (l.take j ++ [t]) left = _
  rw [obsL_app]
  congr 1
  funext p
  show ((f t p.2).bind _).map _ = _
  cases f t p.2 <;> rfl
theorem obsL_none (f : Th → Nat → Option (Sy × Nat)) {l : List Th} {j : Nat} {left : Nat} (h : obsL f (l.take j) left = none) : obsL f l left = none := by
  have e := obsL_app f (l.take j) (l.drop j) left
  rw [List.take_append_drop, h] at e
  exact e
def obsN : Nat → Th → Nat → Option (Sy × Nat)
  | 0, _, _ => none
  | d + 1, t, left => if left = 0 then none else if t.op = 7 then some (.mk ⟨7, 0, [], []⟩ [], left - 1) else (obsL (obsN d) t.l (left - 1)).map fun p => (.mk ⟨t.op, t.n, t.s, []⟩ p.1, p.2)
theorem ok_l {t : Th} (h : OkT t) : t.l.length ≤ 1000 ∧ ∀ u ∈ t.l, OkT u := by
  cases h with
  | int => exact ⟨by simp [intT, Th.l], by simp [intT, Th.l]⟩
  | text => exact ⟨by simp [textT, Th.l], by simp [textT, Th.l]⟩
  | record l h1 h2 => exact ⟨h1, h2⟩
  | inject n t h1 h2 h3 => exact ⟨by simp [injT, Th.l], by simp [injT, Th.l]; exact h3⟩
  | func => exact ⟨by simp [funT, Th.l], by simp [funT, Th.l]⟩
theorem obs_left : ∀ d t left y left', obsN d t left = some (y, left') → left' ≤ left
  | 0, _, _, _, _, h => by cases h
  | d + 1, t, left, y, left', h => by
    unfold obsN at h
    split at h
    · cases h
    split at h
    · cases h; omega
    · have key : ∀ (l : List Th) (a : Nat) (p : List Sy × Nat), obsL (obsN d) l a = some p → p.2 ≤ a := by
        intro l
        induction l with
        | nil => intro a p hp; cases hp; exact Nat.le_refl _
        | cons u r ih =>
          intro a p hp
          change (obsN d u a).bind _ = some p at hp
          cases h1 : obsN d u a with
          | none => rw [h1] at hp; cases hp
          | some q =>
            rw [h1] at hp
            change (obsL (obsN d) r q.2).map _ = some p at hp
            cases h2 : obsL (obsN d) r q.2 with
            | none => rw [h2] at hp; cases hp
            | some s =>
              rw [h2] at hp
              cases hp
              have := obs_left d u a q.1 q.2 h1
              have := ih _ _ h2
              show s.2 ≤ a
              omega
      cases h2 : obsL (obsN d) t.l (left - 1) with
      | none => rw [h2] at h; cases h
      | some s =>
        rw [h2] at h
        cases h
        have := key _ _ _ h2
        omega
end Go.Lam
