/- The reference's values, as rows of cells. -/
import Derived.Test.YthlcdgpemjdgnaaGreatDoorLenv
import Derived.Test.YthlcdgpemjdgnaaGreatDoorLamA
set_option linter.unusedVariables false
namespace Go.Lam
open Go Go.Vc Go.RowKit Go.Syn
abbrev trow (t : Th) (la : Option Addr) (ln lc : Nat) (ba : Option Addr) (bn bc : Nat) (ea : Option Addr) (en ec : Nat) : List Value :=
  [.int .i64 t.op, .int .i64 t.n, .string (bstr t.s), .slice la ln lc, .int .i64 t.body.dat.op, .int .i64 t.body.dat.n, .string (bstr t.body.dat.s), .slice ba bn bc, .slice ea en ec, .bool t.self]
inductive TR (g : G) : List Value → Th → Prop
  | mk (t : Th) (la : Option Addr) (ln lc : Nat) (ba : Option Addr) (bn bc : Nat) (ea : Option Addr) (en ec : Nat) (Ls Es : List (List Value)) :
    Sl g 10 la ln lc Ls.flatten → Ls.length = t.l.length → (∀ (i : Nat) (r : List Value) (u : Th), Ls[i]? = some r → t.l[i]? = some u → TR g r u) →
    SlE expE g ba bn bc t.body.kids →
    Sl g 10 ea en ec Es.flatten → Es.length = t.env.reverse.length → (∀ (i : Nat) (r : List Value) (u : Th), Es[i]? = some r → t.env.reverse[i]? = some u → TR g r u) →
    TR g (trow t la ln lc ba bn bc ea en ec) t
theorem TR.mono {g g' : G} (m : Le g g') {r : List Value} {t : Th} (h : TR g r t) : TR g' r t := by
  induction h with
  | mk t la ln lc ba bn bc ea en ec Ls Es h1 h2 _ h4 h5 h6 _ ih1 ih2 => exact .mk t la ln lc ba bn bc ea en ec Ls Es (h1.mono m) h2 ih1 (h4.mono m) (h5.mono m) h6 ih2
def thE : El Th where
  m := 10
  rep := TR
  len := by rintro g r t ⟨⟩; rfl
  mono m h := h.mono m
  one := by
    rintro g r t ⟨⟩ u hu
    simp at hu
    rcases hu with rfl | rfl | rfl | rfl | rfl | rfl | rfl | rfl | rfl | rfl <;> rfl
theorem all2_of {α β : Type} {R : α → β → Prop} : ∀ {l : List α} {m : List β}, l.length = m.length → (∀ (i : Nat) (a : α) (b : β), l[i]? = some a → m[i]? = some b → R a b) → All2 R l m
  | [], [], _, _ => .nil
  | [], _ :: _, h, _ => by simp at h
  | _ :: _, [], h, _ => by simp at h
  | a :: l, b :: m, h, k => .cons (k 0 a b rfl rfl) (all2_of (by simpa using h) (fun i x y hx hy => k (i + 1) x y (by simpa using hx) (by simpa using hy)))
structure TRI (g : G) (t : Th) (la : Option Addr) (ln lc : Nat) (ba : Option Addr) (bn bc : Nat) (ea : Option Addr) (en ec : Nat) : Prop where
  l : SlE thE g la ln lc t.l
  b : SlE expE g ba bn bc t.body.kids
  e : SlE thE g ea en ec t.env.reverse
theorem TRI.mono {g g' : G} (m : Le g g') {t : Th} {la : Option Addr} {ln lc : Nat} {ba : Option Addr} {bn bc : Nat} {ea : Option Addr} {en ec : Nat} (h : TRI g t la ln lc ba bn bc ea en ec) : TRI g' t la ln lc ba bn bc ea en ec := ⟨h.l.mono m, h.b.mono m, h.e.mono m⟩
theorem TRI.exm {g g' : G} (m : Ex g g') {t : Th} {la : Option Addr} {ln lc : Nat} {ba : Option Addr} {bn bc : Nat} {ea : Option Addr} {en ec : Nat} (h : TRI g t la ln lc ba bn bc ea en ec) : TRI g' t la ln lc ba bn bc ea en ec := h.mono m.le
abbrev stV (fuel left : Nat) (oa : Option Addr) (on oc : Nat) (op code : Int) : Value := .agg ⟨[.int .i64 ((fuel : Nat) : Int), .int .i64 (((fuel : Nat) : Int) - ((left : Nat) : Int)), .slice oa on oc, .int .i64 op, .int .i64 code]⟩
def RefP (fuel : Nat) (r : Res Th) (v : Value) (g : G) : Prop := ∃ (t : Th) (la : Option Addr) (ln lc : Nat) (ba : Option Addr) (bn bc : Nat) (ea : Option Addr) (en ec : Nat) (oa : Option Addr) (on oc left : Nat) (op code : Int) (out : List Lab),
  v = .tuple ⟨[.agg ⟨trow t la ln lc ba bn bc ea en ec⟩, stV fuel left oa on oc op code]⟩ ∧ SlE strE g oa on oc out ∧ ((op = 0 ∧ code = 0 ∧ r = .ok t left out ∧ TRI g t la ln lc ba bn bc ea en ec) ∨ (op ≠ 0 ∧ r = .stop op code left out))
theorem RefP.exm {fuel : Nat} {r : Res Th} {v : Value} {g g' : G} (m : Ex g g') : RefP fuel r v g → RefP fuel r v g'
  | ⟨t, la, ln, lc, ba, bn, bc, ea, en, ec, oa, on, oc, left, op, code, out, h1, h2, h3⟩ => ⟨t, la, ln, lc, ba, bn, bc, ea, en, ec, oa, on, oc, left, op, code, out, h1, h2.exm m, h3.elim (fun h => .inl ⟨h.1, h.2.1, h.2.2.1, h.2.2.2.exm m⟩) .inr⟩
end Go.Lam
