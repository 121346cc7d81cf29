/- The reference's values, as rows of cells. -/
import Derived.Test.YthlcdgpemjdgnaaGreatDoorLenv
import Derived.Test.YthlcdgpemjdgnaaGreatDoorLamA
set_option linter.unusedVariables false
namespace Go.Lam
open Go Go.Vc Go.RowKit Go.Syn

abbrev trow (t : Th) (la : Option Addr) (ln lc : Nat) (ba : Option Addr) (bn bc : Nat) (ea : Option Addr) (en ec : Nat) : List Value :=
  [.int .i64 t.op, .int .i64 t.n, .string (bstr t.s), .slice la ln lc, .int .i64 t.body.dat.op, .int .i64 t.body.dat.n, .string (bstr t.body.dat.s), .slice ba bn bc, .slice ea en ec, .bool t.self]
inductive TR (g : G) : List Value → Th → Prop
  | mk (t : Th) (la : Option Addr) (ln lc : Nat) (ba : Option Addr) (bn bc : Nat) (ea : Option Addr) (en ec : Nat) (Ls Es : List (List Value)) :
    Sl g 10 la ln lc Ls.flatten → Ls.length = t.l.length → (∀ (i : Nat) (r : List Value) (u : Th), Ls[i]? = some r → t.l[i]? = some u → TR g r u) →
    SlE expE g ba bn bc t.body.kids →
    Sl g 10 ea en ec Es.flatten → Es.length = t.env.reverse.length → (∀ (i : Nat) (r : List Value) (u : Th), Es[i]? = some r → t.env.reverse[i]? = some u → TR g r u) →
    TR g (trow t la ln lc ba bn bc ea en ec) t
theorem TR.mono {g g' : G} (m : Le g g') {r : List Value} {t : Th} (h : TR g r t) : TR g' r t := by
  induction h with
  | mk t la ln lc ba bn bc ea en ec Ls Es h1 h2 _ h4 h5 h6 _ ih1 ih2 => exact .mk t la ln lc ba bn bc ea en ec Ls Es (h1.mono m) h2 ih1 (h4.mono m) (h5.mono m) h6 ih2
def thE : El Th where
  m := 10
  rep := TR
  len := by rintro g r t ⟨⟩; rfl
  mono m h := h.mono m
  one := by
    rintro g r t ⟨⟩ u hu
    simp at hu
    rcases hu with rfl | rfl | rfl | rfl | rfl | rfl | rfl | rfl | rfl | rfl <;> rfl
theorem all2_of {α β : Type} {R : α → β → Prop} : ∀ {l : List α} {m : List β}, l.length = m.length → (∀ (i : Nat) (a : α) (b : β), l[i]? = some a → m[i]? = some b → R a b) → All2 R l m
  | [], [], _, _ => .nil
  | [], _ :: _, h, _ => by simp at h
  | _ :: _, [], h, _ => by simp at h
  | a :: l, b :: m, h, k => .cons (k 0 a b rfl rfl) (all2_of (by simpa using h) (fun i x y hx hy => k (i + 1) x y (by simpa using hx) (by simpa using hy)))
/-- What the slices of a row show. -/
structure TRI (g : G) (t : Th) (la : Option Addr) (ln lc : Nat) (ba : Option Addr) (bn bc : Nat) (ea : Option Addr) (en ec : Nat) : Prop where
  l : SlE thE g la ln lc t.l
  b : SlE expE g ba bn bc t.body.kids
  e : SlE thE g ea en ec t.env.reverse
theorem TRI.mono {g g' : G} (m : Le g g') {t : Th} {la : Option Addr} {ln lc : Nat} {ba : Option Addr} {bn bc : Nat} {ea : Option Addr} {en ec : Nat} (h : TRI g t la ln lc ba bn bc ea en ec) : TRI g' t la ln lc ba bn bc ea en ec := ⟨h.l.mono m, h.b.mono m, h.e.mono m⟩
theorem TRI.exm {g g' : G} (m : Ex g g') {t : Th} {la : Option Addr} {ln lc : Nat} {ba : Option Addr} {bn bc : Nat} {ea : Option Addr} {en ec : Nat} (h : TRI g t la ln lc ba bn bc ea en ec) : TRI g' t la ln lc ba bn bc ea en ec := h.mono m.le
def zeroT : Th := .mk 0 0 [] noE false [] []
/-- What stands behind an evaluation of the reference. -/
abbrev stV (fuel left : Nat) (oa : Option Addr) (on oc : Nat) (op code : Int) : Value := .agg ⟨[.int .i64 ((fuel : Nat) : Int), .int .i64 (((fuel : Nat) : Int) - ((left : Nat) : Int)), .slice oa on oc, .int .i64 op, .int .i64 code]⟩
def RefP (fuel : Nat) (r : Res Th) (v : Value) (g : G) : Prop := ∃ (t : Th) (la : Option Addr) (ln lc : Nat) (ba : Option Addr) (bn bc : Nat) (ea : Option Addr) (en ec : Nat) (oa : Option Addr) (on oc left : Nat) (op code : Int) (out : List Lab),
  v = .tuple ⟨[.agg ⟨trow t la ln lc ba bn bc ea en ec⟩, stV fuel left oa on oc op code]⟩ ∧ SlE strE g oa on oc out ∧ ((op = 0 ∧ code = 0 ∧ r = .ok t left out ∧ TRI g t la ln lc ba bn bc ea en ec) ∨ (op ≠ 0 ∧ r = .stop op code left out))
theorem RefP.exm {fuel : Nat} {r : Res Th} {v : Value} {g g' : G} (m : Ex g g') : RefP fuel r v g → RefP fuel r v g'
  | ⟨t, la, ln, lc, ba, bn, bc, ea, en, ec, oa, on, oc, left, op, code, out, h1, h2, h3⟩ => ⟨t, la, ln, lc, ba, bn, bc, ea, en, ec, oa, on, oc, left, op, code, out, h1, h2.exm m, h3.elim (fun h => .inl ⟨h.1, h.2.1, h.2.2.1, h.2.2.2.exm m⟩) .inr⟩
/-- A result is used. -/
theorem RefP.use {fuel : Nat} {r : Res Th} {v : Value} {g : G} (h : RefP fuel r v g) {K : Int → Int → ByteArray → Option Addr → Nat → Nat → Int → Int → ByteArray → Option Addr → Nat → Nat → Option Addr → Nat → Nat → Bool → Int → Int → Option Addr → Nat → Nat → Int → Int → Prop}
    (hk : ∀ (t : Th) (la : Option Addr) (ln lc : Nat) (ba : Option Addr) (bn bc : Nat) (ea : Option Addr) (en ec : Nat) (oa : Option Addr) (on oc left : Nat) (op code : Int) (out : List Lab), SlE strE g oa on oc out →
      ((op = 0 ∧ code = 0 ∧ r = .ok t left out ∧ TRI g t la ln lc ba bn bc ea en ec) ∨ (op ≠ 0 ∧ r = .stop op code left out)) →
      K t.op t.n (bstr t.s) la ln lc t.body.dat.op t.body.dat.n (bstr t.body.dat.s) ba bn bc ea en ec t.self ((fuel : Nat) : Int) (((fuel : Nat) : Int) - ((left : Nat) : Int)) oa on oc op code) :
    ∃ x00 : Int, ∃ x01 : Int, ∃ x02 : ByteArray, ∃ x03a : Option Addr, ∃ x03l : Nat, ∃ x03c : Nat, ∃ x04 : Int, ∃ x05 : Int, ∃ x06 : ByteArray, ∃ x07a : Option Addr, ∃ x07l : Nat, ∃ x07c : Nat, ∃ x08a : Option Addr, ∃ x08l : Nat, ∃ x08c : Nat, ∃ x09 : Bool, ∃ x10 : Int, ∃ x11 : Int, ∃ x12a : Option Addr, ∃ x12l : Nat, ∃ x12c : Nat, ∃ x13 : Int, ∃ x14 : Int,
      v = (.tuple ⟨[(.agg ⟨[(.int .i64 x00), (.int .i64 x01), (.string x02), (.slice x03a x03l x03c), (.int .i64 x04), (.int .i64 x05), (.string x06), (.slice x07a x07l x07c), (.slice x08a x08l x08c), (.bool x09)]⟩), (.agg ⟨[(.int .i64 x10), (.int .i64 x11), (.slice x12a x12l x12c), (.int .i64 x13), (.int .i64 x14)]⟩)]⟩) ∧ K x00 x01 x02 x03a x03l x03c x04 x05 x06 x07a x07l x07c x08a x08l x08c x09 x10 x11 x12a x12l x12c x13 x14 := by
  obtain ⟨t, la, ln, lc, ba, bn, bc, ea, en, ec, oa, on, oc, left, op, code, out, rfl, h2, h3⟩ := h
  exact ⟨_, _, _, _, _, _, _, _, _, _, _, _, _, _, _, _, _, _, _, _, _, _, _, rfl, hk t la ln lc ba bn bc ea en ec oa on oc left op code out h2 h3⟩
/-- A read of an expression, with what the order of steps asks. -/
theorem rdEX {L : List E} {a : Option Addr} {n c : Nat} {g : G} (h : SlE expE g a n c L) {i : Int} (p : Nat) (hi : i = (p : Int)) {t : E} (ht : L[p]? = some t) {K : Int → Int → ByteArray → Option Addr → Nat → Nat → Prop}
    (hk : ∀ ka kn kc, SlE expE g ka kn kc t.kids → K t.dat.op t.dat.n (bstr t.dat.s) ka kn kc) :
    derefP a fun ad => ¬ g.X (Addr.block (Addr.add ad (Int.toNat i * 4))) ∧ ∃ x0 : Int, ∃ x1 : Int, ∃ x2 : ByteArray, ∃ x3a : Option Addr, ∃ x3l : Nat, ∃ x3c : Nat,
      g.w.cell? (Addr.add ad (Int.toNat i * 4)) = some (.int .i64 x0) ∧ g.w.cell? (Addr.add (Addr.add ad (Int.toNat i * 4)) 1) = some (.int .i64 x1) ∧ g.w.cell? (Addr.add (Addr.add ad (Int.toNat i * 4)) 2) = some (.string x2) ∧
      g.w.cell? (Addr.add (Addr.add ad (Int.toNat i * 4)) 3) = some (.slice x3a x3l x3c) ∧ K x0 x1 x2 x3a x3l x3c := by
  refine rdEL h p hi ht (fun ad ka kn kc _ hI hl => ?_)
  exact ⟨(live0 (hl 0 _ rfl)).2.1, _, _, _, _, _, _, (live0 (hl 0 _ rfl)).1, (hl 1 _ rfl).1, (hl 2 _ rfl).1, (hl 3 _ rfl).1, hk ka kn kc hI⟩
end Go.Lam
