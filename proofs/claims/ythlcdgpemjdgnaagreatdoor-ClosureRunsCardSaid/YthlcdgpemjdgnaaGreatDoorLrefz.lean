/- The reference's values of flat functions, as rows of cells. -/
import Derived.Test.YthlcdgpemjdgnaaGreatDoorLfeval
import Derived.Test.YthlcdgpemjdgnaaGreatDoorLrefr
set_option linter.unusedVariables false
namespace Go.Lam
open Go Go.Vc Go.RowKit Go.Syn

mutual
def toE : Th → E
  | .mk op n s _ _ l _ => .mk ⟨op, n, s⟩ (toEs l)
def toEs : List Th → List E
  | [] => []
  | t :: r => toE t :: toEs r
end
theorem toEs_map : ∀ l : List Th, toEs l = l.map toE
  | [] => rfl
  | t :: r => by rw [toEs, toEs_map r]; rfl
theorem toE_eq (t : Th) : toE t = .mk ⟨t.op, t.n, t.s⟩ (t.l.map toE) := by
  cases t with
  | mk op n s b f l e => rw [toE, toEs_map]; rfl
theorem toE_kids (t : Th) : (toE t).kids = t.l.map toE := by rw [toE_eq]; rfl
theorem toE_dat (t : Th) : (toE t).dat = ⟨t.op, t.n, t.s⟩ := by rw [toE_eq]; rfl
abbrev zrow (t : Th) (la : Option Addr) (ln lc : Nat) : List Value := [.int .i64 t.op, .int .i64 t.n, .string (bstr t.s), .slice la ln lc]
/-- A thing: four cells. -/
def tzE : El Th where
  m := 4
  rep g r t := expE.rep g r (toE t)
  len h := expE.len h
  mono m h := expE.mono m h
  one h := expE.one h
theorem all2_map {g : G} : ∀ {Ls : List (List Value)} {l : List Th}, All2 (expE.rep g) Ls (l.map toE) → All2 (tzE.rep g) Ls l
  | [], [], _ => .nil
  | _ :: _, [], h => by cases h
  | [], _ :: _, h => by cases h
  | r :: Ls, t :: l, h => by
    cases h with
    | cons h1 h2 => exact .cons h1 (all2_map h2)
theorem map_all2 {g : G} : ∀ {Ls : List (List Value)} {l : List Th}, All2 (tzE.rep g) Ls l → All2 (expE.rep g) Ls (l.map toE)
  | [], [], _ => .nil
  | _ :: _, [], h => by cases h
  | [], _ :: _, h => by cases h
  | r :: Ls, t :: l, h => by
    cases h with
    | cons h1 h2 => exact .cons h1 (map_all2 h2)
theorem tz_sl {g : G} {a : Option Addr} {n c : Nat} {l : List Th} (h : SlE expE g a n c (l.map toE)) : SlE tzE g a n c l := by
  obtain ⟨⟨L, h1, Ls, h2, h3⟩, h4⟩ := h
  exact ⟨⟨L, h1, Ls, h2, all2_map h3⟩, by simpa using h4⟩
theorem sl_tz {g : G} {a : Option Addr} {n c : Nat} {l : List Th} (h : SlE tzE g a n c l) : SlE expE g a n c (l.map toE) := by
  obtain ⟨⟨L, h1, Ls, h2, h3⟩, h4⟩ := h
  exact ⟨⟨L, h1, Ls, h2, map_all2 h3⟩, by simpa using h4⟩
theorem tz_un {g : G} {r : List Value} {t : Th} (h : tzE.rep g r t) : ∃ la ln lc, r = zrow t la ln lc ∧ SlE tzE g la ln lc t.l := by
  obtain ⟨a, n, c, e, h2⟩ := exp_un (show expE.rep g r (toE t) from h)
  rw [toE_kids] at h2
  rw [toE_dat] at e
  exact ⟨a, n, c, e, tz_sl h2⟩
theorem tz_of {g : G} {t : Th} {la : Option Addr} {ln lc : Nat} (h : SlE tzE g la ln lc t.l) : tzE.rep g (zrow t la ln lc) t := by
  have h' : SlE expE g la ln lc (toE t).kids := by rw [toE_kids]; exact sl_tz h
  have := exp_rep h'
  rw [toE_dat] at this
  exact this
/-- A read of a thing; its cells are live. -/
theorem rdZ {L : List Th} {a : Option Addr} {n c : Nat} {g : G} (h : SlE tzE g a n c L) {i : Int} (p : Nat) (hi : i = (p : Int)) {t : Th} (ht : L[p]? = some t) {K : Addr → Prop}
    (hk : ∀ ad la ln lc, SlE tzE g la ln lc t.l → (∀ j v, (zrow t la ln lc)[j]? = some v → Live g (Addr.add (Addr.add ad (Int.toNat i * 4)) j) v) → K ad) : derefP a K := by
  subst hi
  refine h.rd (i := p) ht (fun r ad hr hl => ?_)
  obtain ⟨la, ln, lc, rfl, hI⟩ := tz_un hr
  refine hk ad la ln lc hI ?_
  rw [Int.toNat_natCast]
  exact hl
/-- .. cell by cell, with what the order of steps asks. -/
theorem rdZX {L : List Th} {a : Option Addr} {n c : Nat} {g : G} (h : SlE tzE g a n c L) {i : Int} (p : Nat) (hi : i = (p : Int)) {t : Th} (ht : L[p]? = some t) {K : Int → Int → ByteArray → Option Addr → Nat → Nat → Prop}
    (hk : ∀ la ln lc, SlE tzE g la ln lc t.l → K t.op t.n (bstr t.s) la ln lc) :
    derefP a fun ad => ¬ g.X (Addr.block (Addr.add ad (Int.toNat i * 4))) ∧ ∃ x0 : Int, ∃ x1 : Int, ∃ x2 : ByteArray, ∃ x3a : Option Addr, ∃ x3l : Nat, ∃ x3c : Nat,
      g.w.cell? (Addr.add ad (Int.toNat i * 4)) = some (.int .i64 x0) ∧ g.w.cell? (Addr.add (Addr.add ad (Int.toNat i * 4)) 1) = some (.int .i64 x1) ∧ g.w.cell? (Addr.add (Addr.add ad (Int.toNat i * 4)) 2) = some (.string x2) ∧
      g.w.cell? (Addr.add (Addr.add ad (Int.toNat i * 4)) 3) = some (.slice x3a x3l x3c) ∧ K x0 x1 x2 x3a x3l x3c := by
  refine rdZ h p hi ht (fun ad la ln lc hI hl => ?_)
  exact ⟨(live0 (hl 0 _ rfl)).2.1, _, _, _, _, _, _, (live0 (hl 0 _ rfl)).1, (hl 1 _ rfl).1, (hl 2 _ rfl).1, (hl 3 _ rfl).1, hk la ln lc hI⟩
/-- What stands behind an evaluation of the reference. -/
abbrev thZ (t : Th) (la : Option Addr) (ln lc : Nat) : Value := .agg ⟨zrow t la ln lc⟩
abbrev stZ (fuel left : Nat) (oa : Option Addr) (on oc : Nat) (op code : Int) : Value := .agg ⟨[.int .i64 op, .int .i64 code, .int .i64 (((fuel : Nat) : Int) - ((left : Nat) : Int)), .int .i64 ((fuel : Nat) : Int), .slice oa on oc]⟩
def RefZ (fuel : Nat) (r : Res Th) (v : Value) (g : G) : Prop := ∃ (t : Th) (la : Option Addr) (ln lc : Nat) (oa : Option Addr) (on oc left : Nat) (op code : Int) (out : List Lab),
  v = .tuple ⟨[thZ t la ln lc, stZ fuel left oa on oc op code]⟩ ∧ SlE strE g oa on oc out ∧ SlE tzE g la ln lc t.l ∧ ((op = 0 ∧ code = 0 ∧ r = .ok t left out) ∨ (op ≠ 0 ∧ r = .stop op code left out))
theorem RefZ.exm {fuel : Nat} {r : Res Th} {v : Value} {g g' : G} (m : Ex g g') : RefZ fuel r v g → RefZ fuel r v g'
  | ⟨t, la, ln, lc, oa, on, oc, left, op, code, out, h1, h2, h3, h4⟩ => ⟨t, la, ln, lc, oa, on, oc, left, op, code, out, h1, h2.exm m, h3.exm m, h4⟩
theorem refZ_ok {fuel left : Nat} {t : Th} {out : List Lab} {g : G} {la : Option Addr} {ln lc : Nat} {oa : Option Addr} {on oc : Nat} (hO : SlE strE g oa on oc out) (hI : SlE tzE g la ln lc t.l) :
    RefZ fuel (.ok t left out) (.tuple ⟨[thZ t la ln lc, stZ fuel left oa on oc 0 0]⟩) g := ⟨t, la, ln, lc, oa, on, oc, left, 0, 0, out, rfl, hO, hI, .inl ⟨rfl, rfl, rfl⟩⟩
theorem refZ_stop {fuel left : Nat} {op code : Int} {t : Th} {out : List Lab} {g : G} {la : Option Addr} {ln lc : Nat} {oa : Option Addr} {on oc : Nat} (hO : SlE strE g oa on oc out) (hI : SlE tzE g la ln lc t.l) (h : op ≠ 0) :
    RefZ fuel (.stop op code left out) (.tuple ⟨[thZ t la ln lc, stZ fuel left oa on oc op code]⟩) g := ⟨t, la, ln, lc, oa, on, oc, left, op, code, out, rfl, hO, hI, .inr ⟨h, rfl⟩⟩
/-- A result is used. -/
theorem RefZ.use {fuel : Nat} {r : Res Th} {v : Value} {g : G} (h : RefZ fuel r v g) {K : Int → Int → ByteArray → Option Addr → Nat → Nat → Int → Int → Int → Int → Option Addr → Nat → Nat → Prop}
    (hk : ∀ (t : Th) (la : Option Addr) (ln lc : Nat) (oa : Option Addr) (on oc left : Nat) (op code : Int) (out : List Lab), SlE strE g oa on oc out → SlE tzE g la ln lc t.l →
      ((op = 0 ∧ code = 0 ∧ r = .ok t left out) ∨ (op ≠ 0 ∧ r = .stop op code left out)) →
      K t.op t.n (bstr t.s) la ln lc op code (((fuel : Nat) : Int) - ((left : Nat) : Int)) ((fuel : Nat) : Int) oa on oc) :
    ∃ x00 : Int, ∃ x01 : Int, ∃ x02 : ByteArray, ∃ x03a : Option Addr, ∃ x03l : Nat, ∃ x03c : Nat, ∃ x10 : Int, ∃ x11 : Int, ∃ x12 : Int, ∃ x13 : Int, ∃ x14a : Option Addr, ∃ x14l : Nat, ∃ x14c : Nat,
      v = (.tuple ⟨[(.agg ⟨[(.int .i64 x00), (.int .i64 x01), (.string x02), (.slice x03a x03l x03c)]⟩), (.agg ⟨[(.int .i64 x10), (.int .i64 x11), (.int .i64 x12), (.int .i64 x13), (.slice x14a x14l x14c)]⟩)]⟩) ∧ K x00 x01 x02 x03a x03l x03c x10 x11 x12 x13 x14a x14l x14c := by
  obtain ⟨t, la, ln, lc, oa, on, oc, left, op, code, out, rfl, h2, h3, h4⟩ := h
  exact ⟨_, _, _, _, _, _, _, _, _, _, _, _, _, rfl, hk t la ln lc oa on oc left op code out h2 h3 h4⟩
/-- What stands behind the evaluation of the parts. -/
def RefLZ (fuel : Nat) (r : Res (List Th)) (v : Value) (g : G) : Prop := ∃ (ta : Option Addr) (tn tc : Nat) (oa : Option Addr) (on oc left : Nat) (op code : Int) (out : List Lab) (ts : List Th),
  v = .tuple ⟨[.slice ta tn tc, stZ fuel left oa on oc op code]⟩ ∧ SlE strE g oa on oc out ∧ ((op = 0 ∧ code = 0 ∧ r = .ok ts left out ∧ SlE tzE g ta tn tc ts) ∨ (op ≠ 0 ∧ r = .stop op code left out))
end Go.Lam
