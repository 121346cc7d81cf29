/- Strings as lists of bytes; syntax trees. -/
import Derived.Test.YthlcdgpemjdgnaaVt1
set_option linter.unusedVariables false
namespace Go.Vc
open Go Go.RowKit

/-- A string of bytes. -/
def bstr (l : List UInt8) : ByteArray := ⟨l.toArray⟩
theorem bstr_inj {a b : List UInt8} : bstr a = bstr b ↔ a = b := by
  constructor
  · intro h
    have := congrArg (fun x : ByteArray => x.data.toList) h
    simpa [bstr] using this
  · rintro rfl; rfl
theorem bstr_size (l : List UInt8) : (bstr l).size = l.length := by simp [bstr, ByteArray.size]
/-- A string, as an element. -/
def strE : El (List UInt8) where
  m := 1
  rep g r x := r = [.string (bstr x)]
  len := by rintro g r x rfl; rfl
  mono := by rintro g g' r x k rfl; rfl
  one := by
    rintro g r x rfl u hu
    simp at hu
    subst hu
    rfl
/-- A number, as an element. -/
def intE' : El Int where
  m := 1
  rep g r x := r = [.int .i64 x]
  len := by rintro g r x rfl; rfl
  mono := by rintro g g' r x k rfl; rfl
  one := by
    rintro g r x rfl u hu
    simp at hu
    subst hu
    rfl
theorem rdN {L : List Int} {a : Option Addr} {n c : Nat} {g : G} (h : SlE intE' g a n c L) {i : Int} (p : Nat) (hi : i = (p : Int)) {x : Int} (hx : L[p]? = some x) {K : Int → Prop} (hk : K x) :
    derefP a fun ad => ∃ s : Int, g.w.cell? (Addr.add ad (Int.toNat i * 1)) = some (.int .i64 s) ∧ K s := by
  subst hi
  refine h.rd (i := p) hx ?_
  rintro r ad rfl hr
  refine ⟨_, ?_, hk⟩
  rw [Int.toNat_natCast]
  have := (hr 0 _ rfl).1
  rwa [Addr.add_zero'] at this

/-! ### Syntax trees -/
structure SynD where
  op : Int
  n : Int
  s : List UInt8
  names : List (List UInt8)
abbrev Sy := Tr SynD
def synH : Hd SynD where
  m := 5
  rep g r a n c d := ∃ na nn nc, r = [.int .i64 d.op, .int .i64 d.n, .string (bstr d.s), .slice na nn nc, .slice a n c] ∧ SlE strE g na nn nc d.names
  len := by rintro g r a n c d ⟨na, nn, nc, rfl, _⟩; rfl
  mono := by rintro g g' r a n c d m ⟨na, nn, nc, rfl, h⟩; exact ⟨na, nn, nc, rfl, h.mono m⟩
  one := by
    rintro g r a n c d ⟨na, nn, nc, rfl, _⟩ u hu
    simp at hu
    rcases hu with rfl | rfl | rfl | rfl | rfl <;> rfl
def synE : El Sy := trE synH
@[simp] theorem synE_m : synE.m = 5 := rfl
/-- What the slices of a tree's value show. -/
structure SynI (g : G) (t : Sy) (na : Option Addr) (nn nc : Nat) (a : Option Addr) (n c : Nat) : Prop where
  names : SlE strE g na nn nc t.dat.names
  kids : SlE synE g a n c t.kids
namespace SynI
variable {g g' : G} {t : Sy} {na : Option Addr} {nn nc : Nat} {a : Option Addr} {n c : Nat}
theorem mono (h : SynI g t na nn nc a n c) (m : Le g g') : SynI g' t na nn nc a n c := ⟨h.names.mono m, h.kids.mono m⟩
theorem exm (h : SynI g t na nn nc a n c) (m : Ex g g') : SynI g' t na nn nc a n c := h.mono m.le
theorem rep (h : SynI g t na nn nc a n c) : synE.rep g [.int .i64 t.dat.op, .int .i64 t.dat.n, .string (bstr t.dat.s), .slice na nn nc, .slice a n c] t := by
  have := trE_mk (H := synH) (r := [.int .i64 t.dat.op, .int .i64 t.dat.n, .string (bstr t.dat.s), .slice na nn nc, .slice a n c]) (d := t.dat) ⟨na, nn, nc, rfl, h.names⟩ h.kids
  rwa [← t.eta] at this
end SynI
end Go.Vc
