/- Strings as lists of bytes; syntax trees. -/
import Derived.Test.YthlcdgpemjdgnaaGreatDoorVt1
set_option linter.unusedVariables false
namespace Go.Vc
open Go Go.RowKit
def bstr (l : List UInt8) : ByteArray := ⟨l.toArray⟩
theorem bstr_inj {a b : List UInt8} : bstr a = bstr b ↔ a = b := by
  constructor
  · intro h
    have := congrArg (fun x : ByteArray => x.data.toList) h
    simpa [bstr] using this
  · rintro rfl; rfl
theorem bstr_size (l : List UInt8) : (bstr l).size = l.length := by simp [bstr, ByteArray.size]
theorem bstr_cat (a b : List UInt8) : bstr a ++ bstr b = bstr (a ++ b) := by
  apply ByteArray.ext
  simp [bstr]
def strE : El (List UInt8) where
  m := 1
  rep g r x := r = [.string (bstr x)]
  len := by rintro g r x rfl; rfl
  mono := by rintro g g' r x k rfl; rfl
  one := by
    rintro g r x rfl u hu
    simp at hu
    subst hu
    rfl
def intE' : El Int where
  m := 1
  rep g r x := r = [.int .i64 x]
  len := by rintro g r x rfl; rfl
  mono := by rintro g g' r x k rfl; rfl
  one := by
    rintro g r x rfl u hu
    simp at hu
    subst hu
    rfl
theorem rdS {L : List (List UInt8)} {a : Option Addr} {n c : Nat} {g : G} (h : SlE strE g a n c L) {i : Int} (p : Nat) (hi : i = (p : Int)) {x : List UInt8} (hx : L[p]? = some x) {K : ByteArray → Prop} (hk : K (bstr x)) :
    derefP a fun ad => ∃ s : ByteArray, g.w.cell? (Addr.add ad (Int.toNat i * 1)) = some (.string s) ∧ K s := by
  subst hi
  refine h.rd (i := p) hx ?_
  rintro r ad rfl hr
  refine ⟨_, ?_, hk⟩
  rw [Int.toNat_natCast]
  have := (hr 0 _ rfl).1
  rwa [Addr.add_zero'] at this
theorem rdN {L : List Int} {a : Option Addr} {n c : Nat} {g : G} (h : SlE intE' g a n c L) {i : Int} (p : Nat) (hi : i = (p : Int)) {x : Int} (hx : L[p]? = some x) {K : Int → Prop} (hk : K x) :
    derefP a fun ad => ∃ s : Int, g.w.cell? (Addr.add ad (Int.toNat i * 1)) = some (.int .i64 s) ∧ K s := by
  subst hi
  refine h.rd (i := p) hx ?_
  rintro r ad rfl hr
  refine ⟨_, ?_, hk⟩
  rw [Int.toNat_natCast]
  have := (hr 0 _ rfl).1
  rwa [Addr.add_zero'] at this
structure SynD where
  op : Int
  n : Int
  s : List UInt8
  names : List (List UInt8)
abbrev Sy := Tr SynD
def synH : Hd SynD where
  m := 5
  rep g r a n c d := ∃ na nn nc, r = [.int .i64 d.op, .int .i64 d.n, .string (bstr d.s), .slice na nn nc, .slice a n c] ∧ SlE strE g na nn nc d.names
  len := by rintro g r a n c d ⟨na, nn, nc, rfl, _⟩; rfl
  mono := by rintro g g' r a n c d m ⟨na, nn, nc, rfl, h⟩; exact ⟨na, nn, nc, rfl, h.mono m⟩
  one := by
    rintro g r a n c d ⟨na, nn, nc, rfl, _⟩ u hu
    simp at hu
    rcases hu with rfl | rfl | rfl | rfl | rfl <;> rfl
def synE : El Sy := trE synH
@[simp] theorem synE_m : synE.m = 5 := rfl
abbrev synV (t : Sy) (na : Option Addr) (nn nc : Nat) (a : Option Addr) (n c : Nat) : Value := .agg ⟨[.int .i64 t.dat.op, .int .i64 t.dat.n, .string (bstr t.dat.s), .slice na nn nc, .slice a n c]⟩
structure SynI (g : G) (t : Sy) (na : Option Addr) (nn nc : Nat) (a : Option Addr) (n c : Nat) : Prop where
  names : SlE strE g na nn nc t.dat.names
  kids : SlE synE g a n c t.kids
namespace SynI
variable {g g' : G} {t : Sy} {na : Option Addr} {nn nc : Nat} {a : Option Addr} {n c : Nat}
theorem mono (h : SynI g t na nn nc a n c) (m : Le g g') : SynI g' t na nn nc a n c := ⟨h.names.mono m, h.kids.mono m⟩
theorem exm (h : SynI g t na nn nc a n c) (m : Ex g g') : SynI g' t na nn nc a n c := h.mono m.le
theorem rep (h : SynI g t na nn nc a n c) : synE.rep g [.int .i64 t.dat.op, .int .i64 t.dat.n, .string (bstr t.dat.s), .slice na nn nc, .slice a n c] t := by
  have := trE_mk (H := synH) (r := [.int .i64 t.dat.op, .int .i64 t.dat.n, .string (bstr t.dat.s), .slice na nn nc, .slice a n c]) (d := t.dat) ⟨na, nn, nc, rfl, h.names⟩ h.kids
  rwa [← t.eta] at this
end SynI
theorem syn_un {g : G} {r : List Value} {t : Sy} (h : synE.rep g r t) : ∃ na nn nc a n c, r = [.int .i64 t.dat.op, .int .i64 t.dat.n, .string (bstr t.dat.s), .slice na nn nc, .slice a n c] ∧ SynI g t na nn nc a n c := by
  obtain ⟨a, n, c, ⟨na, nn, nc, rfl, h1⟩, h2⟩ := trE_un synH h
  exact ⟨na, nn, nc, a, n, c, rfl, h1, h2⟩
theorem rdT {L : List Sy} {a : Option Addr} {n c : Nat} {g : G} (h : SlE synE g a n c L) {i : Int} (p : Nat) (hi : i = (p : Int)) {t : Sy} (ht : L[p]? = some t) {K : Int → Int → ByteArray → Option Addr → Nat → Nat → Option Addr → Nat → Nat → Prop}
    (hk : ∀ na nn nc ka kn kc, SynI g t na nn nc ka kn kc → K t.dat.op t.dat.n (bstr t.dat.s) na nn nc ka kn kc) :
    derefP a fun ad => ∃ x0 : Int, ∃ x1 : Int, ∃ x2 : ByteArray, ∃ x3a : Option Addr, ∃ x3l : Nat, ∃ x3c : Nat, ∃ x4a : Option Addr, ∃ x4l : Nat, ∃ x4c : Nat,
      g.w.cell? (Addr.add ad (Int.toNat i * 5)) = some (.int .i64 x0) ∧ g.w.cell? (Addr.add (Addr.add ad (Int.toNat i * 5)) 1) = some (.int .i64 x1) ∧ g.w.cell? (Addr.add (Addr.add ad (Int.toNat i * 5)) 2) = some (.string x2) ∧
      g.w.cell? (Addr.add (Addr.add ad (Int.toNat i * 5)) 3) = some (.slice x3a x3l x3c) ∧ g.w.cell? (Addr.add (Addr.add ad (Int.toNat i * 5)) 4) = some (.slice x4a x4l x4c) ∧ K x0 x1 x2 x3a x3l x3c x4a x4l x4c := by
  subst hi
  refine h.rd (i := p) ht ?_
  intro r ad hr hl
  obtain ⟨na, nn, nc, ka, kn, kc, rfl, hI⟩ := syn_un hr
  rw [Int.toNat_natCast]
  have h0 := (hl 0 _ rfl).1
  rw [Addr.add_zero'] at h0
  exact ⟨_, _, _, _, _, _, _, _, _, h0, (hl 1 _ rfl).1, (hl 2 _ rfl).1, (hl 3 _ rfl).1, (hl 4 _ rfl).1, hk na nn nc ka kn kc hI⟩
end Go.Vc
