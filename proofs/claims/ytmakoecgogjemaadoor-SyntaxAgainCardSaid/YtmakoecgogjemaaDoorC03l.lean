/- Syntax trees: helpers for the forms of the reference. -/
import Derived.Test.YtmakoecgogjemaaDoorC03k
set_option linter.unusedVariables false
namespace Go.Proofs.YtmakoecgogjemaaDoor
open Go Go.Vc Go.RowKit Go.Syn

theorem and_l {a b c : Prop} (h : a ↔ b) : a ∧ c ↔ b ∧ c := ⟨fun x => ⟨h.1 x.1, x.2⟩, fun x => ⟨h.2 x.1, x.2⟩⟩
/-- all, of the first part, of the last one, of all but the last one. -/
theorem k91f (t : Sy) (cat : Int) (hc : cat ≠ 0) {na : Option Addr} {nn nc : Nat} {a : Option Addr} {n c : Nat} {g : G} (h : SynI g t na nn nc a n c) (hn : 1 ≤ n) :
    CallsP Tryd.prog 91 #[synV t na nn nc a n c, .int .i64 0, .int .i64 1, .int .i64 cat] g fun v _ => v = .bool (tf (belP cat (t.kids.getD 0 noSy).dat.op)) := by
  have hl := h.kids.len
  have := k91 t 0 1 cat hc h (by omega) (by omega) (x := 0) (y := 1) rfl rfl
  refine this.mono ?_
  rintro v g' _ rfl
  refine vP ?_
  rw [List.drop_zero]
  generalize t.kids = l at hl ⊢
  match l, hl with
  | [], hl => exact absurd hl (by simp; omega)
  | x :: r, hl => simp
theorem k91z (t : Sy) (cat : Int) (hc : cat ≠ 0) {na : Option Addr} {nn nc : Nat} {a : Option Addr} {n c : Nat} {g : G} (h : SynI g t na nn nc a n c) (hn : 1 ≤ n) :
    CallsP Tryd.prog 91 #[synV t na nn nc a n c, .int .i64 (((n : Nat) : Int) - 1), .int .i64 ((n : Nat) : Int), .int .i64 cat] g fun v _ => v = .bool (tf (belP cat (t.kids.getD (t.kids.length - 1) noSy).dat.op)) := by
  have hl := h.kids.len
  have := k91 t (n - 1) n cat hc h (by omega) (by omega) (x := ((n : Nat) : Int) - 1) (y := ((n : Nat) : Int)) (by omega) rfl
  refine this.mono ?_
  rintro v g' _ rfl
  refine vP ?_
  have gl : t.kids[n - 1]? = some (t.kids.getD (n - 1) noSy) := getD_some (by omega)
  have e : (t.kids.drop (n - 1)).take (n - (n - 1)) = [t.kids.getD (n - 1) noSy] := by
    rw [show n - (n - 1) = 1 by omega]
    apply List.ext_getElem?
    intro i
    cases i with
    | zero => rw [List.getElem?_take, if_pos (by omega), List.getElem?_drop]; simpa using gl
    | succ i => rw [List.getElem?_take, if_neg (by omega)]; simp
  rw [e, hl]
  simp
theorem k91i (t : Sy) (cat : Int) (hc : cat ≠ 0) {na : Option Addr} {nn nc : Nat} {a : Option Addr} {n c : Nat} {g : G} (h : SynI g t na nn nc a n c) (hn : 1 ≤ n) :
    CallsP Tryd.prog 91 #[synV t na nn nc a n c, .int .i64 0, .int .i64 (((n : Nat) : Int) - 1), .int .i64 cat] g fun v _ => v = .bool (tf (∀ x ∈ t.kids.take (t.kids.length - 1), belP cat x.dat.op)) := by
  have hl := h.kids.len
  have := k91 t 0 (n - 1) cat hc h (by omega) (by omega) (x := 0) (y := ((n : Nat) : Int) - 1) rfl (by omega)
  rwa [List.drop_zero, show n - 1 - 0 = t.kids.length - 1 by omega] at this
/-- A read of the string of a part. -/
theorem rdStr {L : List Sy} {a : Option Addr} {n c : Nat} {g : G} (h : SlE synE g a n c L) {i : Int} (p : Nat) (hi : i = (p : Int)) {t : Sy} (ht : L[p]? = some t) {K : ByteArray → Prop} (hk : K (bstr t.dat.s)) :
    derefP a fun ad => ∃ x : ByteArray, g.w.cell? (Addr.add (Addr.add ad (Int.toNat i * 5)) 2) = some (.string x) ∧ K x :=
  rdA h p hi ht fun ad na nn nc ka kn kc _ hcell => ⟨_, (hcell g (Le.refl g)).2.2.1, hk⟩
theorem only1 {l : List Sy} (h : l.length = 1) (k : Int) : onlyP l [k] ↔ (l.getD 0 noSy).dat.op = k := by
  match l, h with
  | [x], _ => simp [onlyP]
theorem only2 {l : List Sy} (h : l.length = 2) (k : Int) : onlyP (l.drop 1) [k] ↔ (l.getD 1 noSy).dat.op = k := by
  match l, h with
  | [x, y], _ => simp [onlyP]
end Go.Proofs.YtmakoecgogjemaaDoor
