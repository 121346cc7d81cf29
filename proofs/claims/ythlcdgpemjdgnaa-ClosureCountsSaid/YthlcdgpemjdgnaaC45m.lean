/- Closure: from the arguments. -/
import Derived.Test.YthlcdgpemjdgnaaRows
import Derived.Test.YthlcdgpemjdgnaaC45A
set_option linter.unusedVariables false
set_option maxRecDepth 20000
namespace Go.Proofs.Ythlcdgpemjdgnaa
open Go Go.Vc Go.RowKit Go.Syn Go.Lam Go.ChangeShapes Go.WideShapes Go.ChangeAt

theorem cells3 : Try.prog.cellsOf 3 = 1 := by kernel_rfl
theorem cells9 : Try.prog.cellsOf 9 = 1 := by kernel_rfl
theorem cells22 : Try.prog.cellsOf 22 = 1 := by kernel_rfl
theorem cells24 : Try.prog.cellsOf 24 = 4 := by kernel_rfl
/-- Expressions, all of whose numbers lie in the range of the type. -/
def expE6 : El E where
  m := 4
  rep g r t := expE.rep g r t ∧ i64E t
  len h := expE.len h.1
  mono m h := ⟨expE.mono m h.1, h.2⟩
  one h := expE.one h.1
theorem sl6 {g : G} {a : Option Addr} {n c : Nat} {l : List E} (h : SlE expE6 g a n c l) : SlE expE g a n c l ∧ ∀ y ∈ l, i64E y := by
  obtain ⟨⟨L, h1, rs, e, h2⟩, h3⟩ := h
  have key : All2 (expE.rep g) rs l ∧ ∀ y ∈ l, i64E y := by
    clear h1 h3 e
    induction h2 with
    | nil => exact ⟨.nil, by simp⟩
    | cons k1 _ ih => exact ⟨.cons k1.1 ih.1, fun y hy => (List.mem_cons.1 hy).elim (fun e => e ▸ k1.2) (ih.2 y)⟩
  exact ⟨⟨⟨L, h1, rs, e, key.1⟩, h3⟩, key.2⟩
theorem list4 {α : Type} {cs : List α} (h : cs.length = 4) : ∃ a b c d, cs = [a, b, c, d] := by
  match cs, h with
  | [a, b, c, d], _ => exact ⟨a, b, c, d, rfl⟩
section
variable {H : Type} {enc : TypeId × Value → H} {w : World} {base : Nat} {spare : Nat → Bool} {held : Bool}
theorem one_exp : ∀ (k fuel : Nat), fuel ≤ k → ∀ (cs : List Value) (y : DataW H × List MemPlace), cs.length = 4 → DataW.trod enc Try.prog w base spare held fuel 24 cs = some y → ∃ x, expE6.rep (G.at0 w) cs x := by
  intro k
  induction k with
  | zero =>
    intro fuel hf cs y hl h
    obtain ⟨xs, n, hn, _⟩ := DataW.trod_struct Try.underlying24 h
    omega
  | succ k ih =>
    intro fuel hf cs y hl h
    obtain ⟨xs, n, hn, _, _, hlen, hfs⟩ := DataW.trod_struct Try.underlying24 h
    obtain ⟨c0, c1, c2, c3, rfl⟩ := list4 hl
    obtain ⟨y0, y1, y2, y3, rfl⟩ := list4 hlen
    have h0 : DataW.trod enc Try.prog w base spare held n 3 ((([c0, c1, c2, c3] : List Value).drop 0).take (Try.prog.cellsOf 3)) = some y0 := hfs 0 _ rfl
    have h1 : DataW.trod enc Try.prog w base spare held n 3 ((([c0, c1, c2, c3] : List Value).drop 1).take (Try.prog.cellsOf 3)) = some y1 := hfs 1 _ rfl
    have h2 : DataW.trod enc Try.prog w base spare held n 9 ((([c0, c1, c2, c3] : List Value).drop 2).take (Try.prog.cellsOf 9)) = some y2 := hfs 2 _ rfl
    have h3 : DataW.trod enc Try.prog w base spare held n 22 ((([c0, c1, c2, c3] : List Value).drop 3).take (Try.prog.cellsOf 22)) = some y3 := hfs 3 _ rfl
    rw [cells3] at h0 h1
    rw [cells9] at h2
    rw [cells22] at h3
    obtain ⟨op, rfl, _⟩ := open_intC Try.underlying3 (show DataW.trod enc Try.prog w base spare held n 3 [c0] = some y0 from h0)
    obtain ⟨nn, rfl, hwf⟩ := open_intC Try.underlying3 (show DataW.trod enc Try.prog w base spare held n 3 [c1] = some y1 from h1)
    obtain ⟨s, rfl⟩ := open_strC Try.underlying9 (show DataW.trod enc Try.prog w base spare held n 9 [c2] = some y2 from h2)
    obtain ⟨la, ll, lc, l, rfl, hL⟩ := open_sliceN expE6 Try.underlying22 cells24 (fun n' hn' cs y hl h => ih n' (by omega) cs y hl h) (show DataW.trod enc Try.prog w base spare held n 22 [c3] = some y3 from h3)
    obtain ⟨hL1, hL2⟩ := sl6 hL
    have hnn : nn ≤ 9223372036854775807 := by
      simp only [Lit.wf, Bool.and_eq_true, IntKind.min, IntKind.max, IntKind.signed, IntKind.bits] at hwf
      simp at hwf
      omega
    refine ⟨.mk ⟨op, nn, s.data.toList⟩ l, exp_rep (t := .mk ⟨op, nn, s.data.toList⟩ l) hL1, ?_⟩
    rw [i64E, i64EL_iff]
    exact ⟨hnn, hL2⟩
theorem open_exp {r : Reach} {b0 : Nat} {v : Value} {d : DataW H} {ps : List MemPlace} (hval : Value.okWide Try.prog w r b0 24 v) (hd : DataW.Trod enc Try.prog w base spare held 24 v d ps) :
    ∃ x a n c, v = expV x a n c ∧ SlE expE (G.at0 w) a n c x.kids ∧ i64E x := by
  obtain ⟨cs, n, y, rfl, hl, h⟩ := open_cells Try.underlying24 hval hd
  obtain ⟨x, hx, hi⟩ := one_exp (n + 1) n (by omega) cs y hl h
  obtain ⟨a, m, c, rfl, hI⟩ := exp_un hx
  exact ⟨x, a, m, c, rfl, hI, hi⟩
end
end Go.Proofs.Ythlcdgpemjdgnaa
