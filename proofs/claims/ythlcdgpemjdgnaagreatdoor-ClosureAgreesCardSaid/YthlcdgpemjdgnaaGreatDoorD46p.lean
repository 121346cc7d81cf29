/- Closure: from the arguments. -/
import Derived.Test.YthlcdgpemjdgnaaGreatDoorRows
import Derived.Test.YthlcdgpemjdgnaaGreatDoorZN
import Derived.Test.YthlcdgpemjdgnaaGreatDoorZA
import Derived.Lib.LaidTab
import Derived.Lib.LaidU8
import Derived.Test.YthlcdgpemjdgnaaGreatDoorVop
set_option linter.unusedVariables false
set_option maxRecDepth 20000
namespace Go.Proofs.YthlcdgpemjdgnaaGreatDoor
open Go Go.Vc Go.RowKit Go.Syn Go.Lam Go.ChangeShapes Go.WideShapes Go.ChangeAt
theorem cells3 : Tryz.prog.cellsOf 3 = 1 := by kernel_rfl
theorem cells9 : Tryz.prog.cellsOf 9 = 1 := by kernel_rfl
theorem cells42 : Tryz.prog.cellsOf 42 = 1 := by kernel_rfl
theorem cells44 : Tryz.prog.cellsOf 44 = 4 := by kernel_rfl
def expE6 : El E where
  m := 4
  rep g r t := expE.rep g r t ∧ i64E t
  len h := expE.len h.1
  mono m h := ⟨expE.mono m h.1, h.2⟩
  one h := expE.one h.1
theorem sl6 {g : G} {a : Option Addr} {n c : Nat} {l : List E} (h : SlE expE6 g a n c l) : SlE expE g a n c l ∧ ∀ y ∈ l, i64E y := by
  obtain ⟨⟨L, h1, rs, e, h2⟩, h3⟩ := h
  have key : All2 (expE.rep g) rs l ∧ ∀ y ∈ l, i64E y := by
    clear h1 h3 e
    induction h2 with
    | nil => exact ⟨.nil, by simp⟩
    | cons k1 _ ih => exact ⟨.cons k1.1 ih.1, fun y hy => (List.mem_cons.1 hy).elim (fun e => e ▸ k1.2) (ih.2 y)⟩
  exact ⟨⟨⟨L, h1, rs, e, key.1⟩, h3⟩, key.2⟩
theorem list4 {α : Type} {cs : List α} (h : cs.length = 4) : ∃ a b c d, cs = [a, b, c, d] := by
  match cs, h with
  | [a, b, c, d], _ => exact ⟨a, b, c, d, rfl⟩
section
variable {H : Type} {enc : TypeId × Value → H} {w : World} {base : Nat} {spare : Nat → Bool} {held : Bool}
theorem one_exp : ∀ (k fuel : Nat), fuel ≤ k → ∀ (cs : List Value) (y : DataW H × List MemPlace), cs.length = 4 → DataW.trod enc Tryz.prog w base spare held fuel 44 cs = some y → ∃ x, expE6.rep (G.at0 w) cs x := by
  intro k
  induction k with
  | zero =>
    intro fuel hf cs y hl h
    obtain ⟨xs, n, hn, _⟩ := DataW.trod_struct Tryz.underlying44 h
    omega
  | succ k ih =>
    intro fuel hf cs y hl h
    obtain ⟨xs, n, hn, _, _, hlen, hfs⟩ := DataW.trod_struct Tryz.underlying44 h
    obtain ⟨c0, c1, c2, c3, rfl⟩ := list4 hl
    obtain ⟨y0, y1, y2, y3, rfl⟩ := list4 hlen
    have h0 : DataW.trod enc Tryz.prog w base spare held n 3 ((([c0, c1, c2, c3] : List Value).drop 0).take (Tryz.prog.cellsOf 3)) = some y0 := hfs 0 _ rfl
    have h1 : DataW.trod enc Tryz.prog w base spare held n 3 ((([c0, c1, c2, c3] : List Value).drop 1).take (Tryz.prog.cellsOf 3)) = some y1 := hfs 1 _ rfl
    have h2 : DataW.trod enc Tryz.prog w base spare held n 9 ((([c0, c1, c2, c3] : List Value).drop 2).take (Tryz.prog.cellsOf 9)) = some y2 := hfs 2 _ rfl
    have h3 : DataW.trod enc Tryz.prog w base spare held n 42 ((([c0, c1, c2, c3] : List Value).drop 3).take (Tryz.prog.cellsOf 42)) = some y3 := hfs 3 _ rfl
    rw [cells3] at h0 h1
    rw [cells9] at h2
    rw [cells42] at h3
    obtain ⟨op, rfl, _⟩ := open_intC Tryz.underlying3 (show DataW.trod enc Tryz.prog w base spare held n 3 [c0] = some y0 from h0)
    obtain ⟨nn, rfl, hwf⟩ := open_intC Tryz.underlying3 (show DataW.trod enc Tryz.prog w base spare held n 3 [c1] = some y1 from h1)
    obtain ⟨s, rfl⟩ := open_strC Tryz.underlying9 (show DataW.trod enc Tryz.prog w base spare held n 9 [c2] = some y2 from h2)
    obtain ⟨la, ll, lc, l, rfl, hL⟩ := open_sliceN expE6 Tryz.underlying42 cells44 (fun n' hn' cs y hl h => ih n' (by omega) cs y hl h) (show DataW.trod enc Tryz.prog w base spare held n 42 [c3] = some y3 from h3)
    obtain ⟨hL1, hL2⟩ := sl6 hL
    have hnn : nn ≤ 9223372036854775807 := by
      simp only [Lit.wf, Bool.and_eq_true, IntKind.min, IntKind.max, IntKind.signed, IntKind.bits] at hwf
      simp at hwf
      omega
    refine ⟨.mk ⟨op, nn, s.data.toList⟩ l, exp_rep (t := .mk ⟨op, nn, s.data.toList⟩ l) hL1, ?_⟩
    rw [i64E, i64EL_iff]
    exact ⟨hnn, hL2⟩
theorem open_exp {r : Reach} {b0 : Nat} {v : Value} {d : DataW H} {ps : List MemPlace} (hval : Value.okWide Tryz.prog w r b0 44 v) (hd : DataW.Trod enc Tryz.prog w base spare held 44 v d ps) :
    ∃ x a n c, v = expV x a n c ∧ SlE expE (G.at0 w) a n c x.kids ∧ i64E x := by
  obtain ⟨cs, n, y, rfl, hl, h⟩ := open_cells Tryz.underlying44 hval hd
  obtain ⟨x, hx, hi⟩ := one_exp (n + 1) n (by omega) cs y hl h
  obtain ⟨a, m, c, rfl, hI⟩ := exp_un hx
  exact ⟨x, a, m, c, rfl, hI, hi⟩
end
theorem laid_tab : (Rows.laid_internal_strconv_uint64pow10 : DataW Unit) = Lib.tabData .u64 Lib.pow10Tab := by kernel_rfl
theorem tabAt : ∃ i, Tryz.prog.globalNamed "internal/strconv.uint64pow10" = some i ∧ (Tryz.prog.globals[i]?).map (·.type) = some 196 := by
  first
  | exact ⟨0, by kernel_rfl, by kernel_rfl⟩
  | exact ⟨1, by kernel_rfl, by kernel_rfl⟩
  | exact ⟨2, by kernel_rfl, by kernel_rfl⟩
  | exact ⟨3, by kernel_rfl, by kernel_rfl⟩
theorem cellsU64 : Tryz.prog.cellsOf 175 = 1 := by kernel_rfl
theorem cellsTab : Tryz.prog.cellsOf 196 = 20 := by kernel_rfl
theorem tab_of {W : World} {x y : String × DataW Unit} (h : laidMet Tryz.prog [x, y, ("internal/strconv.uint64pow10", Rows.laid_internal_strconv_uint64pow10)] W) : TabG (G.at0 W) := by
  obtain ⟨g, t, cs, fuel, p, hg, ht, hv, hd⟩ := Lib.laidMet.reads h (.tail _ (.tail _ (.head _)))
  rw [laid_tab] at hd
  obtain ⟨i, hi, hi2⟩ := tabAt
  obtain rfl : i = g := Option.some.inj (hi.symm.trans hg)
  obtain rfl : 196 = t := Option.some.inj (hi2.symm.trans ht)
  have hcs := Lib.cells_of_tab Tryz.underlying196 Tryz.underlying175 cellsU64 cellsTab hd
  refine ⟨i, hg, ?_⟩
  unfold World.var? at hv
  rw [hg] at hv
  simp only [Option.bind_some] at hv
  rw [← hcs]
  split at hv
  · rename_i c e fr hc
    obtain rfl := Option.some.inj hv
    exact ⟨e, fr, hc, fun hh => hh, fun _ hh => hh⟩
  · cases hv
end Go.Proofs.YthlcdgpemjdgnaaGreatDoor
