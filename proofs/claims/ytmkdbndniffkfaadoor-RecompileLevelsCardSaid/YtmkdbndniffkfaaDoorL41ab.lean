/- Scope: from the arguments; the table that the rows list. -/
import Derived.Test.YtmkdbndniffkfaaDoorRows
import Derived.Test.YtmkdbndniffkfaaDoorL41y
import Derived.Lib.LaidTab
import Derived.Lib.LaidU8
import Derived.Test.YtmkdbndniffkfaaDoorVop
set_option linter.unusedVariables false
set_option maxRecDepth 20000
namespace Go.Proofs.YtmkdbndniffkfaaDoor
open Go Go.Vc Go.RowKit Go.Syn Go.ChangeShapes Go.WideShapes Go.ChangeAt

/-! ### From the arguments -/
theorem cells3 : Tryd.prog.cellsOf 3 = 1 := by kernel_rfl
theorem cells9 : Tryd.prog.cellsOf 9 = 1 := by kernel_rfl
theorem cells30 : Tryd.prog.cellsOf 30 = 1 := by kernel_rfl
theorem cells41 : Tryd.prog.cellsOf 32 = 1 := by kernel_rfl
theorem cells74 : Tryd.prog.cellsOf 44 = 5 := by kernel_rfl
section
variable {H : Type} {enc : TypeId × Value → H} {w : World} {base : Nat} {spare : Nat → Bool} {held : Bool}
theorem one_str (n : Nat) (cs : List Value) (y : DataW H × List MemPlace) (hl : cs.length = 1) (h : DataW.trod enc Tryd.prog w base spare held n 9 cs = some y) : ∃ x, strE.rep (G.at0 w) cs x := by
  obtain ⟨c0, rfl⟩ : ∃ c, cs = [c] := List.length_eq_one_iff.1 hl
  obtain ⟨s, rfl⟩ := open_strC Tryd.underlying9 h
  exact ⟨s.data.toList, rfl⟩
theorem one_syn : ∀ (k fuel : Nat), fuel ≤ k → ∀ (cs : List Value) (y : DataW H × List MemPlace), cs.length = 5 → DataW.trod enc Tryd.prog w base spare held fuel 44 cs = some y → ∃ x, synE.rep (G.at0 w) cs x := by
  intro k
  induction k with
  | zero =>
    intro fuel hf cs y hl h
    obtain ⟨xs, n, hn, _⟩ := DataW.trod_struct Tryd.underlying44 h
    omega
  | succ k ih =>
    intro fuel hf cs y hl h
    obtain ⟨xs, n, hn, _, _, hlen, hfs⟩ := DataW.trod_struct Tryd.underlying44 h
    obtain ⟨c0, c1, c2, c3, c4, rfl⟩ := list5 hl
    obtain ⟨y0, y1, y2, y3, y4, rfl⟩ := list5 hlen
    have h0 : DataW.trod enc Tryd.prog w base spare held n 3 ((([c0, c1, c2, c3, c4] : List Value).drop 0).take (Tryd.prog.cellsOf 3)) = some y0 := hfs 0 _ rfl
    have h1 : DataW.trod enc Tryd.prog w base spare held n 3 ((([c0, c1, c2, c3, c4] : List Value).drop 1).take (Tryd.prog.cellsOf 3)) = some y1 := hfs 1 _ rfl
    have h2 : DataW.trod enc Tryd.prog w base spare held n 9 ((([c0, c1, c2, c3, c4] : List Value).drop 2).take (Tryd.prog.cellsOf 9)) = some y2 := hfs 2 _ rfl
    have h3 : DataW.trod enc Tryd.prog w base spare held n 30 ((([c0, c1, c2, c3, c4] : List Value).drop 3).take (Tryd.prog.cellsOf 30)) = some y3 := hfs 3 _ rfl
    have h4 : DataW.trod enc Tryd.prog w base spare held n 32 ((([c0, c1, c2, c3, c4] : List Value).drop 4).take (Tryd.prog.cellsOf 32)) = some y4 := hfs 4 _ rfl
    rw [cells3] at h0 h1
    rw [cells9] at h2
    rw [cells30] at h3
    rw [cells41] at h4
    obtain ⟨op, rfl, _⟩ := open_intC Tryd.underlying3 (show DataW.trod enc Tryd.prog w base spare held n 3 [c0] = some y0 from h0)
    obtain ⟨nn, rfl, _⟩ := open_intC Tryd.underlying3 (show DataW.trod enc Tryd.prog w base spare held n 3 [c1] = some y1 from h1)
    obtain ⟨s, rfl⟩ := open_strC Tryd.underlying9 (show DataW.trod enc Tryd.prog w base spare held n 9 [c2] = some y2 from h2)
    obtain ⟨na, nl, nc, names, rfl, hN⟩ := open_sliceE strE Tryd.underlying30 cells9 one_str (show DataW.trod enc Tryd.prog w base spare held n 30 [c3] = some y3 from h3)
    obtain ⟨la, ll, lc, l, rfl, hL⟩ := open_sliceN synE Tryd.underlying32 cells74 (fun n' hn' cs y hl h => ih n' (by omega) cs y hl h) (show DataW.trod enc Tryd.prog w base spare held n 32 [c4] = some y4 from h4)
    exact ⟨.mk ⟨op, nn, s.data.toList, names⟩ l, SynI.rep (t := .mk ⟨op, nn, s.data.toList, names⟩ l) ⟨hN, hL⟩⟩
theorem cells43 : Tryd.prog.cellsOf 34 = 3 := by kernel_rfl
theorem list3 {α : Type} {cs : List α} (h : cs.length = 3) : ∃ a b c, cs = [a, b, c] := by
  match cs, h with
  | [a, b, c], _ => exact ⟨a, b, c, rfl⟩
theorem one_unit (fuel : Nat) (cs : List Value) (y : DataW H × List MemPlace) (hl : cs.length = 3) (h : DataW.trod enc Tryd.prog w base spare held fuel 34 cs = some y) : ∃ x, unitE.rep (G.at0 w) cs x := by
  obtain ⟨xs, n, hn, _, _, hlen, hfs⟩ := DataW.trod_struct Tryd.underlying34 h
  obtain ⟨c0, c1, c2, rfl⟩ := list3 hl
  obtain ⟨y0, y1, y2, rfl⟩ := list3 hlen
  have h0 : DataW.trod enc Tryd.prog w base spare held n 9 ((([c0, c1, c2] : List Value).drop 0).take (Tryd.prog.cellsOf 9)) = some y0 := hfs 0 _ rfl
  have h1 : DataW.trod enc Tryd.prog w base spare held n 30 ((([c0, c1, c2] : List Value).drop 1).take (Tryd.prog.cellsOf 30)) = some y1 := hfs 1 _ rfl
  have h2 : DataW.trod enc Tryd.prog w base spare held n 32 ((([c0, c1, c2] : List Value).drop 2).take (Tryd.prog.cellsOf 32)) = some y2 := hfs 2 _ rfl
  rw [cells9] at h0
  rw [cells30] at h1
  rw [cells41] at h2
  obtain ⟨s, rfl⟩ := open_strC Tryd.underlying9 (show DataW.trod enc Tryd.prog w base spare held n 9 [c0] = some y0 from h0)
  obtain ⟨na, nl, nc, names, rfl, hN⟩ := open_sliceE strE Tryd.underlying30 cells9 one_str (show DataW.trod enc Tryd.prog w base spare held n 30 [c1] = some y1 from h1)
  obtain ⟨la, ll, lc, l, rfl, hL⟩ := open_sliceE synE Tryd.underlying32 cells74 (fun n' cs y hl h => one_syn n' n' (Nat.le_refl _) cs y hl h) (show DataW.trod enc Tryd.prog w base spare held n 32 [c2] = some y2 from h2)
  exact ⟨⟨s.data.toList, names, l⟩, _, _, _, _, _, _, rfl, hN, hL⟩
theorem open_units {r : Reach} {b0 : Nat} {v : Value} {d : DataW H} {ps : List MemPlace} (hval : Value.okWide Tryd.prog w r b0 22 v) (hd : DataW.Trod enc Tryd.prog w base spare held 22 v d ps) :
    ∃ a l c L, v = .slice a l c ∧ SlE unitE (G.at0 w) a l c L := open_sliceV unitE Tryd.underlying22 cells43 one_unit hval hd
end
theorem laid_tab : (Rows.laid_strings_asciiSpace : DataW Unit) = Lib.tabData .u8 Lib.asciiSpaceTab := by kernel_rfl
theorem tabName : Tryd.prog.globalNamed "strings.asciiSpace" = some 0 := by kernel_rfl
theorem tabType : (Tryd.prog.globals[(0 : Nat)]?).map (·.type) = some 118 := by kernel_rfl
theorem cells5 : Tryd.prog.cellsOf 5 = 1 := by kernel_rfl
theorem cells189 : Tryd.prog.cellsOf 118 = 256 := by kernel_rfl
theorem tab_of {W : World} {x : String × DataW Unit} (h : laidMet Tryd.prog [x, ("strings.asciiSpace", Rows.laid_strings_asciiSpace)] W) : TabG (G.at0 W) := by
  obtain ⟨g, t, cs, fuel, p, hg, ht, hv, hd⟩ := Lib.laidMet.reads h (.tail _ (.head _))
  rw [laid_tab] at hd
  obtain rfl : 0 = g := Option.some.inj (tabName.symm.trans hg)
  obtain rfl : 118 = t := Option.some.inj (tabType.symm.trans ht)
  have hcs := Lib.cells_of_tab Tryd.underlying118 Tryd.underlying5 cells5 cells189 hd
  refine ⟨0, hg, ?_⟩
  unfold World.var? at hv
  rw [hg] at hv
  simp only [Option.bind_some] at hv
  rw [← hcs]
  split at hv
  · rename_i c e fr hc
    obtain rfl := Option.some.inj hv
    exact ⟨e, fr, hc, fun hh => hh, fun _ hh => hh⟩
  · cases hv
end Go.Proofs.YtmkdbndniffkfaaDoor
