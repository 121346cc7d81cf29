/- Heaps, words, and values that came in as arguments. -/
import Derived.Test.YtcpclpkcanikiaaC49U
import Derived.Test.YtcpclpkcanikiaaVop
set_option linter.unusedVariables false
set_option maxRecDepth 20000
namespace Go.Proofs.Ytcpclpkcanikiaa
open Go Go.Vc Go.RowKit Go.ChangeShapes Go.WideShapes Go.ChangeAt

theorem cells3 : Try.prog.cellsOf 3 = 1 := by kernel_rfl
theorem cells4 : Try.prog.cellsOf 4 = 1 := by kernel_rfl
theorem cells9 : Try.prog.cellsOf 9 = 1 := by kernel_rfl
theorem cells22 : Try.prog.cellsOf 22 = 1 := by kernel_rfl
theorem cells24 : Try.prog.cellsOf 24 = 3 := by kernel_rfl
theorem cells35 : Try.prog.cellsOf 35 = 1 := by kernel_rfl
theorem cells36 : Try.prog.cellsOf 36 = 1 := by kernel_rfl
theorem cells38 : Try.prog.cellsOf 38 = 5 := by kernel_rfl
theorem cells41 : Try.prog.cellsOf 41 = 2 := by kernel_rfl
section
variable {H : Type} {enc : TypeId × Value → H} {w : World} {base : Nat} {spare : Nat → Bool} {held : Bool}
theorem one_wd (n : Nat) (cs : List Value) (y : DataW H × List MemPlace) (hl : cs.length = 2) (h : DataW.trod enc Try.prog w base spare held n 41 cs = some y) : ∃ x, wordE.rep (G.at0 w) cs x := by
  obtain ⟨y0, y1, k, _, _, h0, h1⟩ := trod_struct2 Try.underlying41 h
  obtain ⟨c0, c1, rfl⟩ := list2 hl
  rw [cells4] at h0
  rw [cells3] at h1
  obtain ⟨b, rfl⟩ := open_boolC Try.underlying4 (show DataW.trod enc Try.prog w base spare held k 4 [c0] = some y0 from h0)
  obtain ⟨i, rfl, _⟩ := open_intC Try.underlying3 (show DataW.trod enc Try.prog w base spare held k 3 [c1] = some y1 from h1)
  exact ⟨(b, i), rfl⟩
theorem open_wds {r : Reach} {b0 : Nat} {v : Value} {d : DataW H} {ps : List MemPlace} (hval : Value.okWide Try.prog w r b0 22 v) (hd : DataW.Trod enc Try.prog w base spare held 22 v d ps) :
    ∃ a l c L, v = .slice a l c ∧ SlE wordE (G.at0 w) a l c L := open_sliceV wordE Try.underlying22 cells41 one_wd hval hd
theorem open_wd {r : Reach} {b0 : Nat} {v : Value} {d : DataW H} {ps : List MemPlace} (hval : Value.okWide Try.prog w r b0 41 v) (hd : DataW.Trod enc Try.prog w base spare held 41 v d ps) : ∃ x, v = wdV x ∧ True := by
  obtain ⟨cs, n, y, rfl, hl, h⟩ := open_cells Try.underlying41 hval hd
  obtain ⟨x, rfl⟩ := one_wd n cs y hl h
  exact ⟨x, rfl, trivial⟩
theorem open_hp {r : Reach} {b0 : Nat} {v : Value} {d : DataW H} {ps : List MemPlace} (hval : Value.okWide Try.prog w r b0 24 v) (hd : DataW.Trod enc Try.prog w base spare held 24 v d ps) :
    ∃ a l c L f m, v = hpV a l c f m ∧ SlE wordE (G.at0 w) a l c L := by
  obtain ⟨cs, n, y, rfl, hl, h⟩ := open_cells Try.underlying24 hval hd
  obtain ⟨y0, y1, y2, k, _, _, h0, h1, h2⟩ := Go.Deep.trod_struct3 Try.underlying24 h
  obtain ⟨c0, c1, c2, rfl⟩ := list3 (show cs.length = 3 from hl)
  rw [cells22] at h0
  rw [cells3] at h1 h2
  obtain ⟨a, l, c, L, rfl, hL⟩ := open_sliceE wordE Try.underlying22 cells41 one_wd (show DataW.trod enc Try.prog w base spare held k 22 [c0] = some y0 from h0)
  obtain ⟨f, rfl, _⟩ := open_intC Try.underlying3 (show DataW.trod enc Try.prog w base spare held k 3 [c1] = some y1 from h1)
  obtain ⟨m, rfl, _⟩ := open_intC Try.underlying3 (show DataW.trod enc Try.prog w base spare held k 3 [c2] = some y2 from h2)
  exact ⟨a, l, c, L, f, m, rfl, hL⟩
theorem one_str (n : Nat) (cs : List Value) (y : DataW H × List MemPlace) (hl : cs.length = 1) (h : DataW.trod enc Try.prog w base spare held n 9 cs = some y) : ∃ x, strE.rep (G.at0 w) cs x := by
  obtain ⟨c0, rfl⟩ : ∃ c, cs = [c] := List.length_eq_one_iff.1 hl
  obtain ⟨s, rfl⟩ := open_strC Try.underlying9 h
  exact ⟨s.data.toList, rfl⟩
theorem one_val : ∀ (k fuel : Nat), fuel ≤ k → ∀ (cs : List Value) (y : DataW H × List MemPlace), cs.length = 5 → DataW.trod enc Try.prog w base spare held fuel 38 cs = some y → ∃ x, (valE k).rep (G.at0 w) cs x := by
  intro k
  induction k with
  | zero =>
    intro fuel hf cs y hl h
    obtain ⟨xs, n, hn, _⟩ := DataW.trod_struct Try.underlying38 h
    omega
  | succ k ih =>
    intro fuel hf cs y hl h
    obtain ⟨xs, n, hn, _, _, hlen, hfs⟩ := DataW.trod_struct Try.underlying38 h
    obtain ⟨c0, c1, c2, c3, c4, rfl⟩ := list5 hl
    obtain ⟨y0, y1, y2, y3, y4, rfl⟩ := list5 hlen
    have h0 : DataW.trod enc Try.prog w base spare held n 3 ((([c0, c1, c2, c3, c4] : List Value).drop 0).take (Try.prog.cellsOf 3)) = some y0 := hfs 0 _ rfl
    have h1 : DataW.trod enc Try.prog w base spare held n 3 ((([c0, c1, c2, c3, c4] : List Value).drop 1).take (Try.prog.cellsOf 3)) = some y1 := hfs 1 _ rfl
    have h2 : DataW.trod enc Try.prog w base spare held n 9 ((([c0, c1, c2, c3, c4] : List Value).drop 2).take (Try.prog.cellsOf 9)) = some y2 := hfs 2 _ rfl
    have h3 : DataW.trod enc Try.prog w base spare held n 35 ((([c0, c1, c2, c3, c4] : List Value).drop 3).take (Try.prog.cellsOf 35)) = some y3 := hfs 3 _ rfl
    have h4 : DataW.trod enc Try.prog w base spare held n 36 ((([c0, c1, c2, c3, c4] : List Value).drop 4).take (Try.prog.cellsOf 36)) = some y4 := hfs 4 _ rfl
    rw [cells3] at h0 h1
    rw [cells9] at h2
    rw [cells35] at h3
    rw [cells36] at h4
    obtain ⟨op, rfl, _⟩ := open_intC Try.underlying3 (show DataW.trod enc Try.prog w base spare held n 3 [c0] = some y0 from h0)
    obtain ⟨nn, rfl, _⟩ := open_intC Try.underlying3 (show DataW.trod enc Try.prog w base spare held n 3 [c1] = some y1 from h1)
    obtain ⟨s, rfl⟩ := open_strC Try.underlying9 (show DataW.trod enc Try.prog w base spare held n 9 [c2] = some y2 from h2)
    obtain ⟨na, nl, nc, names, rfl, hN⟩ := open_sliceE strE Try.underlying35 cells9 one_str (show DataW.trod enc Try.prog w base spare held n 35 [c3] = some y3 from h3)
    obtain ⟨la, ll, lc, l, rfl, hL⟩ := open_sliceN (valE k) Try.underlying36 cells38 (fun n' hn' cs y hl h => ih n' (by omega) cs y hl h) (show DataW.trod enc Try.prog w base spare held n 36 [c4] = some y4 from h4)
    exact ⟨.mk op nn s.data.toList names l, na, nl, nc, la, ll, lc, rfl, hN, hL⟩
theorem open_val {r : Reach} {b0 : Nat} {v : Value} {d : DataW H} {ps : List MemPlace} (hval : Value.okWide Try.prog w r b0 38 v) (hd : DataW.Trod enc Try.prog w base spare held 38 v d ps) :
    ∃ x na nn nc la ln lc k, v = .agg ⟨valC x na nn nc la ln lc⟩ ∧ VRep (G.at0 w) k x na nn nc la ln lc := by
  obtain ⟨cs, n, y, rfl, hl, h⟩ := open_cells Try.underlying38 hval hd
  obtain ⟨x, hx⟩ := one_val (n + 1) n (by omega) cs y hl h
  obtain ⟨na, nn, nc, la, ln, lc, rfl, h1, h2⟩ := hx
  exact ⟨x, na, nn, nc, la, ln, lc, n, rfl, h1, h2⟩
end
end Go.Proofs.Ytcpclpkcanikiaa
