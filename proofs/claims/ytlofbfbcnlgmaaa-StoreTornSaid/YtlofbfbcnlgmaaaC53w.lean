/- Edits that came in as arguments. -/
import Derived.Test.YtlofbfbcnlgmaaaC53s
import Derived.Test.YtlofbfbcnlgmaaaVop
set_option linter.unusedVariables false
namespace Go.Proofs.Ytlofbfbcnlgmaaa
open Go Go.Vc Go.RowKit Go.ChangeShapes Go.WideShapes Go.ChangeAt

theorem cells54 : Try.prog.cellsOf 54 = 3 := by kernel_rfl
theorem cells9 : Try.prog.cellsOf 9 = 1 := by kernel_rfl
theorem cells22 : Try.prog.cellsOf 22 = 1 := by kernel_rfl
theorem cells4 : Try.prog.cellsOf 4 = 1 := by kernel_rfl
theorem cells5 : Try.prog.cellsOf 5 = 1 := by kernel_rfl
section
variable {H : Type} {enc : TypeId × Value → H} {w : World} {base : Nat} {spare : Nat → Bool} {held : Bool}
set_option maxRecDepth 5000 in
theorem one_edit (n : Nat) (cs : List Value) (y : DataW H × List MemPlace) (hl : cs.length = 3) (h : DataW.trod enc Try.prog w base spare held n 54 cs = some y) : ∃ x, editE.rep (G.at0 w) cs x := by
  obtain ⟨y0, y1, y2, k, _, _, h0, h1, h2⟩ := Go.Deep.trod_struct3 Try.underlying54 h
  rw [cells9] at h0
  rw [cells22] at h1
  rw [cells4] at h2
  match cs, hl with
  | [c0, c1, c2], _ =>
    obtain ⟨s, rfl⟩ := open_strC Try.underlying9 (show DataW.trod enc Try.prog w base spare held k 9 [c0] = some y0 from h0)
    obtain ⟨a, l, c, L, rfl, hs⟩ := open_bytesC Try.underlying22 Try.underlying5 cells5 (show DataW.trod enc Try.prog w base spare held k 22 [c1] = some y1 from h1)
    obtain ⟨b, rfl⟩ := open_boolC Try.underlying4 (show DataW.trod enc Try.prog w base spare held k 4 [c2] = some y2 from h2)
    exact ⟨⟨s.data.toList, L, b⟩, a, l, c, rfl, hs⟩
set_option maxRecDepth 5000 in
theorem open_edits {r : Reach} {b0 : Nat} {v : Value} {d : DataW H} {ps : List MemPlace} (hval : Value.okWide Try.prog w r b0 48 v) (hd : DataW.Trod enc Try.prog w base spare held 48 v d ps) :
    ∃ a l c xs, v = .slice a l c ∧ SlE editE (G.at0 w) a l c xs := open_sliceV editE Try.underlying48 cells54 one_edit hval hd
theorem oneF54 : Go.Deep.oneCellFields Try.prog #[{ name := "Key", type := 9, offset := 0, embedded := false, tag := "", pkgPath := "", byteOffset := 0 }, { name := "Data", type := 22, offset := 1, embedded := false, tag := "", pkgPath := "", byteOffset := 16 }, { name := "Delete", type := 4, offset := 2, embedded := false, tag := "", pkgPath := "", byteOffset := 40 }] = true := by kernel_rfl
set_option maxRecDepth 5000 in
theorem open_edit {r : Reach} {b0 : Nat} {v : Value} {d : DataW H} {ps : List MemPlace} (hval : Value.okWide Try.prog w r b0 54 v) (hd : DataW.Trod enc Try.prog w base spare held 54 v d ps) :
    ∃ (e : Edit) (a : Option Addr) (l c : Nat), v = .agg ⟨[.string (bstr e.key), .slice a l c, .bool e.del]⟩ ∧ SlB (G.at0 w) a l c e.data := by
  obtain ⟨c0, c1, c2, y0, y1, y2, n, rfl, _, _, h0, h1, h2⟩ := Go.Joins.open_agg3 Try.underlying54 oneF54 cells54 hval hd
  obtain ⟨s, rfl⟩ := open_strC Try.underlying9 h0
  obtain ⟨a, l, c, L, rfl, hs⟩ := open_bytesC Try.underlying22 Try.underlying5 cells5 h1
  obtain ⟨b, rfl⟩ := open_boolC Try.underlying4 h2
  exact ⟨⟨s.data.toList, L, b⟩, a, l, c, rfl, hs⟩
end
theorem u16_range {n : Int} (h : (Lit.int .u16 n).wf = true) : 0 ≤ n ∧ n ≤ 65535 := by
  simp only [Lit.wf, Bool.and_eq_true, IntKind.min, IntKind.max, IntKind.signed, IntKind.bits] at h
  simp at h
  omega
theorem u8_range {n : Int} (h : (Lit.int .u8 n).wf = true) : 0 ≤ n ∧ n ≤ 255 := by
  simp only [Lit.wf, Bool.and_eq_true, IntKind.min, IntKind.max, IntKind.signed, IntKind.bits] at h
  simp at h
  omega
end Go.Proofs.Ytlofbfbcnlgmaaa
