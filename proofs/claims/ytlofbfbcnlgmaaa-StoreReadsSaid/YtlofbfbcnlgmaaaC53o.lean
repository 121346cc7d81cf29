/- A store that came in as an argument. -/
import Derived.Test.YtlofbfbcnlgmaaaC53b
import Derived.Test.YtlofbfbcnlgmaaaVopen
set_option linter.unusedVariables false
namespace Go.Proofs.Ytlofbfbcnlgmaaa
open Go Go.Vc Go.RowKit Go.ChangeShapes Go.WideShapes Go.ChangeAt

theorem one24 : Go.Deep.oneCellFields Try.prog #[{ name := "Bytes", type := 22, offset := 0, embedded := false, tag := "", pkgPath := "", byteOffset := 0 }, { name := "Durable", type := 3, offset := 1, embedded := false, tag := "", pkgPath := "", byteOffset := 24 }, { name := "After", type := 3, offset := 2, embedded := false, tag := "", pkgPath := "", byteOffset := 32 }] = true := by kernel_rfl
theorem cells24 : Try.prog.cellsOf 24 = 3 := by kernel_rfl
set_option maxRecDepth 5000 in
theorem open_st {H : Type} {enc : TypeId × Value → H} {W : World} {base : Nat} {spare : Nat → Bool} {held : Bool} {r : Reach} {b0 : Nat} {v : Value} {d : DataW H} {ps : List MemPlace}
    (hval : Value.okWide Try.prog W r b0 24 v) (hd : DataW.Trod enc Try.prog W base spare held 24 v d ps) :
    ∃ a l c L n1 n2, v = stV a l c n1 n2 ∧ SlB (G.at0 W) a l c L ∧ InI64 n1 ∧ InI64 n2 := by
  have hx := Go.Joins.open_agg3 (P := Try.prog) (w := W) (r := r) (b0 := b0) (t := 24) (v := v) (d := d) (p := ps) (enc := enc) (base := base) (spare := spare) (held := held) Try.underlying24 one24 cells24 hval hd
  obtain ⟨v0, v1, v2, y0, y1, y2, n, rfl, _, _, h0, h1, h2⟩ := hx
  obtain ⟨a, l, c, L, rfl, hs⟩ := open_bytesC Try.underlying22 Try.underlying5 (by kernel_rfl) h0
  obtain ⟨n1, rfl, w1⟩ := open_intC Try.underlying3 h1
  obtain ⟨n2, rfl, w2⟩ := open_intC Try.underlying3 h2
  exact ⟨a, l, c, L, n1, n2, rfl, hs, in_of_wf w1, in_of_wf w2⟩
end Go.Proofs.Ytlofbfbcnlgmaaa
