/- Words that came in as arguments are numbers of 64 bits. -/
import Derived.Test.YtcpclpkcanikiaaC49z
import Derived.Test.YtcpclpkcanikiaaC50A
set_option linter.unusedVariables false
set_option maxRecDepth 20000
namespace Go.Proofs.Ytcpclpkcanikiaa
open Go Go.Vc Go.RowKit Go.ChangeShapes Go.WideShapes Go.ChangeAt

def wordIE : El Wd where
  m := 2
  rep g r s := wordE.rep g r s ∧ (Lit.int .i64 s.2).wf = true
  len := fun h => wordE.len h.1
  mono := fun k h => ⟨wordE.mono k h.1, h.2⟩
  one := fun h => wordE.one h.1
theorem wordI_sl {g : G} {a : Option Addr} {n c : Nat} {L : List Wd} (h : SlE wordIE g a n c L) : SlE wordE g a n c L ∧ ∀ w ∈ L, (Lit.int .i64 w.2).wf = true := by
  obtain ⟨X, h1, h2⟩ := h.ex
  obtain ⟨rs, e, hall⟩ := h2.ex
  refine ⟨⟨⟨X, h1, ⟨rs, e, hall.imp fun _ _ hh => hh.1⟩⟩, h.len⟩, ?_⟩
  intro w hw
  obtain ⟨i, hi⟩ := List.getElem?_of_mem hw
  obtain ⟨r, _, hr⟩ := hall.get hi
  exact hr.2
section
variable {H : Type} {enc : TypeId × Value → H} {w : World} {base : Nat} {spare : Nat → Bool} {held : Bool}
theorem one_wdI (n : Nat) (cs : List Value) (y : DataW H × List MemPlace) (hl : cs.length = 2) (h : DataW.trod enc Try.prog w base spare held n 41 cs = some y) : ∃ x, wordIE.rep (G.at0 w) cs x := by
  obtain ⟨y0, y1, k, _, _, h0, h1⟩ := trod_struct2 Try.underlying41 h
  obtain ⟨c0, c1, rfl⟩ := list2 hl
  rw [cells4] at h0
  rw [cells3] at h1
  obtain ⟨b, rfl⟩ := open_boolC Try.underlying4 (show DataW.trod enc Try.prog w base spare held k 4 [c0] = some y0 from h0)
  obtain ⟨i, rfl, hw⟩ := open_intC Try.underlying3 (show DataW.trod enc Try.prog w base spare held k 3 [c1] = some y1 from h1)
  exact ⟨(b, i), rfl, hw⟩
theorem open_wdsI {r : Reach} {b0 : Nat} {v : Value} {d : DataW H} {ps : List MemPlace} (hval : Value.okWide Try.prog w r b0 22 v) (hd : DataW.Trod enc Try.prog w base spare held 22 v d ps) :
    ∃ a l c L, v = .slice a l c ∧ SlE wordE (G.at0 w) a l c L ∧ ∀ x ∈ L, (Lit.int .i64 x.2).wf = true := by
  obtain ⟨a, l, c, L, h1, h2⟩ := open_sliceV wordIE Try.underlying22 cells41 one_wdI hval hd
  exact ⟨a, l, c, L, h1, wordI_sl h2⟩
end
end Go.Proofs.Ytcpclpkcanikiaa
