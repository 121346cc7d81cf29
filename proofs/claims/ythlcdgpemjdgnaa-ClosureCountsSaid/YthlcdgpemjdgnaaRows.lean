/-
  NARROWER THAN 'FOR EVERY INPUT', by the rows' own cells (each row's printed sentence says how): ClosureConverts: loops · ClosureCounts: loops.
  DERIVED. THE GIVEN ROWS OF THIS SEAT. 2 by the template 'for every input the law returns true; each argument reads behind the call as it read before'; 0 by the template 'total and deterministic' (their statements: YthlcdgpemjdgnaaTotals.lean).
  GIVEN WITH THE SEED: the statements are not yours to turn. If you find one false, say at which input.
  Laid BY PROGRAM, IN A SANDBOX (cutbox-rows.mjs): the forced cells as the released guide's own fill.sh prints them over the translation d9b0ab437bf020ae… (all of the seat's roots in one cut). By AI agents, Wed Nov 11 2026. No macro, syntax, notation, axiom, sorry.
-/
import Derived.Test.YthlcdgpemjdgnaaChecked
import GoSem.Claim
import GoSem.ClaimJoined
import GoSem.ClaimMapViews
import Derived.JoinedTies
import Derived.KernelRfl
namespace Go.Proofs.Ythlcdgpemjdgnaa
/- THE CELL 'sum', in the pinned program and in every row, IS THE sha256 OF THE DUMP (.gsa) THAT YthlcdgpemjdgnaaProg.lean LOADS. Nothing in Lean hashes anything: it is a label: what it is worth is what the hold of that sum in a sandbox is worth. -/
noncomputable def Try.pinned : Pinned := { name := "ythlcdgpemjdgnaa", sum := "d9b0ab437bf020ae7aa792217b6774fafc218736c3fb8991e12b7bb87604c61a", checked := Try.checked }
namespace Rows
def none {H : Type} : Left H := { results := [], args := [] }

/-- 'pilasterlaw45.ClosureConverts': WHATEVER THE INPUT: true; the input reads as it did. -/
def closureConvertsSpec : ChangeSpec := { name := "closureConverts", fn := fun _ => fun
  | [d] => { results := [.lit (.bool true)], args := [d] }
  | _ => none }
def closureConvertsRow : OpenClaim := { program := "ythlcdgpemjdgnaa", sum := "d9b0ab437bf020ae7aa792217b6774fafc218736c3fb8991e12b7bb87604c61a", func := "pilaster/pilasterlaw45.ClosureConverts", spec := "closureConverts", unfollowed := true, recurses := true, loops := true, apart := false }
def ClosureConvertsSaid : Prop := closureConvertsRow.holds Try.pinned (OpenSpec.ofChange closureConvertsSpec)

/-- ITS FALSE NEIGHBOUR: 'it returns false'. Refute it at one input. -/
def closureConvertsWrong : ChangeSpec := { name := "closureConverts", fn := fun _ => fun
  | [d] => { results := [.lit (.bool false)], args := [d] }
  | _ => none }
def ClosureConvertsWrongFalsely : Prop := closureConvertsRow.holds Try.pinned (OpenSpec.ofChange closureConvertsWrong)

/-- 'pilasterlaw45.ClosureCounts': WHATEVER THE INPUT: true; the input reads as it did. -/
def closureCountsSpec : ChangeSpec := { name := "closureCounts", fn := fun _ => fun
  | [d] => { results := [.lit (.bool true)], args := [d] }
  | _ => none }
def closureCountsRow : OpenClaim := { program := "ythlcdgpemjdgnaa", sum := "d9b0ab437bf020ae7aa792217b6774fafc218736c3fb8991e12b7bb87604c61a", func := "pilaster/pilasterlaw45.ClosureCounts", spec := "closureCounts", unfollowed := true, recurses := true, loops := true, apart := false }
def ClosureCountsSaid : Prop := closureCountsRow.holds Try.pinned (OpenSpec.ofChange closureCountsSpec)

/-- ITS FALSE NEIGHBOUR: 'it returns false'. Refute it at one input. -/
def closureCountsWrong : ChangeSpec := { name := "closureCounts", fn := fun _ => fun
  | [d] => { results := [.lit (.bool false)], args := [d] }
  | _ => none }
def ClosureCountsWrongFalsely : Prop := closureCountsRow.holds Try.pinned (OpenSpec.ofChange closureCountsWrong)

/- THE SECOND FORM. 'bulk': how many values and letters a reading holds, each counted each time it is reached (what is shared counts as often as it is met; a slice's spare places count too). A statement '..UptoSaid' is the law's where the arguments, and the package variables that the reading takes, are together of bulk at most 1048576: NARROWER than '..Said'. Prove '..Said' where nothing that the law and all that it calls make is longer than what came in: it says more and counts as full. Else prove '..UptoSaid'. A law counts once. -/
mutual
def uptoBulk {H : Type} : DataW H → Nat
  | .lit (.string bytes) => bytes.length + 1
  | .lit _ => 1
  | .nil => 1
  | .ptr d => uptoBulk d + 1
  | .slice elems spare => uptoBulkAll elems + uptoBulkAll spare + 1
  | .agg parts => uptoBulkAll parts + 1
  | .iface _ d => uptoBulk d + 1
  | .map entries => uptoBulkEntries entries + 1
  | .held _ => 1
def uptoBulkAll {H : Type} : List (DataW H) → Nat
  | [] => 0
  | d :: r => uptoBulk d + uptoBulkAll r
def uptoBulkEntries {H : Type} : List (Lit × DataW H) → Nat
  | [] => 0
  | x :: r => uptoBulkEntry x + uptoBulkEntries r
def uptoBulkEntry {H : Type} : Lit × DataW H → Nat
  | (.string bytes, d) => bytes.length + uptoBulk d + 1
  | (_, d) => uptoBulk d + 1
 end
def uptoSmall : (H : Type) → List (DataW H) → Bool := fun _ ds => decide (uptoBulkAll ds ≤ 1048576)
def OpenSpec.upto (s : _root_.Go.ChangeSpec) : _root_.Go.OpenSpec := { _root_.Go.OpenSpec.ofChange s with cond := some uptoSmall }

/-- 'pilasterlaw45.ClosureConverts', WHERE WHAT IT READS IS OF BULK AT MOST 1048576: true; the input reads as it did. -/
def closureConvertsUptoRow : OpenClaim := { program := "ythlcdgpemjdgnaa", sum := "d9b0ab437bf020ae7aa792217b6774fafc218736c3fb8991e12b7bb87604c61a", func := "pilaster/pilasterlaw45.ClosureConverts", spec := "closureConverts", unfollowed := true, recurses := true, loops := true, apart := false, narrowed := true }
def ClosureConvertsUptoSaid : Prop := closureConvertsUptoRow.holds Try.pinned (OpenSpec.upto closureConvertsSpec)

/-- 'pilasterlaw45.ClosureCounts', WHERE WHAT IT READS IS OF BULK AT MOST 1048576: true; the input reads as it did. -/
def closureCountsUptoRow : OpenClaim := { program := "ythlcdgpemjdgnaa", sum := "d9b0ab437bf020ae7aa792217b6774fafc218736c3fb8991e12b7bb87604c61a", func := "pilaster/pilasterlaw45.ClosureCounts", spec := "closureCounts", unfollowed := true, recurses := true, loops := true, apart := false, narrowed := true }
def ClosureCountsUptoSaid : Prop := closureCountsUptoRow.holds Try.pinned (OpenSpec.upto closureCountsSpec)

end Rows
end Go.Proofs.Ythlcdgpemjdgnaa
