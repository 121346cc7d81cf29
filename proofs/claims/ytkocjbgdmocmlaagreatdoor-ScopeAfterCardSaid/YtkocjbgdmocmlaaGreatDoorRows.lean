/-
  NARROWER THAN 'FOR EVERY INPUT', by the rows' own cells (each row's printed sentence says how): ScopeLets: loops, laid · ScopeChecks: loops, laid · ScopeOrders: loops, laid · ScopeCloses: loops, laid · ScopePaths: loops, laid · ScopeFinds: loops, laid · ScopeUnits: loops, laid · ScopeAfter: loops, laid.
  DERIVED. THE GIVEN ROWS OF THIS SEAT. 8 by the template 'for every input the law returns true; each argument reads behind the call as it read before'; 0 by the template 'total and deterministic' (their statements: YtkocjbgdmocmlaaGreatDoorTotals.lean).
  GIVEN WITH THE SEED: the statements are not yours to turn. If you find one false, say at which input.
  Laid BY PROGRAM, IN A SANDBOX (cutbox-rows.mjs): the forced cells as the released guide's own fill.sh prints them over the translation 8b47a377ce8f8e8b… (all of the seat's roots in one cut). By AI agents, Wed Nov 11 2026. No macro, syntax, notation, axiom, sorry.
-/
import Derived.Test.YtkocjbgdmocmlaaGreatDoorChecked
import GoSem.Claim
import GoSem.ClaimJoined
import GoSem.ClaimMapViews
import Derived.JoinedTies
import Derived.KernelRfl
namespace Go.Proofs.YtkocjbgdmocmlaaGreatDoor
/- THE CELL 'sum', in the pinned program and in every row, IS THE sha256 OF THE DUMP (.gsa) THAT YtkocjbgdmocmlaaGreatDoorProg.lean LOADS. Nothing in Lean hashes anything: it is a label: what it is worth is what the hold of that sum in a sandbox is worth. -/
noncomputable def Tryz.pinned : Pinned := { name := "ytkocjbgdmocmlaagreatdoor", sum := "8b47a377ce8f8e8baa9fefb1994579b95c9dbf2bf367e72c975376df40059eed", checked := Tryz.checked }
namespace Rows
def none {H : Type} : Left H := { results := [], args := [] }

/- WHAT THE LISTED PACKAGE-LEVEL VARIABLES READ AS WHEN THE CALL BEGINS. Each datum BY PROGRAM (the guide's laid-datum.mjs) off the statement by which the dump's own 'gosem.cut.vars' lays the variable. In a bare row this is a premise. The card (YtkocjbgdmocmlaaGreatDoorCards.lean) ties it to the program's text. -/
def laid_unicode_White_Space {H : Type} : DataW H := .ptr (.agg [.slice [.agg [.lit (.int .u16 9), .lit (.int .u16 13), .lit (.int .u16 1)], .agg [.lit (.int .u16 32), .lit (.int .u16 133), .lit (.int .u16 101)], .agg [.lit (.int .u16 160), .lit (.int .u16 5760), .lit (.int .u16 5600)], .agg [.lit (.int .u16 8192), .lit (.int .u16 8202), .lit (.int .u16 1)], .agg [.lit (.int .u16 8232), .lit (.int .u16 8233), .lit (.int .u16 1)], .agg [.lit (.int .u16 8239), .lit (.int .u16 8287), .lit (.int .u16 48)], .agg [.lit (.int .u16 12288), .lit (.int .u16 12288), .lit (.int .u16 1)]] [], .nil, .lit (.int .i64 2)])
def laid_strings_asciiSpace {H : Type} : DataW H := .agg [.lit (.int .u8 0), .lit (.int .u8 0), .lit (.int .u8 0), .lit (.int .u8 0), .lit (.int .u8 0), .lit (.int .u8 0), .lit (.int .u8 0), .lit (.int .u8 0), .lit (.int .u8 0), .lit (.int .u8 1), .lit (.int .u8 1), .lit (.int .u8 1), .lit (.int .u8 1), .lit (.int .u8 1), .lit (.int .u8 0), .lit (.int .u8 0), .lit (.int .u8 0), .lit (.int .u8 0), .lit (.int .u8 0), .lit (.int .u8 0), .lit (.int .u8 0), .lit (.int .u8 0), .lit (.int .u8 0), .lit (.int .u8 0), .lit (.int .u8 0), .lit (.int .u8 0), .lit (.int .u8 0), .lit (.int .u8 0), .lit (.int .u8 0), .lit (.int .u8 0), .lit (.int .u8 0), .lit (.int .u8 0), .lit (.int .u8 1), .lit (.int .u8 0), .lit (.int .u8 0), .lit (.int .u8 0), .lit (.int .u8 0), .lit (.int .u8 0), .lit (.int .u8 0), .lit (.int .u8 0), .lit (.int .u8 0), .lit (.int .u8 0), .lit (.int .u8 0), .lit (.int .u8 0), .lit (.int .u8 0), .lit (.int .u8 0), .lit (.int .u8 0), .lit (.int .u8 0), .lit (.int .u8 0), .lit (.int .u8 0), .lit (.int .u8 0), .lit (.int .u8 0), .lit (.int .u8 0), .lit (.int .u8 0), .lit (.int .u8 0), .lit (.int .u8 0), .lit (.int .u8 0), .lit (.int .u8 0), .lit (.int .u8 0), .lit (.int .u8 0), .lit (.int .u8 0), .lit (.int .u8 0), .lit (.int .u8 0), .lit (.int .u8 0), .lit (.int .u8 0), .lit (.int .u8 0), .lit (.int .u8 0), .lit (.int .u8 0), .lit (.int .u8 0), .lit (.int .u8 0), .lit (.int .u8 0), .lit (.int .u8 0), .lit (.int .u8 0), .lit (.int .u8 0), .lit (.int .u8 0), .lit (.int .u8 0), .lit (.int .u8 0), .lit (.int .u8 0), .lit (.int .u8 0), .lit (.int .u8 0), .lit (.int .u8 0), .lit (.int .u8 0), .lit (.int .u8 0), .lit (.int .u8 0), .lit (.int .u8 0), .lit (.int .u8 0), .lit (.int .u8 0), .lit (.int .u8 0), .lit (.int .u8 0), .lit (.int .u8 0), .lit (.int .u8 0), .lit (.int .u8 0), .lit (.int .u8 0), .lit (.int .u8 0), .lit (.int .u8 0), .lit (.int .u8 0), .lit (.int .u8 0), .lit (.int .u8 0), .lit (.int .u8 0), .lit (.int .u8 0), .lit (.int .u8 0), .lit (.int .u8 0), .lit (.int .u8 0), .lit (.int .u8 0), .lit (.int .u8 0), .lit (.int .u8 0), .lit (.int .u8 0), .lit (.int .u8 0), .lit (.int .u8 0), .lit (.int .u8 0), .lit (.int .u8 0), .lit (.int .u8 0), .lit (.int .u8 0), .lit (.int .u8 0), .lit (.int .u8 0), .lit (.int .u8 0), .lit (.int .u8 0), .lit (.int .u8 0), .lit (.int .u8 0), .lit (.int .u8 0), .lit (.int .u8 0), .lit (.int .u8 0), .lit (.int .u8 0), .lit (.int .u8 0), .lit (.int .u8 0), .lit (.int .u8 0), .lit (.int .u8 0), .lit (.int .u8 0), .lit (.int .u8 0), .lit (.int .u8 0), .lit (.int .u8 0), .lit (.int .u8 0), .lit (.int .u8 0), .lit (.int .u8 0), .lit (.int .u8 0), .lit (.int .u8 0), .lit (.int .u8 0), .lit (.int .u8 0), .lit (.int .u8 0), .lit (.int .u8 0), .lit (.int .u8 0), .lit (.int .u8 0), .lit (.int .u8 0), .lit (.int .u8 0), .lit (.int .u8 0), .lit (.int .u8 0), .lit (.int .u8 0), .lit (.int .u8 0), .lit (.int .u8 0), .lit (.int .u8 0), .lit (.int .u8 0), .lit (.int .u8 0), .lit (.int .u8 0), .lit (.int .u8 0), .lit (.int .u8 0), .lit (.int .u8 0), .lit (.int .u8 0), .lit (.int .u8 0), .lit (.int .u8 0), .lit (.int .u8 0), .lit (.int .u8 0), .lit (.int .u8 0), .lit (.int .u8 0), .lit (.int .u8 0), .lit (.int .u8 0), .lit (.int .u8 0), .lit (.int .u8 0), .lit (.int .u8 0), .lit (.int .u8 0), .lit (.int .u8 0), .lit (.int .u8 0), .lit (.int .u8 0), .lit (.int .u8 0), .lit (.int .u8 0), .lit (.int .u8 0), .lit (.int .u8 0), .lit (.int .u8 0), .lit (.int .u8 0), .lit (.int .u8 0), .lit (.int .u8 0), .lit (.int .u8 0), .lit (.int .u8 0), .lit (.int .u8 0), .lit (.int .u8 0), .lit (.int .u8 0), .lit (.int .u8 0), .lit (.int .u8 0), .lit (.int .u8 0), .lit (.int .u8 0), .lit (.int .u8 0), .lit (.int .u8 0), .lit (.int .u8 0), .lit (.int .u8 0), .lit (.int .u8 0), .lit (.int .u8 0), .lit (.int .u8 0), .lit (.int .u8 0), .lit (.int .u8 0), .lit (.int .u8 0), .lit (.int .u8 0), .lit (.int .u8 0), .lit (.int .u8 0), .lit (.int .u8 0), .lit (.int .u8 0), .lit (.int .u8 0), .lit (.int .u8 0), .lit (.int .u8 0), .lit (.int .u8 0), .lit (.int .u8 0), .lit (.int .u8 0), .lit (.int .u8 0), .lit (.int .u8 0), .lit (.int .u8 0), .lit (.int .u8 0), .lit (.int .u8 0), .lit (.int .u8 0), .lit (.int .u8 0), .lit (.int .u8 0), .lit (.int .u8 0), .lit (.int .u8 0), .lit (.int .u8 0), .lit (.int .u8 0), .lit (.int .u8 0), .lit (.int .u8 0), .lit (.int .u8 0), .lit (.int .u8 0), .lit (.int .u8 0), .lit (.int .u8 0), .lit (.int .u8 0), .lit (.int .u8 0), .lit (.int .u8 0), .lit (.int .u8 0), .lit (.int .u8 0), .lit (.int .u8 0), .lit (.int .u8 0), .lit (.int .u8 0), .lit (.int .u8 0), .lit (.int .u8 0), .lit (.int .u8 0), .lit (.int .u8 0), .lit (.int .u8 0), .lit (.int .u8 0), .lit (.int .u8 0), .lit (.int .u8 0), .lit (.int .u8 0), .lit (.int .u8 0), .lit (.int .u8 0), .lit (.int .u8 0), .lit (.int .u8 0), .lit (.int .u8 0), .lit (.int .u8 0), .lit (.int .u8 0), .lit (.int .u8 0), .lit (.int .u8 0), .lit (.int .u8 0), .lit (.int .u8 0)]

/-- 'pilasterlaw07.ScopeLets': WHATEVER THE INPUT: true; the input reads as it did. -/
def scopeLetsSpec : ChangeSpec := { name := "scopeLets", fn := fun _ => fun
  | [d1, d2] => { results := [.lit (.bool true)], args := [d1, d2] }
  | _ => none }
def scopeLetsRow : OpenClaim := { program := "ytkocjbgdmocmlaagreatdoor", sum := "8b47a377ce8f8e8baa9fefb1994579b95c9dbf2bf367e72c975376df40059eed", func := "pilaster/pilasterlaw07.ScopeLets", spec := "scopeLets", unfollowed := true, recurses := true, named := ["strings.asciiSpace", "unicode.White_Space"], loops := true, apart := false, laid := [("unicode.White_Space", laid_unicode_White_Space), ("strings.asciiSpace", laid_strings_asciiSpace)] }
def ScopeLetsSaid : Prop := scopeLetsRow.holds Tryz.pinned (OpenSpec.ofChange scopeLetsSpec)

/-- ITS FALSE NEIGHBOUR: 'it returns false'. Refute it at one input. -/
def scopeLetsWrong : ChangeSpec := { name := "scopeLets", fn := fun _ => fun
  | [d1, d2] => { results := [.lit (.bool false)], args := [d1, d2] }
  | _ => none }
def ScopeLetsWrongFalsely : Prop := scopeLetsRow.holds Tryz.pinned (OpenSpec.ofChange scopeLetsWrong)

/-- 'pilasterlaw07.ScopeChecks': WHATEVER THE INPUT: true; the input reads as it did. -/
def scopeChecksSpec : ChangeSpec := { name := "scopeChecks", fn := fun _ => fun
  | [d1, d2] => { results := [.lit (.bool true)], args := [d1, d2] }
  | _ => none }
def scopeChecksRow : OpenClaim := { program := "ytkocjbgdmocmlaagreatdoor", sum := "8b47a377ce8f8e8baa9fefb1994579b95c9dbf2bf367e72c975376df40059eed", func := "pilaster/pilasterlaw07.ScopeChecks", spec := "scopeChecks", unfollowed := true, recurses := true, named := ["strings.asciiSpace", "unicode.White_Space"], loops := true, apart := false, laid := [("unicode.White_Space", laid_unicode_White_Space), ("strings.asciiSpace", laid_strings_asciiSpace)] }
def ScopeChecksSaid : Prop := scopeChecksRow.holds Tryz.pinned (OpenSpec.ofChange scopeChecksSpec)

/-- ITS FALSE NEIGHBOUR: 'it returns false'. Refute it at one input. -/
def scopeChecksWrong : ChangeSpec := { name := "scopeChecks", fn := fun _ => fun
  | [d1, d2] => { results := [.lit (.bool false)], args := [d1, d2] }
  | _ => none }
def ScopeChecksWrongFalsely : Prop := scopeChecksRow.holds Tryz.pinned (OpenSpec.ofChange scopeChecksWrong)

/-- 'pilasterlaw07.ScopeOrders': WHATEVER THE INPUT: true; the input reads as it did. -/
def scopeOrdersSpec : ChangeSpec := { name := "scopeOrders", fn := fun _ => fun
  | [d] => { results := [.lit (.bool true)], args := [d] }
  | _ => none }
def scopeOrdersRow : OpenClaim := { program := "ytkocjbgdmocmlaagreatdoor", sum := "8b47a377ce8f8e8baa9fefb1994579b95c9dbf2bf367e72c975376df40059eed", func := "pilaster/pilasterlaw07.ScopeOrders", spec := "scopeOrders", unfollowed := true, recurses := true, named := ["strings.asciiSpace", "unicode.White_Space"], loops := true, apart := false, laid := [("unicode.White_Space", laid_unicode_White_Space), ("strings.asciiSpace", laid_strings_asciiSpace)] }
def ScopeOrdersSaid : Prop := scopeOrdersRow.holds Tryz.pinned (OpenSpec.ofChange scopeOrdersSpec)

/-- ITS FALSE NEIGHBOUR: 'it returns false'. Refute it at one input. -/
def scopeOrdersWrong : ChangeSpec := { name := "scopeOrders", fn := fun _ => fun
  | [d] => { results := [.lit (.bool false)], args := [d] }
  | _ => none }
def ScopeOrdersWrongFalsely : Prop := scopeOrdersRow.holds Tryz.pinned (OpenSpec.ofChange scopeOrdersWrong)

/-- 'pilasterlaw07.ScopeCloses': WHATEVER THE INPUT: true; the input reads as it did. -/
def scopeClosesSpec : ChangeSpec := { name := "scopeCloses", fn := fun _ => fun
  | [d] => { results := [.lit (.bool true)], args := [d] }
  | _ => none }
def scopeClosesRow : OpenClaim := { program := "ytkocjbgdmocmlaagreatdoor", sum := "8b47a377ce8f8e8baa9fefb1994579b95c9dbf2bf367e72c975376df40059eed", func := "pilaster/pilasterlaw07.ScopeCloses", spec := "scopeCloses", unfollowed := true, recurses := true, named := ["strings.asciiSpace", "unicode.White_Space"], loops := true, apart := false, laid := [("unicode.White_Space", laid_unicode_White_Space), ("strings.asciiSpace", laid_strings_asciiSpace)] }
def ScopeClosesSaid : Prop := scopeClosesRow.holds Tryz.pinned (OpenSpec.ofChange scopeClosesSpec)

/-- ITS FALSE NEIGHBOUR: 'it returns false'. Refute it at one input. -/
def scopeClosesWrong : ChangeSpec := { name := "scopeCloses", fn := fun _ => fun
  | [d] => { results := [.lit (.bool false)], args := [d] }
  | _ => none }
def ScopeClosesWrongFalsely : Prop := scopeClosesRow.holds Tryz.pinned (OpenSpec.ofChange scopeClosesWrong)

/-- 'pilasterlaw07.ScopePaths': WHATEVER THE INPUT: true; the input reads as it did. -/
def scopePathsSpec : ChangeSpec := { name := "scopePaths", fn := fun _ => fun
  | [d1, d2] => { results := [.lit (.bool true)], args := [d1, d2] }
  | _ => none }
def scopePathsRow : OpenClaim := { program := "ytkocjbgdmocmlaagreatdoor", sum := "8b47a377ce8f8e8baa9fefb1994579b95c9dbf2bf367e72c975376df40059eed", func := "pilaster/pilasterlaw07.ScopePaths", spec := "scopePaths", unfollowed := true, recurses := true, named := ["strings.asciiSpace", "unicode.White_Space"], loops := true, apart := false, laid := [("unicode.White_Space", laid_unicode_White_Space), ("strings.asciiSpace", laid_strings_asciiSpace)] }
def ScopePathsSaid : Prop := scopePathsRow.holds Tryz.pinned (OpenSpec.ofChange scopePathsSpec)

/-- ITS FALSE NEIGHBOUR: 'it returns false'. Refute it at one input. -/
def scopePathsWrong : ChangeSpec := { name := "scopePaths", fn := fun _ => fun
  | [d1, d2] => { results := [.lit (.bool false)], args := [d1, d2] }
  | _ => none }
def ScopePathsWrongFalsely : Prop := scopePathsRow.holds Tryz.pinned (OpenSpec.ofChange scopePathsWrong)

/-- 'pilasterlaw07.ScopeFinds': WHATEVER THE INPUT: true; the input reads as it did. -/
def scopeFindsSpec : ChangeSpec := { name := "scopeFinds", fn := fun _ => fun
  | [d1, d2] => { results := [.lit (.bool true)], args := [d1, d2] }
  | _ => none }
def scopeFindsRow : OpenClaim := { program := "ytkocjbgdmocmlaagreatdoor", sum := "8b47a377ce8f8e8baa9fefb1994579b95c9dbf2bf367e72c975376df40059eed", func := "pilaster/pilasterlaw07.ScopeFinds", spec := "scopeFinds", unfollowed := true, recurses := true, named := ["strings.asciiSpace", "unicode.White_Space"], loops := true, apart := false, laid := [("unicode.White_Space", laid_unicode_White_Space), ("strings.asciiSpace", laid_strings_asciiSpace)] }
def ScopeFindsSaid : Prop := scopeFindsRow.holds Tryz.pinned (OpenSpec.ofChange scopeFindsSpec)

/-- ITS FALSE NEIGHBOUR: 'it returns false'. Refute it at one input. -/
def scopeFindsWrong : ChangeSpec := { name := "scopeFinds", fn := fun _ => fun
  | [d1, d2] => { results := [.lit (.bool false)], args := [d1, d2] }
  | _ => none }
def ScopeFindsWrongFalsely : Prop := scopeFindsRow.holds Tryz.pinned (OpenSpec.ofChange scopeFindsWrong)

/-- 'pilasterlaw07.ScopeUnits': WHATEVER THE INPUT: true; the input reads as it did. -/
def scopeUnitsSpec : ChangeSpec := { name := "scopeUnits", fn := fun _ => fun
  | [d] => { results := [.lit (.bool true)], args := [d] }
  | _ => none }
def scopeUnitsRow : OpenClaim := { program := "ytkocjbgdmocmlaagreatdoor", sum := "8b47a377ce8f8e8baa9fefb1994579b95c9dbf2bf367e72c975376df40059eed", func := "pilaster/pilasterlaw07.ScopeUnits", spec := "scopeUnits", unfollowed := true, recurses := true, named := ["strings.asciiSpace", "unicode.White_Space"], loops := true, apart := false, laid := [("unicode.White_Space", laid_unicode_White_Space), ("strings.asciiSpace", laid_strings_asciiSpace)] }
def ScopeUnitsSaid : Prop := scopeUnitsRow.holds Tryz.pinned (OpenSpec.ofChange scopeUnitsSpec)

/-- ITS FALSE NEIGHBOUR: 'it returns false'. Refute it at one input. -/
def scopeUnitsWrong : ChangeSpec := { name := "scopeUnits", fn := fun _ => fun
  | [d] => { results := [.lit (.bool false)], args := [d] }
  | _ => none }
def ScopeUnitsWrongFalsely : Prop := scopeUnitsRow.holds Tryz.pinned (OpenSpec.ofChange scopeUnitsWrong)

/-- 'pilasterlaw07.ScopeAfter': WHATEVER THE INPUT: true; the input reads as it did. -/
def scopeAfterSpec : ChangeSpec := { name := "scopeAfter", fn := fun _ => fun
  | [d1, d2] => { results := [.lit (.bool true)], args := [d1, d2] }
  | _ => none }
def scopeAfterRow : OpenClaim := { program := "ytkocjbgdmocmlaagreatdoor", sum := "8b47a377ce8f8e8baa9fefb1994579b95c9dbf2bf367e72c975376df40059eed", func := "pilaster/pilasterlaw07.ScopeAfter", spec := "scopeAfter", unfollowed := true, recurses := true, named := ["strings.asciiSpace", "unicode.White_Space"], loops := true, apart := false, laid := [("unicode.White_Space", laid_unicode_White_Space), ("strings.asciiSpace", laid_strings_asciiSpace)] }
def ScopeAfterSaid : Prop := scopeAfterRow.holds Tryz.pinned (OpenSpec.ofChange scopeAfterSpec)

/-- ITS FALSE NEIGHBOUR: 'it returns false'. Refute it at one input. -/
def scopeAfterWrong : ChangeSpec := { name := "scopeAfter", fn := fun _ => fun
  | [d1, d2] => { results := [.lit (.bool false)], args := [d1, d2] }
  | _ => none }
def ScopeAfterWrongFalsely : Prop := scopeAfterRow.holds Tryz.pinned (OpenSpec.ofChange scopeAfterWrong)

/- THE SECOND FORM. 'bulk': how many values and letters a reading holds, each counted each time it is reached (what is shared counts as often as it is met; a slice's spare places count too). A statement '..UptoSaid' is the law's where the arguments, and the package variables that the reading takes, are together of bulk at most 1048576: NARROWER than '..Said'. Prove '..Said' where nothing that the law and all that it calls make is longer than what came in: it says more and counts as full. Else prove '..UptoSaid'. A law counts once. -/
mutual
def uptoBulk {H : Type} : DataW H → Nat
  | .lit (.string bytes) => bytes.length + 1
  | .lit _ => 1
  | .nil => 1
  | .ptr d => uptoBulk d + 1
  | .slice elems spare => uptoBulkAll elems + uptoBulkAll spare + 1
  | .agg parts => uptoBulkAll parts + 1
  | .iface _ d => uptoBulk d + 1
  | .map entries => uptoBulkEntries entries + 1
  | .held _ => 1
def uptoBulkAll {H : Type} : List (DataW H) → Nat
  | [] => 0
  | d :: r => uptoBulk d + uptoBulkAll r
def uptoBulkEntries {H : Type} : List (Lit × DataW H) → Nat
  | [] => 0
  | x :: r => uptoBulkEntry x + uptoBulkEntries r
def uptoBulkEntry {H : Type} : Lit × DataW H → Nat
  | (.string bytes, d) => bytes.length + uptoBulk d + 1
  | (_, d) => uptoBulk d + 1
 end
def uptoSmall : (H : Type) → List (DataW H) → Bool := fun _ ds => decide (uptoBulkAll ds ≤ 1048576)
def OpenSpec.upto (s : _root_.Go.ChangeSpec) : _root_.Go.OpenSpec := { _root_.Go.OpenSpec.ofChange s with cond := some uptoSmall }

/-- 'pilasterlaw07.ScopeLets', WHERE WHAT IT READS IS OF BULK AT MOST 1048576: true; the input reads as it did. -/
def scopeLetsUptoRow : OpenClaim := { program := "ytkocjbgdmocmlaagreatdoor", sum := "8b47a377ce8f8e8baa9fefb1994579b95c9dbf2bf367e72c975376df40059eed", func := "pilaster/pilasterlaw07.ScopeLets", spec := "scopeLets", unfollowed := true, recurses := true, named := ["strings.asciiSpace", "unicode.White_Space"], loops := true, apart := false, laid := [("unicode.White_Space", laid_unicode_White_Space), ("strings.asciiSpace", laid_strings_asciiSpace)], narrowed := true }
def ScopeLetsUptoSaid : Prop := scopeLetsUptoRow.holds Tryz.pinned (OpenSpec.upto scopeLetsSpec)

/-- 'pilasterlaw07.ScopeChecks', WHERE WHAT IT READS IS OF BULK AT MOST 1048576: true; the input reads as it did. -/
def scopeChecksUptoRow : OpenClaim := { program := "ytkocjbgdmocmlaagreatdoor", sum := "8b47a377ce8f8e8baa9fefb1994579b95c9dbf2bf367e72c975376df40059eed", func := "pilaster/pilasterlaw07.ScopeChecks", spec := "scopeChecks", unfollowed := true, recurses := true, named := ["strings.asciiSpace", "unicode.White_Space"], loops := true, apart := false, laid := [("unicode.White_Space", laid_unicode_White_Space), ("strings.asciiSpace", laid_strings_asciiSpace)], narrowed := true }
def ScopeChecksUptoSaid : Prop := scopeChecksUptoRow.holds Tryz.pinned (OpenSpec.upto scopeChecksSpec)

/-- 'pilasterlaw07.ScopeOrders', WHERE WHAT IT READS IS OF BULK AT MOST 1048576: true; the input reads as it did. -/
def scopeOrdersUptoRow : OpenClaim := { program := "ytkocjbgdmocmlaagreatdoor", sum := "8b47a377ce8f8e8baa9fefb1994579b95c9dbf2bf367e72c975376df40059eed", func := "pilaster/pilasterlaw07.ScopeOrders", spec := "scopeOrders", unfollowed := true, recurses := true, named := ["strings.asciiSpace", "unicode.White_Space"], loops := true, apart := false, laid := [("unicode.White_Space", laid_unicode_White_Space), ("strings.asciiSpace", laid_strings_asciiSpace)], narrowed := true }
def ScopeOrdersUptoSaid : Prop := scopeOrdersUptoRow.holds Tryz.pinned (OpenSpec.upto scopeOrdersSpec)

/-- 'pilasterlaw07.ScopeCloses', WHERE WHAT IT READS IS OF BULK AT MOST 1048576: true; the input reads as it did. -/
def scopeClosesUptoRow : OpenClaim := { program := "ytkocjbgdmocmlaagreatdoor", sum := "8b47a377ce8f8e8baa9fefb1994579b95c9dbf2bf367e72c975376df40059eed", func := "pilaster/pilasterlaw07.ScopeCloses", spec := "scopeCloses", unfollowed := true, recurses := true, named := ["strings.asciiSpace", "unicode.White_Space"], loops := true, apart := false, laid := [("unicode.White_Space", laid_unicode_White_Space), ("strings.asciiSpace", laid_strings_asciiSpace)], narrowed := true }
def ScopeClosesUptoSaid : Prop := scopeClosesUptoRow.holds Tryz.pinned (OpenSpec.upto scopeClosesSpec)

/-- 'pilasterlaw07.ScopePaths', WHERE WHAT IT READS IS OF BULK AT MOST 1048576: true; the input reads as it did. -/
def scopePathsUptoRow : OpenClaim := { program := "ytkocjbgdmocmlaagreatdoor", sum := "8b47a377ce8f8e8baa9fefb1994579b95c9dbf2bf367e72c975376df40059eed", func := "pilaster/pilasterlaw07.ScopePaths", spec := "scopePaths", unfollowed := true, recurses := true, named := ["strings.asciiSpace", "unicode.White_Space"], loops := true, apart := false, laid := [("unicode.White_Space", laid_unicode_White_Space), ("strings.asciiSpace", laid_strings_asciiSpace)], narrowed := true }
def ScopePathsUptoSaid : Prop := scopePathsUptoRow.holds Tryz.pinned (OpenSpec.upto scopePathsSpec)

/-- 'pilasterlaw07.ScopeFinds', WHERE WHAT IT READS IS OF BULK AT MOST 1048576: true; the input reads as it did. -/
def scopeFindsUptoRow : OpenClaim := { program := "ytkocjbgdmocmlaagreatdoor", sum := "8b47a377ce8f8e8baa9fefb1994579b95c9dbf2bf367e72c975376df40059eed", func := "pilaster/pilasterlaw07.ScopeFinds", spec := "scopeFinds", unfollowed := true, recurses := true, named := ["strings.asciiSpace", "unicode.White_Space"], loops := true, apart := false, laid := [("unicode.White_Space", laid_unicode_White_Space), ("strings.asciiSpace", laid_strings_asciiSpace)], narrowed := true }
def ScopeFindsUptoSaid : Prop := scopeFindsUptoRow.holds Tryz.pinned (OpenSpec.upto scopeFindsSpec)

/-- 'pilasterlaw07.ScopeUnits', WHERE WHAT IT READS IS OF BULK AT MOST 1048576: true; the input reads as it did. -/
def scopeUnitsUptoRow : OpenClaim := { program := "ytkocjbgdmocmlaagreatdoor", sum := "8b47a377ce8f8e8baa9fefb1994579b95c9dbf2bf367e72c975376df40059eed", func := "pilaster/pilasterlaw07.ScopeUnits", spec := "scopeUnits", unfollowed := true, recurses := true, named := ["strings.asciiSpace", "unicode.White_Space"], loops := true, apart := false, laid := [("unicode.White_Space", laid_unicode_White_Space), ("strings.asciiSpace", laid_strings_asciiSpace)], narrowed := true }
def ScopeUnitsUptoSaid : Prop := scopeUnitsUptoRow.holds Tryz.pinned (OpenSpec.upto scopeUnitsSpec)

/-- 'pilasterlaw07.ScopeAfter', WHERE WHAT IT READS IS OF BULK AT MOST 1048576: true; the input reads as it did. -/
def scopeAfterUptoRow : OpenClaim := { program := "ytkocjbgdmocmlaagreatdoor", sum := "8b47a377ce8f8e8baa9fefb1994579b95c9dbf2bf367e72c975376df40059eed", func := "pilaster/pilasterlaw07.ScopeAfter", spec := "scopeAfter", unfollowed := true, recurses := true, named := ["strings.asciiSpace", "unicode.White_Space"], loops := true, apart := false, laid := [("unicode.White_Space", laid_unicode_White_Space), ("strings.asciiSpace", laid_strings_asciiSpace)], narrowed := true }
def ScopeAfterUptoSaid : Prop := scopeAfterUptoRow.holds Tryz.pinned (OpenSpec.upto scopeAfterSpec)

end Rows
end Go.Proofs.YtkocjbgdmocmlaaGreatDoor
