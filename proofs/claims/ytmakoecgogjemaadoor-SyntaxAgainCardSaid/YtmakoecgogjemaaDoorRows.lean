/-
  NARROWER THAN 'FOR EVERY INPUT', by the rows' own cells (each row's printed sentence says how): SyntaxForms: loops, laid · SyntaxParts: loops, laid · SyntaxPaths: loops, laid · SyntaxSizes: loops, laid · SyntaxReplaces: loops, laid · SyntaxAgain: loops, laid.
  DERIVED. THE GIVEN ROWS OF THIS SEAT. 6 by the template 'for every input the law returns true; each argument reads behind the call as it read before'; 0 by the template 'total and deterministic' (their statements: YtmakoecgogjemaaDoorTotals.lean).
  GIVEN WITH THE SEED: the statements are not yours to turn. If you find one false, say at which input.
  Laid BY PROGRAM, IN A SANDBOX (cutbox-rows.mjs): the forced cells as the released guide's own fill.sh prints them over the translation ffcb1074028057e5… (all of the seat's roots in one cut). By AI agents, Wed Nov 11 2026. No macro, syntax, notation, axiom, sorry.
-/
import Derived.Test.YtmakoecgogjemaaDoorChecked
import GoSem.Claim
import GoSem.ClaimJoined
import GoSem.ClaimMapViews
import Derived.JoinedTies
import Derived.KernelRfl
namespace Go.Proofs.YtmakoecgogjemaaDoor
/- THE CELL 'sum', in the pinned program and in every row, IS THE sha256 OF THE DUMP (.gsa) THAT YtmakoecgogjemaaDoorProg.lean LOADS. Nothing in Lean hashes anything: it is a label: what it is worth is what the hold of that sum in a sandbox is worth. -/
noncomputable def Tryd.pinned : Pinned := { name := "ytmakoecgogjemaadoor", sum := "ffcb1074028057e535059faa1436a39d77f9becc5326851bdb9daafecffe2c2d", checked := Tryd.checked }
namespace Rows
def none {H : Type} : Left H := { results := [], args := [] }

/- WHAT THE LISTED PACKAGE-LEVEL VARIABLES READ AS WHEN THE CALL BEGINS. Each datum BY PROGRAM (the guide's laid-datum.mjs) off the statement by which the dump's own 'gosem.cut.vars' lays the variable. In a bare row this is a premise. The card (YtmakoecgogjemaaDoorCards.lean) ties it to the program's text. -/
def laid_unicode_White_Space {H : Type} : DataW H := .ptr (.agg [.slice [.agg [.lit (.int .u16 9), .lit (.int .u16 13), .lit (.int .u16 1)], .agg [.lit (.int .u16 32), .lit (.int .u16 133), .lit (.int .u16 101)], .agg [.lit (.int .u16 160), .lit (.int .u16 5760), .lit (.int .u16 5600)], .agg [.lit (.int .u16 8192), .lit (.int .u16 8202), .lit (.int .u16 1)], .agg [.lit (.int .u16 8232), .lit (.int .u16 8233), .lit (.int .u16 1)], .agg [.lit (.int .u16 8239), .lit (.int .u16 8287), .lit (.int .u16 48)], .agg [.lit (.int .u16 12288), .lit (.int .u16 12288), .lit (.int .u16 1)]] [], .nil, .lit (.int .i64 2)])
def laid_strings_asciiSpace {H : Type} : DataW H := .agg [.lit (.int .u8 0), .lit (.int .u8 0), .lit (.int .u8 0), .lit (.int .u8 0), .lit (.int .u8 0), .lit (.int .u8 0), .lit (.int .u8 0), .lit (.int .u8 0), .lit (.int .u8 0), .lit (.int .u8 1), .lit (.int .u8 1), .lit (.int .u8 1), .lit (.int .u8 1), .lit (.int .u8 1), .lit (.int .u8 0), .lit (.int .u8 0), .lit (.int .u8 0), .lit (.int .u8 0), .lit (.int .u8 0), .lit (.int .u8 0), .lit (.int .u8 0), .lit (.int .u8 0), .lit (.int .u8 0), .lit (.int .u8 0), .lit (.int .u8 0), .lit (.int .u8 0), .lit (.int .u8 0), .lit (.int .u8 0), .lit (.int .u8 0), .lit (.int .u8 0), .lit (.int .u8 0), .lit (.int .u8 0), .lit (.int .u8 1), .lit (.int .u8 0), .lit (.int .u8 0), .lit (.int .u8 0), .lit (.int .u8 0), .lit (.int .u8 0), .lit (.int .u8 0), .lit (.int .u8 0), .lit (.int .u8 0), .lit (.int .u8 0), .lit (.int .u8 0), .lit (.int .u8 0), .lit (.int .u8 0), .lit (.int .u8 0), .lit (.int .u8 0), .lit (.int .u8 0), .lit (.int .u8 0), .lit (.int .u8 0), .lit (.int .u8 0), .lit (.int .u8 0), .lit (.int .u8 0), .lit (.int .u8 0), .lit (.int .u8 0), .lit (.int .u8 0), .lit (.int .u8 0), .lit (.int .u8 0), .lit (.int .u8 0), .lit (.int .u8 0), .lit (.int .u8 0), .lit (.int .u8 0), .lit (.int .u8 0), .lit (.int .u8 0), .lit (.int .u8 0), .lit (.int .u8 0), .lit (.int .u8 0), .lit (.int .u8 0), .lit (.int .u8 0), .lit (.int .u8 0), .lit (.int .u8 0), .lit (.int .u8 0), .lit (.int .u8 0), .lit (.int .u8 0), .lit (.int .u8 0), .lit (.int .u8 0), .lit (.int .u8 0), .lit (.int .u8 0), .lit (.int .u8 0), .lit (.int .u8 0), .lit (.int .u8 0), .lit (.int .u8 0), .lit (.int .u8 0), .lit (.int .u8 0), .lit (.int .u8 0), .lit (.int .u8 0), .lit (.int .u8 0), .lit (.int .u8 0), .lit (.int .u8 0), .lit (.int .u8 0), .lit (.int .u8 0), .lit (.int .u8 0), .lit (.int .u8 0), .lit (.int .u8 0), .lit (.int .u8 0), .lit (.int .u8 0), .lit (.int .u8 0), .lit (.int .u8 0), .lit (.int .u8 0), .lit (.int .u8 0), .lit (.int .u8 0), .lit (.int .u8 0), .lit (.int .u8 0), .lit (.int .u8 0), .lit (.int .u8 0), .lit (.int .u8 0), .lit (.int .u8 0), .lit (.int .u8 0), .lit (.int .u8 0), .lit (.int .u8 0), .lit (.int .u8 0), .lit (.int .u8 0), .lit (.int .u8 0), .lit (.int .u8 0), .lit (.int .u8 0), .lit (.int .u8 0), .lit (.int .u8 0), .lit (.int .u8 0), .lit (.int .u8 0), .lit (.int .u8 0), .lit (.int .u8 0), .lit (.int .u8 0), .lit (.int .u8 0), .lit (.int .u8 0), .lit (.int .u8 0), .lit (.int .u8 0), .lit (.int .u8 0), .lit (.int .u8 0), .lit (.int .u8 0), .lit (.int .u8 0), .lit (.int .u8 0), .lit (.int .u8 0), .lit (.int .u8 0), .lit (.int .u8 0), .lit (.int .u8 0), .lit (.int .u8 0), .lit (.int .u8 0), .lit (.int .u8 0), .lit (.int .u8 0), .lit (.int .u8 0), .lit (.int .u8 0), .lit (.int .u8 0), .lit (.int .u8 0), .lit (.int .u8 0), .lit (.int .u8 0), .lit (.int .u8 0), .lit (.int .u8 0), .lit (.int .u8 0), .lit (.int .u8 0), .lit (.int .u8 0), .lit (.int .u8 0), .lit (.int .u8 0), .lit (.int .u8 0), .lit (.int .u8 0), .lit (.int .u8 0), .lit (.int .u8 0), .lit (.int .u8 0), .lit (.int .u8 0), .lit (.int .u8 0), .lit (.int .u8 0), .lit (.int .u8 0), .lit (.int .u8 0), .lit (.int .u8 0), .lit (.int .u8 0), .lit (.int .u8 0), .lit (.int .u8 0), .lit (.int .u8 0), .lit (.int .u8 0), .lit (.int .u8 0), .lit (.int .u8 0), .lit (.int .u8 0), .lit (.int .u8 0), .lit (.int .u8 0), .lit (.int .u8 0), .lit (.int .u8 0), .lit (.int .u8 0), .lit (.int .u8 0), .lit (.int .u8 0), .lit (.int .u8 0), .lit (.int .u8 0), .lit (.int .u8 0), .lit (.int .u8 0), .lit (.int .u8 0), .lit (.int .u8 0), .lit (.int .u8 0), .lit (.int .u8 0), .lit (.int .u8 0), .lit (.int .u8 0), .lit (.int .u8 0), .lit (.int .u8 0), .lit (.int .u8 0), .lit (.int .u8 0), .lit (.int .u8 0), .lit (.int .u8 0), .lit (.int .u8 0), .lit (.int .u8 0), .lit (.int .u8 0), .lit (.int .u8 0), .lit (.int .u8 0), .lit (.int .u8 0), .lit (.int .u8 0), .lit (.int .u8 0), .lit (.int .u8 0), .lit (.int .u8 0), .lit (.int .u8 0), .lit (.int .u8 0), .lit (.int .u8 0), .lit (.int .u8 0), .lit (.int .u8 0), .lit (.int .u8 0), .lit (.int .u8 0), .lit (.int .u8 0), .lit (.int .u8 0), .lit (.int .u8 0), .lit (.int .u8 0), .lit (.int .u8 0), .lit (.int .u8 0), .lit (.int .u8 0), .lit (.int .u8 0), .lit (.int .u8 0), .lit (.int .u8 0), .lit (.int .u8 0), .lit (.int .u8 0), .lit (.int .u8 0), .lit (.int .u8 0), .lit (.int .u8 0), .lit (.int .u8 0), .lit (.int .u8 0), .lit (.int .u8 0), .lit (.int .u8 0), .lit (.int .u8 0), .lit (.int .u8 0), .lit (.int .u8 0), .lit (.int .u8 0), .lit (.int .u8 0), .lit (.int .u8 0), .lit (.int .u8 0), .lit (.int .u8 0), .lit (.int .u8 0), .lit (.int .u8 0), .lit (.int .u8 0), .lit (.int .u8 0), .lit (.int .u8 0), .lit (.int .u8 0), .lit (.int .u8 0), .lit (.int .u8 0), .lit (.int .u8 0), .lit (.int .u8 0), .lit (.int .u8 0), .lit (.int .u8 0), .lit (.int .u8 0), .lit (.int .u8 0), .lit (.int .u8 0), .lit (.int .u8 0), .lit (.int .u8 0), .lit (.int .u8 0)]

/-- 'pilasterlaw03.SyntaxForms': WHATEVER THE INPUT: true; the input reads as it did. -/
def syntaxFormsSpec : ChangeSpec := { name := "syntaxForms", fn := fun _ => fun
  | [d1, d2, d3] => { results := [.lit (.bool true)], args := [d1, d2, d3] }
  | _ => none }
def syntaxFormsRow : OpenClaim := { program := "ytmakoecgogjemaadoor", sum := "ffcb1074028057e535059faa1436a39d77f9becc5326851bdb9daafecffe2c2d", func := "pilaster/pilasterlaw03.SyntaxForms", spec := "syntaxForms", unfollowed := true, recurses := true, named := ["strings.asciiSpace", "unicode.White_Space"], loops := true, apart := false, laid := [("unicode.White_Space", laid_unicode_White_Space), ("strings.asciiSpace", laid_strings_asciiSpace)] }
def SyntaxFormsSaid : Prop := syntaxFormsRow.holds Tryd.pinned (OpenSpec.ofChange syntaxFormsSpec)

/-- ITS FALSE NEIGHBOUR: 'it returns false'. Refute it at one input. -/
def syntaxFormsWrong : ChangeSpec := { name := "syntaxForms", fn := fun _ => fun
  | [d1, d2, d3] => { results := [.lit (.bool false)], args := [d1, d2, d3] }
  | _ => none }
def SyntaxFormsWrongFalsely : Prop := syntaxFormsRow.holds Tryd.pinned (OpenSpec.ofChange syntaxFormsWrong)

/-- 'pilasterlaw03.SyntaxParts': WHATEVER THE INPUT: true; the input reads as it did. -/
def syntaxPartsSpec : ChangeSpec := { name := "syntaxParts", fn := fun _ => fun
  | [d] => { results := [.lit (.bool true)], args := [d] }
  | _ => none }
def syntaxPartsRow : OpenClaim := { program := "ytmakoecgogjemaadoor", sum := "ffcb1074028057e535059faa1436a39d77f9becc5326851bdb9daafecffe2c2d", func := "pilaster/pilasterlaw03.SyntaxParts", spec := "syntaxParts", unfollowed := true, recurses := true, named := ["strings.asciiSpace", "unicode.White_Space"], loops := true, apart := false, laid := [("unicode.White_Space", laid_unicode_White_Space), ("strings.asciiSpace", laid_strings_asciiSpace)] }
def SyntaxPartsSaid : Prop := syntaxPartsRow.holds Tryd.pinned (OpenSpec.ofChange syntaxPartsSpec)

/-- ITS FALSE NEIGHBOUR: 'it returns false'. Refute it at one input. -/
def syntaxPartsWrong : ChangeSpec := { name := "syntaxParts", fn := fun _ => fun
  | [d] => { results := [.lit (.bool false)], args := [d] }
  | _ => none }
def SyntaxPartsWrongFalsely : Prop := syntaxPartsRow.holds Tryd.pinned (OpenSpec.ofChange syntaxPartsWrong)

/-- 'pilasterlaw03.SyntaxPaths': WHATEVER THE INPUT: true; the input reads as it did. -/
def syntaxPathsSpec : ChangeSpec := { name := "syntaxPaths", fn := fun _ => fun
  | [d] => { results := [.lit (.bool true)], args := [d] }
  | _ => none }
def syntaxPathsRow : OpenClaim := { program := "ytmakoecgogjemaadoor", sum := "ffcb1074028057e535059faa1436a39d77f9becc5326851bdb9daafecffe2c2d", func := "pilaster/pilasterlaw03.SyntaxPaths", spec := "syntaxPaths", unfollowed := true, recurses := true, named := ["strings.asciiSpace", "unicode.White_Space"], loops := true, apart := false, laid := [("unicode.White_Space", laid_unicode_White_Space), ("strings.asciiSpace", laid_strings_asciiSpace)] }
def SyntaxPathsSaid : Prop := syntaxPathsRow.holds Tryd.pinned (OpenSpec.ofChange syntaxPathsSpec)

/-- ITS FALSE NEIGHBOUR: 'it returns false'. Refute it at one input. -/
def syntaxPathsWrong : ChangeSpec := { name := "syntaxPaths", fn := fun _ => fun
  | [d] => { results := [.lit (.bool false)], args := [d] }
  | _ => none }
def SyntaxPathsWrongFalsely : Prop := syntaxPathsRow.holds Tryd.pinned (OpenSpec.ofChange syntaxPathsWrong)

/-- 'pilasterlaw03.SyntaxSizes': WHATEVER THE INPUT: true; the input reads as it did. -/
def syntaxSizesSpec : ChangeSpec := { name := "syntaxSizes", fn := fun _ => fun
  | [d1, d2] => { results := [.lit (.bool true)], args := [d1, d2] }
  | _ => none }
def syntaxSizesRow : OpenClaim := { program := "ytmakoecgogjemaadoor", sum := "ffcb1074028057e535059faa1436a39d77f9becc5326851bdb9daafecffe2c2d", func := "pilaster/pilasterlaw03.SyntaxSizes", spec := "syntaxSizes", unfollowed := true, recurses := true, named := ["strings.asciiSpace", "unicode.White_Space"], loops := true, apart := false, laid := [("unicode.White_Space", laid_unicode_White_Space), ("strings.asciiSpace", laid_strings_asciiSpace)] }
def SyntaxSizesSaid : Prop := syntaxSizesRow.holds Tryd.pinned (OpenSpec.ofChange syntaxSizesSpec)

/-- ITS FALSE NEIGHBOUR: 'it returns false'. Refute it at one input. -/
def syntaxSizesWrong : ChangeSpec := { name := "syntaxSizes", fn := fun _ => fun
  | [d1, d2] => { results := [.lit (.bool false)], args := [d1, d2] }
  | _ => none }
def SyntaxSizesWrongFalsely : Prop := syntaxSizesRow.holds Tryd.pinned (OpenSpec.ofChange syntaxSizesWrong)

/-- 'pilasterlaw03.SyntaxReplaces': WHATEVER THE INPUT: true; the input reads as it did. -/
def syntaxReplacesSpec : ChangeSpec := { name := "syntaxReplaces", fn := fun _ => fun
  | [d1, d2, d3] => { results := [.lit (.bool true)], args := [d1, d2, d3] }
  | _ => none }
def syntaxReplacesRow : OpenClaim := { program := "ytmakoecgogjemaadoor", sum := "ffcb1074028057e535059faa1436a39d77f9becc5326851bdb9daafecffe2c2d", func := "pilaster/pilasterlaw03.SyntaxReplaces", spec := "syntaxReplaces", unfollowed := true, recurses := true, named := ["strings.asciiSpace", "unicode.White_Space"], loops := true, apart := false, laid := [("unicode.White_Space", laid_unicode_White_Space), ("strings.asciiSpace", laid_strings_asciiSpace)] }
def SyntaxReplacesSaid : Prop := syntaxReplacesRow.holds Tryd.pinned (OpenSpec.ofChange syntaxReplacesSpec)

/-- ITS FALSE NEIGHBOUR: 'it returns false'. Refute it at one input. -/
def syntaxReplacesWrong : ChangeSpec := { name := "syntaxReplaces", fn := fun _ => fun
  | [d1, d2, d3] => { results := [.lit (.bool false)], args := [d1, d2, d3] }
  | _ => none }
def SyntaxReplacesWrongFalsely : Prop := syntaxReplacesRow.holds Tryd.pinned (OpenSpec.ofChange syntaxReplacesWrong)

/-- 'pilasterlaw03.SyntaxAgain': WHATEVER THE INPUT: true; the input reads as it did. -/
def syntaxAgainSpec : ChangeSpec := { name := "syntaxAgain", fn := fun _ => fun
  | [d1, d2, d3] => { results := [.lit (.bool true)], args := [d1, d2, d3] }
  | _ => none }
def syntaxAgainRow : OpenClaim := { program := "ytmakoecgogjemaadoor", sum := "ffcb1074028057e535059faa1436a39d77f9becc5326851bdb9daafecffe2c2d", func := "pilaster/pilasterlaw03.SyntaxAgain", spec := "syntaxAgain", unfollowed := true, recurses := true, named := ["strings.asciiSpace", "unicode.White_Space"], loops := true, apart := false, laid := [("unicode.White_Space", laid_unicode_White_Space), ("strings.asciiSpace", laid_strings_asciiSpace)] }
def SyntaxAgainSaid : Prop := syntaxAgainRow.holds Tryd.pinned (OpenSpec.ofChange syntaxAgainSpec)

/-- ITS FALSE NEIGHBOUR: 'it returns false'. Refute it at one input. -/
def syntaxAgainWrong : ChangeSpec := { name := "syntaxAgain", fn := fun _ => fun
  | [d1, d2, d3] => { results := [.lit (.bool false)], args := [d1, d2, d3] }
  | _ => none }
def SyntaxAgainWrongFalsely : Prop := syntaxAgainRow.holds Tryd.pinned (OpenSpec.ofChange syntaxAgainWrong)

/- THE SECOND FORM. 'bulk': how many values and letters a reading holds, each counted each time it is reached (what is shared counts as often as it is met; a slice's spare places count too). A statement '..UptoSaid' is the law's where the arguments, and the package variables that the reading takes, are together of bulk at most 1048576: NARROWER than '..Said'. Prove '..Said' where nothing that the law and all that it calls make is longer than what came in: it says more and counts as full. Else prove '..UptoSaid'. A law counts once. -/
mutual
def uptoBulk {H : Type} : DataW H → Nat
  | .lit (.string bytes) => bytes.length + 1
  | .lit _ => 1
  | .nil => 1
  | .ptr d => uptoBulk d + 1
  | .slice elems spare => uptoBulkAll elems + uptoBulkAll spare + 1
  | .agg parts => uptoBulkAll parts + 1
  | .iface _ d => uptoBulk d + 1
  | .map entries => uptoBulkEntries entries + 1
  | .held _ => 1
def uptoBulkAll {H : Type} : List (DataW H) → Nat
  | [] => 0
  | d :: r => uptoBulk d + uptoBulkAll r
def uptoBulkEntries {H : Type} : List (Lit × DataW H) → Nat
  | [] => 0
  | x :: r => uptoBulkEntry x + uptoBulkEntries r
def uptoBulkEntry {H : Type} : Lit × DataW H → Nat
  | (.string bytes, d) => bytes.length + uptoBulk d + 1
  | (_, d) => uptoBulk d + 1
 end
def uptoSmall : (H : Type) → List (DataW H) → Bool := fun _ ds => decide (uptoBulkAll ds ≤ 1048576)
def OpenSpec.upto (s : _root_.Go.ChangeSpec) : _root_.Go.OpenSpec := { _root_.Go.OpenSpec.ofChange s with cond := some uptoSmall }

/-- 'pilasterlaw03.SyntaxForms', WHERE WHAT IT READS IS OF BULK AT MOST 1048576: true; the input reads as it did. -/
def syntaxFormsUptoRow : OpenClaim := { program := "ytmakoecgogjemaadoor", sum := "ffcb1074028057e535059faa1436a39d77f9becc5326851bdb9daafecffe2c2d", func := "pilaster/pilasterlaw03.SyntaxForms", spec := "syntaxForms", unfollowed := true, recurses := true, named := ["strings.asciiSpace", "unicode.White_Space"], loops := true, apart := false, laid := [("unicode.White_Space", laid_unicode_White_Space), ("strings.asciiSpace", laid_strings_asciiSpace)], narrowed := true }
def SyntaxFormsUptoSaid : Prop := syntaxFormsUptoRow.holds Tryd.pinned (OpenSpec.upto syntaxFormsSpec)

/-- 'pilasterlaw03.SyntaxParts', WHERE WHAT IT READS IS OF BULK AT MOST 1048576: true; the input reads as it did. -/
def syntaxPartsUptoRow : OpenClaim := { program := "ytmakoecgogjemaadoor", sum := "ffcb1074028057e535059faa1436a39d77f9becc5326851bdb9daafecffe2c2d", func := "pilaster/pilasterlaw03.SyntaxParts", spec := "syntaxParts", unfollowed := true, recurses := true, named := ["strings.asciiSpace", "unicode.White_Space"], loops := true, apart := false, laid := [("unicode.White_Space", laid_unicode_White_Space), ("strings.asciiSpace", laid_strings_asciiSpace)], narrowed := true }
def SyntaxPartsUptoSaid : Prop := syntaxPartsUptoRow.holds Tryd.pinned (OpenSpec.upto syntaxPartsSpec)

/-- 'pilasterlaw03.SyntaxPaths', WHERE WHAT IT READS IS OF BULK AT MOST 1048576: true; the input reads as it did. -/
def syntaxPathsUptoRow : OpenClaim := { program := "ytmakoecgogjemaadoor", sum := "ffcb1074028057e535059faa1436a39d77f9becc5326851bdb9daafecffe2c2d", func := "pilaster/pilasterlaw03.SyntaxPaths", spec := "syntaxPaths", unfollowed := true, recurses := true, named := ["strings.asciiSpace", "unicode.White_Space"], loops := true, apart := false, laid := [("unicode.White_Space", laid_unicode_White_Space), ("strings.asciiSpace", laid_strings_asciiSpace)], narrowed := true }
def SyntaxPathsUptoSaid : Prop := syntaxPathsUptoRow.holds Tryd.pinned (OpenSpec.upto syntaxPathsSpec)

/-- 'pilasterlaw03.SyntaxSizes', WHERE WHAT IT READS IS OF BULK AT MOST 1048576: true; the input reads as it did. -/
def syntaxSizesUptoRow : OpenClaim := { program := "ytmakoecgogjemaadoor", sum := "ffcb1074028057e535059faa1436a39d77f9becc5326851bdb9daafecffe2c2d", func := "pilaster/pilasterlaw03.SyntaxSizes", spec := "syntaxSizes", unfollowed := true, recurses := true, named := ["strings.asciiSpace", "unicode.White_Space"], loops := true, apart := false, laid := [("unicode.White_Space", laid_unicode_White_Space), ("strings.asciiSpace", laid_strings_asciiSpace)], narrowed := true }
def SyntaxSizesUptoSaid : Prop := syntaxSizesUptoRow.holds Tryd.pinned (OpenSpec.upto syntaxSizesSpec)

/-- 'pilasterlaw03.SyntaxReplaces', WHERE WHAT IT READS IS OF BULK AT MOST 1048576: true; the input reads as it did. -/
def syntaxReplacesUptoRow : OpenClaim := { program := "ytmakoecgogjemaadoor", sum := "ffcb1074028057e535059faa1436a39d77f9becc5326851bdb9daafecffe2c2d", func := "pilaster/pilasterlaw03.SyntaxReplaces", spec := "syntaxReplaces", unfollowed := true, recurses := true, named := ["strings.asciiSpace", "unicode.White_Space"], loops := true, apart := false, laid := [("unicode.White_Space", laid_unicode_White_Space), ("strings.asciiSpace", laid_strings_asciiSpace)], narrowed := true }
def SyntaxReplacesUptoSaid : Prop := syntaxReplacesUptoRow.holds Tryd.pinned (OpenSpec.upto syntaxReplacesSpec)

/-- 'pilasterlaw03.SyntaxAgain', WHERE WHAT IT READS IS OF BULK AT MOST 1048576: true; the input reads as it did. -/
def syntaxAgainUptoRow : OpenClaim := { program := "ytmakoecgogjemaadoor", sum := "ffcb1074028057e535059faa1436a39d77f9becc5326851bdb9daafecffe2c2d", func := "pilaster/pilasterlaw03.SyntaxAgain", spec := "syntaxAgain", unfollowed := true, recurses := true, named := ["strings.asciiSpace", "unicode.White_Space"], loops := true, apart := false, laid := [("unicode.White_Space", laid_unicode_White_Space), ("strings.asciiSpace", laid_strings_asciiSpace)], narrowed := true }
def SyntaxAgainUptoSaid : Prop := syntaxAgainUptoRow.holds Tryd.pinned (OpenSpec.upto syntaxAgainSpec)

end Rows
end Go.Proofs.YtmakoecgogjemaaDoor
