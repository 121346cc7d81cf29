/-
  No cell of these rows narrows 'for every input' (looked for: loops, veiled, ifaces, maps, wideKeys, modest, calm, conditions, laid).
  DERIVED. THE GIVEN ROWS OF THIS SEAT. 7 by the template 'for every input the law returns true; each argument reads behind the call as it read before'; 0 by the template 'total and deterministic' (their statements: YtlofbfbcnlgmaaaTotals.lean).
  GIVEN WITH THE SEED: the statements are not yours to turn. If you find one false, say at which input.
  Laid BY PROGRAM, IN A SANDBOX (cutbox-rows.mjs): the forced cells as the released guide's own fill.sh prints them over the translation a11bfe18afbbccfb… (all of the seat's roots in one cut). By AI agents, Wed Nov 11 2026. No macro, syntax, notation, axiom, sorry.
-/
import Derived.Test.YtlofbfbcnlgmaaaChecked
import GoSem.Claim
import GoSem.ClaimJoined
import GoSem.ClaimMapViews
import Derived.JoinedTies
import Derived.KernelRfl
namespace Go.Proofs.Ytlofbfbcnlgmaaa
/- THE CELL 'sum', in the pinned program and in every row, IS THE sha256 OF THE DUMP (.gsa) THAT YtlofbfbcnlgmaaaProg.lean LOADS. Nothing in Lean hashes anything: it is a label: what it is worth is what the hold of that sum in a sandbox is worth. -/
noncomputable def Try.pinned : Pinned := { name := "ytlofbfbcnlgmaaa", sum := "a11bfe18afbbccfb504d4aa3642e4bd163e2bc3be01fb93a1840db58ececbc7d", checked := Try.checked }
namespace Rows
def none {H : Type} : Left H := { results := [], args := [] }

/-- 'pilasterlaw53.StoreWrites': WHATEVER THE INPUT: true; the input reads as it did. -/
def storeWritesSpec : ChangeSpec := { name := "storeWrites", fn := fun _ => fun
  | [d1, d2, d3] => { results := [.lit (.bool true)], args := [d1, d2, d3] }
  | _ => none }
def storeWritesRow : OpenClaim := { program := "ytlofbfbcnlgmaaa", sum := "a11bfe18afbbccfb504d4aa3642e4bd163e2bc3be01fb93a1840db58ececbc7d", func := "pilaster/pilasterlaw53.StoreWrites", spec := "storeWrites", apart := false }
def StoreWritesSaid : Prop := storeWritesRow.holds Try.pinned (OpenSpec.ofChange storeWritesSpec)

/-- ITS FALSE NEIGHBOUR: 'it returns false'. Refute it at one input. -/
def storeWritesWrong : ChangeSpec := { name := "storeWrites", fn := fun _ => fun
  | [d1, d2, d3] => { results := [.lit (.bool false)], args := [d1, d2, d3] }
  | _ => none }
def StoreWritesWrongFalsely : Prop := storeWritesRow.holds Try.pinned (OpenSpec.ofChange storeWritesWrong)

/-- 'pilasterlaw53.StoreBasics': WHATEVER THE INPUT: true; the input reads as it did. -/
def storeBasicsSpec : ChangeSpec := { name := "storeBasics", fn := fun _ => fun
  | [d1, d2, d3] => { results := [.lit (.bool true)], args := [d1, d2, d3] }
  | _ => none }
def storeBasicsRow : OpenClaim := { program := "ytlofbfbcnlgmaaa", sum := "a11bfe18afbbccfb504d4aa3642e4bd163e2bc3be01fb93a1840db58ececbc7d", func := "pilaster/pilasterlaw53.StoreBasics", spec := "storeBasics", apart := false }
def StoreBasicsSaid : Prop := storeBasicsRow.holds Try.pinned (OpenSpec.ofChange storeBasicsSpec)

/-- ITS FALSE NEIGHBOUR: 'it returns false'. Refute it at one input. -/
def storeBasicsWrong : ChangeSpec := { name := "storeBasics", fn := fun _ => fun
  | [d1, d2, d3] => { results := [.lit (.bool false)], args := [d1, d2, d3] }
  | _ => none }
def StoreBasicsWrongFalsely : Prop := storeBasicsRow.holds Try.pinned (OpenSpec.ofChange storeBasicsWrong)

/-- 'pilasterlaw53.StoreCompacted': WHATEVER THE INPUT: true; the input reads as it did. -/
def storeCompactedSpec : ChangeSpec := { name := "storeCompacted", fn := fun _ => fun
  | [d] => { results := [.lit (.bool true)], args := [d] }
  | _ => none }
def storeCompactedRow : OpenClaim := { program := "ytlofbfbcnlgmaaa", sum := "a11bfe18afbbccfb504d4aa3642e4bd163e2bc3be01fb93a1840db58ececbc7d", func := "pilaster/pilasterlaw53.StoreCompacted", spec := "storeCompacted", unfollowed := true, recurses := true, apart := false }
def StoreCompactedSaid : Prop := storeCompactedRow.holds Try.pinned (OpenSpec.ofChange storeCompactedSpec)

/-- ITS FALSE NEIGHBOUR: 'it returns false'. Refute it at one input. -/
def storeCompactedWrong : ChangeSpec := { name := "storeCompacted", fn := fun _ => fun
  | [d] => { results := [.lit (.bool false)], args := [d] }
  | _ => none }
def StoreCompactedWrongFalsely : Prop := storeCompactedRow.holds Try.pinned (OpenSpec.ofChange storeCompactedWrong)

/-- 'pilasterlaw53.StoreTorn': WHATEVER THE INPUT: true; the input reads as it did. -/
def storeTornSpec : ChangeSpec := { name := "storeTorn", fn := fun _ => fun
  | [d1, d2, d3] => { results := [.lit (.bool true)], args := [d1, d2, d3] }
  | _ => none }
def storeTornRow : OpenClaim := { program := "ytlofbfbcnlgmaaa", sum := "a11bfe18afbbccfb504d4aa3642e4bd163e2bc3be01fb93a1840db58ececbc7d", func := "pilaster/pilasterlaw53.StoreTorn", spec := "storeTorn", unfollowed := true, recurses := true, apart := false }
def StoreTornSaid : Prop := storeTornRow.holds Try.pinned (OpenSpec.ofChange storeTornSpec)

/-- ITS FALSE NEIGHBOUR: 'it returns false'. Refute it at one input. -/
def storeTornWrong : ChangeSpec := { name := "storeTorn", fn := fun _ => fun
  | [d1, d2, d3] => { results := [.lit (.bool false)], args := [d1, d2, d3] }
  | _ => none }
def StoreTornWrongFalsely : Prop := storeTornRow.holds Try.pinned (OpenSpec.ofChange storeTornWrong)

/-- 'pilasterlaw53.StoreReads': WHATEVER THE INPUT: true; the input reads as it did. -/
def storeReadsSpec : ChangeSpec := { name := "storeReads", fn := fun _ => fun
  | [d1, d2] => { results := [.lit (.bool true)], args := [d1, d2] }
  | _ => none }
def storeReadsRow : OpenClaim := { program := "ytlofbfbcnlgmaaa", sum := "a11bfe18afbbccfb504d4aa3642e4bd163e2bc3be01fb93a1840db58ececbc7d", func := "pilaster/pilasterlaw53.StoreReads", spec := "storeReads", unfollowed := true, recurses := true, apart := false }
def StoreReadsSaid : Prop := storeReadsRow.holds Try.pinned (OpenSpec.ofChange storeReadsSpec)

/-- ITS FALSE NEIGHBOUR: 'it returns false'. Refute it at one input. -/
def storeReadsWrong : ChangeSpec := { name := "storeReads", fn := fun _ => fun
  | [d1, d2] => { results := [.lit (.bool false)], args := [d1, d2] }
  | _ => none }
def StoreReadsWrongFalsely : Prop := storeReadsRow.holds Try.pinned (OpenSpec.ofChange storeReadsWrong)

/-- 'pilasterlaw53.StoreCrashed': WHATEVER THE INPUT: true; the input reads as it did. -/
def storeCrashedSpec : ChangeSpec := { name := "storeCrashed", fn := fun _ => fun
  | [d1, d2, d3, d4] => { results := [.lit (.bool true)], args := [d1, d2, d3, d4] }
  | _ => none }
def storeCrashedRow : OpenClaim := { program := "ytlofbfbcnlgmaaa", sum := "a11bfe18afbbccfb504d4aa3642e4bd163e2bc3be01fb93a1840db58ececbc7d", func := "pilaster/pilasterlaw53.StoreCrashed", spec := "storeCrashed", unfollowed := true, recurses := true, apart := false }
def StoreCrashedSaid : Prop := storeCrashedRow.holds Try.pinned (OpenSpec.ofChange storeCrashedSpec)

/-- ITS FALSE NEIGHBOUR: 'it returns false'. Refute it at one input. -/
def storeCrashedWrong : ChangeSpec := { name := "storeCrashed", fn := fun _ => fun
  | [d1, d2, d3, d4] => { results := [.lit (.bool false)], args := [d1, d2, d3, d4] }
  | _ => none }
def StoreCrashedWrongFalsely : Prop := storeCrashedRow.holds Try.pinned (OpenSpec.ofChange storeCrashedWrong)

/-- 'pilasterlaw53.StoreMap': WHATEVER THE INPUT: true; the input reads as it did. -/
def storeMapSpec : ChangeSpec := { name := "storeMap", fn := fun _ => fun
  | [d1, d2] => { results := [.lit (.bool true)], args := [d1, d2] }
  | _ => none }
def storeMapRow : OpenClaim := { program := "ytlofbfbcnlgmaaa", sum := "a11bfe18afbbccfb504d4aa3642e4bd163e2bc3be01fb93a1840db58ececbc7d", func := "pilaster/pilasterlaw53.StoreMap", spec := "storeMap", unfollowed := true, recurses := true, apart := false }
def StoreMapSaid : Prop := storeMapRow.holds Try.pinned (OpenSpec.ofChange storeMapSpec)

/-- ITS FALSE NEIGHBOUR: 'it returns false'. Refute it at one input. -/
def storeMapWrong : ChangeSpec := { name := "storeMap", fn := fun _ => fun
  | [d1, d2] => { results := [.lit (.bool false)], args := [d1, d2] }
  | _ => none }
def StoreMapWrongFalsely : Prop := storeMapRow.holds Try.pinned (OpenSpec.ofChange storeMapWrong)

/- THE SECOND FORM. 'bulk': how many values and letters a reading holds, each counted each time it is reached (what is shared counts as often as it is met; a slice's spare places count too). A statement '..UptoSaid' is the law's where the arguments, and the package variables that the reading takes, are together of bulk at most 1048576: NARROWER than '..Said'. Prove '..Said' where nothing that the law and all that it calls make is longer than what came in: it says more and counts as full. Else prove '..UptoSaid'. A law counts once. -/
mutual
def uptoBulk {H : Type} : DataW H → Nat
  | .lit (.string bytes) => bytes.length + 1
  | .lit _ => 1
  | .nil => 1
  | .ptr d => uptoBulk d + 1
  | .slice elems spare => uptoBulkAll elems + uptoBulkAll spare + 1
  | .agg parts => uptoBulkAll parts + 1
  | .iface _ d => uptoBulk d + 1
  | .map entries => uptoBulkEntries entries + 1
  | .held _ => 1
def uptoBulkAll {H : Type} : List (DataW H) → Nat
  | [] => 0
  | d :: r => uptoBulk d + uptoBulkAll r
def uptoBulkEntries {H : Type} : List (Lit × DataW H) → Nat
  | [] => 0
  | x :: r => uptoBulkEntry x + uptoBulkEntries r
def uptoBulkEntry {H : Type} : Lit × DataW H → Nat
  | (.string bytes, d) => bytes.length + uptoBulk d + 1
  | (_, d) => uptoBulk d + 1
 end
def uptoSmall : (H : Type) → List (DataW H) → Bool := fun _ ds => decide (uptoBulkAll ds ≤ 1048576)
def OpenSpec.upto (s : _root_.Go.ChangeSpec) : _root_.Go.OpenSpec := { _root_.Go.OpenSpec.ofChange s with cond := some uptoSmall }

/-- 'pilasterlaw53.StoreWrites', WHERE WHAT IT READS IS OF BULK AT MOST 1048576: true; the input reads as it did. -/
def storeWritesUptoRow : OpenClaim := { program := "ytlofbfbcnlgmaaa", sum := "a11bfe18afbbccfb504d4aa3642e4bd163e2bc3be01fb93a1840db58ececbc7d", func := "pilaster/pilasterlaw53.StoreWrites", spec := "storeWrites", apart := false, narrowed := true }
def StoreWritesUptoSaid : Prop := storeWritesUptoRow.holds Try.pinned (OpenSpec.upto storeWritesSpec)

/-- 'pilasterlaw53.StoreBasics', WHERE WHAT IT READS IS OF BULK AT MOST 1048576: true; the input reads as it did. -/
def storeBasicsUptoRow : OpenClaim := { program := "ytlofbfbcnlgmaaa", sum := "a11bfe18afbbccfb504d4aa3642e4bd163e2bc3be01fb93a1840db58ececbc7d", func := "pilaster/pilasterlaw53.StoreBasics", spec := "storeBasics", apart := false, narrowed := true }
def StoreBasicsUptoSaid : Prop := storeBasicsUptoRow.holds Try.pinned (OpenSpec.upto storeBasicsSpec)

/-- 'pilasterlaw53.StoreCompacted', WHERE WHAT IT READS IS OF BULK AT MOST 1048576: true; the input reads as it did. -/
def storeCompactedUptoRow : OpenClaim := { program := "ytlofbfbcnlgmaaa", sum := "a11bfe18afbbccfb504d4aa3642e4bd163e2bc3be01fb93a1840db58ececbc7d", func := "pilaster/pilasterlaw53.StoreCompacted", spec := "storeCompacted", unfollowed := true, recurses := true, apart := false, narrowed := true }
def StoreCompactedUptoSaid : Prop := storeCompactedUptoRow.holds Try.pinned (OpenSpec.upto storeCompactedSpec)

/-- 'pilasterlaw53.StoreTorn', WHERE WHAT IT READS IS OF BULK AT MOST 1048576: true; the input reads as it did. -/
def storeTornUptoRow : OpenClaim := { program := "ytlofbfbcnlgmaaa", sum := "a11bfe18afbbccfb504d4aa3642e4bd163e2bc3be01fb93a1840db58ececbc7d", func := "pilaster/pilasterlaw53.StoreTorn", spec := "storeTorn", unfollowed := true, recurses := true, apart := false, narrowed := true }
def StoreTornUptoSaid : Prop := storeTornUptoRow.holds Try.pinned (OpenSpec.upto storeTornSpec)

/-- 'pilasterlaw53.StoreReads', WHERE WHAT IT READS IS OF BULK AT MOST 1048576: true; the input reads as it did. -/
def storeReadsUptoRow : OpenClaim := { program := "ytlofbfbcnlgmaaa", sum := "a11bfe18afbbccfb504d4aa3642e4bd163e2bc3be01fb93a1840db58ececbc7d", func := "pilaster/pilasterlaw53.StoreReads", spec := "storeReads", unfollowed := true, recurses := true, apart := false, narrowed := true }
def StoreReadsUptoSaid : Prop := storeReadsUptoRow.holds Try.pinned (OpenSpec.upto storeReadsSpec)

/-- 'pilasterlaw53.StoreCrashed', WHERE WHAT IT READS IS OF BULK AT MOST 1048576: true; the input reads as it did. -/
def storeCrashedUptoRow : OpenClaim := { program := "ytlofbfbcnlgmaaa", sum := "a11bfe18afbbccfb504d4aa3642e4bd163e2bc3be01fb93a1840db58ececbc7d", func := "pilaster/pilasterlaw53.StoreCrashed", spec := "storeCrashed", unfollowed := true, recurses := true, apart := false, narrowed := true }
def StoreCrashedUptoSaid : Prop := storeCrashedUptoRow.holds Try.pinned (OpenSpec.upto storeCrashedSpec)

/-- 'pilasterlaw53.StoreMap', WHERE WHAT IT READS IS OF BULK AT MOST 1048576: true; the input reads as it did. -/
def storeMapUptoRow : OpenClaim := { program := "ytlofbfbcnlgmaaa", sum := "a11bfe18afbbccfb504d4aa3642e4bd163e2bc3be01fb93a1840db58ececbc7d", func := "pilaster/pilasterlaw53.StoreMap", spec := "storeMap", unfollowed := true, recurses := true, apart := false, narrowed := true }
def StoreMapUptoSaid : Prop := storeMapUptoRow.holds Try.pinned (OpenSpec.upto storeMapSpec)

end Rows
end Go.Proofs.Ytlofbfbcnlgmaaa
