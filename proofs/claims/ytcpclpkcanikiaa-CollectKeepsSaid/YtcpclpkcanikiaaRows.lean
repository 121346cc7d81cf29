/-
  NARROWER THAN 'FOR EVERY INPUT', by the rows' own cells (each row's printed sentence says how): HeapPuts: loops · HeapBack: loops · CollectGarbage: loops.
  DERIVED. THE GIVEN ROWS OF THIS SEAT. 12 by the template 'for every input the law returns true; each argument reads behind the call as it read before'; 0 by the template 'total and deterministic' (their statements: YtcpclpkcanikiaaTotals.lean).
  GIVEN WITH THE SEED: the statements are not yours to turn. If you find one false, say at which input.
  Laid BY PROGRAM, IN A SANDBOX (cutbox-rows.mjs): the forced cells as the released guide's own fill.sh prints them over the translation b8abe7559ddbf3ac… (all of the seat's roots in one cut). By AI agents, Wed Nov 11 2026. No macro, syntax, notation, axiom, sorry.
-/
import Derived.Test.YtcpclpkcanikiaaChecked
import GoSem.Claim
import GoSem.ClaimJoined
import GoSem.ClaimMapViews
import Derived.JoinedTies
import Derived.KernelRfl
namespace Go.Proofs.Ytcpclpkcanikiaa
/- THE CELL 'sum', in the pinned program and in every row, IS THE sha256 OF THE DUMP (.gsa) THAT YtcpclpkcanikiaaProg.lean LOADS. Nothing in Lean hashes anything: it is a label: what it is worth is what the hold of that sum in a sandbox is worth. -/
noncomputable def Try.pinned : Pinned := { name := "ytcpclpkcanikiaa", sum := "b8abe7559ddbf3ac9bc491346e8190353cf27ec71a63a30f8fefed259bceac93", checked := Try.checked }
namespace Rows
def none {H : Type} : Left H := { results := [], args := [] }

/-- 'pilasterlaw49.HeapBasics': WHATEVER THE INPUT: true; the input reads as it did. -/
def heapBasicsSpec : ChangeSpec := { name := "heapBasics", fn := fun _ => fun
  | [d1, d2, d3, d4] => { results := [.lit (.bool true)], args := [d1, d2, d3, d4] }
  | _ => none }
def heapBasicsRow : OpenClaim := { program := "ytcpclpkcanikiaa", sum := "b8abe7559ddbf3ac9bc491346e8190353cf27ec71a63a30f8fefed259bceac93", func := "pilaster/pilasterlaw49.HeapBasics", spec := "heapBasics", unfollowed := true, recurses := true, apart := false }
def HeapBasicsSaid : Prop := heapBasicsRow.holds Try.pinned (OpenSpec.ofChange heapBasicsSpec)

/-- ITS FALSE NEIGHBOUR: 'it returns false'. Refute it at one input. -/
def heapBasicsWrong : ChangeSpec := { name := "heapBasics", fn := fun _ => fun
  | [d1, d2, d3, d4] => { results := [.lit (.bool false)], args := [d1, d2, d3, d4] }
  | _ => none }
def HeapBasicsWrongFalsely : Prop := heapBasicsRow.holds Try.pinned (OpenSpec.ofChange heapBasicsWrong)

/-- 'pilasterlaw49.HeapPuts': WHATEVER THE INPUT: true; the input reads as it did. -/
def heapPutsSpec : ChangeSpec := { name := "heapPuts", fn := fun _ => fun
  | [d1, d2, d3] => { results := [.lit (.bool true)], args := [d1, d2, d3] }
  | _ => none }
def heapPutsRow : OpenClaim := { program := "ytcpclpkcanikiaa", sum := "b8abe7559ddbf3ac9bc491346e8190353cf27ec71a63a30f8fefed259bceac93", func := "pilaster/pilasterlaw49.HeapPuts", spec := "heapPuts", unfollowed := true, recurses := true, loops := true, apart := false }
def HeapPutsSaid : Prop := heapPutsRow.holds Try.pinned (OpenSpec.ofChange heapPutsSpec)

/-- ITS FALSE NEIGHBOUR: 'it returns false'. Refute it at one input. -/
def heapPutsWrong : ChangeSpec := { name := "heapPuts", fn := fun _ => fun
  | [d1, d2, d3] => { results := [.lit (.bool false)], args := [d1, d2, d3] }
  | _ => none }
def HeapPutsWrongFalsely : Prop := heapPutsRow.holds Try.pinned (OpenSpec.ofChange heapPutsWrong)

/-- 'pilasterlaw49.HeapAllocs': WHATEVER THE INPUT: true; the input reads as it did. -/
def heapAllocsSpec : ChangeSpec := { name := "heapAllocs", fn := fun _ => fun
  | [d1, d2, d3, d4] => { results := [.lit (.bool true)], args := [d1, d2, d3, d4] }
  | _ => none }
def heapAllocsRow : OpenClaim := { program := "ytcpclpkcanikiaa", sum := "b8abe7559ddbf3ac9bc491346e8190353cf27ec71a63a30f8fefed259bceac93", func := "pilaster/pilasterlaw49.HeapAllocs", spec := "heapAllocs", unfollowed := true, recurses := true, apart := false }
def HeapAllocsSaid : Prop := heapAllocsRow.holds Try.pinned (OpenSpec.ofChange heapAllocsSpec)

/-- ITS FALSE NEIGHBOUR: 'it returns false'. Refute it at one input. -/
def heapAllocsWrong : ChangeSpec := { name := "heapAllocs", fn := fun _ => fun
  | [d1, d2, d3, d4] => { results := [.lit (.bool false)], args := [d1, d2, d3, d4] }
  | _ => none }
def HeapAllocsWrongFalsely : Prop := heapAllocsRow.holds Try.pinned (OpenSpec.ofChange heapAllocsWrong)

/-- 'pilasterlaw49.HeapReads': WHATEVER THE INPUT: true; the input reads as it did. -/
def heapReadsSpec : ChangeSpec := { name := "heapReads", fn := fun _ => fun
  | [d1, d2] => { results := [.lit (.bool true)], args := [d1, d2] }
  | _ => none }
def heapReadsRow : OpenClaim := { program := "ytcpclpkcanikiaa", sum := "b8abe7559ddbf3ac9bc491346e8190353cf27ec71a63a30f8fefed259bceac93", func := "pilaster/pilasterlaw49.HeapReads", spec := "heapReads", unfollowed := true, recurses := true, apart := false }
def HeapReadsSaid : Prop := heapReadsRow.holds Try.pinned (OpenSpec.ofChange heapReadsSpec)

/-- ITS FALSE NEIGHBOUR: 'it returns false'. Refute it at one input. -/
def heapReadsWrong : ChangeSpec := { name := "heapReads", fn := fun _ => fun
  | [d1, d2] => { results := [.lit (.bool false)], args := [d1, d2] }
  | _ => none }
def HeapReadsWrongFalsely : Prop := heapReadsRow.holds Try.pinned (OpenSpec.ofChange heapReadsWrong)

/-- 'pilasterlaw49.HeapRoom': WHATEVER THE INPUT: true; the input reads as it did. -/
def heapRoomSpec : ChangeSpec := { name := "heapRoom", fn := fun _ => fun
  | [d1, d2] => { results := [.lit (.bool true)], args := [d1, d2] }
  | _ => none }
def heapRoomRow : OpenClaim := { program := "ytcpclpkcanikiaa", sum := "b8abe7559ddbf3ac9bc491346e8190353cf27ec71a63a30f8fefed259bceac93", func := "pilaster/pilasterlaw49.HeapRoom", spec := "heapRoom", unfollowed := true, recurses := true, apart := false }
def HeapRoomSaid : Prop := heapRoomRow.holds Try.pinned (OpenSpec.ofChange heapRoomSpec)

/-- ITS FALSE NEIGHBOUR: 'it returns false'. Refute it at one input. -/
def heapRoomWrong : ChangeSpec := { name := "heapRoom", fn := fun _ => fun
  | [d1, d2] => { results := [.lit (.bool false)], args := [d1, d2] }
  | _ => none }
def HeapRoomWrongFalsely : Prop := heapRoomRow.holds Try.pinned (OpenSpec.ofChange heapRoomWrong)

/-- 'pilasterlaw50.CollectData': WHATEVER THE INPUT: true; the input reads as it did. -/
def collectDataSpec : ChangeSpec := { name := "collectData", fn := fun _ => fun
  | [d1, d2] => { results := [.lit (.bool true)], args := [d1, d2] }
  | _ => none }
def collectDataRow : OpenClaim := { program := "ytcpclpkcanikiaa", sum := "b8abe7559ddbf3ac9bc491346e8190353cf27ec71a63a30f8fefed259bceac93", func := "pilaster/pilasterlaw50.CollectData", spec := "collectData", unfollowed := true, recurses := true, apart := false }
def CollectDataSaid : Prop := collectDataRow.holds Try.pinned (OpenSpec.ofChange collectDataSpec)

/-- ITS FALSE NEIGHBOUR: 'it returns false'. Refute it at one input. -/
def collectDataWrong : ChangeSpec := { name := "collectData", fn := fun _ => fun
  | [d1, d2] => { results := [.lit (.bool false)], args := [d1, d2] }
  | _ => none }
def CollectDataWrongFalsely : Prop := collectDataRow.holds Try.pinned (OpenSpec.ofChange collectDataWrong)

/-- 'pilasterlaw50.CollectRoom': WHATEVER THE INPUT: true; the input reads as it did. -/
def collectRoomSpec : ChangeSpec := { name := "collectRoom", fn := fun _ => fun
  | [d1, d2, d3] => { results := [.lit (.bool true)], args := [d1, d2, d3] }
  | _ => none }
def collectRoomRow : OpenClaim := { program := "ytcpclpkcanikiaa", sum := "b8abe7559ddbf3ac9bc491346e8190353cf27ec71a63a30f8fefed259bceac93", func := "pilaster/pilasterlaw50.CollectRoom", spec := "collectRoom", unfollowed := true, recurses := true, apart := false }
def CollectRoomSaid : Prop := collectRoomRow.holds Try.pinned (OpenSpec.ofChange collectRoomSpec)

/-- ITS FALSE NEIGHBOUR: 'it returns false'. Refute it at one input. -/
def collectRoomWrong : ChangeSpec := { name := "collectRoom", fn := fun _ => fun
  | [d1, d2, d3] => { results := [.lit (.bool false)], args := [d1, d2, d3] }
  | _ => none }
def CollectRoomWrongFalsely : Prop := collectRoomRow.holds Try.pinned (OpenSpec.ofChange collectRoomWrong)

/-- 'pilasterlaw49.HeapBack': WHATEVER THE INPUT: true; the input reads as it did. -/
def heapBackSpec : ChangeSpec := { name := "heapBack", fn := fun _ => fun
  | [d1, d2] => { results := [.lit (.bool true)], args := [d1, d2] }
  | _ => none }
def heapBackRow : OpenClaim := { program := "ytcpclpkcanikiaa", sum := "b8abe7559ddbf3ac9bc491346e8190353cf27ec71a63a30f8fefed259bceac93", func := "pilaster/pilasterlaw49.HeapBack", spec := "heapBack", unfollowed := true, recurses := true, loops := true, apart := false }
def HeapBackSaid : Prop := heapBackRow.holds Try.pinned (OpenSpec.ofChange heapBackSpec)

/-- ITS FALSE NEIGHBOUR: 'it returns false'. Refute it at one input. -/
def heapBackWrong : ChangeSpec := { name := "heapBack", fn := fun _ => fun
  | [d1, d2] => { results := [.lit (.bool false)], args := [d1, d2] }
  | _ => none }
def HeapBackWrongFalsely : Prop := heapBackRow.holds Try.pinned (OpenSpec.ofChange heapBackWrong)

/-- 'pilasterlaw50.CollectSame': WHATEVER THE INPUT: true; the input reads as it did. -/
def collectSameSpec : ChangeSpec := { name := "collectSame", fn := fun _ => fun
  | [d1, d2, d3, d4] => { results := [.lit (.bool true)], args := [d1, d2, d3, d4] }
  | _ => none }
def collectSameRow : OpenClaim := { program := "ytcpclpkcanikiaa", sum := "b8abe7559ddbf3ac9bc491346e8190353cf27ec71a63a30f8fefed259bceac93", func := "pilaster/pilasterlaw50.CollectSame", spec := "collectSame", unfollowed := true, recurses := true, apart := false }
def CollectSameSaid : Prop := collectSameRow.holds Try.pinned (OpenSpec.ofChange collectSameSpec)

/-- ITS FALSE NEIGHBOUR: 'it returns false'. Refute it at one input. -/
def collectSameWrong : ChangeSpec := { name := "collectSame", fn := fun _ => fun
  | [d1, d2, d3, d4] => { results := [.lit (.bool false)], args := [d1, d2, d3, d4] }
  | _ => none }
def CollectSameWrongFalsely : Prop := collectSameRow.holds Try.pinned (OpenSpec.ofChange collectSameWrong)

/-- 'pilasterlaw50.CollectGarbage': WHATEVER THE INPUT: true; the input reads as it did. -/
def collectGarbageSpec : ChangeSpec := { name := "collectGarbage", fn := fun _ => fun
  | [d1, d2, d3] => { results := [.lit (.bool true)], args := [d1, d2, d3] }
  | _ => none }
def collectGarbageRow : OpenClaim := { program := "ytcpclpkcanikiaa", sum := "b8abe7559ddbf3ac9bc491346e8190353cf27ec71a63a30f8fefed259bceac93", func := "pilaster/pilasterlaw50.CollectGarbage", spec := "collectGarbage", unfollowed := true, recurses := true, loops := true, apart := false }
def CollectGarbageSaid : Prop := collectGarbageRow.holds Try.pinned (OpenSpec.ofChange collectGarbageSpec)

/-- ITS FALSE NEIGHBOUR: 'it returns false'. Refute it at one input. -/
def collectGarbageWrong : ChangeSpec := { name := "collectGarbage", fn := fun _ => fun
  | [d1, d2, d3] => { results := [.lit (.bool false)], args := [d1, d2, d3] }
  | _ => none }
def CollectGarbageWrongFalsely : Prop := collectGarbageRow.holds Try.pinned (OpenSpec.ofChange collectGarbageWrong)

/-- 'pilasterlaw50.CollectHeaps': WHATEVER THE INPUT: true; the input reads as it did. -/
def collectHeapsSpec : ChangeSpec := { name := "collectHeaps", fn := fun _ => fun
  | [d1, d2] => { results := [.lit (.bool true)], args := [d1, d2] }
  | _ => none }
def collectHeapsRow : OpenClaim := { program := "ytcpclpkcanikiaa", sum := "b8abe7559ddbf3ac9bc491346e8190353cf27ec71a63a30f8fefed259bceac93", func := "pilaster/pilasterlaw50.CollectHeaps", spec := "collectHeaps", unfollowed := true, recurses := true, apart := false }
def CollectHeapsSaid : Prop := collectHeapsRow.holds Try.pinned (OpenSpec.ofChange collectHeapsSpec)

/-- ITS FALSE NEIGHBOUR: 'it returns false'. Refute it at one input. -/
def collectHeapsWrong : ChangeSpec := { name := "collectHeaps", fn := fun _ => fun
  | [d1, d2] => { results := [.lit (.bool false)], args := [d1, d2] }
  | _ => none }
def CollectHeapsWrongFalsely : Prop := collectHeapsRow.holds Try.pinned (OpenSpec.ofChange collectHeapsWrong)

/-- 'pilasterlaw50.CollectKeeps': WHATEVER THE INPUT: true; the input reads as it did. -/
def collectKeepsSpec : ChangeSpec := { name := "collectKeeps", fn := fun _ => fun
  | [d1, d2] => { results := [.lit (.bool true)], args := [d1, d2] }
  | _ => none }
def collectKeepsRow : OpenClaim := { program := "ytcpclpkcanikiaa", sum := "b8abe7559ddbf3ac9bc491346e8190353cf27ec71a63a30f8fefed259bceac93", func := "pilaster/pilasterlaw50.CollectKeeps", spec := "collectKeeps", unfollowed := true, recurses := true, apart := false }
def CollectKeepsSaid : Prop := collectKeepsRow.holds Try.pinned (OpenSpec.ofChange collectKeepsSpec)

/-- ITS FALSE NEIGHBOUR: 'it returns false'. Refute it at one input. -/
def collectKeepsWrong : ChangeSpec := { name := "collectKeeps", fn := fun _ => fun
  | [d1, d2] => { results := [.lit (.bool false)], args := [d1, d2] }
  | _ => none }
def CollectKeepsWrongFalsely : Prop := collectKeepsRow.holds Try.pinned (OpenSpec.ofChange collectKeepsWrong)

/- THE SECOND FORM. 'bulk': how many values and letters a reading holds, each counted each time it is reached (what is shared counts as often as it is met; a slice's spare places count too). A statement '..UptoSaid' is the law's where the arguments, and the package variables that the reading takes, are together of bulk at most 1048576: NARROWER than '..Said'. Prove '..Said' where nothing that the law and all that it calls make is longer than what came in: it says more and counts as full. Else prove '..UptoSaid'. A law counts once. -/
mutual
def uptoBulk {H : Type} : DataW H → Nat
  | .lit (.string bytes) => bytes.length + 1
  | .lit _ => 1
  | .nil => 1
  | .ptr d => uptoBulk d + 1
  | .slice elems spare => uptoBulkAll elems + uptoBulkAll spare + 1
  | .agg parts => uptoBulkAll parts + 1
  | .iface _ d => uptoBulk d + 1
  | .map entries => uptoBulkEntries entries + 1
  | .held _ => 1
def uptoBulkAll {H : Type} : List (DataW H) → Nat
  | [] => 0
  | d :: r => uptoBulk d + uptoBulkAll r
def uptoBulkEntries {H : Type} : List (Lit × DataW H) → Nat
  | [] => 0
  | x :: r => uptoBulkEntry x + uptoBulkEntries r
def uptoBulkEntry {H : Type} : Lit × DataW H → Nat
  | (.string bytes, d) => bytes.length + uptoBulk d + 1
  | (_, d) => uptoBulk d + 1
 end
def uptoSmall : (H : Type) → List (DataW H) → Bool := fun _ ds => decide (uptoBulkAll ds ≤ 1048576)
def OpenSpec.upto (s : _root_.Go.ChangeSpec) : _root_.Go.OpenSpec := { _root_.Go.OpenSpec.ofChange s with cond := some uptoSmall }

/-- 'pilasterlaw49.HeapBasics', WHERE WHAT IT READS IS OF BULK AT MOST 1048576: true; the input reads as it did. -/
def heapBasicsUptoRow : OpenClaim := { program := "ytcpclpkcanikiaa", sum := "b8abe7559ddbf3ac9bc491346e8190353cf27ec71a63a30f8fefed259bceac93", func := "pilaster/pilasterlaw49.HeapBasics", spec := "heapBasics", unfollowed := true, recurses := true, apart := false, narrowed := true }
def HeapBasicsUptoSaid : Prop := heapBasicsUptoRow.holds Try.pinned (OpenSpec.upto heapBasicsSpec)

/-- 'pilasterlaw49.HeapPuts', WHERE WHAT IT READS IS OF BULK AT MOST 1048576: true; the input reads as it did. -/
def heapPutsUptoRow : OpenClaim := { program := "ytcpclpkcanikiaa", sum := "b8abe7559ddbf3ac9bc491346e8190353cf27ec71a63a30f8fefed259bceac93", func := "pilaster/pilasterlaw49.HeapPuts", spec := "heapPuts", unfollowed := true, recurses := true, loops := true, apart := false, narrowed := true }
def HeapPutsUptoSaid : Prop := heapPutsUptoRow.holds Try.pinned (OpenSpec.upto heapPutsSpec)

/-- 'pilasterlaw49.HeapAllocs', WHERE WHAT IT READS IS OF BULK AT MOST 1048576: true; the input reads as it did. -/
def heapAllocsUptoRow : OpenClaim := { program := "ytcpclpkcanikiaa", sum := "b8abe7559ddbf3ac9bc491346e8190353cf27ec71a63a30f8fefed259bceac93", func := "pilaster/pilasterlaw49.HeapAllocs", spec := "heapAllocs", unfollowed := true, recurses := true, apart := false, narrowed := true }
def HeapAllocsUptoSaid : Prop := heapAllocsUptoRow.holds Try.pinned (OpenSpec.upto heapAllocsSpec)

/-- 'pilasterlaw49.HeapReads', WHERE WHAT IT READS IS OF BULK AT MOST 1048576: true; the input reads as it did. -/
def heapReadsUptoRow : OpenClaim := { program := "ytcpclpkcanikiaa", sum := "b8abe7559ddbf3ac9bc491346e8190353cf27ec71a63a30f8fefed259bceac93", func := "pilaster/pilasterlaw49.HeapReads", spec := "heapReads", unfollowed := true, recurses := true, apart := false, narrowed := true }
def HeapReadsUptoSaid : Prop := heapReadsUptoRow.holds Try.pinned (OpenSpec.upto heapReadsSpec)

/-- 'pilasterlaw49.HeapRoom', WHERE WHAT IT READS IS OF BULK AT MOST 1048576: true; the input reads as it did. -/
def heapRoomUptoRow : OpenClaim := { program := "ytcpclpkcanikiaa", sum := "b8abe7559ddbf3ac9bc491346e8190353cf27ec71a63a30f8fefed259bceac93", func := "pilaster/pilasterlaw49.HeapRoom", spec := "heapRoom", unfollowed := true, recurses := true, apart := false, narrowed := true }
def HeapRoomUptoSaid : Prop := heapRoomUptoRow.holds Try.pinned (OpenSpec.upto heapRoomSpec)

/-- 'pilasterlaw50.CollectData', WHERE WHAT IT READS IS OF BULK AT MOST 1048576: true; the input reads as it did. -/
def collectDataUptoRow : OpenClaim := { program := "ytcpclpkcanikiaa", sum := "b8abe7559ddbf3ac9bc491346e8190353cf27ec71a63a30f8fefed259bceac93", func := "pilaster/pilasterlaw50.CollectData", spec := "collectData", unfollowed := true, recurses := true, apart := false, narrowed := true }
def CollectDataUptoSaid : Prop := collectDataUptoRow.holds Try.pinned (OpenSpec.upto collectDataSpec)

/-- 'pilasterlaw50.CollectRoom', WHERE WHAT IT READS IS OF BULK AT MOST 1048576: true; the input reads as it did. -/
def collectRoomUptoRow : OpenClaim := { program := "ytcpclpkcanikiaa", sum := "b8abe7559ddbf3ac9bc491346e8190353cf27ec71a63a30f8fefed259bceac93", func := "pilaster/pilasterlaw50.CollectRoom", spec := "collectRoom", unfollowed := true, recurses := true, apart := false, narrowed := true }
def CollectRoomUptoSaid : Prop := collectRoomUptoRow.holds Try.pinned (OpenSpec.upto collectRoomSpec)

/-- 'pilasterlaw49.HeapBack', WHERE WHAT IT READS IS OF BULK AT MOST 1048576: true; the input reads as it did. -/
def heapBackUptoRow : OpenClaim := { program := "ytcpclpkcanikiaa", sum := "b8abe7559ddbf3ac9bc491346e8190353cf27ec71a63a30f8fefed259bceac93", func := "pilaster/pilasterlaw49.HeapBack", spec := "heapBack", unfollowed := true, recurses := true, loops := true, apart := false, narrowed := true }
def HeapBackUptoSaid : Prop := heapBackUptoRow.holds Try.pinned (OpenSpec.upto heapBackSpec)

/-- 'pilasterlaw50.CollectSame', WHERE WHAT IT READS IS OF BULK AT MOST 1048576: true; the input reads as it did. -/
def collectSameUptoRow : OpenClaim := { program := "ytcpclpkcanikiaa", sum := "b8abe7559ddbf3ac9bc491346e8190353cf27ec71a63a30f8fefed259bceac93", func := "pilaster/pilasterlaw50.CollectSame", spec := "collectSame", unfollowed := true, recurses := true, apart := false, narrowed := true }
def CollectSameUptoSaid : Prop := collectSameUptoRow.holds Try.pinned (OpenSpec.upto collectSameSpec)

/-- 'pilasterlaw50.CollectGarbage', WHERE WHAT IT READS IS OF BULK AT MOST 1048576: true; the input reads as it did. -/
def collectGarbageUptoRow : OpenClaim := { program := "ytcpclpkcanikiaa", sum := "b8abe7559ddbf3ac9bc491346e8190353cf27ec71a63a30f8fefed259bceac93", func := "pilaster/pilasterlaw50.CollectGarbage", spec := "collectGarbage", unfollowed := true, recurses := true, loops := true, apart := false, narrowed := true }
def CollectGarbageUptoSaid : Prop := collectGarbageUptoRow.holds Try.pinned (OpenSpec.upto collectGarbageSpec)

/-- 'pilasterlaw50.CollectHeaps', WHERE WHAT IT READS IS OF BULK AT MOST 1048576: true; the input reads as it did. -/
def collectHeapsUptoRow : OpenClaim := { program := "ytcpclpkcanikiaa", sum := "b8abe7559ddbf3ac9bc491346e8190353cf27ec71a63a30f8fefed259bceac93", func := "pilaster/pilasterlaw50.CollectHeaps", spec := "collectHeaps", unfollowed := true, recurses := true, apart := false, narrowed := true }
def CollectHeapsUptoSaid : Prop := collectHeapsUptoRow.holds Try.pinned (OpenSpec.upto collectHeapsSpec)

/-- 'pilasterlaw50.CollectKeeps', WHERE WHAT IT READS IS OF BULK AT MOST 1048576: true; the input reads as it did. -/
def collectKeepsUptoRow : OpenClaim := { program := "ytcpclpkcanikiaa", sum := "b8abe7559ddbf3ac9bc491346e8190353cf27ec71a63a30f8fefed259bceac93", func := "pilaster/pilasterlaw50.CollectKeeps", spec := "collectKeeps", unfollowed := true, recurses := true, apart := false, narrowed := true }
def CollectKeepsUptoSaid : Prop := collectKeepsUptoRow.holds Try.pinned (OpenSpec.upto collectKeepsSpec)

end Rows
end Go.Proofs.Ytcpclpkcanikiaa
