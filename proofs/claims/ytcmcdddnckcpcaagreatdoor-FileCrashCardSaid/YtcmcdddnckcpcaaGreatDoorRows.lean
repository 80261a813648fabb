/-
  NARROWER THAN 'FOR EVERY INPUT', by the rows' own cells (each row's printed sentence says how): FileNames: laid · FileAppends: laid · FileGone: laid · FileNil: laid · FileScripts: laid · FileCrash: laid · FileRots: laid.
  DERIVED. THE GIVEN ROWS OF THIS SEAT. 7 by the template 'for every input the law returns true; each argument reads behind the call as it read before'; 0 by the template 'total and deterministic' (their statements: YtcmcdddnckcpcaaGreatDoorTotals.lean).
  GIVEN WITH THE SEED: the statements are not yours to turn. If you find one false, say at which input.
  Laid BY PROGRAM, IN A SANDBOX (cutbox-rows.mjs): the forced cells as the released guide's own fill.sh prints them over the translation 7f14bc8d6ebbb25f… (all of the seat's roots in one cut). By AI agents, Wed Nov 11 2026. No macro, syntax, notation, axiom, sorry.
-/
import Derived.Test.YtcmcdddnckcpcaaGreatDoorChecked
import GoSem.Claim
import GoSem.ClaimJoined
import GoSem.ClaimMapViews
import Derived.JoinedTies
import Derived.KernelRfl
namespace Go.Proofs.YtcmcdddnckcpcaaGreatDoor
/- THE CELL 'sum', in the pinned program and in every row, IS THE sha256 OF THE DUMP (.gsa) THAT YtcmcdddnckcpcaaGreatDoorProg.lean LOADS. Nothing in Lean hashes anything: it is a label: what it is worth is what the hold of that sum in a sandbox is worth. -/
noncomputable def Tryz.pinned : Pinned := { name := "ytcmcdddnckcpcaagreatdoor", sum := "7f14bc8d6ebbb25fba945d43593034154f2f375d0014c04afdc21011f8a25a50", checked := Tryz.checked }
namespace Rows
def none {H : Type} : Left H := { results := [], args := [] }

/- WHAT THE LISTED PACKAGE-LEVEL VARIABLES READ AS WHEN THE CALL BEGINS. Each datum BY PROGRAM (the guide's laid-datum.mjs) off the statement by which the dump's own 'gosem.cut.vars' lays the variable. In a bare row this is a premise. The card (YtcmcdddnckcpcaaGreatDoorCards.lean) ties it to the program's text. -/
def laid_stemma_crc_table {H : Type} : DataW H := .agg [.lit (.int .u32 0), .lit (.int .u32 498536548), .lit (.int .u32 997073096), .lit (.int .u32 651767980), .lit (.int .u32 1994146192), .lit (.int .u32 1802195444), .lit (.int .u32 1303535960), .lit (.int .u32 1342533948), .lit (.int .u32 3988292384), .lit (.int .u32 4027552580), .lit (.int .u32 3604390888), .lit (.int .u32 3412177804), .lit (.int .u32 2607071920), .lit (.int .u32 2262029012), .lit (.int .u32 2685067896), .lit (.int .u32 3183342108)]

/-- 'stemmalaw07.FileNames': WHATEVER THE INPUT: true; the input reads as it did. -/
def fileNamesSpec : ChangeSpec := { name := "fileNames", fn := fun _ => fun
  | [d] => { results := [.lit (.bool true)], args := [d] }
  | _ => none }
def fileNamesRow : OpenClaim := { program := "ytcmcdddnckcpcaagreatdoor", sum := "7f14bc8d6ebbb25fba945d43593034154f2f375d0014c04afdc21011f8a25a50", func := "stemma/stemmalaw07.FileNames", spec := "fileNames", inPlace := ["internal/abi.NoEscape", "internal/bytealg.MakeNoZero", "sync/atomic.AddInt64"], unfollowed := true, recurses := true, named := ["stemma/crc.table"], apart := false, laid := [("stemma/crc.table", laid_stemma_crc_table)] }
def FileNamesSaid : Prop := fileNamesRow.holds Tryz.pinned (OpenSpec.ofChange fileNamesSpec)

/-- ITS FALSE NEIGHBOUR: 'it returns false'. Refute it at one input. -/
def fileNamesWrong : ChangeSpec := { name := "fileNames", fn := fun _ => fun
  | [d] => { results := [.lit (.bool false)], args := [d] }
  | _ => none }
def FileNamesWrongFalsely : Prop := fileNamesRow.holds Tryz.pinned (OpenSpec.ofChange fileNamesWrong)

/-- 'stemmalaw07.FileAppends': WHATEVER THE INPUT: true; the input reads as it did. -/
def fileAppendsSpec : ChangeSpec := { name := "fileAppends", fn := fun _ => fun
  | [d1, d2] => { results := [.lit (.bool true)], args := [d1, d2] }
  | _ => none }
def fileAppendsRow : OpenClaim := { program := "ytcmcdddnckcpcaagreatdoor", sum := "7f14bc8d6ebbb25fba945d43593034154f2f375d0014c04afdc21011f8a25a50", func := "stemma/stemmalaw07.FileAppends", spec := "fileAppends", inPlace := ["internal/abi.NoEscape", "internal/bytealg.MakeNoZero", "sync/atomic.AddInt64"], unfollowed := true, recurses := true, named := ["stemma/crc.table"], apart := false, laid := [("stemma/crc.table", laid_stemma_crc_table)] }
def FileAppendsSaid : Prop := fileAppendsRow.holds Tryz.pinned (OpenSpec.ofChange fileAppendsSpec)

/-- ITS FALSE NEIGHBOUR: 'it returns false'. Refute it at one input. -/
def fileAppendsWrong : ChangeSpec := { name := "fileAppends", fn := fun _ => fun
  | [d1, d2] => { results := [.lit (.bool false)], args := [d1, d2] }
  | _ => none }
def FileAppendsWrongFalsely : Prop := fileAppendsRow.holds Tryz.pinned (OpenSpec.ofChange fileAppendsWrong)

/-- 'stemmalaw07.FileGone': WHATEVER THE INPUT: true; the input reads as it did. -/
def fileGoneSpec : ChangeSpec := { name := "fileGone", fn := fun _ => fun
  | [d] => { results := [.lit (.bool true)], args := [d] }
  | _ => none }
def fileGoneRow : OpenClaim := { program := "ytcmcdddnckcpcaagreatdoor", sum := "7f14bc8d6ebbb25fba945d43593034154f2f375d0014c04afdc21011f8a25a50", func := "stemma/stemmalaw07.FileGone", spec := "fileGone", inPlace := ["internal/abi.NoEscape", "internal/bytealg.MakeNoZero", "sync/atomic.AddInt64"], unfollowed := true, recurses := true, named := ["stemma/crc.table"], apart := false, laid := [("stemma/crc.table", laid_stemma_crc_table)] }
def FileGoneSaid : Prop := fileGoneRow.holds Tryz.pinned (OpenSpec.ofChange fileGoneSpec)

/-- ITS FALSE NEIGHBOUR: 'it returns false'. Refute it at one input. -/
def fileGoneWrong : ChangeSpec := { name := "fileGone", fn := fun _ => fun
  | [d] => { results := [.lit (.bool false)], args := [d] }
  | _ => none }
def FileGoneWrongFalsely : Prop := fileGoneRow.holds Tryz.pinned (OpenSpec.ofChange fileGoneWrong)

/-- 'stemmalaw07.FileNil': WHATEVER THE INPUT: true; the input reads as it did. -/
def fileNilSpec : ChangeSpec := { name := "fileNil", fn := fun _ => fun
  | [d1, d2] => { results := [.lit (.bool true)], args := [d1, d2] }
  | _ => none }
def fileNilRow : OpenClaim := { program := "ytcmcdddnckcpcaagreatdoor", sum := "7f14bc8d6ebbb25fba945d43593034154f2f375d0014c04afdc21011f8a25a50", func := "stemma/stemmalaw07.FileNil", spec := "fileNil", inPlace := ["internal/abi.NoEscape", "internal/bytealg.MakeNoZero", "sync/atomic.AddInt64"], unfollowed := true, recurses := true, named := ["stemma/crc.table"], apart := false, laid := [("stemma/crc.table", laid_stemma_crc_table)] }
def FileNilSaid : Prop := fileNilRow.holds Tryz.pinned (OpenSpec.ofChange fileNilSpec)

/-- ITS FALSE NEIGHBOUR: 'it returns false'. Refute it at one input. -/
def fileNilWrong : ChangeSpec := { name := "fileNil", fn := fun _ => fun
  | [d1, d2] => { results := [.lit (.bool false)], args := [d1, d2] }
  | _ => none }
def FileNilWrongFalsely : Prop := fileNilRow.holds Tryz.pinned (OpenSpec.ofChange fileNilWrong)

/-- 'stemmalaw07.FileScripts': WHATEVER THE INPUT: true; the input reads as it did. -/
def fileScriptsSpec : ChangeSpec := { name := "fileScripts", fn := fun _ => fun
  | [d1, d2, d3] => { results := [.lit (.bool true)], args := [d1, d2, d3] }
  | _ => none }
def fileScriptsRow : OpenClaim := { program := "ytcmcdddnckcpcaagreatdoor", sum := "7f14bc8d6ebbb25fba945d43593034154f2f375d0014c04afdc21011f8a25a50", func := "stemma/stemmalaw07.FileScripts", spec := "fileScripts", inPlace := ["internal/abi.NoEscape", "internal/bytealg.MakeNoZero", "sync/atomic.AddInt64"], unfollowed := true, recurses := true, named := ["stemma/crc.table"], apart := false, laid := [("stemma/crc.table", laid_stemma_crc_table)] }
def FileScriptsSaid : Prop := fileScriptsRow.holds Tryz.pinned (OpenSpec.ofChange fileScriptsSpec)

/-- ITS FALSE NEIGHBOUR: 'it returns false'. Refute it at one input. -/
def fileScriptsWrong : ChangeSpec := { name := "fileScripts", fn := fun _ => fun
  | [d1, d2, d3] => { results := [.lit (.bool false)], args := [d1, d2, d3] }
  | _ => none }
def FileScriptsWrongFalsely : Prop := fileScriptsRow.holds Tryz.pinned (OpenSpec.ofChange fileScriptsWrong)

/-- 'stemmalaw07.FileCrash': WHATEVER THE INPUT: true; the input reads as it did. -/
def fileCrashSpec : ChangeSpec := { name := "fileCrash", fn := fun _ => fun
  | [d1, d2, d3] => { results := [.lit (.bool true)], args := [d1, d2, d3] }
  | _ => none }
def fileCrashRow : OpenClaim := { program := "ytcmcdddnckcpcaagreatdoor", sum := "7f14bc8d6ebbb25fba945d43593034154f2f375d0014c04afdc21011f8a25a50", func := "stemma/stemmalaw07.FileCrash", spec := "fileCrash", inPlace := ["internal/abi.NoEscape", "internal/bytealg.MakeNoZero", "sync/atomic.AddInt64"], unfollowed := true, recurses := true, named := ["stemma/crc.table"], apart := false, laid := [("stemma/crc.table", laid_stemma_crc_table)] }
def FileCrashSaid : Prop := fileCrashRow.holds Tryz.pinned (OpenSpec.ofChange fileCrashSpec)

/-- ITS FALSE NEIGHBOUR: 'it returns false'. Refute it at one input. -/
def fileCrashWrong : ChangeSpec := { name := "fileCrash", fn := fun _ => fun
  | [d1, d2, d3] => { results := [.lit (.bool false)], args := [d1, d2, d3] }
  | _ => none }
def FileCrashWrongFalsely : Prop := fileCrashRow.holds Tryz.pinned (OpenSpec.ofChange fileCrashWrong)

/-- 'stemmalaw07.FileRots': WHATEVER THE INPUT: true; the input reads as it did. -/
def fileRotsSpec : ChangeSpec := { name := "fileRots", fn := fun _ => fun
  | [d1, d2, d3] => { results := [.lit (.bool true)], args := [d1, d2, d3] }
  | _ => none }
def fileRotsRow : OpenClaim := { program := "ytcmcdddnckcpcaagreatdoor", sum := "7f14bc8d6ebbb25fba945d43593034154f2f375d0014c04afdc21011f8a25a50", func := "stemma/stemmalaw07.FileRots", spec := "fileRots", inPlace := ["internal/abi.NoEscape", "internal/bytealg.MakeNoZero", "sync/atomic.AddInt64"], unfollowed := true, recurses := true, named := ["stemma/crc.table"], apart := false, laid := [("stemma/crc.table", laid_stemma_crc_table)] }
def FileRotsSaid : Prop := fileRotsRow.holds Tryz.pinned (OpenSpec.ofChange fileRotsSpec)

/-- ITS FALSE NEIGHBOUR: 'it returns false'. Refute it at one input. -/
def fileRotsWrong : ChangeSpec := { name := "fileRots", fn := fun _ => fun
  | [d1, d2, d3] => { results := [.lit (.bool false)], args := [d1, d2, d3] }
  | _ => none }
def FileRotsWrongFalsely : Prop := fileRotsRow.holds Tryz.pinned (OpenSpec.ofChange fileRotsWrong)

/- THE SECOND FORM. 'bulk': how many values and letters a reading holds, each counted each time it is reached (what is shared counts as often as it is met; a slice's spare places count too). A statement '..UptoSaid' is the law's where the arguments, and the package variables that the reading takes, are together of bulk at most 1048576: NARROWER than '..Said'. Prove '..Said' where nothing that the law and all that it calls make is longer than what came in: it says more and counts as full. Else prove '..UptoSaid'. A law counts once. -/
mutual
def uptoBulk {H : Type} : DataW H → Nat
  | .lit (.string bytes) => bytes.length + 1
  | .lit _ => 1
  | .nil => 1
  | .ptr d => uptoBulk d + 1
  | .slice elems spare => uptoBulkAll elems + uptoBulkAll spare + 1
  | .agg parts => uptoBulkAll parts + 1
  | .iface _ d => uptoBulk d + 1
  | .map entries => uptoBulkEntries entries + 1
  | .held _ => 1
def uptoBulkAll {H : Type} : List (DataW H) → Nat
  | [] => 0
  | d :: r => uptoBulk d + uptoBulkAll r
def uptoBulkEntries {H : Type} : List (Lit × DataW H) → Nat
  | [] => 0
  | x :: r => uptoBulkEntry x + uptoBulkEntries r
def uptoBulkEntry {H : Type} : Lit × DataW H → Nat
  | (.string bytes, d) => bytes.length + uptoBulk d + 1
  | (_, d) => uptoBulk d + 1
 end
def uptoSmall : (H : Type) → List (DataW H) → Bool := fun _ ds => decide (uptoBulkAll ds ≤ 1048576)
def OpenSpec.upto (s : _root_.Go.ChangeSpec) : _root_.Go.OpenSpec := { _root_.Go.OpenSpec.ofChange s with cond := some uptoSmall }

/-- 'stemmalaw07.FileNames', WHERE WHAT IT READS IS OF BULK AT MOST 1048576: true; the input reads as it did. -/
def fileNamesUptoRow : OpenClaim := { program := "ytcmcdddnckcpcaagreatdoor", sum := "7f14bc8d6ebbb25fba945d43593034154f2f375d0014c04afdc21011f8a25a50", func := "stemma/stemmalaw07.FileNames", spec := "fileNames", inPlace := ["internal/abi.NoEscape", "internal/bytealg.MakeNoZero", "sync/atomic.AddInt64"], unfollowed := true, recurses := true, named := ["stemma/crc.table"], apart := false, laid := [("stemma/crc.table", laid_stemma_crc_table)], narrowed := true }
def FileNamesUptoSaid : Prop := fileNamesUptoRow.holds Tryz.pinned (OpenSpec.upto fileNamesSpec)

/-- 'stemmalaw07.FileAppends', WHERE WHAT IT READS IS OF BULK AT MOST 1048576: true; the input reads as it did. -/
def fileAppendsUptoRow : OpenClaim := { program := "ytcmcdddnckcpcaagreatdoor", sum := "7f14bc8d6ebbb25fba945d43593034154f2f375d0014c04afdc21011f8a25a50", func := "stemma/stemmalaw07.FileAppends", spec := "fileAppends", inPlace := ["internal/abi.NoEscape", "internal/bytealg.MakeNoZero", "sync/atomic.AddInt64"], unfollowed := true, recurses := true, named := ["stemma/crc.table"], apart := false, laid := [("stemma/crc.table", laid_stemma_crc_table)], narrowed := true }
def FileAppendsUptoSaid : Prop := fileAppendsUptoRow.holds Tryz.pinned (OpenSpec.upto fileAppendsSpec)

/-- 'stemmalaw07.FileGone', WHERE WHAT IT READS IS OF BULK AT MOST 1048576: true; the input reads as it did. -/
def fileGoneUptoRow : OpenClaim := { program := "ytcmcdddnckcpcaagreatdoor", sum := "7f14bc8d6ebbb25fba945d43593034154f2f375d0014c04afdc21011f8a25a50", func := "stemma/stemmalaw07.FileGone", spec := "fileGone", inPlace := ["internal/abi.NoEscape", "internal/bytealg.MakeNoZero", "sync/atomic.AddInt64"], unfollowed := true, recurses := true, named := ["stemma/crc.table"], apart := false, laid := [("stemma/crc.table", laid_stemma_crc_table)], narrowed := true }
def FileGoneUptoSaid : Prop := fileGoneUptoRow.holds Tryz.pinned (OpenSpec.upto fileGoneSpec)

/-- 'stemmalaw07.FileNil', WHERE WHAT IT READS IS OF BULK AT MOST 1048576: true; the input reads as it did. -/
def fileNilUptoRow : OpenClaim := { program := "ytcmcdddnckcpcaagreatdoor", sum := "7f14bc8d6ebbb25fba945d43593034154f2f375d0014c04afdc21011f8a25a50", func := "stemma/stemmalaw07.FileNil", spec := "fileNil", inPlace := ["internal/abi.NoEscape", "internal/bytealg.MakeNoZero", "sync/atomic.AddInt64"], unfollowed := true, recurses := true, named := ["stemma/crc.table"], apart := false, laid := [("stemma/crc.table", laid_stemma_crc_table)], narrowed := true }
def FileNilUptoSaid : Prop := fileNilUptoRow.holds Tryz.pinned (OpenSpec.upto fileNilSpec)

/-- 'stemmalaw07.FileScripts', WHERE WHAT IT READS IS OF BULK AT MOST 1048576: true; the input reads as it did. -/
def fileScriptsUptoRow : OpenClaim := { program := "ytcmcdddnckcpcaagreatdoor", sum := "7f14bc8d6ebbb25fba945d43593034154f2f375d0014c04afdc21011f8a25a50", func := "stemma/stemmalaw07.FileScripts", spec := "fileScripts", inPlace := ["internal/abi.NoEscape", "internal/bytealg.MakeNoZero", "sync/atomic.AddInt64"], unfollowed := true, recurses := true, named := ["stemma/crc.table"], apart := false, laid := [("stemma/crc.table", laid_stemma_crc_table)], narrowed := true }
def FileScriptsUptoSaid : Prop := fileScriptsUptoRow.holds Tryz.pinned (OpenSpec.upto fileScriptsSpec)

/-- 'stemmalaw07.FileCrash', WHERE WHAT IT READS IS OF BULK AT MOST 1048576: true; the input reads as it did. -/
def fileCrashUptoRow : OpenClaim := { program := "ytcmcdddnckcpcaagreatdoor", sum := "7f14bc8d6ebbb25fba945d43593034154f2f375d0014c04afdc21011f8a25a50", func := "stemma/stemmalaw07.FileCrash", spec := "fileCrash", inPlace := ["internal/abi.NoEscape", "internal/bytealg.MakeNoZero", "sync/atomic.AddInt64"], unfollowed := true, recurses := true, named := ["stemma/crc.table"], apart := false, laid := [("stemma/crc.table", laid_stemma_crc_table)], narrowed := true }
def FileCrashUptoSaid : Prop := fileCrashUptoRow.holds Tryz.pinned (OpenSpec.upto fileCrashSpec)

/-- 'stemmalaw07.FileRots', WHERE WHAT IT READS IS OF BULK AT MOST 1048576: true; the input reads as it did. -/
def fileRotsUptoRow : OpenClaim := { program := "ytcmcdddnckcpcaagreatdoor", sum := "7f14bc8d6ebbb25fba945d43593034154f2f375d0014c04afdc21011f8a25a50", func := "stemma/stemmalaw07.FileRots", spec := "fileRots", inPlace := ["internal/abi.NoEscape", "internal/bytealg.MakeNoZero", "sync/atomic.AddInt64"], unfollowed := true, recurses := true, named := ["stemma/crc.table"], apart := false, laid := [("stemma/crc.table", laid_stemma_crc_table)], narrowed := true }
def FileRotsUptoSaid : Prop := fileRotsUptoRow.holds Tryz.pinned (OpenSpec.upto fileRotsSpec)

end Rows
end Go.Proofs.YtcmcdddnckcpcaaGreatDoor
