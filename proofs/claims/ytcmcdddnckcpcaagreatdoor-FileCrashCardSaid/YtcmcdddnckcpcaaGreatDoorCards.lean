/-
  DERIVED. GIVEN WITH THE SEED: THE CARDS: each row of YtcmcdddnckcpcaaGreatDoorRows.lean that lists a variable, with what it lists TIED to the program's text (the seventh form; the later family's looks); each row that meets fmt, with fmt's text TOLD by the authors' own Lean function (tested against real Go, not proved from fmt's source: count such statements apart). THE CARD IS WHAT COUNTS. Prove the row's statement (the work); the ties are given (YtcmcdddnckcpcaaGreatDoorTie.lean); close each card by the builder's one call (the guide's Derived/Test/ToyasCard.lean, 'card_holds'). Laid BY PROGRAM, IN A SANDBOX (cutbox-door.mjs). By AI agents, Wed Nov 11 2026. No macro, syntax, notation, axiom, sorry.
-/
import Derived.Test.YtcmcdddnckcpcaaGreatDoorRows
import GoSem.ClaimSeven
namespace Go.Proofs.YtcmcdddnckcpcaaGreatDoor
namespace Rows

/-- THE TIED CARD OF 'stemmalaw07.FileNames'. -/
def fileNamesCard : Claim7 := { stood := { row := fileNamesRow, standIns := [], harness := (true, "52f7e7565bcda0e4eeed8b5aef3d0acb1f4f6ab723f27f4687e926bd86e01b44"), looks := false }, kinds := [], alts := [], laidByText := true, laidKinds := [.data], laidTests := true, laidLooks := .later }
def FileNamesCardSaid : Prop := Claim7.holds Tryz.pinned (.plain (OpenSpec.ofChange fileNamesSpec)) fileNamesCard

/-- THE TIED CARD OF 'stemmalaw07.FileAppends'. -/
def fileAppendsCard : Claim7 := { stood := { row := fileAppendsRow, standIns := [], harness := (true, "52f7e7565bcda0e4eeed8b5aef3d0acb1f4f6ab723f27f4687e926bd86e01b44"), looks := false }, kinds := [], alts := [], laidByText := true, laidKinds := [.data], laidTests := true, laidLooks := .later }
def FileAppendsCardSaid : Prop := Claim7.holds Tryz.pinned (.plain (OpenSpec.ofChange fileAppendsSpec)) fileAppendsCard

/-- THE TIED CARD OF 'stemmalaw07.FileGone'. -/
def fileGoneCard : Claim7 := { stood := { row := fileGoneRow, standIns := [], harness := (true, "52f7e7565bcda0e4eeed8b5aef3d0acb1f4f6ab723f27f4687e926bd86e01b44"), looks := false }, kinds := [], alts := [], laidByText := true, laidKinds := [.data], laidTests := true, laidLooks := .later }
def FileGoneCardSaid : Prop := Claim7.holds Tryz.pinned (.plain (OpenSpec.ofChange fileGoneSpec)) fileGoneCard

/-- THE TIED CARD OF 'stemmalaw07.FileNil'. -/
def fileNilCard : Claim7 := { stood := { row := fileNilRow, standIns := [], harness := (true, "52f7e7565bcda0e4eeed8b5aef3d0acb1f4f6ab723f27f4687e926bd86e01b44"), looks := false }, kinds := [], alts := [], laidByText := true, laidKinds := [.data], laidTests := true, laidLooks := .later }
def FileNilCardSaid : Prop := Claim7.holds Tryz.pinned (.plain (OpenSpec.ofChange fileNilSpec)) fileNilCard

/-- THE TIED CARD OF 'stemmalaw07.FileScripts'. -/
def fileScriptsCard : Claim7 := { stood := { row := fileScriptsRow, standIns := [], harness := (true, "52f7e7565bcda0e4eeed8b5aef3d0acb1f4f6ab723f27f4687e926bd86e01b44"), looks := false }, kinds := [], alts := [], laidByText := true, laidKinds := [.data], laidTests := true, laidLooks := .later }
def FileScriptsCardSaid : Prop := Claim7.holds Tryz.pinned (.plain (OpenSpec.ofChange fileScriptsSpec)) fileScriptsCard

/-- THE TIED CARD OF 'stemmalaw07.FileCrash'. -/
def fileCrashCard : Claim7 := { stood := { row := fileCrashRow, standIns := [], harness := (true, "52f7e7565bcda0e4eeed8b5aef3d0acb1f4f6ab723f27f4687e926bd86e01b44"), looks := false }, kinds := [], alts := [], laidByText := true, laidKinds := [.data], laidTests := true, laidLooks := .later }
def FileCrashCardSaid : Prop := Claim7.holds Tryz.pinned (.plain (OpenSpec.ofChange fileCrashSpec)) fileCrashCard

/-- THE TIED CARD OF 'stemmalaw07.FileRots'. -/
def fileRotsCard : Claim7 := { stood := { row := fileRotsRow, standIns := [], harness := (true, "52f7e7565bcda0e4eeed8b5aef3d0acb1f4f6ab723f27f4687e926bd86e01b44"), looks := false }, kinds := [], alts := [], laidByText := true, laidKinds := [.data], laidTests := true, laidLooks := .later }
def FileRotsCardSaid : Prop := Claim7.holds Tryz.pinned (.plain (OpenSpec.ofChange fileRotsSpec)) fileRotsCard

/-- THE SECOND FORM's CARD OF 'stemmalaw07.FileNames'. -/
def fileNamesUptoCard : Claim7 := { stood := { row := fileNamesUptoRow, standIns := [], harness := (true, "52f7e7565bcda0e4eeed8b5aef3d0acb1f4f6ab723f27f4687e926bd86e01b44"), looks := false }, kinds := [], alts := [], laidByText := true, laidKinds := [.data], laidTests := true, laidLooks := .later }
def FileNamesUptoCardSaid : Prop := Claim7.holds Tryz.pinned (.plain (OpenSpec.upto fileNamesSpec)) fileNamesUptoCard

/-- THE SECOND FORM's CARD OF 'stemmalaw07.FileAppends'. -/
def fileAppendsUptoCard : Claim7 := { stood := { row := fileAppendsUptoRow, standIns := [], harness := (true, "52f7e7565bcda0e4eeed8b5aef3d0acb1f4f6ab723f27f4687e926bd86e01b44"), looks := false }, kinds := [], alts := [], laidByText := true, laidKinds := [.data], laidTests := true, laidLooks := .later }
def FileAppendsUptoCardSaid : Prop := Claim7.holds Tryz.pinned (.plain (OpenSpec.upto fileAppendsSpec)) fileAppendsUptoCard

/-- THE SECOND FORM's CARD OF 'stemmalaw07.FileGone'. -/
def fileGoneUptoCard : Claim7 := { stood := { row := fileGoneUptoRow, standIns := [], harness := (true, "52f7e7565bcda0e4eeed8b5aef3d0acb1f4f6ab723f27f4687e926bd86e01b44"), looks := false }, kinds := [], alts := [], laidByText := true, laidKinds := [.data], laidTests := true, laidLooks := .later }
def FileGoneUptoCardSaid : Prop := Claim7.holds Tryz.pinned (.plain (OpenSpec.upto fileGoneSpec)) fileGoneUptoCard

/-- THE SECOND FORM's CARD OF 'stemmalaw07.FileNil'. -/
def fileNilUptoCard : Claim7 := { stood := { row := fileNilUptoRow, standIns := [], harness := (true, "52f7e7565bcda0e4eeed8b5aef3d0acb1f4f6ab723f27f4687e926bd86e01b44"), looks := false }, kinds := [], alts := [], laidByText := true, laidKinds := [.data], laidTests := true, laidLooks := .later }
def FileNilUptoCardSaid : Prop := Claim7.holds Tryz.pinned (.plain (OpenSpec.upto fileNilSpec)) fileNilUptoCard

/-- THE SECOND FORM's CARD OF 'stemmalaw07.FileScripts'. -/
def fileScriptsUptoCard : Claim7 := { stood := { row := fileScriptsUptoRow, standIns := [], harness := (true, "52f7e7565bcda0e4eeed8b5aef3d0acb1f4f6ab723f27f4687e926bd86e01b44"), looks := false }, kinds := [], alts := [], laidByText := true, laidKinds := [.data], laidTests := true, laidLooks := .later }
def FileScriptsUptoCardSaid : Prop := Claim7.holds Tryz.pinned (.plain (OpenSpec.upto fileScriptsSpec)) fileScriptsUptoCard

/-- THE SECOND FORM's CARD OF 'stemmalaw07.FileCrash'. -/
def fileCrashUptoCard : Claim7 := { stood := { row := fileCrashUptoRow, standIns := [], harness := (true, "52f7e7565bcda0e4eeed8b5aef3d0acb1f4f6ab723f27f4687e926bd86e01b44"), looks := false }, kinds := [], alts := [], laidByText := true, laidKinds := [.data], laidTests := true, laidLooks := .later }
def FileCrashUptoCardSaid : Prop := Claim7.holds Tryz.pinned (.plain (OpenSpec.upto fileCrashSpec)) fileCrashUptoCard

/-- THE SECOND FORM's CARD OF 'stemmalaw07.FileRots'. -/
def fileRotsUptoCard : Claim7 := { stood := { row := fileRotsUptoRow, standIns := [], harness := (true, "52f7e7565bcda0e4eeed8b5aef3d0acb1f4f6ab723f27f4687e926bd86e01b44"), looks := false }, kinds := [], alts := [], laidByText := true, laidKinds := [.data], laidTests := true, laidLooks := .later }
def FileRotsUptoCardSaid : Prop := Claim7.holds Tryz.pinned (.plain (OpenSpec.upto fileRotsSpec)) fileRotsUptoCard
end Rows
end Go.Proofs.YtcmcdddnckcpcaaGreatDoor
