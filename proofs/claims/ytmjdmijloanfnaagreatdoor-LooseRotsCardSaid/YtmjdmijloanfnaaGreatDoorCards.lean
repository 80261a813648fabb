/-
  DERIVED. GIVEN WITH THE SEED: THE CARDS: each row of YtmjdmijloanfnaaGreatDoorRows.lean that lists a variable, with what it lists TIED to the program's text (the seventh form; the later family's looks); each row that meets fmt, with fmt's text TOLD by the authors' own Lean function (tested against real Go, not proved from fmt's source: count such statements apart). THE CARD IS WHAT COUNTS. Prove the row's statement (the work); the ties are given (YtmjdmijloanfnaaGreatDoorTie.lean); close each card by the builder's one call (the guide's Derived/Test/ToyasCard.lean, 'card_holds'). Laid BY PROGRAM, IN A SANDBOX (cutbox-door.mjs). By AI agents, Wed Nov 11 2026. No macro, syntax, notation, axiom, sorry.
-/
import Derived.Test.YtmjdmijloanfnaaGreatDoorRows
import GoSem.ClaimSeven
namespace Go.Proofs.YtmjdmijloanfnaaGreatDoor
namespace Rows

/-- THE TIED CARD OF 'stemmalaw12.LooseNil'. -/
def looseNilCard : Claim7 := { stood := { row := looseNilRow, standIns := [], harness := (true, "6b92839e5ae4f319d499583bb6bc13a464a6225425327b50f3ac7cc61ee71aad"), looks := false }, kinds := [], alts := [], laidByText := true, laidKinds := [.data, .data], laidTests := true, laidLooks := .later }
def LooseNilCardSaid : Prop := Claim7.holds Tryz.pinned (.plain (OpenSpec.ofChange looseNilSpec)) looseNilCard

/-- THE TIED CARD OF 'stemmalaw12.LooseScripts'. -/
def looseScriptsCard : Claim7 := { stood := { row := looseScriptsRow, standIns := [], harness := (true, "6b92839e5ae4f319d499583bb6bc13a464a6225425327b50f3ac7cc61ee71aad"), looks := false }, kinds := [], alts := [], laidByText := true, laidKinds := [.data, .data], laidTests := true, laidLooks := .later }
def LooseScriptsCardSaid : Prop := Claim7.holds Tryz.pinned (.plain (OpenSpec.ofChange looseScriptsSpec)) looseScriptsCard

/-- THE TIED CARD OF 'stemmalaw12.LooseTwice'. -/
def looseTwiceCard : Claim7 := { stood := { row := looseTwiceRow, standIns := [], harness := (true, "6b92839e5ae4f319d499583bb6bc13a464a6225425327b50f3ac7cc61ee71aad"), looks := false }, kinds := [], alts := [], laidByText := true, laidKinds := [.data, .data], laidTests := true, laidLooks := .later }
def LooseTwiceCardSaid : Prop := Claim7.holds Tryz.pinned (.plain (OpenSpec.ofChange looseTwiceSpec)) looseTwiceCard

/-- THE TIED CARD OF 'stemmalaw12.LooseRots'. -/
def looseRotsCard : Claim7 := { stood := { row := looseRotsRow, standIns := [], harness := (true, "6b92839e5ae4f319d499583bb6bc13a464a6225425327b50f3ac7cc61ee71aad"), looks := false }, kinds := [], alts := [], laidByText := true, laidKinds := [.data, .data], laidTests := true, laidLooks := .later }
def LooseRotsCardSaid : Prop := Claim7.holds Tryz.pinned (.plain (OpenSpec.ofChange looseRotsSpec)) looseRotsCard

/-- THE SECOND FORM's CARD OF 'stemmalaw12.LooseNil'. -/
def looseNilUptoCard : Claim7 := { stood := { row := looseNilUptoRow, standIns := [], harness := (true, "6b92839e5ae4f319d499583bb6bc13a464a6225425327b50f3ac7cc61ee71aad"), looks := false }, kinds := [], alts := [], laidByText := true, laidKinds := [.data, .data], laidTests := true, laidLooks := .later }
def LooseNilUptoCardSaid : Prop := Claim7.holds Tryz.pinned (.plain (OpenSpec.upto looseNilSpec)) looseNilUptoCard

/-- THE SECOND FORM's CARD OF 'stemmalaw12.LooseScripts'. -/
def looseScriptsUptoCard : Claim7 := { stood := { row := looseScriptsUptoRow, standIns := [], harness := (true, "6b92839e5ae4f319d499583bb6bc13a464a6225425327b50f3ac7cc61ee71aad"), looks := false }, kinds := [], alts := [], laidByText := true, laidKinds := [.data, .data], laidTests := true, laidLooks := .later }
def LooseScriptsUptoCardSaid : Prop := Claim7.holds Tryz.pinned (.plain (OpenSpec.upto looseScriptsSpec)) looseScriptsUptoCard

/-- THE SECOND FORM's CARD OF 'stemmalaw12.LooseTwice'. -/
def looseTwiceUptoCard : Claim7 := { stood := { row := looseTwiceUptoRow, standIns := [], harness := (true, "6b92839e5ae4f319d499583bb6bc13a464a6225425327b50f3ac7cc61ee71aad"), looks := false }, kinds := [], alts := [], laidByText := true, laidKinds := [.data, .data], laidTests := true, laidLooks := .later }
def LooseTwiceUptoCardSaid : Prop := Claim7.holds Tryz.pinned (.plain (OpenSpec.upto looseTwiceSpec)) looseTwiceUptoCard

/-- THE SECOND FORM's CARD OF 'stemmalaw12.LooseRots'. -/
def looseRotsUptoCard : Claim7 := { stood := { row := looseRotsUptoRow, standIns := [], harness := (true, "6b92839e5ae4f319d499583bb6bc13a464a6225425327b50f3ac7cc61ee71aad"), looks := false }, kinds := [], alts := [], laidByText := true, laidKinds := [.data, .data], laidTests := true, laidLooks := .later }
def LooseRotsUptoCardSaid : Prop := Claim7.holds Tryz.pinned (.plain (OpenSpec.upto looseRotsSpec)) looseRotsUptoCard
end Rows
end Go.Proofs.YtmjdmijloanfnaaGreatDoor
