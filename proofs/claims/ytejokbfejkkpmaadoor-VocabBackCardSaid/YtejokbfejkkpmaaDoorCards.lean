/-
  DERIVED. GIVEN WITH THE SEED: THE CARDS: each row of YtejokbfejkkpmaaDoorRows.lean that lists a variable, with what it lists TIED to the program's text (the seventh form; the later family's looks); each row that meets fmt, with fmt's text TOLD by the authors' own Lean function (tested against real Go, not proved from fmt's source: count such statements apart). THE CARD IS WHAT COUNTS. Prove the row's statement (the work); the ties are given (YtejokbfejkkpmaaDoorTie.lean); close each card by the builder's one call (the guide's Derived/Test/ToyasCard.lean, 'card_holds'). Laid BY PROGRAM, IN A SANDBOX (cutbox-door.mjs). By AI agents, Wed Nov 11 2026. No macro, syntax, notation, axiom, sorry.
-/
import Derived.Test.YtejokbfejkkpmaaDoorRows
import GoSem.ClaimSeven
namespace Go.Proofs.YtejokbfejkkpmaaDoor
namespace Rows

/-- THE TIED CARD OF 'stemmalaw09.VocabMore'. -/
def vocabMoreCard : Claim7 := { stood := { row := vocabMoreRow, standIns := [], harness := (true, "cfe1a026e334a48527e4b8f57c4295e2d9566747f364e5bb69b56661b75ea852"), looks := true }, kinds := [], alts := [], laidByText := true, laidKinds := [.data, .data, .data], laidTests := true, laidLooks := .later }
def VocabMoreCardSaid : Prop := Claim7.holds Tryd.pinned (.plain (OpenSpec.ofChange vocabMoreSpec)) vocabMoreCard

/-- THE TIED CARD OF 'stemmalaw09.VocabCodes'. -/
def vocabCodesCard : Claim7 := { stood := { row := vocabCodesRow, standIns := [], harness := (true, "cfe1a026e334a48527e4b8f57c4295e2d9566747f364e5bb69b56661b75ea852"), looks := true }, kinds := [], alts := [], laidByText := true, laidKinds := [.data, .data, .data], laidTests := true, laidLooks := .later }
def VocabCodesCardSaid : Prop := Claim7.holds Tryd.pinned (.plain (OpenSpec.ofChange vocabCodesSpec)) vocabCodesCard

/-- THE TIED CARD OF 'stemmalaw09.VocabNil'. -/
def vocabNilCard : Claim7 := { stood := { row := vocabNilRow, standIns := [], harness := (true, "cfe1a026e334a48527e4b8f57c4295e2d9566747f364e5bb69b56661b75ea852"), looks := true }, kinds := [], alts := [], laidByText := true, laidKinds := [.data, .data, .data], laidTests := true, laidLooks := .later }
def VocabNilCardSaid : Prop := Claim7.holds Tryd.pinned (.plain (OpenSpec.ofChange vocabNilSpec)) vocabNilCard

/-- THE TIED CARD OF 'stemmalaw09.VocabBack'. -/
def vocabBackCard : Claim7 := { stood := { row := vocabBackRow, standIns := [], harness := (true, "cfe1a026e334a48527e4b8f57c4295e2d9566747f364e5bb69b56661b75ea852"), looks := true }, kinds := [], alts := [], laidByText := true, laidKinds := [.data, .data, .data], laidTests := true, laidLooks := .later }
def VocabBackCardSaid : Prop := Claim7.holds Tryd.pinned (.plain (OpenSpec.ofChange vocabBackSpec)) vocabBackCard

/-- THE TIED CARD OF 'stemmalaw09.VocabParse'. -/
def vocabParseCard : Claim7 := { stood := { row := vocabParseRow, standIns := [], harness := (true, "cfe1a026e334a48527e4b8f57c4295e2d9566747f364e5bb69b56661b75ea852"), looks := true }, kinds := [], alts := [], laidByText := true, laidKinds := [.data, .data, .data, .sentinel, .sentinel], laidTests := true, laidLooks := .later }
def VocabParseCardSaid : Prop := Claim7.holds Tryd.pinned (.plain (OpenSpec.ofChange vocabParseSpec)) vocabParseCard

/-- THE TIED CARD OF 'stemmalaw09.VocabOf'. -/
def vocabOfCard : Claim7 := { stood := { row := vocabOfRow, standIns := [], harness := (true, "cfe1a026e334a48527e4b8f57c4295e2d9566747f364e5bb69b56661b75ea852"), looks := true }, kinds := [], alts := [], laidByText := true, laidKinds := [.data, .data, .data, .sentinel, .sentinel], laidTests := true, laidLooks := .later }
def VocabOfCardSaid : Prop := Claim7.holds Tryd.pinned (.plain (OpenSpec.ofChange vocabOfSpec)) vocabOfCard

/-- THE SECOND FORM's CARD OF 'stemmalaw09.VocabMore'. -/
def vocabMoreUptoCard : Claim7 := { stood := { row := vocabMoreUptoRow, standIns := [], harness := (true, "cfe1a026e334a48527e4b8f57c4295e2d9566747f364e5bb69b56661b75ea852"), looks := true }, kinds := [], alts := [], laidByText := true, laidKinds := [.data, .data, .data], laidTests := true, laidLooks := .later }
def VocabMoreUptoCardSaid : Prop := Claim7.holds Tryd.pinned (.plain (OpenSpec.upto vocabMoreSpec)) vocabMoreUptoCard

/-- THE SECOND FORM's CARD OF 'stemmalaw09.VocabCodes'. -/
def vocabCodesUptoCard : Claim7 := { stood := { row := vocabCodesUptoRow, standIns := [], harness := (true, "cfe1a026e334a48527e4b8f57c4295e2d9566747f364e5bb69b56661b75ea852"), looks := true }, kinds := [], alts := [], laidByText := true, laidKinds := [.data, .data, .data], laidTests := true, laidLooks := .later }
def VocabCodesUptoCardSaid : Prop := Claim7.holds Tryd.pinned (.plain (OpenSpec.upto vocabCodesSpec)) vocabCodesUptoCard

/-- THE SECOND FORM's CARD OF 'stemmalaw09.VocabNil'. -/
def vocabNilUptoCard : Claim7 := { stood := { row := vocabNilUptoRow, standIns := [], harness := (true, "cfe1a026e334a48527e4b8f57c4295e2d9566747f364e5bb69b56661b75ea852"), looks := true }, kinds := [], alts := [], laidByText := true, laidKinds := [.data, .data, .data], laidTests := true, laidLooks := .later }
def VocabNilUptoCardSaid : Prop := Claim7.holds Tryd.pinned (.plain (OpenSpec.upto vocabNilSpec)) vocabNilUptoCard

/-- THE SECOND FORM's CARD OF 'stemmalaw09.VocabBack'. -/
def vocabBackUptoCard : Claim7 := { stood := { row := vocabBackUptoRow, standIns := [], harness := (true, "cfe1a026e334a48527e4b8f57c4295e2d9566747f364e5bb69b56661b75ea852"), looks := true }, kinds := [], alts := [], laidByText := true, laidKinds := [.data, .data, .data], laidTests := true, laidLooks := .later }
def VocabBackUptoCardSaid : Prop := Claim7.holds Tryd.pinned (.plain (OpenSpec.upto vocabBackSpec)) vocabBackUptoCard

/-- THE SECOND FORM's CARD OF 'stemmalaw09.VocabParse'. -/
def vocabParseUptoCard : Claim7 := { stood := { row := vocabParseUptoRow, standIns := [], harness := (true, "cfe1a026e334a48527e4b8f57c4295e2d9566747f364e5bb69b56661b75ea852"), looks := true }, kinds := [], alts := [], laidByText := true, laidKinds := [.data, .data, .data, .sentinel, .sentinel], laidTests := true, laidLooks := .later }
def VocabParseUptoCardSaid : Prop := Claim7.holds Tryd.pinned (.plain (OpenSpec.upto vocabParseSpec)) vocabParseUptoCard

/-- THE SECOND FORM's CARD OF 'stemmalaw09.VocabOf'. -/
def vocabOfUptoCard : Claim7 := { stood := { row := vocabOfUptoRow, standIns := [], harness := (true, "cfe1a026e334a48527e4b8f57c4295e2d9566747f364e5bb69b56661b75ea852"), looks := true }, kinds := [], alts := [], laidByText := true, laidKinds := [.data, .data, .data, .sentinel, .sentinel], laidTests := true, laidLooks := .later }
def VocabOfUptoCardSaid : Prop := Claim7.holds Tryd.pinned (.plain (OpenSpec.upto vocabOfSpec)) vocabOfUptoCard
end Rows
end Go.Proofs.YtejokbfejkkpmaaDoor
