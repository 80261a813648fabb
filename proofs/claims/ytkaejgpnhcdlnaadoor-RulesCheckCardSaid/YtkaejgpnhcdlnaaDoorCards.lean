/-
  DERIVED. GIVEN WITH THE SEED: THE CARDS: each row of YtkaejgpnhcdlnaaDoorRows.lean that lists a variable, with what it lists TIED to the program's text (the seventh form; the later family's looks); each row that meets fmt, with fmt's text TOLD by the authors' own Lean function (tested against real Go, not proved from fmt's source: count such statements apart). THE CARD IS WHAT COUNTS. Prove the row's statement (the work); the ties are given (YtkaejgpnhcdlnaaDoorTie.lean); close each card by the builder's one call (the guide's Derived/Test/ToyasCard.lean, 'card_holds'). Laid BY PROGRAM, IN A SANDBOX (cutbox-door.mjs). By AI agents, Wed Nov 11 2026. No macro, syntax, notation, axiom, sorry.
-/
import Derived.Test.YtkaejgpnhcdlnaaDoorRows
import GoSem.ClaimSeven
namespace Go.Proofs.YtkaejgpnhcdlnaaDoor
namespace Rows

/-- THE TIED CARD OF 'stemmalaw10.RulesLines'. -/
def rulesLinesCard : Claim7 := { stood := { row := rulesLinesRow, standIns := [], harness := (true, "1b61a57cce212fef857944b19cdb0be13fd63774c2fa9fbdcd937c350f8df889"), looks := true }, kinds := [], alts := [], laidByText := true, laidKinds := [.data, .pinned], laidTests := true, laidLooks := .later }
def RulesLinesCardSaid : Prop := Claim7.holds Tryd.pinned (.plain (OpenSpec.ofChange rulesLinesSpec)) rulesLinesCard

/-- THE TIED CARD OF 'stemmalaw10.RulesParse'. -/
def rulesParseCard : Claim7 := { stood := { row := rulesParseRow, standIns := [], harness := (true, "1b61a57cce212fef857944b19cdb0be13fd63774c2fa9fbdcd937c350f8df889"), looks := true }, kinds := [], alts := [], laidByText := true, laidKinds := [.data, .pinned], laidTests := true, laidLooks := .later }
def RulesParseCardSaid : Prop := Claim7.holds Tryd.pinned (.plain (OpenSpec.ofChange rulesParseSpec)) rulesParseCard

/-- THE TIED CARD OF 'stemmalaw10.RulesBack'. -/
def rulesBackCard : Claim7 := { stood := { row := rulesBackRow, standIns := [], harness := (true, "1b61a57cce212fef857944b19cdb0be13fd63774c2fa9fbdcd937c350f8df889"), looks := true }, kinds := [], alts := [], laidByText := true, laidKinds := [.data, .pinned], laidTests := true, laidLooks := .later }
def RulesBackCardSaid : Prop := Claim7.holds Tryd.pinned (.plain (OpenSpec.ofChange rulesBackSpec)) rulesBackCard

/-- THE TIED CARD OF 'stemmalaw10.RulesFront'. -/
def rulesFrontCard : Claim7 := { stood := { row := rulesFrontRow, standIns := [], harness := (true, "1b61a57cce212fef857944b19cdb0be13fd63774c2fa9fbdcd937c350f8df889"), looks := true }, kinds := [], alts := [], laidByText := true, laidKinds := [.data, .pinned], laidTests := true, laidLooks := .later }
def RulesFrontCardSaid : Prop := Claim7.holds Tryd.pinned (.plain (OpenSpec.ofChange rulesFrontSpec)) rulesFrontCard

/-- THE TIED CARD OF 'stemmalaw10.RulesCheck'. -/
def rulesCheckCard : Claim7 := { stood := { row := rulesCheckRow, standIns := [], harness := (true, "1b61a57cce212fef857944b19cdb0be13fd63774c2fa9fbdcd937c350f8df889"), looks := true }, kinds := [], alts := [], laidByText := true, laidKinds := [.data, .data, .data, .data, .sentinel, .sentinel, .pinned], laidTests := true, laidLooks := .later }
def RulesCheckCardSaid : Prop := Claim7.holds Tryd.pinned (.plain (OpenSpec.ofChange rulesCheckSpec)) rulesCheckCard

/-- THE SECOND FORM's CARD OF 'stemmalaw10.RulesLines'. -/
def rulesLinesUptoCard : Claim7 := { stood := { row := rulesLinesUptoRow, standIns := [], harness := (true, "1b61a57cce212fef857944b19cdb0be13fd63774c2fa9fbdcd937c350f8df889"), looks := true }, kinds := [], alts := [], laidByText := true, laidKinds := [.data, .pinned], laidTests := true, laidLooks := .later }
def RulesLinesUptoCardSaid : Prop := Claim7.holds Tryd.pinned (.plain (OpenSpec.upto rulesLinesSpec)) rulesLinesUptoCard

/-- THE SECOND FORM's CARD OF 'stemmalaw10.RulesParse'. -/
def rulesParseUptoCard : Claim7 := { stood := { row := rulesParseUptoRow, standIns := [], harness := (true, "1b61a57cce212fef857944b19cdb0be13fd63774c2fa9fbdcd937c350f8df889"), looks := true }, kinds := [], alts := [], laidByText := true, laidKinds := [.data, .pinned], laidTests := true, laidLooks := .later }
def RulesParseUptoCardSaid : Prop := Claim7.holds Tryd.pinned (.plain (OpenSpec.upto rulesParseSpec)) rulesParseUptoCard

/-- THE SECOND FORM's CARD OF 'stemmalaw10.RulesBack'. -/
def rulesBackUptoCard : Claim7 := { stood := { row := rulesBackUptoRow, standIns := [], harness := (true, "1b61a57cce212fef857944b19cdb0be13fd63774c2fa9fbdcd937c350f8df889"), looks := true }, kinds := [], alts := [], laidByText := true, laidKinds := [.data, .pinned], laidTests := true, laidLooks := .later }
def RulesBackUptoCardSaid : Prop := Claim7.holds Tryd.pinned (.plain (OpenSpec.upto rulesBackSpec)) rulesBackUptoCard

/-- THE SECOND FORM's CARD OF 'stemmalaw10.RulesFront'. -/
def rulesFrontUptoCard : Claim7 := { stood := { row := rulesFrontUptoRow, standIns := [], harness := (true, "1b61a57cce212fef857944b19cdb0be13fd63774c2fa9fbdcd937c350f8df889"), looks := true }, kinds := [], alts := [], laidByText := true, laidKinds := [.data, .pinned], laidTests := true, laidLooks := .later }
def RulesFrontUptoCardSaid : Prop := Claim7.holds Tryd.pinned (.plain (OpenSpec.upto rulesFrontSpec)) rulesFrontUptoCard

/-- THE SECOND FORM's CARD OF 'stemmalaw10.RulesCheck'. -/
def rulesCheckUptoCard : Claim7 := { stood := { row := rulesCheckUptoRow, standIns := [], harness := (true, "1b61a57cce212fef857944b19cdb0be13fd63774c2fa9fbdcd937c350f8df889"), looks := true }, kinds := [], alts := [], laidByText := true, laidKinds := [.data, .data, .data, .data, .sentinel, .sentinel, .pinned], laidTests := true, laidLooks := .later }
def RulesCheckUptoCardSaid : Prop := Claim7.holds Tryd.pinned (.plain (OpenSpec.upto rulesCheckSpec)) rulesCheckUptoCard
end Rows
end Go.Proofs.YtkaejgpnhcdlnaaDoor
