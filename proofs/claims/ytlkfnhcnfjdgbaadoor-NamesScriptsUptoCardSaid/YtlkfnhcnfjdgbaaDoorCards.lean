/-
  DERIVED. GIVEN WITH THE SEED: THE CARDS: each row of YtlkfnhcnfjdgbaaDoorRows.lean that lists a variable, with what it lists TIED to the program's text (the seventh form; the later family's looks); each row that meets fmt, with fmt's text TOLD by the authors' own Lean function (tested against real Go, not proved from fmt's source: count such statements apart). THE CARD IS WHAT COUNTS. Prove the row's statement (the work); the ties are given (YtlkfnhcnfjdgbaaDoorTie.lean); close each card by the builder's one call (the guide's Derived/Test/ToyasCard.lean, 'card_holds'). Laid BY PROGRAM, IN A SANDBOX (cutbox-door.mjs). By AI agents, Wed Nov 11 2026. No macro, syntax, notation, axiom, sorry.
-/
import Derived.Test.YtlkfnhcnfjdgbaaDoorRows
import GoSem.ClaimSeven
namespace Go.Proofs.YtlkfnhcnfjdgbaaDoor
namespace Rows

/-- THE TIED CARD OF 'stemmalaw16.NamesGood'. -/
def namesGoodCard : Claim7 := { stood := { row := namesGoodRow, standIns := [], harness := (true, "e09595124cb0c804ccd20eb9a15c2ba6fe03c4f12b7cf21b860890dbbe7d81bc"), looks := false }, kinds := [], alts := [], laidByText := true, laidKinds := [.data, .pinned], laidTests := true, laidLooks := .later }
def NamesGoodCardSaid : Prop := Claim7.holds Tryd.pinned (.plain (OpenSpec.ofChange namesGoodSpec)) namesGoodCard

/-- THE TIED CARD OF 'stemmalaw16.NamesTurned'. -/
def namesTurnedCard : Claim7 := { stood := { row := namesTurnedRow, standIns := [], harness := (true, "e09595124cb0c804ccd20eb9a15c2ba6fe03c4f12b7cf21b860890dbbe7d81bc"), looks := false }, kinds := [], alts := [], laidByText := true, laidKinds := [.data, .pinned], laidTests := true, laidLooks := .later }
def NamesTurnedCardSaid : Prop := Claim7.holds Tryd.pinned (.plain (OpenSpec.ofChange namesTurnedSpec)) namesTurnedCard

/-- THE TIED CARD OF 'stemmalaw16.NamesScripts'. -/
def namesScriptsCard : Claim7 := { stood := { row := namesScriptsRow, standIns := [], harness := (true, "e09595124cb0c804ccd20eb9a15c2ba6fe03c4f12b7cf21b860890dbbe7d81bc"), looks := false }, kinds := [], alts := [], laidByText := true, laidKinds := [.data, .pinned], laidTests := true, laidLooks := .later }
def NamesScriptsCardSaid : Prop := Claim7.holds Tryd.pinned (.plain (OpenSpec.ofChange namesScriptsSpec)) namesScriptsCard

/-- THE TIED CARD OF 'stemmalaw16.NamesLog'. -/
def namesLogCard : Claim7 := { stood := { row := namesLogRow, standIns := [], harness := (true, "e09595124cb0c804ccd20eb9a15c2ba6fe03c4f12b7cf21b860890dbbe7d81bc"), looks := false }, kinds := [], alts := [], laidByText := true, laidKinds := [.data, .pinned], laidTests := true, laidLooks := .later }
def NamesLogCardSaid : Prop := Claim7.holds Tryd.pinned (.plain (OpenSpec.ofChange namesLogSpec)) namesLogCard

/-- THE SECOND FORM's CARD OF 'stemmalaw16.NamesGood'. -/
def namesGoodUptoCard : Claim7 := { stood := { row := namesGoodUptoRow, standIns := [], harness := (true, "e09595124cb0c804ccd20eb9a15c2ba6fe03c4f12b7cf21b860890dbbe7d81bc"), looks := false }, kinds := [], alts := [], laidByText := true, laidKinds := [.data, .pinned], laidTests := true, laidLooks := .later }
def NamesGoodUptoCardSaid : Prop := Claim7.holds Tryd.pinned (.plain (OpenSpec.upto namesGoodSpec)) namesGoodUptoCard

/-- THE SECOND FORM's CARD OF 'stemmalaw16.NamesTurned'. -/
def namesTurnedUptoCard : Claim7 := { stood := { row := namesTurnedUptoRow, standIns := [], harness := (true, "e09595124cb0c804ccd20eb9a15c2ba6fe03c4f12b7cf21b860890dbbe7d81bc"), looks := false }, kinds := [], alts := [], laidByText := true, laidKinds := [.data, .pinned], laidTests := true, laidLooks := .later }
def NamesTurnedUptoCardSaid : Prop := Claim7.holds Tryd.pinned (.plain (OpenSpec.upto namesTurnedSpec)) namesTurnedUptoCard

/-- THE SECOND FORM's CARD OF 'stemmalaw16.NamesScripts'. -/
def namesScriptsUptoCard : Claim7 := { stood := { row := namesScriptsUptoRow, standIns := [], harness := (true, "e09595124cb0c804ccd20eb9a15c2ba6fe03c4f12b7cf21b860890dbbe7d81bc"), looks := false }, kinds := [], alts := [], laidByText := true, laidKinds := [.data, .pinned], laidTests := true, laidLooks := .later }
def NamesScriptsUptoCardSaid : Prop := Claim7.holds Tryd.pinned (.plain (OpenSpec.upto namesScriptsSpec)) namesScriptsUptoCard

/-- THE SECOND FORM's CARD OF 'stemmalaw16.NamesLog'. -/
def namesLogUptoCard : Claim7 := { stood := { row := namesLogUptoRow, standIns := [], harness := (true, "e09595124cb0c804ccd20eb9a15c2ba6fe03c4f12b7cf21b860890dbbe7d81bc"), looks := false }, kinds := [], alts := [], laidByText := true, laidKinds := [.data, .pinned], laidTests := true, laidLooks := .later }
def NamesLogUptoCardSaid : Prop := Claim7.holds Tryd.pinned (.plain (OpenSpec.upto namesLogSpec)) namesLogUptoCard
end Rows
end Go.Proofs.YtlkfnhcnfjdgbaaDoor
