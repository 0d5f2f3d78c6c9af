/-
  DERIVED. GIVEN WITH THE SEED: THE CARDS: each row of YtbilkpioddjlfaaDoorRows.lean that lists a variable, with what it lists TIED to the program's text (the seventh form; the later family's looks); each row that meets fmt, with fmt's text TOLD by the authors' own Lean function (tested against real Go, not proved from fmt's source: count such statements apart). THE CARD IS WHAT COUNTS. Prove the row's statement (the work); the ties are given (YtbilkpioddjlfaaDoorTie.lean); close each card by the builder's one call (the guide's Derived/Test/ToyasCard.lean, 'card_holds'). Laid BY PROGRAM, IN A SANDBOX (cutbox-door.mjs). By AI agents, Wed Nov 11 2026. No macro, syntax, notation, axiom, sorry.
-/
import Derived.Test.YtbilkpioddjlfaaDoorRows
import GoSem.ClaimSeven
namespace Go.Proofs.YtbilkpioddjlfaaDoor
namespace Rows

/-- THE TIED CARD OF 'cuecardlaw19.GenOne'. -/
def genOneCard : Claim7 := { stood := { row := genOneRow, standIns := [], harness := (true, "d1190813d76c2eafb509a5060f54bcbdeb7979f1c422b1f72670c9a9a5916e8d"), looks := true }, kinds := [], alts := [], laidByText := true, laidKinds := [.data, .data, .data], laidTests := true, laidLooks := .later }
def GenOneCardSaid : Prop := Claim7.holds Tryd.pinned (.plain (OpenSpec.ofChange genOneSpec)) genOneCard

/-- THE TIED CARD OF 'cuecardlaw16.EnvNumbers'. -/
def envNumbersCard : Claim7 := { stood := { row := envNumbersRow, standIns := [], harness := (true, "d1190813d76c2eafb509a5060f54bcbdeb7979f1c422b1f72670c9a9a5916e8d"), looks := true }, kinds := [], alts := [], laidByText := true, laidKinds := [.data, .data, .data, .data, .sentinel, .sentinel, .pinned], laidTests := true, laidLooks := .later }
def EnvNumbersCardSaid : Prop := Claim7.holds Tryd.pinned (.plain (OpenSpec.ofChange envNumbersSpec)) envNumbersCard

/-- THE TIED CARD OF 'cuecardlaw16.EnvDigits'. -/
def envDigitsCard : Claim7 := { stood := { row := envDigitsRow, standIns := [], harness := (true, "d1190813d76c2eafb509a5060f54bcbdeb7979f1c422b1f72670c9a9a5916e8d"), looks := true }, kinds := [], alts := [], laidByText := true, laidKinds := [.data, .data, .data, .data, .sentinel, .sentinel, .pinned], laidTests := true, laidLooks := .later }
def EnvDigitsCardSaid : Prop := Claim7.holds Tryd.pinned (.plain (OpenSpec.ofChange envDigitsSpec)) envDigitsCard

/-- THE TIED CARD OF 'cuecardlaw16.EnvNone'. -/
def envNoneCard : Claim7 := { stood := { row := envNoneRow, standIns := [], harness := (true, "d1190813d76c2eafb509a5060f54bcbdeb7979f1c422b1f72670c9a9a5916e8d"), looks := true }, kinds := [], alts := [], laidByText := true, laidKinds := [.data, .data, .data, .data, .sentinel, .sentinel, .pinned], laidTests := true, laidLooks := .later }
def EnvNoneCardSaid : Prop := Claim7.holds Tryd.pinned (.plain (OpenSpec.ofChange envNoneSpec)) envNoneCard

/-- THE TIED CARD OF 'cuecardlaw16.EnvKeeps'. -/
def envKeepsCard : Claim7 := { stood := { row := envKeepsRow, standIns := [], harness := (true, "d1190813d76c2eafb509a5060f54bcbdeb7979f1c422b1f72670c9a9a5916e8d"), looks := true }, kinds := [], alts := [], laidByText := true, laidKinds := [.data, .data, .data, .data, .sentinel, .sentinel, .pinned], laidTests := true, laidLooks := .later }
def EnvKeepsCardSaid : Prop := Claim7.holds Tryd.pinned (.plain (OpenSpec.ofChange envKeepsSpec)) envKeepsCard

/-- THE TIED CARD OF 'cuecardlaw16.EnvWords'. -/
def envWordsCard : Claim7 := { stood := { row := envWordsRow, standIns := [], harness := (true, "d1190813d76c2eafb509a5060f54bcbdeb7979f1c422b1f72670c9a9a5916e8d"), looks := true }, kinds := [], alts := [], laidByText := true, laidKinds := [.data, .data, .data, .data, .sentinel, .sentinel, .pinned], laidTests := true, laidLooks := .later }
def EnvWordsCardSaid : Prop := Claim7.holds Tryd.pinned (.plain (OpenSpec.ofChange envWordsSpec)) envWordsCard

/-- THE TIED CARD OF 'cuecardlaw16.EnvMany'. -/
def envManyCard : Claim7 := { stood := { row := envManyRow, standIns := [], harness := (true, "d1190813d76c2eafb509a5060f54bcbdeb7979f1c422b1f72670c9a9a5916e8d"), looks := true }, kinds := [], alts := [], laidByText := true, laidKinds := [.data, .data, .data, .data, .sentinel, .sentinel, .pinned], laidTests := true, laidLooks := .later }
def EnvManyCardSaid : Prop := Claim7.holds Tryd.pinned (.plain (OpenSpec.ofChange envManySpec)) envManyCard

/-- THE SECOND FORM's CARD OF 'cuecardlaw19.GenOne'. -/
def genOneUptoCard : Claim7 := { stood := { row := genOneUptoRow, standIns := [], harness := (true, "d1190813d76c2eafb509a5060f54bcbdeb7979f1c422b1f72670c9a9a5916e8d"), looks := true }, kinds := [], alts := [], laidByText := true, laidKinds := [.data, .data, .data], laidTests := true, laidLooks := .later }
def GenOneUptoCardSaid : Prop := Claim7.holds Tryd.pinned (.plain (OpenSpec.upto genOneSpec)) genOneUptoCard

/-- THE SECOND FORM's CARD OF 'cuecardlaw16.EnvNumbers'. -/
def envNumbersUptoCard : Claim7 := { stood := { row := envNumbersUptoRow, standIns := [], harness := (true, "d1190813d76c2eafb509a5060f54bcbdeb7979f1c422b1f72670c9a9a5916e8d"), looks := true }, kinds := [], alts := [], laidByText := true, laidKinds := [.data, .data, .data, .data, .sentinel, .sentinel, .pinned], laidTests := true, laidLooks := .later }
def EnvNumbersUptoCardSaid : Prop := Claim7.holds Tryd.pinned (.plain (OpenSpec.upto envNumbersSpec)) envNumbersUptoCard

/-- THE SECOND FORM's CARD OF 'cuecardlaw16.EnvDigits'. -/
def envDigitsUptoCard : Claim7 := { stood := { row := envDigitsUptoRow, standIns := [], harness := (true, "d1190813d76c2eafb509a5060f54bcbdeb7979f1c422b1f72670c9a9a5916e8d"), looks := true }, kinds := [], alts := [], laidByText := true, laidKinds := [.data, .data, .data, .data, .sentinel, .sentinel, .pinned], laidTests := true, laidLooks := .later }
def EnvDigitsUptoCardSaid : Prop := Claim7.holds Tryd.pinned (.plain (OpenSpec.upto envDigitsSpec)) envDigitsUptoCard

/-- THE SECOND FORM's CARD OF 'cuecardlaw16.EnvNone'. -/
def envNoneUptoCard : Claim7 := { stood := { row := envNoneUptoRow, standIns := [], harness := (true, "d1190813d76c2eafb509a5060f54bcbdeb7979f1c422b1f72670c9a9a5916e8d"), looks := true }, kinds := [], alts := [], laidByText := true, laidKinds := [.data, .data, .data, .data, .sentinel, .sentinel, .pinned], laidTests := true, laidLooks := .later }
def EnvNoneUptoCardSaid : Prop := Claim7.holds Tryd.pinned (.plain (OpenSpec.upto envNoneSpec)) envNoneUptoCard

/-- THE SECOND FORM's CARD OF 'cuecardlaw16.EnvKeeps'. -/
def envKeepsUptoCard : Claim7 := { stood := { row := envKeepsUptoRow, standIns := [], harness := (true, "d1190813d76c2eafb509a5060f54bcbdeb7979f1c422b1f72670c9a9a5916e8d"), looks := true }, kinds := [], alts := [], laidByText := true, laidKinds := [.data, .data, .data, .data, .sentinel, .sentinel, .pinned], laidTests := true, laidLooks := .later }
def EnvKeepsUptoCardSaid : Prop := Claim7.holds Tryd.pinned (.plain (OpenSpec.upto envKeepsSpec)) envKeepsUptoCard

/-- THE SECOND FORM's CARD OF 'cuecardlaw16.EnvWords'. -/
def envWordsUptoCard : Claim7 := { stood := { row := envWordsUptoRow, standIns := [], harness := (true, "d1190813d76c2eafb509a5060f54bcbdeb7979f1c422b1f72670c9a9a5916e8d"), looks := true }, kinds := [], alts := [], laidByText := true, laidKinds := [.data, .data, .data, .data, .sentinel, .sentinel, .pinned], laidTests := true, laidLooks := .later }
def EnvWordsUptoCardSaid : Prop := Claim7.holds Tryd.pinned (.plain (OpenSpec.upto envWordsSpec)) envWordsUptoCard

/-- THE SECOND FORM's CARD OF 'cuecardlaw16.EnvMany'. -/
def envManyUptoCard : Claim7 := { stood := { row := envManyUptoRow, standIns := [], harness := (true, "d1190813d76c2eafb509a5060f54bcbdeb7979f1c422b1f72670c9a9a5916e8d"), looks := true }, kinds := [], alts := [], laidByText := true, laidKinds := [.data, .data, .data, .data, .sentinel, .sentinel, .pinned], laidTests := true, laidLooks := .later }
def EnvManyUptoCardSaid : Prop := Claim7.holds Tryd.pinned (.plain (OpenSpec.upto envManySpec)) envManyUptoCard
end Rows
end Go.Proofs.YtbilkpioddjlfaaDoor
