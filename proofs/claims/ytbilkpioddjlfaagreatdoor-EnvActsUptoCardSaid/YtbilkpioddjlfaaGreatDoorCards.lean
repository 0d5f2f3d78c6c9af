/-
  DERIVED. GIVEN WITH THE SEED: THE CARDS: each row of YtbilkpioddjlfaaGreatDoorRows.lean that lists a variable, with what it lists TIED to the program's text (the seventh form; the later family's looks); each row that meets fmt, with fmt's text TOLD by the authors' own Lean function (tested against real Go, not proved from fmt's source: count such statements apart). THE CARD IS WHAT COUNTS. Prove the row's statement (the work); the ties are given (YtbilkpioddjlfaaGreatDoorTie.lean); close each card by the builder's one call (the guide's Derived/Test/ToyasCard.lean, 'card_holds'). Laid BY PROGRAM, IN A SANDBOX (cutbox-door.mjs). By AI agents, Wed Nov 11 2026. No macro, syntax, notation, axiom, sorry.
-/
import Derived.Test.YtbilkpioddjlfaaGreatDoorRows
import GoSem.ClaimSeven
namespace Go.Proofs.YtbilkpioddjlfaaGreatDoor
namespace Rows

/-- THE TIED CARD OF 'cuecardlaw16.EnvActs'. -/
def envActsCard : Claim7 := { stood := { row := envActsRow, standIns := [], harness := (true, "19287ca060d5189f093a00f4b9f6b4a0f1615e00c711dfb774724fad9e9dd9a6"), looks := true }, kinds := [], alts := [], laidByText := true, laidKinds := [.data, .data, .data, .data, .sentinel, .sentinel, .pinned], laidTests := true, laidLooks := .later }
def EnvActsCardSaid : Prop := Claim7.holds Tryz.pinned (.plain (OpenSpec.ofChange envActsSpec)) envActsCard

/-- THE SECOND FORM's CARD OF 'cuecardlaw16.EnvActs'. -/
def envActsUptoCard : Claim7 := { stood := { row := envActsUptoRow, standIns := [], harness := (true, "19287ca060d5189f093a00f4b9f6b4a0f1615e00c711dfb774724fad9e9dd9a6"), looks := true }, kinds := [], alts := [], laidByText := true, laidKinds := [.data, .data, .data, .data, .sentinel, .sentinel, .pinned], laidTests := true, laidLooks := .later }
def EnvActsUptoCardSaid : Prop := Claim7.holds Tryz.pinned (.plain (OpenSpec.upto envActsSpec)) envActsUptoCard
end Rows
end Go.Proofs.YtbilkpioddjlfaaGreatDoor
