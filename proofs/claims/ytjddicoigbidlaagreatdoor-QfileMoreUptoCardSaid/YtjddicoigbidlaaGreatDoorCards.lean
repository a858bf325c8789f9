/-
  DERIVED. GIVEN WITH THE SEED: THE CARDS: each row of YtjddicoigbidlaaGreatDoorRows.lean that lists a variable, with what it lists TIED to the program's text (the seventh form; the later family's looks); each row that meets fmt, with fmt's text TOLD by the authors' own Lean function (tested against real Go, not proved from fmt's source: count such statements apart). THE CARD IS WHAT COUNTS. Prove the row's statement (the work); the ties are given (YtjddicoigbidlaaGreatDoorTie.lean); close each card by the builder's one call (the guide's Derived/Test/ToyasCard.lean, 'card_holds'). Laid BY PROGRAM, IN A SANDBOX (cutbox-door.mjs). By AI agents, Wed Nov 11 2026. No macro, syntax, notation, axiom, sorry.
-/
import Derived.Test.YtjddicoigbidlaaGreatDoorRows
import GoSem.ClaimSeven
namespace Go.Proofs.YtjddicoigbidlaaGreatDoor
namespace Rows

/-- THE TIED CARD OF 'pillarboxlaw10.EnvEncodes'. -/
def envEncodesCard : Claim7 := { stood := { row := envEncodesRow, standIns := [], harness := (true, "e3268d4d783c8ee71dd133be96a916b56cfc6d7dd0544ee9c6f75f968f4707b0"), looks := false }, kinds := [], alts := [], laidByText := true, laidKinds := [.data, .pinned, .pinned], laidTests := true, laidLooks := .later }
def EnvEncodesCardSaid : Prop := Claim7.holds Tryz.pinned (.plain (OpenSpec.ofChange envEncodesSpec)) envEncodesCard

/-- THE TIED CARD OF 'pillarboxlaw10.EnvDecodes'. -/
def envDecodesCard : Claim7 := { stood := { row := envDecodesRow, standIns := [], harness := (true, "e3268d4d783c8ee71dd133be96a916b56cfc6d7dd0544ee9c6f75f968f4707b0"), looks := false }, kinds := [], alts := [], laidByText := true, laidKinds := [.data, .pinned, .pinned], laidTests := true, laidLooks := .later }
def EnvDecodesCardSaid : Prop := Claim7.holds Tryz.pinned (.plain (OpenSpec.ofChange envDecodesSpec)) envDecodesCard

/-- THE TIED CARD OF 'pillarboxlaw10.EnvCut'. -/
def envCutCard : Claim7 := { stood := { row := envCutRow, standIns := [], harness := (true, "e3268d4d783c8ee71dd133be96a916b56cfc6d7dd0544ee9c6f75f968f4707b0"), looks := false }, kinds := [], alts := [], laidByText := true, laidKinds := [.data, .pinned, .pinned], laidTests := true, laidLooks := .later }
def EnvCutCardSaid : Prop := Claim7.holds Tryz.pinned (.plain (OpenSpec.ofChange envCutSpec)) envCutCard

/-- THE TIED CARD OF 'pillarboxlaw10.EnvOwn'. -/
def envOwnCard : Claim7 := { stood := { row := envOwnRow, standIns := [], harness := (true, "e3268d4d783c8ee71dd133be96a916b56cfc6d7dd0544ee9c6f75f968f4707b0"), looks := false }, kinds := [], alts := [], laidByText := true, laidKinds := [.data, .pinned, .pinned], laidTests := true, laidLooks := .later }
def EnvOwnCardSaid : Prop := Claim7.holds Tryz.pinned (.plain (OpenSpec.ofChange envOwnSpec)) envOwnCard

/-- THE TIED CARD OF 'pillarboxlaw12.QfileParses'. -/
def qfileParsesCard : Claim7 := { stood := { row := qfileParsesRow, standIns := [], harness := (true, "e3268d4d783c8ee71dd133be96a916b56cfc6d7dd0544ee9c6f75f968f4707b0"), looks := false }, kinds := [], alts := [], laidByText := true, laidKinds := [.data, .pinned, .pinned], laidTests := true, laidLooks := .later }
def QfileParsesCardSaid : Prop := Claim7.holds Tryz.pinned (.plain (OpenSpec.ofChange qfileParsesSpec)) qfileParsesCard

/-- THE TIED CARD OF 'pillarboxlaw12.QfileAny'. -/
def qfileAnyCard : Claim7 := { stood := { row := qfileAnyRow, standIns := [], harness := (true, "e3268d4d783c8ee71dd133be96a916b56cfc6d7dd0544ee9c6f75f968f4707b0"), looks := false }, kinds := [], alts := [], laidByText := true, laidKinds := [.data, .pinned, .pinned], laidTests := true, laidLooks := .later }
def QfileAnyCardSaid : Prop := Claim7.holds Tryz.pinned (.plain (OpenSpec.ofChange qfileAnySpec)) qfileAnyCard

/-- THE TIED CARD OF 'pillarboxlaw12.QfileTorn'. -/
def qfileTornCard : Claim7 := { stood := { row := qfileTornRow, standIns := [], harness := (true, "e3268d4d783c8ee71dd133be96a916b56cfc6d7dd0544ee9c6f75f968f4707b0"), looks := false }, kinds := [], alts := [], laidByText := true, laidKinds := [.data, .pinned, .pinned], laidTests := true, laidLooks := .later }
def QfileTornCardSaid : Prop := Claim7.holds Tryz.pinned (.plain (OpenSpec.ofChange qfileTornSpec)) qfileTornCard

/-- THE TIED CARD OF 'pillarboxlaw12.QfileMore'. -/
def qfileMoreCard : Claim7 := { stood := { row := qfileMoreRow, standIns := [], harness := (true, "e3268d4d783c8ee71dd133be96a916b56cfc6d7dd0544ee9c6f75f968f4707b0"), looks := false }, kinds := [], alts := [], laidByText := true, laidKinds := [.data, .pinned, .pinned], laidTests := true, laidLooks := .later }
def QfileMoreCardSaid : Prop := Claim7.holds Tryz.pinned (.plain (OpenSpec.ofChange qfileMoreSpec)) qfileMoreCard

/-- THE TIED CARD OF 'pillarboxlaw12.QfileFates'. -/
def qfileFatesCard : Claim7 := { stood := { row := qfileFatesRow, standIns := [], harness := (true, "e3268d4d783c8ee71dd133be96a916b56cfc6d7dd0544ee9c6f75f968f4707b0"), looks := false }, kinds := [], alts := [], laidByText := true, laidKinds := [.data, .pinned, .pinned], laidTests := true, laidLooks := .later }
def QfileFatesCardSaid : Prop := Claim7.holds Tryz.pinned (.plain (OpenSpec.ofChange qfileFatesSpec)) qfileFatesCard

/-- THE SECOND FORM's CARD OF 'pillarboxlaw10.EnvEncodes'. -/
def envEncodesUptoCard : Claim7 := { stood := { row := envEncodesUptoRow, standIns := [], harness := (true, "e3268d4d783c8ee71dd133be96a916b56cfc6d7dd0544ee9c6f75f968f4707b0"), looks := false }, kinds := [], alts := [], laidByText := true, laidKinds := [.data, .pinned, .pinned], laidTests := true, laidLooks := .later }
def EnvEncodesUptoCardSaid : Prop := Claim7.holds Tryz.pinned (.plain (OpenSpec.upto envEncodesSpec)) envEncodesUptoCard

/-- THE SECOND FORM's CARD OF 'pillarboxlaw10.EnvDecodes'. -/
def envDecodesUptoCard : Claim7 := { stood := { row := envDecodesUptoRow, standIns := [], harness := (true, "e3268d4d783c8ee71dd133be96a916b56cfc6d7dd0544ee9c6f75f968f4707b0"), looks := false }, kinds := [], alts := [], laidByText := true, laidKinds := [.data, .pinned, .pinned], laidTests := true, laidLooks := .later }
def EnvDecodesUptoCardSaid : Prop := Claim7.holds Tryz.pinned (.plain (OpenSpec.upto envDecodesSpec)) envDecodesUptoCard

/-- THE SECOND FORM's CARD OF 'pillarboxlaw10.EnvCut'. -/
def envCutUptoCard : Claim7 := { stood := { row := envCutUptoRow, standIns := [], harness := (true, "e3268d4d783c8ee71dd133be96a916b56cfc6d7dd0544ee9c6f75f968f4707b0"), looks := false }, kinds := [], alts := [], laidByText := true, laidKinds := [.data, .pinned, .pinned], laidTests := true, laidLooks := .later }
def EnvCutUptoCardSaid : Prop := Claim7.holds Tryz.pinned (.plain (OpenSpec.upto envCutSpec)) envCutUptoCard

/-- THE SECOND FORM's CARD OF 'pillarboxlaw10.EnvOwn'. -/
def envOwnUptoCard : Claim7 := { stood := { row := envOwnUptoRow, standIns := [], harness := (true, "e3268d4d783c8ee71dd133be96a916b56cfc6d7dd0544ee9c6f75f968f4707b0"), looks := false }, kinds := [], alts := [], laidByText := true, laidKinds := [.data, .pinned, .pinned], laidTests := true, laidLooks := .later }
def EnvOwnUptoCardSaid : Prop := Claim7.holds Tryz.pinned (.plain (OpenSpec.upto envOwnSpec)) envOwnUptoCard

/-- THE SECOND FORM's CARD OF 'pillarboxlaw12.QfileParses'. -/
def qfileParsesUptoCard : Claim7 := { stood := { row := qfileParsesUptoRow, standIns := [], harness := (true, "e3268d4d783c8ee71dd133be96a916b56cfc6d7dd0544ee9c6f75f968f4707b0"), looks := false }, kinds := [], alts := [], laidByText := true, laidKinds := [.data, .pinned, .pinned], laidTests := true, laidLooks := .later }
def QfileParsesUptoCardSaid : Prop := Claim7.holds Tryz.pinned (.plain (OpenSpec.upto qfileParsesSpec)) qfileParsesUptoCard

/-- THE SECOND FORM's CARD OF 'pillarboxlaw12.QfileAny'. -/
def qfileAnyUptoCard : Claim7 := { stood := { row := qfileAnyUptoRow, standIns := [], harness := (true, "e3268d4d783c8ee71dd133be96a916b56cfc6d7dd0544ee9c6f75f968f4707b0"), looks := false }, kinds := [], alts := [], laidByText := true, laidKinds := [.data, .pinned, .pinned], laidTests := true, laidLooks := .later }
def QfileAnyUptoCardSaid : Prop := Claim7.holds Tryz.pinned (.plain (OpenSpec.upto qfileAnySpec)) qfileAnyUptoCard

/-- THE SECOND FORM's CARD OF 'pillarboxlaw12.QfileTorn'. -/
def qfileTornUptoCard : Claim7 := { stood := { row := qfileTornUptoRow, standIns := [], harness := (true, "e3268d4d783c8ee71dd133be96a916b56cfc6d7dd0544ee9c6f75f968f4707b0"), looks := false }, kinds := [], alts := [], laidByText := true, laidKinds := [.data, .pinned, .pinned], laidTests := true, laidLooks := .later }
def QfileTornUptoCardSaid : Prop := Claim7.holds Tryz.pinned (.plain (OpenSpec.upto qfileTornSpec)) qfileTornUptoCard

/-- THE SECOND FORM's CARD OF 'pillarboxlaw12.QfileMore'. -/
def qfileMoreUptoCard : Claim7 := { stood := { row := qfileMoreUptoRow, standIns := [], harness := (true, "e3268d4d783c8ee71dd133be96a916b56cfc6d7dd0544ee9c6f75f968f4707b0"), looks := false }, kinds := [], alts := [], laidByText := true, laidKinds := [.data, .pinned, .pinned], laidTests := true, laidLooks := .later }
def QfileMoreUptoCardSaid : Prop := Claim7.holds Tryz.pinned (.plain (OpenSpec.upto qfileMoreSpec)) qfileMoreUptoCard

/-- THE SECOND FORM's CARD OF 'pillarboxlaw12.QfileFates'. -/
def qfileFatesUptoCard : Claim7 := { stood := { row := qfileFatesUptoRow, standIns := [], harness := (true, "e3268d4d783c8ee71dd133be96a916b56cfc6d7dd0544ee9c6f75f968f4707b0"), looks := false }, kinds := [], alts := [], laidByText := true, laidKinds := [.data, .pinned, .pinned], laidTests := true, laidLooks := .later }
def QfileFatesUptoCardSaid : Prop := Claim7.holds Tryz.pinned (.plain (OpenSpec.upto qfileFatesSpec)) qfileFatesUptoCard
end Rows
end Go.Proofs.YtjddicoigbidlaaGreatDoor
