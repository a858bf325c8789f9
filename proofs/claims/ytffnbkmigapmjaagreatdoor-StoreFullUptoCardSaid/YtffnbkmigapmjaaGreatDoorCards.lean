/-
  DERIVED. GIVEN WITH THE SEED: THE CARDS: each row of YtffnbkmigapmjaaGreatDoorRows.lean that lists a variable, with what it lists TIED to the program's text (the seventh form; the later family's looks); each row that meets fmt, with fmt's text TOLD by the authors' own Lean function (tested against real Go, not proved from fmt's source: count such statements apart). THE CARD IS WHAT COUNTS. Prove the row's statement (the work); the ties are given (YtffnbkmigapmjaaGreatDoorTie.lean); close each card by the builder's one call (the guide's Derived/Test/ToyasCard.lean, 'card_holds'). Laid BY PROGRAM, IN A SANDBOX (cutbox-door.mjs). By AI agents, Wed Nov 11 2026. No macro, syntax, notation, axiom, sorry.
-/
import Derived.Test.YtffnbkmigapmjaaGreatDoorRows
import GoSem.ClaimSeven
namespace Go.Proofs.YtffnbkmigapmjaaGreatDoor
namespace Rows

/-- THE TIED CARD OF 'pillarboxlaw14.StoreNames'. -/
def storeNamesCard : Claim7 := { stood := { row := storeNamesRow, standIns := [], harness := (true, "7890785af7cf6d3dabc7a96ecfd3bdbb5c3ee1a99a08fd6b1ec738632bc0e061"), looks := true }, kinds := [], alts := [], laidByText := true, laidKinds := [.data, .data, .data, .data, .sentinel, .sentinel, .pinned, .pinned], laidTests := true, laidLooks := .later }
def StoreNamesCardSaid : Prop := Claim7.holds Tryz.pinned (.plain (OpenSpec.ofChange storeNamesSpec)) storeNamesCard

/-- THE TIED CARD OF 'pillarboxlaw14.StoreCorrupt'. -/
def storeCorruptCard : Claim7 := { stood := { row := storeCorruptRow, standIns := [], harness := (true, "7890785af7cf6d3dabc7a96ecfd3bdbb5c3ee1a99a08fd6b1ec738632bc0e061"), looks := true }, kinds := [], alts := [], laidByText := true, laidKinds := [.data, .data, .data, .data, .sentinel, .sentinel, .pinned, .pinned], laidTests := true, laidLooks := .later }
def StoreCorruptCardSaid : Prop := Claim7.holds Tryz.pinned (.plain (OpenSpec.ofChange storeCorruptSpec)) storeCorruptCard

/-- THE TIED CARD OF 'pillarboxlaw14.StoreTorn'. -/
def storeTornCard : Claim7 := { stood := { row := storeTornRow, standIns := [], harness := (true, "7890785af7cf6d3dabc7a96ecfd3bdbb5c3ee1a99a08fd6b1ec738632bc0e061"), looks := true }, kinds := [], alts := [], laidByText := true, laidKinds := [.data, .data, .data, .data, .sentinel, .sentinel, .pinned, .pinned], laidTests := true, laidLooks := .later }
def StoreTornCardSaid : Prop := Claim7.holds Tryz.pinned (.plain (OpenSpec.ofChange storeTornSpec)) storeTornCard

/-- THE TIED CARD OF 'pillarboxlaw14.StorePlays'. -/
def storePlaysCard : Claim7 := { stood := { row := storePlaysRow, standIns := [], harness := (true, "7890785af7cf6d3dabc7a96ecfd3bdbb5c3ee1a99a08fd6b1ec738632bc0e061"), looks := true }, kinds := [], alts := [], laidByText := true, laidKinds := [.data, .data, .data, .data, .sentinel, .sentinel, .pinned, .pinned], laidTests := true, laidLooks := .later }
def StorePlaysCardSaid : Prop := Claim7.holds Tryz.pinned (.plain (OpenSpec.ofChange storePlaysSpec)) storePlaysCard

/-- THE TIED CARD OF 'pillarboxlaw14.StoreNone'. -/
def storeNoneCard : Claim7 := { stood := { row := storeNoneRow, standIns := [], harness := (true, "7890785af7cf6d3dabc7a96ecfd3bdbb5c3ee1a99a08fd6b1ec738632bc0e061"), looks := true }, kinds := [], alts := [], laidByText := true, laidKinds := [.data, .data, .data, .data, .sentinel, .sentinel, .pinned, .pinned], laidTests := true, laidLooks := .later }
def StoreNoneCardSaid : Prop := Claim7.holds Tryz.pinned (.plain (OpenSpec.ofChange storeNoneSpec)) storeNoneCard

/-- THE TIED CARD OF 'pillarboxlaw14.StoreFull'. -/
def storeFullCard : Claim7 := { stood := { row := storeFullRow, standIns := [], harness := (true, "7890785af7cf6d3dabc7a96ecfd3bdbb5c3ee1a99a08fd6b1ec738632bc0e061"), looks := true }, kinds := [], alts := [], laidByText := true, laidKinds := [.data, .data, .data, .data, .sentinel, .sentinel, .pinned, .pinned], laidTests := true, laidLooks := .later }
def StoreFullCardSaid : Prop := Claim7.holds Tryz.pinned (.plain (OpenSpec.ofChange storeFullSpec)) storeFullCard

/-- THE TIED CARD OF 'pillarboxlaw14.StoreKeeps'. -/
def storeKeepsCard : Claim7 := { stood := { row := storeKeepsRow, standIns := [], harness := (true, "7890785af7cf6d3dabc7a96ecfd3bdbb5c3ee1a99a08fd6b1ec738632bc0e061"), looks := true }, kinds := [], alts := [], laidByText := true, laidKinds := [.data, .data, .data, .data, .sentinel, .sentinel, .pinned, .pinned], laidTests := true, laidLooks := .later }
def StoreKeepsCardSaid : Prop := Claim7.holds Tryz.pinned (.plain (OpenSpec.ofChange storeKeepsSpec)) storeKeepsCard

/-- THE SECOND FORM's CARD OF 'pillarboxlaw14.StoreNames'. -/
def storeNamesUptoCard : Claim7 := { stood := { row := storeNamesUptoRow, standIns := [], harness := (true, "7890785af7cf6d3dabc7a96ecfd3bdbb5c3ee1a99a08fd6b1ec738632bc0e061"), looks := true }, kinds := [], alts := [], laidByText := true, laidKinds := [.data, .data, .data, .data, .sentinel, .sentinel, .pinned, .pinned], laidTests := true, laidLooks := .later }
def StoreNamesUptoCardSaid : Prop := Claim7.holds Tryz.pinned (.plain (OpenSpec.upto storeNamesSpec)) storeNamesUptoCard

/-- THE SECOND FORM's CARD OF 'pillarboxlaw14.StoreCorrupt'. -/
def storeCorruptUptoCard : Claim7 := { stood := { row := storeCorruptUptoRow, standIns := [], harness := (true, "7890785af7cf6d3dabc7a96ecfd3bdbb5c3ee1a99a08fd6b1ec738632bc0e061"), looks := true }, kinds := [], alts := [], laidByText := true, laidKinds := [.data, .data, .data, .data, .sentinel, .sentinel, .pinned, .pinned], laidTests := true, laidLooks := .later }
def StoreCorruptUptoCardSaid : Prop := Claim7.holds Tryz.pinned (.plain (OpenSpec.upto storeCorruptSpec)) storeCorruptUptoCard

/-- THE SECOND FORM's CARD OF 'pillarboxlaw14.StoreTorn'. -/
def storeTornUptoCard : Claim7 := { stood := { row := storeTornUptoRow, standIns := [], harness := (true, "7890785af7cf6d3dabc7a96ecfd3bdbb5c3ee1a99a08fd6b1ec738632bc0e061"), looks := true }, kinds := [], alts := [], laidByText := true, laidKinds := [.data, .data, .data, .data, .sentinel, .sentinel, .pinned, .pinned], laidTests := true, laidLooks := .later }
def StoreTornUptoCardSaid : Prop := Claim7.holds Tryz.pinned (.plain (OpenSpec.upto storeTornSpec)) storeTornUptoCard

/-- THE SECOND FORM's CARD OF 'pillarboxlaw14.StorePlays'. -/
def storePlaysUptoCard : Claim7 := { stood := { row := storePlaysUptoRow, standIns := [], harness := (true, "7890785af7cf6d3dabc7a96ecfd3bdbb5c3ee1a99a08fd6b1ec738632bc0e061"), looks := true }, kinds := [], alts := [], laidByText := true, laidKinds := [.data, .data, .data, .data, .sentinel, .sentinel, .pinned, .pinned], laidTests := true, laidLooks := .later }
def StorePlaysUptoCardSaid : Prop := Claim7.holds Tryz.pinned (.plain (OpenSpec.upto storePlaysSpec)) storePlaysUptoCard

/-- THE SECOND FORM's CARD OF 'pillarboxlaw14.StoreNone'. -/
def storeNoneUptoCard : Claim7 := { stood := { row := storeNoneUptoRow, standIns := [], harness := (true, "7890785af7cf6d3dabc7a96ecfd3bdbb5c3ee1a99a08fd6b1ec738632bc0e061"), looks := true }, kinds := [], alts := [], laidByText := true, laidKinds := [.data, .data, .data, .data, .sentinel, .sentinel, .pinned, .pinned], laidTests := true, laidLooks := .later }
def StoreNoneUptoCardSaid : Prop := Claim7.holds Tryz.pinned (.plain (OpenSpec.upto storeNoneSpec)) storeNoneUptoCard

/-- THE SECOND FORM's CARD OF 'pillarboxlaw14.StoreFull'. -/
def storeFullUptoCard : Claim7 := { stood := { row := storeFullUptoRow, standIns := [], harness := (true, "7890785af7cf6d3dabc7a96ecfd3bdbb5c3ee1a99a08fd6b1ec738632bc0e061"), looks := true }, kinds := [], alts := [], laidByText := true, laidKinds := [.data, .data, .data, .data, .sentinel, .sentinel, .pinned, .pinned], laidTests := true, laidLooks := .later }
def StoreFullUptoCardSaid : Prop := Claim7.holds Tryz.pinned (.plain (OpenSpec.upto storeFullSpec)) storeFullUptoCard

/-- THE SECOND FORM's CARD OF 'pillarboxlaw14.StoreKeeps'. -/
def storeKeepsUptoCard : Claim7 := { stood := { row := storeKeepsUptoRow, standIns := [], harness := (true, "7890785af7cf6d3dabc7a96ecfd3bdbb5c3ee1a99a08fd6b1ec738632bc0e061"), looks := true }, kinds := [], alts := [], laidByText := true, laidKinds := [.data, .data, .data, .data, .sentinel, .sentinel, .pinned, .pinned], laidTests := true, laidLooks := .later }
def StoreKeepsUptoCardSaid : Prop := Claim7.holds Tryz.pinned (.plain (OpenSpec.upto storeKeepsSpec)) storeKeepsUptoCard
end Rows
end Go.Proofs.YtffnbkmigapmjaaGreatDoor
