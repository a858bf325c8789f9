/-
  DERIVED. GIVEN WITH THE SEED: THE CARDS: each row of YtjddicoigbidlaaDoorRows.lean that lists a variable, with what it lists TIED to the program's text (the seventh form; the later family's looks); each row that meets fmt, with fmt's text TOLD by the authors' own Lean function (tested against real Go, not proved from fmt's source: count such statements apart). THE CARD IS WHAT COUNTS. Prove the row's statement (the work); the ties are given (YtjddicoigbidlaaDoorTie.lean); close each card by the builder's one call (the guide's Derived/Test/ToyasCard.lean, 'card_holds'). Laid BY PROGRAM, IN A SANDBOX (cutbox-door.mjs). By AI agents, Wed Nov 11 2026. No macro, syntax, notation, axiom, sorry.
-/
import Derived.Test.YtjddicoigbidlaaDoorRows
import GoSem.ClaimSeven
namespace Go.Proofs.YtjddicoigbidlaaDoor
namespace Rows

/-- THE TIED CARD OF 'pillarboxlaw10.EnvSame'. -/
def envSameCard : Claim7 := { stood := { row := envSameRow, standIns := [], harness := (true, "30ee3b2c8167063b93351366a3df825c3c48ea5ac4477eaadb82ffe9eba5a725"), looks := false }, kinds := [], alts := [], laidByText := true, laidKinds := [.data, .pinned, .pinned], laidTests := true, laidLooks := .later }
def EnvSameCardSaid : Prop := Claim7.holds Tryd.pinned (.plain (OpenSpec.ofChange envSameSpec)) envSameCard

/-- THE SECOND FORM's CARD OF 'pillarboxlaw10.EnvSame'. -/
def envSameUptoCard : Claim7 := { stood := { row := envSameUptoRow, standIns := [], harness := (true, "30ee3b2c8167063b93351366a3df825c3c48ea5ac4477eaadb82ffe9eba5a725"), looks := false }, kinds := [], alts := [], laidByText := true, laidKinds := [.data, .pinned, .pinned], laidTests := true, laidLooks := .later }
def EnvSameUptoCardSaid : Prop := Claim7.holds Tryd.pinned (.plain (OpenSpec.upto envSameSpec)) envSameUptoCard
end Rows
end Go.Proofs.YtjddicoigbidlaaDoor
