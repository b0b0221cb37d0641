/-
  DERIVED. GIVEN WITH THE SEED: THE CARDS: each row of YtmmfbeeeamcooaaDoorRows.lean that lists a variable, with what it lists TIED to the program's text (the seventh form; the later family's looks); each row that meets fmt, with fmt's text TOLD by the authors' own Lean function (tested against real Go, not proved from fmt's source: count such statements apart). THE CARD IS WHAT COUNTS. Prove the row's statement (the work); the ties are given (YtmmfbeeeamcooaaDoorTie.lean); close each card by the builder's one call (the guide's Derived/Test/ToyasCard.lean, 'card_holds'). Laid BY PROGRAM, IN A SANDBOX (cutbox-door.mjs). By AI agents, Wed Nov 11 2026. No macro, syntax, notation, axiom, sorry.
-/
import Derived.Test.YtmmfbeeeamcooaaDoorRows
import GoSem.ClaimSeven
namespace Go.Proofs.YtmmfbeeeamcooaaDoor
namespace Rows

/-- THE TIED CARD OF 'caravanlaw08.RingParts'. -/
def ringPartsCard : Claim7 := { stood := { row := ringPartsRow, standIns := [], harness := (true, "c37eb66bd6732e9ad0bd2d044bdf36dd0dc345a37dfdcd7429dd913b09e19475"), looks := false }, kinds := [], alts := [], laidByText := true, laidKinds := [.data], laidTests := true, laidLooks := .later }
def RingPartsCardSaid : Prop := Claim7.holds Tryd.pinned (.plain (OpenSpec.ofChange ringPartsSpec)) ringPartsCard

/-- THE TIED CARD OF 'caravanlaw08.RingTells'. -/
def ringTellsCard : Claim7 := { stood := { row := ringTellsRow, standIns := [], harness := (true, "c37eb66bd6732e9ad0bd2d044bdf36dd0dc345a37dfdcd7429dd913b09e19475"), looks := false }, kinds := [], alts := [], laidByText := true, laidKinds := [.data], laidTests := true, laidLooks := .later }
def RingTellsCardSaid : Prop := Claim7.holds Tryd.pinned (.plain (OpenSpec.ofChange ringTellsSpec)) ringTellsCard

/-- THE SECOND FORM's CARD OF 'caravanlaw08.RingParts'. -/
def ringPartsUptoCard : Claim7 := { stood := { row := ringPartsUptoRow, standIns := [], harness := (true, "c37eb66bd6732e9ad0bd2d044bdf36dd0dc345a37dfdcd7429dd913b09e19475"), looks := false }, kinds := [], alts := [], laidByText := true, laidKinds := [.data], laidTests := true, laidLooks := .later }
def RingPartsUptoCardSaid : Prop := Claim7.holds Tryd.pinned (.plain (OpenSpec.upto ringPartsSpec)) ringPartsUptoCard

/-- THE SECOND FORM's CARD OF 'caravanlaw08.RingTells'. -/
def ringTellsUptoCard : Claim7 := { stood := { row := ringTellsUptoRow, standIns := [], harness := (true, "c37eb66bd6732e9ad0bd2d044bdf36dd0dc345a37dfdcd7429dd913b09e19475"), looks := false }, kinds := [], alts := [], laidByText := true, laidKinds := [.data], laidTests := true, laidLooks := .later }
def RingTellsUptoCardSaid : Prop := Claim7.holds Tryd.pinned (.plain (OpenSpec.upto ringTellsSpec)) ringTellsUptoCard
end Rows
end Go.Proofs.YtmmfbeeeamcooaaDoor
