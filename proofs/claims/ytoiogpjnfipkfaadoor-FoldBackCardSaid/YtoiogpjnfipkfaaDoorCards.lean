/-
  DERIVED. GIVEN WITH THE SEED: THE CARDS: each row of YtoiogpjnfipkfaaDoorRows.lean that lists a variable, with what it lists TIED to the program's text (the seventh form; the later family's looks); each row that meets fmt, with fmt's text TOLD by the authors' own Lean function (tested against real Go, not proved from fmt's source: count such statements apart). THE CARD IS WHAT COUNTS. Prove the row's statement (the work); the ties are given (YtoiogpjnfipkfaaDoorTie.lean); close each card by the builder's one call (the guide's Derived/Test/ToyasCard.lean, 'card_holds'). Laid BY PROGRAM, IN A SANDBOX (cutbox-door.mjs). By AI agents, Wed Nov 11 2026. No macro, syntax, notation, axiom, sorry.
-/
import Derived.Test.YtoiogpjnfipkfaaDoorRows
import GoSem.ClaimSeven
namespace Go.Proofs.YtoiogpjnfipkfaaDoor
namespace Rows

/-- THE TIED CARD OF 'caravanlaw02.FoldSums'. -/
def foldSumsCard : Claim7 := { stood := { row := foldSumsRow, standIns := [], harness := (true, "cd6218b4b6fe2d42c5a170c18a3be380e07603e9f1f43b175a7d4462c71d7e01"), looks := false }, kinds := [], alts := [], laidByText := true, laidKinds := [.data], laidTests := true, laidLooks := .later }
def FoldSumsCardSaid : Prop := Claim7.holds Tryd.pinned (.plain (OpenSpec.ofChange foldSumsSpec)) foldSumsCard

/-- THE TIED CARD OF 'caravanlaw02.FoldApart'. -/
def foldApartCard : Claim7 := { stood := { row := foldApartRow, standIns := [], harness := (true, "cd6218b4b6fe2d42c5a170c18a3be380e07603e9f1f43b175a7d4462c71d7e01"), looks := false }, kinds := [], alts := [], laidByText := true, laidKinds := [.data], laidTests := true, laidLooks := .later }
def FoldApartCardSaid : Prop := Claim7.holds Tryd.pinned (.plain (OpenSpec.ofChange foldApartSpec)) foldApartCard

/-- THE TIED CARD OF 'caravanlaw02.FoldShort'. -/
def foldShortCard : Claim7 := { stood := { row := foldShortRow, standIns := [], harness := (true, "cd6218b4b6fe2d42c5a170c18a3be380e07603e9f1f43b175a7d4462c71d7e01"), looks := false }, kinds := [], alts := [], laidByText := true, laidKinds := [.data], laidTests := true, laidLooks := .later }
def FoldShortCardSaid : Prop := Claim7.holds Tryd.pinned (.plain (OpenSpec.ofChange foldShortSpec)) foldShortCard

/-- THE TIED CARD OF 'caravanlaw02.FoldTurned'. -/
def foldTurnedCard : Claim7 := { stood := { row := foldTurnedRow, standIns := [], harness := (true, "cd6218b4b6fe2d42c5a170c18a3be380e07603e9f1f43b175a7d4462c71d7e01"), looks := false }, kinds := [], alts := [], laidByText := true, laidKinds := [.data], laidTests := true, laidLooks := .later }
def FoldTurnedCardSaid : Prop := Claim7.holds Tryd.pinned (.plain (OpenSpec.ofChange foldTurnedSpec)) foldTurnedCard

/-- THE TIED CARD OF 'caravanlaw02.FoldLimit'. -/
def foldLimitCard : Claim7 := { stood := { row := foldLimitRow, standIns := [], harness := (true, "cd6218b4b6fe2d42c5a170c18a3be380e07603e9f1f43b175a7d4462c71d7e01"), looks := false }, kinds := [], alts := [], laidByText := true, laidKinds := [.data], laidTests := true, laidLooks := .later }
def FoldLimitCardSaid : Prop := Claim7.holds Tryd.pinned (.plain (OpenSpec.ofChange foldLimitSpec)) foldLimitCard

/-- THE TIED CARD OF 'caravanlaw02.FoldBack'. -/
def foldBackCard : Claim7 := { stood := { row := foldBackRow, standIns := [], harness := (true, "cd6218b4b6fe2d42c5a170c18a3be380e07603e9f1f43b175a7d4462c71d7e01"), looks := false }, kinds := [], alts := [], laidByText := true, laidKinds := [.data], laidTests := true, laidLooks := .later }
def FoldBackCardSaid : Prop := Claim7.holds Tryd.pinned (.plain (OpenSpec.ofChange foldBackSpec)) foldBackCard

/-- THE SECOND FORM's CARD OF 'caravanlaw02.FoldSums'. -/
def foldSumsUptoCard : Claim7 := { stood := { row := foldSumsUptoRow, standIns := [], harness := (true, "cd6218b4b6fe2d42c5a170c18a3be380e07603e9f1f43b175a7d4462c71d7e01"), looks := false }, kinds := [], alts := [], laidByText := true, laidKinds := [.data], laidTests := true, laidLooks := .later }
def FoldSumsUptoCardSaid : Prop := Claim7.holds Tryd.pinned (.plain (OpenSpec.upto foldSumsSpec)) foldSumsUptoCard

/-- THE SECOND FORM's CARD OF 'caravanlaw02.FoldApart'. -/
def foldApartUptoCard : Claim7 := { stood := { row := foldApartUptoRow, standIns := [], harness := (true, "cd6218b4b6fe2d42c5a170c18a3be380e07603e9f1f43b175a7d4462c71d7e01"), looks := false }, kinds := [], alts := [], laidByText := true, laidKinds := [.data], laidTests := true, laidLooks := .later }
def FoldApartUptoCardSaid : Prop := Claim7.holds Tryd.pinned (.plain (OpenSpec.upto foldApartSpec)) foldApartUptoCard

/-- THE SECOND FORM's CARD OF 'caravanlaw02.FoldShort'. -/
def foldShortUptoCard : Claim7 := { stood := { row := foldShortUptoRow, standIns := [], harness := (true, "cd6218b4b6fe2d42c5a170c18a3be380e07603e9f1f43b175a7d4462c71d7e01"), looks := false }, kinds := [], alts := [], laidByText := true, laidKinds := [.data], laidTests := true, laidLooks := .later }
def FoldShortUptoCardSaid : Prop := Claim7.holds Tryd.pinned (.plain (OpenSpec.upto foldShortSpec)) foldShortUptoCard

/-- THE SECOND FORM's CARD OF 'caravanlaw02.FoldTurned'. -/
def foldTurnedUptoCard : Claim7 := { stood := { row := foldTurnedUptoRow, standIns := [], harness := (true, "cd6218b4b6fe2d42c5a170c18a3be380e07603e9f1f43b175a7d4462c71d7e01"), looks := false }, kinds := [], alts := [], laidByText := true, laidKinds := [.data], laidTests := true, laidLooks := .later }
def FoldTurnedUptoCardSaid : Prop := Claim7.holds Tryd.pinned (.plain (OpenSpec.upto foldTurnedSpec)) foldTurnedUptoCard

/-- THE SECOND FORM's CARD OF 'caravanlaw02.FoldLimit'. -/
def foldLimitUptoCard : Claim7 := { stood := { row := foldLimitUptoRow, standIns := [], harness := (true, "cd6218b4b6fe2d42c5a170c18a3be380e07603e9f1f43b175a7d4462c71d7e01"), looks := false }, kinds := [], alts := [], laidByText := true, laidKinds := [.data], laidTests := true, laidLooks := .later }
def FoldLimitUptoCardSaid : Prop := Claim7.holds Tryd.pinned (.plain (OpenSpec.upto foldLimitSpec)) foldLimitUptoCard

/-- THE SECOND FORM's CARD OF 'caravanlaw02.FoldBack'. -/
def foldBackUptoCard : Claim7 := { stood := { row := foldBackUptoRow, standIns := [], harness := (true, "cd6218b4b6fe2d42c5a170c18a3be380e07603e9f1f43b175a7d4462c71d7e01"), looks := false }, kinds := [], alts := [], laidByText := true, laidKinds := [.data], laidTests := true, laidLooks := .later }
def FoldBackUptoCardSaid : Prop := Claim7.holds Tryd.pinned (.plain (OpenSpec.upto foldBackSpec)) foldBackUptoCard
end Rows
end Go.Proofs.YtoiogpjnfipkfaaDoor
