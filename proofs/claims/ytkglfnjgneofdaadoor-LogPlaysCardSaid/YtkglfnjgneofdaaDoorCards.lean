/-
  DERIVED. GIVEN WITH THE SEED: THE CARDS: each row of YtkglfnjgneofdaaDoorRows.lean that lists a variable, with what it lists TIED to the program's text (the seventh form; the later family's looks); each row that meets fmt, with fmt's text TOLD by the authors' own Lean function (tested against real Go, not proved from fmt's source: count such statements apart). THE CARD IS WHAT COUNTS. Prove the row's statement (the work); the ties are given (YtkglfnjgneofdaaDoorTie.lean); close each card by the builder's one call (the guide's Derived/Test/ToyasCard.lean, 'card_holds'). Laid BY PROGRAM, IN A SANDBOX (cutbox-door.mjs). By AI agents, Wed Nov 11 2026. No macro, syntax, notation, axiom, sorry.
-/
import Derived.Test.YtkglfnjgneofdaaDoorRows
import GoSem.ClaimSeven
namespace Go.Proofs.YtkglfnjgneofdaaDoor
namespace Rows

/-- THE TIED CARD OF 'caravanlaw14.LogAny'. -/
def logAnyCard : Claim7 := { stood := { row := logAnyRow, standIns := [], harness := (true, "294e6a2da8503227619df1bade5b0d14defb3267b74c77ad8a6b069643e9f06c"), looks := false }, kinds := [], alts := [], laidByText := true, laidKinds := [.data], laidTests := true, laidLooks := .later }
def LogAnyCardSaid : Prop := Claim7.holds Tryd.pinned (.plain (OpenSpec.ofChange logAnySpec)) logAnyCard

/-- THE TIED CARD OF 'caravanlaw14.LogWhole'. -/
def logWholeCard : Claim7 := { stood := { row := logWholeRow, standIns := [], harness := (true, "294e6a2da8503227619df1bade5b0d14defb3267b74c77ad8a6b069643e9f06c"), looks := false }, kinds := [], alts := [], laidByText := true, laidKinds := [.data], laidTests := true, laidLooks := .later }
def LogWholeCardSaid : Prop := Claim7.holds Tryd.pinned (.plain (OpenSpec.ofChange logWholeSpec)) logWholeCard

/-- THE TIED CARD OF 'caravanlaw14.LogJoins'. -/
def logJoinsCard : Claim7 := { stood := { row := logJoinsRow, standIns := [], harness := (true, "294e6a2da8503227619df1bade5b0d14defb3267b74c77ad8a6b069643e9f06c"), looks := false }, kinds := [], alts := [], laidByText := true, laidKinds := [.data], laidTests := true, laidLooks := .later }
def LogJoinsCardSaid : Prop := Claim7.holds Tryd.pinned (.plain (OpenSpec.ofChange logJoinsSpec)) logJoinsCard

/-- THE TIED CARD OF 'caravanlaw14.LogBegins'. -/
def logBeginsCard : Claim7 := { stood := { row := logBeginsRow, standIns := [], harness := (true, "294e6a2da8503227619df1bade5b0d14defb3267b74c77ad8a6b069643e9f06c"), looks := false }, kinds := [], alts := [], laidByText := true, laidKinds := [.data], laidTests := true, laidLooks := .later }
def LogBeginsCardSaid : Prop := Claim7.holds Tryd.pinned (.plain (OpenSpec.ofChange logBeginsSpec)) logBeginsCard

/-- THE TIED CARD OF 'caravanlaw14.LogNil'. -/
def logNilCard : Claim7 := { stood := { row := logNilRow, standIns := [], harness := (true, "294e6a2da8503227619df1bade5b0d14defb3267b74c77ad8a6b069643e9f06c"), looks := false }, kinds := [], alts := [], laidByText := true, laidKinds := [.data], laidTests := true, laidLooks := .later }
def LogNilCardSaid : Prop := Claim7.holds Tryd.pinned (.plain (OpenSpec.ofChange logNilSpec)) logNilCard

/-- THE TIED CARD OF 'caravanlaw14.LogPlays'. -/
def logPlaysCard : Claim7 := { stood := { row := logPlaysRow, standIns := [], harness := (true, "294e6a2da8503227619df1bade5b0d14defb3267b74c77ad8a6b069643e9f06c"), looks := false }, kinds := [], alts := [], laidByText := true, laidKinds := [.data], laidTests := true, laidLooks := .later }
def LogPlaysCardSaid : Prop := Claim7.holds Tryd.pinned (.plain (OpenSpec.ofChange logPlaysSpec)) logPlaysCard

/-- THE SECOND FORM's CARD OF 'caravanlaw14.LogAny'. -/
def logAnyUptoCard : Claim7 := { stood := { row := logAnyUptoRow, standIns := [], harness := (true, "294e6a2da8503227619df1bade5b0d14defb3267b74c77ad8a6b069643e9f06c"), looks := false }, kinds := [], alts := [], laidByText := true, laidKinds := [.data], laidTests := true, laidLooks := .later }
def LogAnyUptoCardSaid : Prop := Claim7.holds Tryd.pinned (.plain (OpenSpec.upto logAnySpec)) logAnyUptoCard

/-- THE SECOND FORM's CARD OF 'caravanlaw14.LogWhole'. -/
def logWholeUptoCard : Claim7 := { stood := { row := logWholeUptoRow, standIns := [], harness := (true, "294e6a2da8503227619df1bade5b0d14defb3267b74c77ad8a6b069643e9f06c"), looks := false }, kinds := [], alts := [], laidByText := true, laidKinds := [.data], laidTests := true, laidLooks := .later }
def LogWholeUptoCardSaid : Prop := Claim7.holds Tryd.pinned (.plain (OpenSpec.upto logWholeSpec)) logWholeUptoCard

/-- THE SECOND FORM's CARD OF 'caravanlaw14.LogJoins'. -/
def logJoinsUptoCard : Claim7 := { stood := { row := logJoinsUptoRow, standIns := [], harness := (true, "294e6a2da8503227619df1bade5b0d14defb3267b74c77ad8a6b069643e9f06c"), looks := false }, kinds := [], alts := [], laidByText := true, laidKinds := [.data], laidTests := true, laidLooks := .later }
def LogJoinsUptoCardSaid : Prop := Claim7.holds Tryd.pinned (.plain (OpenSpec.upto logJoinsSpec)) logJoinsUptoCard

/-- THE SECOND FORM's CARD OF 'caravanlaw14.LogBegins'. -/
def logBeginsUptoCard : Claim7 := { stood := { row := logBeginsUptoRow, standIns := [], harness := (true, "294e6a2da8503227619df1bade5b0d14defb3267b74c77ad8a6b069643e9f06c"), looks := false }, kinds := [], alts := [], laidByText := true, laidKinds := [.data], laidTests := true, laidLooks := .later }
def LogBeginsUptoCardSaid : Prop := Claim7.holds Tryd.pinned (.plain (OpenSpec.upto logBeginsSpec)) logBeginsUptoCard

/-- THE SECOND FORM's CARD OF 'caravanlaw14.LogNil'. -/
def logNilUptoCard : Claim7 := { stood := { row := logNilUptoRow, standIns := [], harness := (true, "294e6a2da8503227619df1bade5b0d14defb3267b74c77ad8a6b069643e9f06c"), looks := false }, kinds := [], alts := [], laidByText := true, laidKinds := [.data], laidTests := true, laidLooks := .later }
def LogNilUptoCardSaid : Prop := Claim7.holds Tryd.pinned (.plain (OpenSpec.upto logNilSpec)) logNilUptoCard

/-- THE SECOND FORM's CARD OF 'caravanlaw14.LogPlays'. -/
def logPlaysUptoCard : Claim7 := { stood := { row := logPlaysUptoRow, standIns := [], harness := (true, "294e6a2da8503227619df1bade5b0d14defb3267b74c77ad8a6b069643e9f06c"), looks := false }, kinds := [], alts := [], laidByText := true, laidKinds := [.data], laidTests := true, laidLooks := .later }
def LogPlaysUptoCardSaid : Prop := Claim7.holds Tryd.pinned (.plain (OpenSpec.upto logPlaysSpec)) logPlaysUptoCard
end Rows
end Go.Proofs.YtkglfnjgneofdaaDoor
