/-
  No cell of these rows narrows 'for every input' (looked for: loops, veiled, ifaces, maps, wideKeys, modest, calm, conditions, laid).
  DERIVED. THE GIVEN ROWS OF THIS SEAT. 5 by the template 'for every input the law returns true; each argument reads behind the call as it read before'; 0 by the template 'total and deterministic' (their statements: YtfpjdmplepepjaaTotals.lean).
  GIVEN WITH THE SEED: the statements are not yours to turn. If you find one false, say at which input.
  Laid BY PROGRAM, IN A SANDBOX (cutbox-rows.mjs): the forced cells as the released guide's own fill.sh prints them over the translation 757008099fe4c9b8… (all of the seat's roots in one cut). By AI agents, Wed Nov 11 2026. No macro, syntax, notation, axiom, sorry.
-/
import Derived.Test.YtfpjdmplepepjaaChecked
import GoSem.Claim
import GoSem.ClaimJoined
import GoSem.ClaimMapViews
import Derived.JoinedTies
import Derived.KernelRfl
namespace Go.Proofs.Ytfpjdmplepepjaa
/- THE CELL 'sum', in the pinned program and in every row, IS THE sha256 OF THE DUMP (.gsa) THAT YtfpjdmplepepjaaProg.lean LOADS. Nothing in Lean hashes anything: it is a label: what it is worth is what the hold of that sum in a sandbox is worth. -/
noncomputable def Try.pinned : Pinned := { name := "ytfpjdmplepepjaa", sum := "757008099fe4c9b8f48d10bf0f03cf9a5ebc7bce0d2048384a9494b134ced369", checked := Try.checked }
namespace Rows
def none {H : Type} : Left H := { results := [], args := [] }

/-- 'caravanlaw20.WireSays': WHATEVER THE INPUT: true; the input reads as it did. -/
def wireSaysSpec : ChangeSpec := { name := "wireSays", fn := fun _ => fun
  | [d1, d2, d3] => { results := [.lit (.bool true)], args := [d1, d2, d3] }
  | _ => none }
def wireSaysRow : OpenClaim := { program := "ytfpjdmplepepjaa", sum := "757008099fe4c9b8f48d10bf0f03cf9a5ebc7bce0d2048384a9494b134ced369", func := "caravan/caravanlaw20.WireSays", spec := "wireSays", inPlace := ["internal/abi.NoEscape"], unfollowed := true, recurses := true, apart := false }
def WireSaysSaid : Prop := wireSaysRow.holds Try.pinned (OpenSpec.ofChange wireSaysSpec)

/-- ITS FALSE NEIGHBOUR: 'it returns false'. Refute it at one input. -/
def wireSaysWrong : ChangeSpec := { name := "wireSays", fn := fun _ => fun
  | [d1, d2, d3] => { results := [.lit (.bool false)], args := [d1, d2, d3] }
  | _ => none }
def WireSaysWrongFalsely : Prop := wireSaysRow.holds Try.pinned (OpenSpec.ofChange wireSaysWrong)

/-- 'caravanlaw20.WireBack': WHATEVER THE INPUT: true; the input reads as it did. -/
def wireBackSpec : ChangeSpec := { name := "wireBack", fn := fun _ => fun
  | [d1, d2, d3] => { results := [.lit (.bool true)], args := [d1, d2, d3] }
  | _ => none }
def wireBackRow : OpenClaim := { program := "ytfpjdmplepepjaa", sum := "757008099fe4c9b8f48d10bf0f03cf9a5ebc7bce0d2048384a9494b134ced369", func := "caravan/caravanlaw20.WireBack", spec := "wireBack", inPlace := ["internal/abi.NoEscape"], unfollowed := true, recurses := true, apart := false }
def WireBackSaid : Prop := wireBackRow.holds Try.pinned (OpenSpec.ofChange wireBackSpec)

/-- ITS FALSE NEIGHBOUR: 'it returns false'. Refute it at one input. -/
def wireBackWrong : ChangeSpec := { name := "wireBack", fn := fun _ => fun
  | [d1, d2, d3] => { results := [.lit (.bool false)], args := [d1, d2, d3] }
  | _ => none }
def WireBackWrongFalsely : Prop := wireBackRow.holds Try.pinned (OpenSpec.ofChange wireBackWrong)

/-- 'caravanlaw20.WireOne': WHATEVER THE INPUT: true; the input reads as it did. -/
def wireOneSpec : ChangeSpec := { name := "wireOne", fn := fun _ => fun
  | [d1, d2, d3] => { results := [.lit (.bool true)], args := [d1, d2, d3] }
  | _ => none }
def wireOneRow : OpenClaim := { program := "ytfpjdmplepepjaa", sum := "757008099fe4c9b8f48d10bf0f03cf9a5ebc7bce0d2048384a9494b134ced369", func := "caravan/caravanlaw20.WireOne", spec := "wireOne", inPlace := ["internal/abi.NoEscape"], unfollowed := true, recurses := true, apart := false }
def WireOneSaid : Prop := wireOneRow.holds Try.pinned (OpenSpec.ofChange wireOneSpec)

/-- ITS FALSE NEIGHBOUR: 'it returns false'. Refute it at one input. -/
def wireOneWrong : ChangeSpec := { name := "wireOne", fn := fun _ => fun
  | [d1, d2, d3] => { results := [.lit (.bool false)], args := [d1, d2, d3] }
  | _ => none }
def WireOneWrongFalsely : Prop := wireOneRow.holds Try.pinned (OpenSpec.ofChange wireOneWrong)

/-- 'caravanlaw20.WireBags': WHATEVER THE INPUT: true; the input reads as it did. -/
def wireBagsSpec : ChangeSpec := { name := "wireBags", fn := fun _ => fun
  | [d1, d2] => { results := [.lit (.bool true)], args := [d1, d2] }
  | _ => none }
def wireBagsRow : OpenClaim := { program := "ytfpjdmplepepjaa", sum := "757008099fe4c9b8f48d10bf0f03cf9a5ebc7bce0d2048384a9494b134ced369", func := "caravan/caravanlaw20.WireBags", spec := "wireBags", inPlace := ["internal/abi.NoEscape"], unfollowed := true, recurses := true, apart := false }
def WireBagsSaid : Prop := wireBagsRow.holds Try.pinned (OpenSpec.ofChange wireBagsSpec)

/-- ITS FALSE NEIGHBOUR: 'it returns false'. Refute it at one input. -/
def wireBagsWrong : ChangeSpec := { name := "wireBags", fn := fun _ => fun
  | [d1, d2] => { results := [.lit (.bool false)], args := [d1, d2] }
  | _ => none }
def WireBagsWrongFalsely : Prop := wireBagsRow.holds Try.pinned (OpenSpec.ofChange wireBagsWrong)

/-- 'caravanlaw20.WireNumbers': WHATEVER THE INPUT: true; the input reads as it did. -/
def wireNumbersSpec : ChangeSpec := { name := "wireNumbers", fn := fun _ => fun
  | [d] => { results := [.lit (.bool true)], args := [d] }
  | _ => none }
def wireNumbersRow : OpenClaim := { program := "ytfpjdmplepepjaa", sum := "757008099fe4c9b8f48d10bf0f03cf9a5ebc7bce0d2048384a9494b134ced369", func := "caravan/caravanlaw20.WireNumbers", spec := "wireNumbers", inPlace := ["internal/abi.NoEscape"], unfollowed := true, recurses := true, apart := false }
def WireNumbersSaid : Prop := wireNumbersRow.holds Try.pinned (OpenSpec.ofChange wireNumbersSpec)

/-- ITS FALSE NEIGHBOUR: 'it returns false'. Refute it at one input. -/
def wireNumbersWrong : ChangeSpec := { name := "wireNumbers", fn := fun _ => fun
  | [d] => { results := [.lit (.bool false)], args := [d] }
  | _ => none }
def WireNumbersWrongFalsely : Prop := wireNumbersRow.holds Try.pinned (OpenSpec.ofChange wireNumbersWrong)

/- THE SECOND FORM. 'bulk': how many values and letters a reading holds, each counted each time it is reached (what is shared counts as often as it is met; a slice's spare places count too). A statement '..UptoSaid' is the law's where the arguments, and the package variables that the reading takes, are together of bulk at most 1048576: NARROWER than '..Said'. Prove '..Said' where nothing that the law and all that it calls make is longer than what came in: it says more and counts as full. Else prove '..UptoSaid'. A law counts once. -/
mutual
def uptoBulk {H : Type} : DataW H → Nat
  | .lit (.string bytes) => bytes.length + 1
  | .lit _ => 1
  | .nil => 1
  | .ptr d => uptoBulk d + 1
  | .slice elems spare => uptoBulkAll elems + uptoBulkAll spare + 1
  | .agg parts => uptoBulkAll parts + 1
  | .iface _ d => uptoBulk d + 1
  | .map entries => uptoBulkEntries entries + 1
  | .held _ => 1
def uptoBulkAll {H : Type} : List (DataW H) → Nat
  | [] => 0
  | d :: r => uptoBulk d + uptoBulkAll r
def uptoBulkEntries {H : Type} : List (Lit × DataW H) → Nat
  | [] => 0
  | x :: r => uptoBulkEntry x + uptoBulkEntries r
def uptoBulkEntry {H : Type} : Lit × DataW H → Nat
  | (.string bytes, d) => bytes.length + uptoBulk d + 1
  | (_, d) => uptoBulk d + 1
 end
def uptoSmall : (H : Type) → List (DataW H) → Bool := fun _ ds => decide (uptoBulkAll ds ≤ 1048576)
def OpenSpec.upto (s : _root_.Go.ChangeSpec) : _root_.Go.OpenSpec := { _root_.Go.OpenSpec.ofChange s with cond := some uptoSmall }

/-- 'caravanlaw20.WireSays', WHERE WHAT IT READS IS OF BULK AT MOST 1048576: true; the input reads as it did. -/
def wireSaysUptoRow : OpenClaim := { program := "ytfpjdmplepepjaa", sum := "757008099fe4c9b8f48d10bf0f03cf9a5ebc7bce0d2048384a9494b134ced369", func := "caravan/caravanlaw20.WireSays", spec := "wireSays", inPlace := ["internal/abi.NoEscape"], unfollowed := true, recurses := true, apart := false, narrowed := true }
def WireSaysUptoSaid : Prop := wireSaysUptoRow.holds Try.pinned (OpenSpec.upto wireSaysSpec)

/-- 'caravanlaw20.WireBack', WHERE WHAT IT READS IS OF BULK AT MOST 1048576: true; the input reads as it did. -/
def wireBackUptoRow : OpenClaim := { program := "ytfpjdmplepepjaa", sum := "757008099fe4c9b8f48d10bf0f03cf9a5ebc7bce0d2048384a9494b134ced369", func := "caravan/caravanlaw20.WireBack", spec := "wireBack", inPlace := ["internal/abi.NoEscape"], unfollowed := true, recurses := true, apart := false, narrowed := true }
def WireBackUptoSaid : Prop := wireBackUptoRow.holds Try.pinned (OpenSpec.upto wireBackSpec)

/-- 'caravanlaw20.WireOne', WHERE WHAT IT READS IS OF BULK AT MOST 1048576: true; the input reads as it did. -/
def wireOneUptoRow : OpenClaim := { program := "ytfpjdmplepepjaa", sum := "757008099fe4c9b8f48d10bf0f03cf9a5ebc7bce0d2048384a9494b134ced369", func := "caravan/caravanlaw20.WireOne", spec := "wireOne", inPlace := ["internal/abi.NoEscape"], unfollowed := true, recurses := true, apart := false, narrowed := true }
def WireOneUptoSaid : Prop := wireOneUptoRow.holds Try.pinned (OpenSpec.upto wireOneSpec)

/-- 'caravanlaw20.WireBags', WHERE WHAT IT READS IS OF BULK AT MOST 1048576: true; the input reads as it did. -/
def wireBagsUptoRow : OpenClaim := { program := "ytfpjdmplepepjaa", sum := "757008099fe4c9b8f48d10bf0f03cf9a5ebc7bce0d2048384a9494b134ced369", func := "caravan/caravanlaw20.WireBags", spec := "wireBags", inPlace := ["internal/abi.NoEscape"], unfollowed := true, recurses := true, apart := false, narrowed := true }
def WireBagsUptoSaid : Prop := wireBagsUptoRow.holds Try.pinned (OpenSpec.upto wireBagsSpec)

/-- 'caravanlaw20.WireNumbers', WHERE WHAT IT READS IS OF BULK AT MOST 1048576: true; the input reads as it did. -/
def wireNumbersUptoRow : OpenClaim := { program := "ytfpjdmplepepjaa", sum := "757008099fe4c9b8f48d10bf0f03cf9a5ebc7bce0d2048384a9494b134ced369", func := "caravan/caravanlaw20.WireNumbers", spec := "wireNumbers", inPlace := ["internal/abi.NoEscape"], unfollowed := true, recurses := true, apart := false, narrowed := true }
def WireNumbersUptoSaid : Prop := wireNumbersUptoRow.holds Try.pinned (OpenSpec.upto wireNumbersSpec)

end Rows
end Go.Proofs.Ytfpjdmplepepjaa
