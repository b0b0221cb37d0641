/-
  No cell of these rows narrows 'for every input' (looked for: loops, veiled, ifaces, maps, wideKeys, modest, calm, conditions, laid).
  DERIVED. THE GIVEN ROWS OF THIS SEAT. 6 by the template 'for every input the law returns true; each argument reads behind the call as it read before'; 0 by the template 'total and deterministic' (their statements: YtpolhdkjkidpgaaTotals.lean).
  GIVEN WITH THE SEED: the statements are not yours to turn. If you find one false, say at which input.
  Laid BY PROGRAM, IN A SANDBOX (cutbox-rows.mjs): the forced cells as the released guide's own fill.sh prints them over the translation 6fae57c8df8b950e… (all of the seat's roots in one cut). By AI agents, Wed Nov 11 2026. No macro, syntax, notation, axiom, sorry.
-/
import Derived.Test.YtpolhdkjkidpgaaChecked
import GoSem.Claim
import GoSem.ClaimJoined
import GoSem.ClaimMapViews
import Derived.JoinedTies
import Derived.KernelRfl
namespace Go.Proofs.Ytpolhdkjkidpgaa
/- THE CELL 'sum', in the pinned program and in every row, IS THE sha256 OF THE DUMP (.gsa) THAT YtpolhdkjkidpgaaProg.lean LOADS. Nothing in Lean hashes anything: it is a label: what it is worth is what the hold of that sum in a sandbox is worth. -/
noncomputable def Try.pinned : Pinned := { name := "ytpolhdkjkidpgaa", sum := "6fae57c8df8b950e9cff5f47e6c7521452c89e2c1c33434de9fd7822d943d60d", checked := Try.checked }
namespace Rows
def none {H : Type} : Left H := { results := [], args := [] }

/-- 'caravanlaw09.ViewJoins': WHATEVER THE INPUT: true; the input reads as it did. -/
def viewJoinsSpec : ChangeSpec := { name := "viewJoins", fn := fun _ => fun
  | [d1, d2, d3] => { results := [.lit (.bool true)], args := [d1, d2, d3] }
  | _ => none }
def viewJoinsRow : OpenClaim := { program := "ytpolhdkjkidpgaa", sum := "6fae57c8df8b950e9cff5f47e6c7521452c89e2c1c33434de9fd7822d943d60d", func := "caravan/caravanlaw09.ViewJoins", spec := "viewJoins", unfollowed := true, recurses := true, apart := false }
def ViewJoinsSaid : Prop := viewJoinsRow.holds Try.pinned (OpenSpec.ofChange viewJoinsSpec)

/-- ITS FALSE NEIGHBOUR: 'it returns false'. Refute it at one input. -/
def viewJoinsWrong : ChangeSpec := { name := "viewJoins", fn := fun _ => fun
  | [d1, d2, d3] => { results := [.lit (.bool false)], args := [d1, d2, d3] }
  | _ => none }
def ViewJoinsWrongFalsely : Prop := viewJoinsRow.holds Try.pinned (OpenSpec.ofChange viewJoinsWrong)

/-- 'caravanlaw09.ViewFull': WHATEVER THE INPUT: true; the input reads as it did. -/
def viewFullSpec : ChangeSpec := { name := "viewFull", fn := fun _ => fun
  | [d] => { results := [.lit (.bool true)], args := [d] }
  | _ => none }
def viewFullRow : OpenClaim := { program := "ytpolhdkjkidpgaa", sum := "6fae57c8df8b950e9cff5f47e6c7521452c89e2c1c33434de9fd7822d943d60d", func := "caravan/caravanlaw09.ViewFull", spec := "viewFull", unfollowed := true, recurses := true, apart := false }
def ViewFullSaid : Prop := viewFullRow.holds Try.pinned (OpenSpec.ofChange viewFullSpec)

/-- ITS FALSE NEIGHBOUR: 'it returns false'. Refute it at one input. -/
def viewFullWrong : ChangeSpec := { name := "viewFull", fn := fun _ => fun
  | [d] => { results := [.lit (.bool false)], args := [d] }
  | _ => none }
def ViewFullWrongFalsely : Prop := viewFullRow.holds Try.pinned (OpenSpec.ofChange viewFullWrong)

/-- 'caravanlaw09.ViewGrows': WHATEVER THE INPUT: true; the input reads as it did. -/
def viewGrowsSpec : ChangeSpec := { name := "viewGrows", fn := fun _ => fun
  | [d1, d2, d3] => { results := [.lit (.bool true)], args := [d1, d2, d3] }
  | _ => none }
def viewGrowsRow : OpenClaim := { program := "ytpolhdkjkidpgaa", sum := "6fae57c8df8b950e9cff5f47e6c7521452c89e2c1c33434de9fd7822d943d60d", func := "caravan/caravanlaw09.ViewGrows", spec := "viewGrows", unfollowed := true, recurses := true, apart := false }
def ViewGrowsSaid : Prop := viewGrowsRow.holds Try.pinned (OpenSpec.ofChange viewGrowsSpec)

/-- ITS FALSE NEIGHBOUR: 'it returns false'. Refute it at one input. -/
def viewGrowsWrong : ChangeSpec := { name := "viewGrows", fn := fun _ => fun
  | [d1, d2, d3] => { results := [.lit (.bool false)], args := [d1, d2, d3] }
  | _ => none }
def ViewGrowsWrongFalsely : Prop := viewGrowsRow.holds Try.pinned (OpenSpec.ofChange viewGrowsWrong)

/-- 'caravanlaw09.ViewLeft': WHATEVER THE INPUT: true; the input reads as it did. -/
def viewLeftSpec : ChangeSpec := { name := "viewLeft", fn := fun _ => fun
  | [d1, d2, d3] => { results := [.lit (.bool true)], args := [d1, d2, d3] }
  | _ => none }
def viewLeftRow : OpenClaim := { program := "ytpolhdkjkidpgaa", sum := "6fae57c8df8b950e9cff5f47e6c7521452c89e2c1c33434de9fd7822d943d60d", func := "caravan/caravanlaw09.ViewLeft", spec := "viewLeft", unfollowed := true, recurses := true, apart := false }
def ViewLeftSaid : Prop := viewLeftRow.holds Try.pinned (OpenSpec.ofChange viewLeftSpec)

/-- ITS FALSE NEIGHBOUR: 'it returns false'. Refute it at one input. -/
def viewLeftWrong : ChangeSpec := { name := "viewLeft", fn := fun _ => fun
  | [d1, d2, d3] => { results := [.lit (.bool false)], args := [d1, d2, d3] }
  | _ => none }
def ViewLeftWrongFalsely : Prop := viewLeftRow.holds Try.pinned (OpenSpec.ofChange viewLeftWrong)

/-- 'caravanlaw09.ViewRefutes': WHATEVER THE INPUT: true; the input reads as it did. -/
def viewRefutesSpec : ChangeSpec := { name := "viewRefutes", fn := fun _ => fun
  | [d1, d2] => { results := [.lit (.bool true)], args := [d1, d2] }
  | _ => none }
def viewRefutesRow : OpenClaim := { program := "ytpolhdkjkidpgaa", sum := "6fae57c8df8b950e9cff5f47e6c7521452c89e2c1c33434de9fd7822d943d60d", func := "caravan/caravanlaw09.ViewRefutes", spec := "viewRefutes", unfollowed := true, recurses := true, apart := false }
def ViewRefutesSaid : Prop := viewRefutesRow.holds Try.pinned (OpenSpec.ofChange viewRefutesSpec)

/-- ITS FALSE NEIGHBOUR: 'it returns false'. Refute it at one input. -/
def viewRefutesWrong : ChangeSpec := { name := "viewRefutes", fn := fun _ => fun
  | [d1, d2] => { results := [.lit (.bool false)], args := [d1, d2] }
  | _ => none }
def ViewRefutesWrongFalsely : Prop := viewRefutesRow.holds Try.pinned (OpenSpec.ofChange viewRefutesWrong)

/-- 'caravanlaw09.ViewChanges': WHATEVER THE INPUT: true; the input reads as it did. -/
def viewChangesSpec : ChangeSpec := { name := "viewChanges", fn := fun _ => fun
  | [d1, d2, d3] => { results := [.lit (.bool true)], args := [d1, d2, d3] }
  | _ => none }
def viewChangesRow : OpenClaim := { program := "ytpolhdkjkidpgaa", sum := "6fae57c8df8b950e9cff5f47e6c7521452c89e2c1c33434de9fd7822d943d60d", func := "caravan/caravanlaw09.ViewChanges", spec := "viewChanges", unfollowed := true, recurses := true, apart := false }
def ViewChangesSaid : Prop := viewChangesRow.holds Try.pinned (OpenSpec.ofChange viewChangesSpec)

/-- ITS FALSE NEIGHBOUR: 'it returns false'. Refute it at one input. -/
def viewChangesWrong : ChangeSpec := { name := "viewChanges", fn := fun _ => fun
  | [d1, d2, d3] => { results := [.lit (.bool false)], args := [d1, d2, d3] }
  | _ => none }
def ViewChangesWrongFalsely : Prop := viewChangesRow.holds Try.pinned (OpenSpec.ofChange viewChangesWrong)

/- THE SECOND FORM. 'bulk': how many values and letters a reading holds, each counted each time it is reached (what is shared counts as often as it is met; a slice's spare places count too). A statement '..UptoSaid' is the law's where the arguments, and the package variables that the reading takes, are together of bulk at most 1048576: NARROWER than '..Said'. Prove '..Said' where nothing that the law and all that it calls make is longer than what came in: it says more and counts as full. Else prove '..UptoSaid'. A law counts once. -/
mutual
def uptoBulk {H : Type} : DataW H → Nat
  | .lit (.string bytes) => bytes.length + 1
  | .lit _ => 1
  | .nil => 1
  | .ptr d => uptoBulk d + 1
  | .slice elems spare => uptoBulkAll elems + uptoBulkAll spare + 1
  | .agg parts => uptoBulkAll parts + 1
  | .iface _ d => uptoBulk d + 1
  | .map entries => uptoBulkEntries entries + 1
  | .held _ => 1
def uptoBulkAll {H : Type} : List (DataW H) → Nat
  | [] => 0
  | d :: r => uptoBulk d + uptoBulkAll r
def uptoBulkEntries {H : Type} : List (Lit × DataW H) → Nat
  | [] => 0
  | x :: r => uptoBulkEntry x + uptoBulkEntries r
def uptoBulkEntry {H : Type} : Lit × DataW H → Nat
  | (.string bytes, d) => bytes.length + uptoBulk d + 1
  | (_, d) => uptoBulk d + 1
 end
def uptoSmall : (H : Type) → List (DataW H) → Bool := fun _ ds => decide (uptoBulkAll ds ≤ 1048576)
def OpenSpec.upto (s : _root_.Go.ChangeSpec) : _root_.Go.OpenSpec := { _root_.Go.OpenSpec.ofChange s with cond := some uptoSmall }

/-- 'caravanlaw09.ViewJoins', WHERE WHAT IT READS IS OF BULK AT MOST 1048576: true; the input reads as it did. -/
def viewJoinsUptoRow : OpenClaim := { program := "ytpolhdkjkidpgaa", sum := "6fae57c8df8b950e9cff5f47e6c7521452c89e2c1c33434de9fd7822d943d60d", func := "caravan/caravanlaw09.ViewJoins", spec := "viewJoins", unfollowed := true, recurses := true, apart := false, narrowed := true }
def ViewJoinsUptoSaid : Prop := viewJoinsUptoRow.holds Try.pinned (OpenSpec.upto viewJoinsSpec)

/-- 'caravanlaw09.ViewFull', WHERE WHAT IT READS IS OF BULK AT MOST 1048576: true; the input reads as it did. -/
def viewFullUptoRow : OpenClaim := { program := "ytpolhdkjkidpgaa", sum := "6fae57c8df8b950e9cff5f47e6c7521452c89e2c1c33434de9fd7822d943d60d", func := "caravan/caravanlaw09.ViewFull", spec := "viewFull", unfollowed := true, recurses := true, apart := false, narrowed := true }
def ViewFullUptoSaid : Prop := viewFullUptoRow.holds Try.pinned (OpenSpec.upto viewFullSpec)

/-- 'caravanlaw09.ViewGrows', WHERE WHAT IT READS IS OF BULK AT MOST 1048576: true; the input reads as it did. -/
def viewGrowsUptoRow : OpenClaim := { program := "ytpolhdkjkidpgaa", sum := "6fae57c8df8b950e9cff5f47e6c7521452c89e2c1c33434de9fd7822d943d60d", func := "caravan/caravanlaw09.ViewGrows", spec := "viewGrows", unfollowed := true, recurses := true, apart := false, narrowed := true }
def ViewGrowsUptoSaid : Prop := viewGrowsUptoRow.holds Try.pinned (OpenSpec.upto viewGrowsSpec)

/-- 'caravanlaw09.ViewLeft', WHERE WHAT IT READS IS OF BULK AT MOST 1048576: true; the input reads as it did. -/
def viewLeftUptoRow : OpenClaim := { program := "ytpolhdkjkidpgaa", sum := "6fae57c8df8b950e9cff5f47e6c7521452c89e2c1c33434de9fd7822d943d60d", func := "caravan/caravanlaw09.ViewLeft", spec := "viewLeft", unfollowed := true, recurses := true, apart := false, narrowed := true }
def ViewLeftUptoSaid : Prop := viewLeftUptoRow.holds Try.pinned (OpenSpec.upto viewLeftSpec)

/-- 'caravanlaw09.ViewRefutes', WHERE WHAT IT READS IS OF BULK AT MOST 1048576: true; the input reads as it did. -/
def viewRefutesUptoRow : OpenClaim := { program := "ytpolhdkjkidpgaa", sum := "6fae57c8df8b950e9cff5f47e6c7521452c89e2c1c33434de9fd7822d943d60d", func := "caravan/caravanlaw09.ViewRefutes", spec := "viewRefutes", unfollowed := true, recurses := true, apart := false, narrowed := true }
def ViewRefutesUptoSaid : Prop := viewRefutesUptoRow.holds Try.pinned (OpenSpec.upto viewRefutesSpec)

/-- 'caravanlaw09.ViewChanges', WHERE WHAT IT READS IS OF BULK AT MOST 1048576: true; the input reads as it did. -/
def viewChangesUptoRow : OpenClaim := { program := "ytpolhdkjkidpgaa", sum := "6fae57c8df8b950e9cff5f47e6c7521452c89e2c1c33434de9fd7822d943d60d", func := "caravan/caravanlaw09.ViewChanges", spec := "viewChanges", unfollowed := true, recurses := true, apart := false, narrowed := true }
def ViewChangesUptoSaid : Prop := viewChangesUptoRow.holds Try.pinned (OpenSpec.upto viewChangesSpec)

end Rows
end Go.Proofs.Ytpolhdkjkidpgaa
