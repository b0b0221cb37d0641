/-
  No cell of these rows narrows 'for every input' (looked for: loops, veiled, ifaces, maps, wideKeys, modest, calm, conditions, laid).
  DERIVED. THE GIVEN ROWS OF THIS SEAT. 5 by the template 'for every input the law returns true; each argument reads behind the call as it read before'; 0 by the template 'total and deterministic' (their statements: YtmmfbeeeamcooaaTotals.lean).
  GIVEN WITH THE SEED: the statements are not yours to turn. If you find one false, say at which input.
  Laid BY PROGRAM, IN A SANDBOX (cutbox-rows.mjs): the forced cells as the released guide's own fill.sh prints them over the translation 62efa6d70b96e925… (all of the seat's roots in one cut). By AI agents, Wed Nov 11 2026. No macro, syntax, notation, axiom, sorry.
-/
import Derived.Test.YtmmfbeeeamcooaaChecked
import GoSem.Claim
import GoSem.ClaimJoined
import GoSem.ClaimMapViews
import Derived.JoinedTies
import Derived.KernelRfl
namespace Go.Proofs.Ytmmfbeeeamcooaa
/- THE CELL 'sum', in the pinned program and in every row, IS THE sha256 OF THE DUMP (.gsa) THAT YtmmfbeeeamcooaaProg.lean LOADS. Nothing in Lean hashes anything: it is a label: what it is worth is what the hold of that sum in a sandbox is worth. -/
noncomputable def Try.pinned : Pinned := { name := "ytmmfbeeeamcooaa", sum := "62efa6d70b96e9256b9b364b40aa7fc335a0d5c40875e29852d0d7c84a85052a", checked := Try.checked }
namespace Rows
def none {H : Type} : Left H := { results := [], args := [] }

/-- 'caravanlaw08.RingMakes': WHATEVER THE INPUT: true; the input reads as it did. -/
def ringMakesSpec : ChangeSpec := { name := "ringMakes", fn := fun _ => fun
  | [d] => { results := [.lit (.bool true)], args := [d] }
  | _ => none }
def ringMakesRow : OpenClaim := { program := "ytmmfbeeeamcooaa", sum := "62efa6d70b96e9256b9b364b40aa7fc335a0d5c40875e29852d0d7c84a85052a", func := "caravan/caravanlaw08.RingMakes", spec := "ringMakes", unfollowed := true, recurses := true, apart := false }
def RingMakesSaid : Prop := ringMakesRow.holds Try.pinned (OpenSpec.ofChange ringMakesSpec)

/-- ITS FALSE NEIGHBOUR: 'it returns false'. Refute it at one input. -/
def ringMakesWrong : ChangeSpec := { name := "ringMakes", fn := fun _ => fun
  | [d] => { results := [.lit (.bool false)], args := [d] }
  | _ => none }
def RingMakesWrongFalsely : Prop := ringMakesRow.holds Try.pinned (OpenSpec.ofChange ringMakesWrong)

/-- 'caravanlaw08.RingMeets': WHATEVER THE INPUT: true; the input reads as it did. -/
def ringMeetsSpec : ChangeSpec := { name := "ringMeets", fn := fun _ => fun
  | [d1, d2, d3] => { results := [.lit (.bool true)], args := [d1, d2, d3] }
  | _ => none }
def ringMeetsRow : OpenClaim := { program := "ytmmfbeeeamcooaa", sum := "62efa6d70b96e9256b9b364b40aa7fc335a0d5c40875e29852d0d7c84a85052a", func := "caravan/caravanlaw08.RingMeets", spec := "ringMeets", unfollowed := true, recurses := true, apart := false }
def RingMeetsSaid : Prop := ringMeetsRow.holds Try.pinned (OpenSpec.ofChange ringMeetsSpec)

/-- ITS FALSE NEIGHBOUR: 'it returns false'. Refute it at one input. -/
def ringMeetsWrong : ChangeSpec := { name := "ringMeets", fn := fun _ => fun
  | [d1, d2, d3] => { results := [.lit (.bool false)], args := [d1, d2, d3] }
  | _ => none }
def RingMeetsWrongFalsely : Prop := ringMeetsRow.holds Try.pinned (OpenSpec.ofChange ringMeetsWrong)

/-- 'caravanlaw08.RingStays': WHATEVER THE INPUT: true; the input reads as it did. -/
def ringStaysSpec : ChangeSpec := { name := "ringStays", fn := fun _ => fun
  | [d1, d2, d3] => { results := [.lit (.bool true)], args := [d1, d2, d3] }
  | _ => none }
def ringStaysRow : OpenClaim := { program := "ytmmfbeeeamcooaa", sum := "62efa6d70b96e9256b9b364b40aa7fc335a0d5c40875e29852d0d7c84a85052a", func := "caravan/caravanlaw08.RingStays", spec := "ringStays", unfollowed := true, recurses := true, apart := false }
def RingStaysSaid : Prop := ringStaysRow.holds Try.pinned (OpenSpec.ofChange ringStaysSpec)

/-- ITS FALSE NEIGHBOUR: 'it returns false'. Refute it at one input. -/
def ringStaysWrong : ChangeSpec := { name := "ringStays", fn := fun _ => fun
  | [d1, d2, d3] => { results := [.lit (.bool false)], args := [d1, d2, d3] }
  | _ => none }
def RingStaysWrongFalsely : Prop := ringStaysRow.holds Try.pinned (OpenSpec.ofChange ringStaysWrong)

/-- 'caravanlaw08.RingSpots': WHATEVER THE INPUT: true; the input reads as it did. -/
def ringSpotsSpec : ChangeSpec := { name := "ringSpots", fn := fun _ => fun
  | [d] => { results := [.lit (.bool true)], args := [d] }
  | _ => none }
def ringSpotsRow : OpenClaim := { program := "ytmmfbeeeamcooaa", sum := "62efa6d70b96e9256b9b364b40aa7fc335a0d5c40875e29852d0d7c84a85052a", func := "caravan/caravanlaw08.RingSpots", spec := "ringSpots", unfollowed := true, recurses := true, apart := false }
def RingSpotsSaid : Prop := ringSpotsRow.holds Try.pinned (OpenSpec.ofChange ringSpotsSpec)

/-- ITS FALSE NEIGHBOUR: 'it returns false'. Refute it at one input. -/
def ringSpotsWrong : ChangeSpec := { name := "ringSpots", fn := fun _ => fun
  | [d] => { results := [.lit (.bool false)], args := [d] }
  | _ => none }
def RingSpotsWrongFalsely : Prop := ringSpotsRow.holds Try.pinned (OpenSpec.ofChange ringSpotsWrong)

/-- 'caravanlaw08.RingAll': WHATEVER THE INPUT: true; the input reads as it did. -/
def ringAllSpec : ChangeSpec := { name := "ringAll", fn := fun _ => fun
  | [d1, d2, d3] => { results := [.lit (.bool true)], args := [d1, d2, d3] }
  | _ => none }
def ringAllRow : OpenClaim := { program := "ytmmfbeeeamcooaa", sum := "62efa6d70b96e9256b9b364b40aa7fc335a0d5c40875e29852d0d7c84a85052a", func := "caravan/caravanlaw08.RingAll", spec := "ringAll", unfollowed := true, recurses := true, apart := false }
def RingAllSaid : Prop := ringAllRow.holds Try.pinned (OpenSpec.ofChange ringAllSpec)

/-- ITS FALSE NEIGHBOUR: 'it returns false'. Refute it at one input. -/
def ringAllWrong : ChangeSpec := { name := "ringAll", fn := fun _ => fun
  | [d1, d2, d3] => { results := [.lit (.bool false)], args := [d1, d2, d3] }
  | _ => none }
def RingAllWrongFalsely : Prop := ringAllRow.holds Try.pinned (OpenSpec.ofChange ringAllWrong)

/- THE SECOND FORM. 'bulk': how many values and letters a reading holds, each counted each time it is reached (what is shared counts as often as it is met; a slice's spare places count too). A statement '..UptoSaid' is the law's where the arguments, and the package variables that the reading takes, are together of bulk at most 1048576: NARROWER than '..Said'. Prove '..Said' where nothing that the law and all that it calls make is longer than what came in: it says more and counts as full. Else prove '..UptoSaid'. A law counts once. -/
mutual
def uptoBulk {H : Type} : DataW H → Nat
  | .lit (.string bytes) => bytes.length + 1
  | .lit _ => 1
  | .nil => 1
  | .ptr d => uptoBulk d + 1
  | .slice elems spare => uptoBulkAll elems + uptoBulkAll spare + 1
  | .agg parts => uptoBulkAll parts + 1
  | .iface _ d => uptoBulk d + 1
  | .map entries => uptoBulkEntries entries + 1
  | .held _ => 1
def uptoBulkAll {H : Type} : List (DataW H) → Nat
  | [] => 0
  | d :: r => uptoBulk d + uptoBulkAll r
def uptoBulkEntries {H : Type} : List (Lit × DataW H) → Nat
  | [] => 0
  | x :: r => uptoBulkEntry x + uptoBulkEntries r
def uptoBulkEntry {H : Type} : Lit × DataW H → Nat
  | (.string bytes, d) => bytes.length + uptoBulk d + 1
  | (_, d) => uptoBulk d + 1
 end
def uptoSmall : (H : Type) → List (DataW H) → Bool := fun _ ds => decide (uptoBulkAll ds ≤ 1048576)
def OpenSpec.upto (s : _root_.Go.ChangeSpec) : _root_.Go.OpenSpec := { _root_.Go.OpenSpec.ofChange s with cond := some uptoSmall }

/-- 'caravanlaw08.RingMakes', WHERE WHAT IT READS IS OF BULK AT MOST 1048576: true; the input reads as it did. -/
def ringMakesUptoRow : OpenClaim := { program := "ytmmfbeeeamcooaa", sum := "62efa6d70b96e9256b9b364b40aa7fc335a0d5c40875e29852d0d7c84a85052a", func := "caravan/caravanlaw08.RingMakes", spec := "ringMakes", unfollowed := true, recurses := true, apart := false, narrowed := true }
def RingMakesUptoSaid : Prop := ringMakesUptoRow.holds Try.pinned (OpenSpec.upto ringMakesSpec)

/-- 'caravanlaw08.RingMeets', WHERE WHAT IT READS IS OF BULK AT MOST 1048576: true; the input reads as it did. -/
def ringMeetsUptoRow : OpenClaim := { program := "ytmmfbeeeamcooaa", sum := "62efa6d70b96e9256b9b364b40aa7fc335a0d5c40875e29852d0d7c84a85052a", func := "caravan/caravanlaw08.RingMeets", spec := "ringMeets", unfollowed := true, recurses := true, apart := false, narrowed := true }
def RingMeetsUptoSaid : Prop := ringMeetsUptoRow.holds Try.pinned (OpenSpec.upto ringMeetsSpec)

/-- 'caravanlaw08.RingStays', WHERE WHAT IT READS IS OF BULK AT MOST 1048576: true; the input reads as it did. -/
def ringStaysUptoRow : OpenClaim := { program := "ytmmfbeeeamcooaa", sum := "62efa6d70b96e9256b9b364b40aa7fc335a0d5c40875e29852d0d7c84a85052a", func := "caravan/caravanlaw08.RingStays", spec := "ringStays", unfollowed := true, recurses := true, apart := false, narrowed := true }
def RingStaysUptoSaid : Prop := ringStaysUptoRow.holds Try.pinned (OpenSpec.upto ringStaysSpec)

/-- 'caravanlaw08.RingSpots', WHERE WHAT IT READS IS OF BULK AT MOST 1048576: true; the input reads as it did. -/
def ringSpotsUptoRow : OpenClaim := { program := "ytmmfbeeeamcooaa", sum := "62efa6d70b96e9256b9b364b40aa7fc335a0d5c40875e29852d0d7c84a85052a", func := "caravan/caravanlaw08.RingSpots", spec := "ringSpots", unfollowed := true, recurses := true, apart := false, narrowed := true }
def RingSpotsUptoSaid : Prop := ringSpotsUptoRow.holds Try.pinned (OpenSpec.upto ringSpotsSpec)

/-- 'caravanlaw08.RingAll', WHERE WHAT IT READS IS OF BULK AT MOST 1048576: true; the input reads as it did. -/
def ringAllUptoRow : OpenClaim := { program := "ytmmfbeeeamcooaa", sum := "62efa6d70b96e9256b9b364b40aa7fc335a0d5c40875e29852d0d7c84a85052a", func := "caravan/caravanlaw08.RingAll", spec := "ringAll", unfollowed := true, recurses := true, apart := false, narrowed := true }
def RingAllUptoSaid : Prop := ringAllUptoRow.holds Try.pinned (OpenSpec.upto ringAllSpec)

end Rows
end Go.Proofs.Ytmmfbeeeamcooaa
