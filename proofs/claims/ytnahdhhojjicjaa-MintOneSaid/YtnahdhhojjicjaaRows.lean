/-
  No cell of these rows narrows 'for every input' (looked for: loops, veiled, ifaces, maps, wideKeys, modest, calm, conditions, laid).
  DERIVED. THE GIVEN ROWS OF THIS SEAT. 7 by the template 'for every input the law returns true; each argument reads behind the call as it read before'; 0 by the template 'total and deterministic' (their statements: YtnahdhhojjicjaaTotals.lean).
  GIVEN WITH THE SEED: the statements are not yours to turn. If you find one false, say at which input.
  Laid BY PROGRAM, IN A SANDBOX (cutbox-rows.mjs): the forced cells as the released guide's own fill.sh prints them over the translation 3d6f3a3dd825deb6… (all of the seat's roots in one cut). By AI agents, Wed Nov 11 2026. No macro, syntax, notation, axiom, sorry.
-/
import Derived.Test.YtnahdhhojjicjaaChecked
import GoSem.Claim
import GoSem.ClaimJoined
import GoSem.ClaimMapViews
import Derived.JoinedTies
import Derived.KernelRfl
namespace Go.Proofs.Ytnahdhhojjicjaa
/- THE CELL 'sum', in the pinned program and in every row, IS THE sha256 OF THE DUMP (.gsa) THAT YtnahdhhojjicjaaProg.lean LOADS. Nothing in Lean hashes anything: it is a label: what it is worth is what the hold of that sum in a sandbox is worth. -/
noncomputable def Try.pinned : Pinned := { name := "ytnahdhhojjicjaa", sum := "3d6f3a3dd825deb66203ad513dcfb8a156757f05d33d183f4196d500e822b154", checked := Try.checked }
namespace Rows
def none {H : Type} : Left H := { results := [], args := [] }

/-- 'caravanlaw01.MintOrder': WHATEVER THE INPUT: true; the input reads as it did. -/
def mintOrderSpec : ChangeSpec := { name := "mintOrder", fn := fun _ => fun
  | [d1, d2] => { results := [.lit (.bool true)], args := [d1, d2] }
  | _ => none }
def mintOrderRow : OpenClaim := { program := "ytnahdhhojjicjaa", sum := "3d6f3a3dd825deb66203ad513dcfb8a156757f05d33d183f4196d500e822b154", func := "caravan/caravanlaw01.MintOrder", spec := "mintOrder", apart := false }
def MintOrderSaid : Prop := mintOrderRow.holds Try.pinned (OpenSpec.ofChange mintOrderSpec)

/-- ITS FALSE NEIGHBOUR: 'it returns false'. Refute it at one input. -/
def mintOrderWrong : ChangeSpec := { name := "mintOrder", fn := fun _ => fun
  | [d1, d2] => { results := [.lit (.bool false)], args := [d1, d2] }
  | _ => none }
def MintOrderWrongFalsely : Prop := mintOrderRow.holds Try.pinned (OpenSpec.ofChange mintOrderWrong)

/-- 'caravanlaw01.MintOne': WHATEVER THE INPUT: true; the input reads as it did. -/
def mintOneSpec : ChangeSpec := { name := "mintOne", fn := fun _ => fun
  | [d1, d2, d3] => { results := [.lit (.bool true)], args := [d1, d2, d3] }
  | _ => none }
def mintOneRow : OpenClaim := { program := "ytnahdhhojjicjaa", sum := "3d6f3a3dd825deb66203ad513dcfb8a156757f05d33d183f4196d500e822b154", func := "caravan/caravanlaw01.MintOne", spec := "mintOne", inPlace := ["internal/abi.NoEscape"], apart := false }
def MintOneSaid : Prop := mintOneRow.holds Try.pinned (OpenSpec.ofChange mintOneSpec)

/-- ITS FALSE NEIGHBOUR: 'it returns false'. Refute it at one input. -/
def mintOneWrong : ChangeSpec := { name := "mintOne", fn := fun _ => fun
  | [d1, d2, d3] => { results := [.lit (.bool false)], args := [d1, d2, d3] }
  | _ => none }
def MintOneWrongFalsely : Prop := mintOneRow.holds Try.pinned (OpenSpec.ofChange mintOneWrong)

/-- 'caravanlaw01.MintWrites': WHATEVER THE INPUT: true; the input reads as it did. -/
def mintWritesSpec : ChangeSpec := { name := "mintWrites", fn := fun _ => fun
  | [d1, d2, d3] => { results := [.lit (.bool true)], args := [d1, d2, d3] }
  | _ => none }
def mintWritesRow : OpenClaim := { program := "ytnahdhhojjicjaa", sum := "3d6f3a3dd825deb66203ad513dcfb8a156757f05d33d183f4196d500e822b154", func := "caravan/caravanlaw01.MintWrites", spec := "mintWrites", inPlace := ["internal/abi.NoEscape"], apart := false }
def MintWritesSaid : Prop := mintWritesRow.holds Try.pinned (OpenSpec.ofChange mintWritesSpec)

/-- ITS FALSE NEIGHBOUR: 'it returns false'. Refute it at one input. -/
def mintWritesWrong : ChangeSpec := { name := "mintWrites", fn := fun _ => fun
  | [d1, d2, d3] => { results := [.lit (.bool false)], args := [d1, d2, d3] }
  | _ => none }
def MintWritesWrongFalsely : Prop := mintWritesRow.holds Try.pinned (OpenSpec.ofChange mintWritesWrong)

/-- 'caravanlaw01.MintReads': WHATEVER THE INPUT: true; the input reads as it did. -/
def mintReadsSpec : ChangeSpec := { name := "mintReads", fn := fun _ => fun
  | [d1, d2] => { results := [.lit (.bool true)], args := [d1, d2] }
  | _ => none }
def mintReadsRow : OpenClaim := { program := "ytnahdhhojjicjaa", sum := "3d6f3a3dd825deb66203ad513dcfb8a156757f05d33d183f4196d500e822b154", func := "caravan/caravanlaw01.MintReads", spec := "mintReads", unfollowed := true, recurses := true, apart := false }
def MintReadsSaid : Prop := mintReadsRow.holds Try.pinned (OpenSpec.ofChange mintReadsSpec)

/-- ITS FALSE NEIGHBOUR: 'it returns false'. Refute it at one input. -/
def mintReadsWrong : ChangeSpec := { name := "mintReads", fn := fun _ => fun
  | [d1, d2] => { results := [.lit (.bool false)], args := [d1, d2] }
  | _ => none }
def MintReadsWrongFalsely : Prop := mintReadsRow.holds Try.pinned (OpenSpec.ofChange mintReadsWrong)

/-- 'caravanlaw01.MintNil': WHATEVER THE INPUT: true; the input reads as it did. -/
def mintNilSpec : ChangeSpec := { name := "mintNil", fn := fun _ => fun
  | [d] => { results := [.lit (.bool true)], args := [d] }
  | _ => none }
def mintNilRow : OpenClaim := { program := "ytnahdhhojjicjaa", sum := "3d6f3a3dd825deb66203ad513dcfb8a156757f05d33d183f4196d500e822b154", func := "caravan/caravanlaw01.MintNil", spec := "mintNil", unfollowed := true, recurses := true, apart := false }
def MintNilSaid : Prop := mintNilRow.holds Try.pinned (OpenSpec.ofChange mintNilSpec)

/-- ITS FALSE NEIGHBOUR: 'it returns false'. Refute it at one input. -/
def mintNilWrong : ChangeSpec := { name := "mintNil", fn := fun _ => fun
  | [d] => { results := [.lit (.bool false)], args := [d] }
  | _ => none }
def MintNilWrongFalsely : Prop := mintNilRow.holds Try.pinned (OpenSpec.ofChange mintNilWrong)

/-- 'caravanlaw01.MintCuts': WHATEVER THE INPUT: true; the input reads as it did. -/
def mintCutsSpec : ChangeSpec := { name := "mintCuts", fn := fun _ => fun
  | [d1, d2] => { results := [.lit (.bool true)], args := [d1, d2] }
  | _ => none }
def mintCutsRow : OpenClaim := { program := "ytnahdhhojjicjaa", sum := "3d6f3a3dd825deb66203ad513dcfb8a156757f05d33d183f4196d500e822b154", func := "caravan/caravanlaw01.MintCuts", spec := "mintCuts", unfollowed := true, recurses := true, apart := false }
def MintCutsSaid : Prop := mintCutsRow.holds Try.pinned (OpenSpec.ofChange mintCutsSpec)

/-- ITS FALSE NEIGHBOUR: 'it returns false'. Refute it at one input. -/
def mintCutsWrong : ChangeSpec := { name := "mintCuts", fn := fun _ => fun
  | [d1, d2] => { results := [.lit (.bool false)], args := [d1, d2] }
  | _ => none }
def MintCutsWrongFalsely : Prop := mintCutsRow.holds Try.pinned (OpenSpec.ofChange mintCutsWrong)

/-- 'caravanlaw01.MintBack': WHATEVER THE INPUT: true; the input reads as it did. -/
def mintBackSpec : ChangeSpec := { name := "mintBack", fn := fun _ => fun
  | [d1, d2, d3] => { results := [.lit (.bool true)], args := [d1, d2, d3] }
  | _ => none }
def mintBackRow : OpenClaim := { program := "ytnahdhhojjicjaa", sum := "3d6f3a3dd825deb66203ad513dcfb8a156757f05d33d183f4196d500e822b154", func := "caravan/caravanlaw01.MintBack", spec := "mintBack", inPlace := ["internal/abi.NoEscape"], unfollowed := true, recurses := true, apart := false }
def MintBackSaid : Prop := mintBackRow.holds Try.pinned (OpenSpec.ofChange mintBackSpec)

/-- ITS FALSE NEIGHBOUR: 'it returns false'. Refute it at one input. -/
def mintBackWrong : ChangeSpec := { name := "mintBack", fn := fun _ => fun
  | [d1, d2, d3] => { results := [.lit (.bool false)], args := [d1, d2, d3] }
  | _ => none }
def MintBackWrongFalsely : Prop := mintBackRow.holds Try.pinned (OpenSpec.ofChange mintBackWrong)

/- THE SECOND FORM. 'bulk': how many values and letters a reading holds, each counted each time it is reached (what is shared counts as often as it is met; a slice's spare places count too). A statement '..UptoSaid' is the law's where the arguments, and the package variables that the reading takes, are together of bulk at most 1048576: NARROWER than '..Said'. Prove '..Said' where nothing that the law and all that it calls make is longer than what came in: it says more and counts as full. Else prove '..UptoSaid'. A law counts once. -/
mutual
def uptoBulk {H : Type} : DataW H → Nat
  | .lit (.string bytes) => bytes.length + 1
  | .lit _ => 1
  | .nil => 1
  | .ptr d => uptoBulk d + 1
  | .slice elems spare => uptoBulkAll elems + uptoBulkAll spare + 1
  | .agg parts => uptoBulkAll parts + 1
  | .iface _ d => uptoBulk d + 1
  | .map entries => uptoBulkEntries entries + 1
  | .held _ => 1
def uptoBulkAll {H : Type} : List (DataW H) → Nat
  | [] => 0
  | d :: r => uptoBulk d + uptoBulkAll r
def uptoBulkEntries {H : Type} : List (Lit × DataW H) → Nat
  | [] => 0
  | x :: r => uptoBulkEntry x + uptoBulkEntries r
def uptoBulkEntry {H : Type} : Lit × DataW H → Nat
  | (.string bytes, d) => bytes.length + uptoBulk d + 1
  | (_, d) => uptoBulk d + 1
 end
def uptoSmall : (H : Type) → List (DataW H) → Bool := fun _ ds => decide (uptoBulkAll ds ≤ 1048576)
def OpenSpec.upto (s : _root_.Go.ChangeSpec) : _root_.Go.OpenSpec := { _root_.Go.OpenSpec.ofChange s with cond := some uptoSmall }

/-- 'caravanlaw01.MintOrder', WHERE WHAT IT READS IS OF BULK AT MOST 1048576: true; the input reads as it did. -/
def mintOrderUptoRow : OpenClaim := { program := "ytnahdhhojjicjaa", sum := "3d6f3a3dd825deb66203ad513dcfb8a156757f05d33d183f4196d500e822b154", func := "caravan/caravanlaw01.MintOrder", spec := "mintOrder", apart := false, narrowed := true }
def MintOrderUptoSaid : Prop := mintOrderUptoRow.holds Try.pinned (OpenSpec.upto mintOrderSpec)

/-- 'caravanlaw01.MintOne', WHERE WHAT IT READS IS OF BULK AT MOST 1048576: true; the input reads as it did. -/
def mintOneUptoRow : OpenClaim := { program := "ytnahdhhojjicjaa", sum := "3d6f3a3dd825deb66203ad513dcfb8a156757f05d33d183f4196d500e822b154", func := "caravan/caravanlaw01.MintOne", spec := "mintOne", inPlace := ["internal/abi.NoEscape"], apart := false, narrowed := true }
def MintOneUptoSaid : Prop := mintOneUptoRow.holds Try.pinned (OpenSpec.upto mintOneSpec)

/-- 'caravanlaw01.MintWrites', WHERE WHAT IT READS IS OF BULK AT MOST 1048576: true; the input reads as it did. -/
def mintWritesUptoRow : OpenClaim := { program := "ytnahdhhojjicjaa", sum := "3d6f3a3dd825deb66203ad513dcfb8a156757f05d33d183f4196d500e822b154", func := "caravan/caravanlaw01.MintWrites", spec := "mintWrites", inPlace := ["internal/abi.NoEscape"], apart := false, narrowed := true }
def MintWritesUptoSaid : Prop := mintWritesUptoRow.holds Try.pinned (OpenSpec.upto mintWritesSpec)

/-- 'caravanlaw01.MintReads', WHERE WHAT IT READS IS OF BULK AT MOST 1048576: true; the input reads as it did. -/
def mintReadsUptoRow : OpenClaim := { program := "ytnahdhhojjicjaa", sum := "3d6f3a3dd825deb66203ad513dcfb8a156757f05d33d183f4196d500e822b154", func := "caravan/caravanlaw01.MintReads", spec := "mintReads", unfollowed := true, recurses := true, apart := false, narrowed := true }
def MintReadsUptoSaid : Prop := mintReadsUptoRow.holds Try.pinned (OpenSpec.upto mintReadsSpec)

/-- 'caravanlaw01.MintNil', WHERE WHAT IT READS IS OF BULK AT MOST 1048576: true; the input reads as it did. -/
def mintNilUptoRow : OpenClaim := { program := "ytnahdhhojjicjaa", sum := "3d6f3a3dd825deb66203ad513dcfb8a156757f05d33d183f4196d500e822b154", func := "caravan/caravanlaw01.MintNil", spec := "mintNil", unfollowed := true, recurses := true, apart := false, narrowed := true }
def MintNilUptoSaid : Prop := mintNilUptoRow.holds Try.pinned (OpenSpec.upto mintNilSpec)

/-- 'caravanlaw01.MintCuts', WHERE WHAT IT READS IS OF BULK AT MOST 1048576: true; the input reads as it did. -/
def mintCutsUptoRow : OpenClaim := { program := "ytnahdhhojjicjaa", sum := "3d6f3a3dd825deb66203ad513dcfb8a156757f05d33d183f4196d500e822b154", func := "caravan/caravanlaw01.MintCuts", spec := "mintCuts", unfollowed := true, recurses := true, apart := false, narrowed := true }
def MintCutsUptoSaid : Prop := mintCutsUptoRow.holds Try.pinned (OpenSpec.upto mintCutsSpec)

/-- 'caravanlaw01.MintBack', WHERE WHAT IT READS IS OF BULK AT MOST 1048576: true; the input reads as it did. -/
def mintBackUptoRow : OpenClaim := { program := "ytnahdhhojjicjaa", sum := "3d6f3a3dd825deb66203ad513dcfb8a156757f05d33d183f4196d500e822b154", func := "caravan/caravanlaw01.MintBack", spec := "mintBack", inPlace := ["internal/abi.NoEscape"], unfollowed := true, recurses := true, apart := false, narrowed := true }
def MintBackUptoSaid : Prop := mintBackUptoRow.holds Try.pinned (OpenSpec.upto mintBackSpec)

end Rows
end Go.Proofs.Ytnahdhhojjicjaa
