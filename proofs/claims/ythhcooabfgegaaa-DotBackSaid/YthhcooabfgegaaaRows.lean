/-
  No cell of these rows narrows 'for every input' (looked for: loops, veiled, ifaces, maps, wideKeys, modest, calm, conditions, laid).
  DERIVED. THE GIVEN ROWS OF THIS SEAT. 6 by the template 'for every input the law returns true; each argument reads behind the call as it read before'; 0 by the template 'total and deterministic' (their statements: YthhcooabfgegaaaTotals.lean).
  GIVEN WITH THE SEED: the statements are not yours to turn. If you find one false, say at which input.
  Laid BY PROGRAM, IN A SANDBOX (cutbox-rows.mjs): the forced cells as the released guide's own fill.sh prints them over the translation 3b200939a0b8be8a… (all of the seat's roots in one cut). By AI agents, Wed Nov 11 2026. No macro, syntax, notation, axiom, sorry.
-/
import Derived.Test.YthhcooabfgegaaaChecked
import GoSem.Claim
import GoSem.ClaimJoined
import GoSem.ClaimMapViews
import Derived.JoinedTies
import Derived.KernelRfl
namespace Go.Proofs.Ythhcooabfgegaaa
/- THE CELL 'sum', in the pinned program and in every row, IS THE sha256 OF THE DUMP (.gsa) THAT YthhcooabfgegaaaProg.lean LOADS. Nothing in Lean hashes anything: it is a label: what it is worth is what the hold of that sum in a sandbox is worth. -/
noncomputable def Try.pinned : Pinned := { name := "ythhcooabfgegaaa", sum := "3b200939a0b8be8a3c921439a619274f8067ed8bc210293c4dbe24bb29062271", checked := Try.checked }
namespace Rows
def none {H : Type} : Left H := { results := [], args := [] }

/-- 'caravanlaw03.DotOrder': WHATEVER THE INPUT: true; the input reads as it did. -/
def dotOrderSpec : ChangeSpec := { name := "dotOrder", fn := fun _ => fun
  | [d1, d2, d3] => { results := [.lit (.bool true)], args := [d1, d2, d3] }
  | _ => none }
def dotOrderRow : OpenClaim := { program := "ythhcooabfgegaaa", sum := "3b200939a0b8be8a3c921439a619274f8067ed8bc210293c4dbe24bb29062271", func := "caravan/caravanlaw03.DotOrder", spec := "dotOrder", unfollowed := true, recurses := true, apart := false }
def DotOrderSaid : Prop := dotOrderRow.holds Try.pinned (OpenSpec.ofChange dotOrderSpec)

/-- ITS FALSE NEIGHBOUR: 'it returns false'. Refute it at one input. -/
def dotOrderWrong : ChangeSpec := { name := "dotOrder", fn := fun _ => fun
  | [d1, d2, d3] => { results := [.lit (.bool false)], args := [d1, d2, d3] }
  | _ => none }
def DotOrderWrongFalsely : Prop := dotOrderRow.holds Try.pinned (OpenSpec.ofChange dotOrderWrong)

/-- 'caravanlaw03.DotSorts': WHATEVER THE INPUT: true; the input reads as it did. -/
def dotSortsSpec : ChangeSpec := { name := "dotSorts", fn := fun _ => fun
  | [d] => { results := [.lit (.bool true)], args := [d] }
  | _ => none }
def dotSortsRow : OpenClaim := { program := "ythhcooabfgegaaa", sum := "3b200939a0b8be8a3c921439a619274f8067ed8bc210293c4dbe24bb29062271", func := "caravan/caravanlaw03.DotSorts", spec := "dotSorts", unfollowed := true, recurses := true, apart := false }
def DotSortsSaid : Prop := dotSortsRow.holds Try.pinned (OpenSpec.ofChange dotSortsSpec)

/-- ITS FALSE NEIGHBOUR: 'it returns false'. Refute it at one input. -/
def dotSortsWrong : ChangeSpec := { name := "dotSorts", fn := fun _ => fun
  | [d] => { results := [.lit (.bool false)], args := [d] }
  | _ => none }
def DotSortsWrongFalsely : Prop := dotSortsRow.holds Try.pinned (OpenSpec.ofChange dotSortsWrong)

/-- 'caravanlaw03.DotOf': WHATEVER THE INPUT: true; the input reads as it did. -/
def dotOfSpec : ChangeSpec := { name := "dotOf", fn := fun _ => fun
  | [d] => { results := [.lit (.bool true)], args := [d] }
  | _ => none }
def dotOfRow : OpenClaim := { program := "ythhcooabfgegaaa", sum := "3b200939a0b8be8a3c921439a619274f8067ed8bc210293c4dbe24bb29062271", func := "caravan/caravanlaw03.DotOf", spec := "dotOf", unfollowed := true, recurses := true, apart := false }
def DotOfSaid : Prop := dotOfRow.holds Try.pinned (OpenSpec.ofChange dotOfSpec)

/-- ITS FALSE NEIGHBOUR: 'it returns false'. Refute it at one input. -/
def dotOfWrong : ChangeSpec := { name := "dotOf", fn := fun _ => fun
  | [d] => { results := [.lit (.bool false)], args := [d] }
  | _ => none }
def DotOfWrongFalsely : Prop := dotOfRow.holds Try.pinned (OpenSpec.ofChange dotOfWrong)

/-- 'caravanlaw03.DotNames': WHATEVER THE INPUT: true; the input reads as it did. -/
def dotNamesSpec : ChangeSpec := { name := "dotNames", fn := fun _ => fun
  | [d1, d2, d3] => { results := [.lit (.bool true)], args := [d1, d2, d3] }
  | _ => none }
def dotNamesRow : OpenClaim := { program := "ythhcooabfgegaaa", sum := "3b200939a0b8be8a3c921439a619274f8067ed8bc210293c4dbe24bb29062271", func := "caravan/caravanlaw03.DotNames", spec := "dotNames", unfollowed := true, recurses := true, apart := false }
def DotNamesSaid : Prop := dotNamesRow.holds Try.pinned (OpenSpec.ofChange dotNamesSpec)

/-- ITS FALSE NEIGHBOUR: 'it returns false'. Refute it at one input. -/
def dotNamesWrong : ChangeSpec := { name := "dotNames", fn := fun _ => fun
  | [d1, d2, d3] => { results := [.lit (.bool false)], args := [d1, d2, d3] }
  | _ => none }
def DotNamesWrongFalsely : Prop := dotNamesRow.holds Try.pinned (OpenSpec.ofChange dotNamesWrong)

/-- 'caravanlaw03.DotBytes': WHATEVER THE INPUT: true; the input reads as it did. -/
def dotBytesSpec : ChangeSpec := { name := "dotBytes", fn := fun _ => fun
  | [d1, d2, d3] => { results := [.lit (.bool true)], args := [d1, d2, d3] }
  | _ => none }
def dotBytesRow : OpenClaim := { program := "ythhcooabfgegaaa", sum := "3b200939a0b8be8a3c921439a619274f8067ed8bc210293c4dbe24bb29062271", func := "caravan/caravanlaw03.DotBytes", spec := "dotBytes", unfollowed := true, recurses := true, apart := false }
def DotBytesSaid : Prop := dotBytesRow.holds Try.pinned (OpenSpec.ofChange dotBytesSpec)

/-- ITS FALSE NEIGHBOUR: 'it returns false'. Refute it at one input. -/
def dotBytesWrong : ChangeSpec := { name := "dotBytes", fn := fun _ => fun
  | [d1, d2, d3] => { results := [.lit (.bool false)], args := [d1, d2, d3] }
  | _ => none }
def DotBytesWrongFalsely : Prop := dotBytesRow.holds Try.pinned (OpenSpec.ofChange dotBytesWrong)

/-- 'caravanlaw03.DotBack': WHATEVER THE INPUT: true; the input reads as it did. -/
def dotBackSpec : ChangeSpec := { name := "dotBack", fn := fun _ => fun
  | [d1, d2] => { results := [.lit (.bool true)], args := [d1, d2] }
  | _ => none }
def dotBackRow : OpenClaim := { program := "ythhcooabfgegaaa", sum := "3b200939a0b8be8a3c921439a619274f8067ed8bc210293c4dbe24bb29062271", func := "caravan/caravanlaw03.DotBack", spec := "dotBack", unfollowed := true, recurses := true, apart := false }
def DotBackSaid : Prop := dotBackRow.holds Try.pinned (OpenSpec.ofChange dotBackSpec)

/-- ITS FALSE NEIGHBOUR: 'it returns false'. Refute it at one input. -/
def dotBackWrong : ChangeSpec := { name := "dotBack", fn := fun _ => fun
  | [d1, d2] => { results := [.lit (.bool false)], args := [d1, d2] }
  | _ => none }
def DotBackWrongFalsely : Prop := dotBackRow.holds Try.pinned (OpenSpec.ofChange dotBackWrong)

/- THE SECOND FORM. 'bulk': how many values and letters a reading holds, each counted each time it is reached (what is shared counts as often as it is met; a slice's spare places count too). A statement '..UptoSaid' is the law's where the arguments, and the package variables that the reading takes, are together of bulk at most 1048576: NARROWER than '..Said'. Prove '..Said' where nothing that the law and all that it calls make is longer than what came in: it says more and counts as full. Else prove '..UptoSaid'. A law counts once. -/
mutual
def uptoBulk {H : Type} : DataW H → Nat
  | .lit (.string bytes) => bytes.length + 1
  | .lit _ => 1
  | .nil => 1
  | .ptr d => uptoBulk d + 1
  | .slice elems spare => uptoBulkAll elems + uptoBulkAll spare + 1
  | .agg parts => uptoBulkAll parts + 1
  | .iface _ d => uptoBulk d + 1
  | .map entries => uptoBulkEntries entries + 1
  | .held _ => 1
def uptoBulkAll {H : Type} : List (DataW H) → Nat
  | [] => 0
  | d :: r => uptoBulk d + uptoBulkAll r
def uptoBulkEntries {H : Type} : List (Lit × DataW H) → Nat
  | [] => 0
  | x :: r => uptoBulkEntry x + uptoBulkEntries r
def uptoBulkEntry {H : Type} : Lit × DataW H → Nat
  | (.string bytes, d) => bytes.length + uptoBulk d + 1
  | (_, d) => uptoBulk d + 1
 end
def uptoSmall : (H : Type) → List (DataW H) → Bool := fun _ ds => decide (uptoBulkAll ds ≤ 1048576)
def OpenSpec.upto (s : _root_.Go.ChangeSpec) : _root_.Go.OpenSpec := { _root_.Go.OpenSpec.ofChange s with cond := some uptoSmall }

/-- 'caravanlaw03.DotOrder', WHERE WHAT IT READS IS OF BULK AT MOST 1048576: true; the input reads as it did. -/
def dotOrderUptoRow : OpenClaim := { program := "ythhcooabfgegaaa", sum := "3b200939a0b8be8a3c921439a619274f8067ed8bc210293c4dbe24bb29062271", func := "caravan/caravanlaw03.DotOrder", spec := "dotOrder", unfollowed := true, recurses := true, apart := false, narrowed := true }
def DotOrderUptoSaid : Prop := dotOrderUptoRow.holds Try.pinned (OpenSpec.upto dotOrderSpec)

/-- 'caravanlaw03.DotSorts', WHERE WHAT IT READS IS OF BULK AT MOST 1048576: true; the input reads as it did. -/
def dotSortsUptoRow : OpenClaim := { program := "ythhcooabfgegaaa", sum := "3b200939a0b8be8a3c921439a619274f8067ed8bc210293c4dbe24bb29062271", func := "caravan/caravanlaw03.DotSorts", spec := "dotSorts", unfollowed := true, recurses := true, apart := false, narrowed := true }
def DotSortsUptoSaid : Prop := dotSortsUptoRow.holds Try.pinned (OpenSpec.upto dotSortsSpec)

/-- 'caravanlaw03.DotOf', WHERE WHAT IT READS IS OF BULK AT MOST 1048576: true; the input reads as it did. -/
def dotOfUptoRow : OpenClaim := { program := "ythhcooabfgegaaa", sum := "3b200939a0b8be8a3c921439a619274f8067ed8bc210293c4dbe24bb29062271", func := "caravan/caravanlaw03.DotOf", spec := "dotOf", unfollowed := true, recurses := true, apart := false, narrowed := true }
def DotOfUptoSaid : Prop := dotOfUptoRow.holds Try.pinned (OpenSpec.upto dotOfSpec)

/-- 'caravanlaw03.DotNames', WHERE WHAT IT READS IS OF BULK AT MOST 1048576: true; the input reads as it did. -/
def dotNamesUptoRow : OpenClaim := { program := "ythhcooabfgegaaa", sum := "3b200939a0b8be8a3c921439a619274f8067ed8bc210293c4dbe24bb29062271", func := "caravan/caravanlaw03.DotNames", spec := "dotNames", unfollowed := true, recurses := true, apart := false, narrowed := true }
def DotNamesUptoSaid : Prop := dotNamesUptoRow.holds Try.pinned (OpenSpec.upto dotNamesSpec)

/-- 'caravanlaw03.DotBytes', WHERE WHAT IT READS IS OF BULK AT MOST 1048576: true; the input reads as it did. -/
def dotBytesUptoRow : OpenClaim := { program := "ythhcooabfgegaaa", sum := "3b200939a0b8be8a3c921439a619274f8067ed8bc210293c4dbe24bb29062271", func := "caravan/caravanlaw03.DotBytes", spec := "dotBytes", unfollowed := true, recurses := true, apart := false, narrowed := true }
def DotBytesUptoSaid : Prop := dotBytesUptoRow.holds Try.pinned (OpenSpec.upto dotBytesSpec)

/-- 'caravanlaw03.DotBack', WHERE WHAT IT READS IS OF BULK AT MOST 1048576: true; the input reads as it did. -/
def dotBackUptoRow : OpenClaim := { program := "ythhcooabfgegaaa", sum := "3b200939a0b8be8a3c921439a619274f8067ed8bc210293c4dbe24bb29062271", func := "caravan/caravanlaw03.DotBack", spec := "dotBack", unfollowed := true, recurses := true, apart := false, narrowed := true }
def DotBackUptoSaid : Prop := dotBackUptoRow.holds Try.pinned (OpenSpec.upto dotBackSpec)

end Rows
end Go.Proofs.Ythhcooabfgegaaa
