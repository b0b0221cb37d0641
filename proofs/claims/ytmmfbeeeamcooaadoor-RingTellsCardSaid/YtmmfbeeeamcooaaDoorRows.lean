/-
  NARROWER THAN 'FOR EVERY INPUT', by the rows' own cells (each row's printed sentence says how): RingParts: laid · RingTells: laid.
  DERIVED. THE GIVEN ROWS OF THIS SEAT. 2 by the template 'for every input the law returns true; each argument reads behind the call as it read before'; 0 by the template 'total and deterministic' (their statements: YtmmfbeeeamcooaaDoorTotals.lean).
  GIVEN WITH THE SEED: the statements are not yours to turn. If you find one false, say at which input.
  Laid BY PROGRAM, IN A SANDBOX (cutbox-rows.mjs): the forced cells as the released guide's own fill.sh prints them over the translation 2e29478ce722284c… (all of the seat's roots in one cut). By AI agents, Wed Nov 11 2026. No macro, syntax, notation, axiom, sorry.
-/
import Derived.Test.YtmmfbeeeamcooaaDoorChecked
import GoSem.Claim
import GoSem.ClaimJoined
import GoSem.ClaimMapViews
import Derived.JoinedTies
import Derived.KernelRfl
namespace Go.Proofs.YtmmfbeeeamcooaaDoor
/- THE CELL 'sum', in the pinned program and in every row, IS THE sha256 OF THE DUMP (.gsa) THAT YtmmfbeeeamcooaaDoorProg.lean LOADS. Nothing in Lean hashes anything: it is a label: what it is worth is what the hold of that sum in a sandbox is worth. -/
noncomputable def Tryd.pinned : Pinned := { name := "ytmmfbeeeamcooaadoor", sum := "2e29478ce722284c2e40a74fc8a8fb1e55bf54abbd13df73e6202936c2ee7b16", checked := Tryd.checked }
namespace Rows
def none {H : Type} : Left H := { results := [], args := [] }

/- WHAT THE LISTED PACKAGE-LEVEL VARIABLES READ AS WHEN THE CALL BEGINS. Each datum BY PROGRAM (the guide's laid-datum.mjs) off the statement by which the dump's own 'gosem.cut.vars' lays the variable. In a bare row this is a premise. The card (YtmmfbeeeamcooaaDoorCards.lean) ties it to the program's text. -/
def laid_caravan_fold_table {H : Type} : DataW H := .agg [.lit (.int .u16 0), .lit (.int .u16 4129), .lit (.int .u16 8258), .lit (.int .u16 12387), .lit (.int .u16 16516), .lit (.int .u16 20645), .lit (.int .u16 24774), .lit (.int .u16 28903), .lit (.int .u16 33032), .lit (.int .u16 37161), .lit (.int .u16 41290), .lit (.int .u16 45419), .lit (.int .u16 49548), .lit (.int .u16 53677), .lit (.int .u16 57806), .lit (.int .u16 61935)]

/-- 'caravanlaw08.RingParts': WHATEVER THE INPUT: true; the input reads as it did. -/
def ringPartsSpec : ChangeSpec := { name := "ringParts", fn := fun _ => fun
  | [d1, d2, d3] => { results := [.lit (.bool true)], args := [d1, d2, d3] }
  | _ => none }
def ringPartsRow : OpenClaim := { program := "ytmmfbeeeamcooaadoor", sum := "2e29478ce722284c2e40a74fc8a8fb1e55bf54abbd13df73e6202936c2ee7b16", func := "caravan/caravanlaw08.RingParts", spec := "ringParts", unfollowed := true, recurses := true, named := ["caravan/fold.table"], apart := false, laid := [("caravan/fold.table", laid_caravan_fold_table)] }
def RingPartsSaid : Prop := ringPartsRow.holds Tryd.pinned (OpenSpec.ofChange ringPartsSpec)

/-- ITS FALSE NEIGHBOUR: 'it returns false'. Refute it at one input. -/
def ringPartsWrong : ChangeSpec := { name := "ringParts", fn := fun _ => fun
  | [d1, d2, d3] => { results := [.lit (.bool false)], args := [d1, d2, d3] }
  | _ => none }
def RingPartsWrongFalsely : Prop := ringPartsRow.holds Tryd.pinned (OpenSpec.ofChange ringPartsWrong)

/-- 'caravanlaw08.RingTells': WHATEVER THE INPUT: true; the input reads as it did. -/
def ringTellsSpec : ChangeSpec := { name := "ringTells", fn := fun _ => fun
  | [d1, d2, d3] => { results := [.lit (.bool true)], args := [d1, d2, d3] }
  | _ => none }
def ringTellsRow : OpenClaim := { program := "ytmmfbeeeamcooaadoor", sum := "2e29478ce722284c2e40a74fc8a8fb1e55bf54abbd13df73e6202936c2ee7b16", func := "caravan/caravanlaw08.RingTells", spec := "ringTells", unfollowed := true, recurses := true, named := ["caravan/fold.table"], apart := false, laid := [("caravan/fold.table", laid_caravan_fold_table)] }
def RingTellsSaid : Prop := ringTellsRow.holds Tryd.pinned (OpenSpec.ofChange ringTellsSpec)

/-- ITS FALSE NEIGHBOUR: 'it returns false'. Refute it at one input. -/
def ringTellsWrong : ChangeSpec := { name := "ringTells", fn := fun _ => fun
  | [d1, d2, d3] => { results := [.lit (.bool false)], args := [d1, d2, d3] }
  | _ => none }
def RingTellsWrongFalsely : Prop := ringTellsRow.holds Tryd.pinned (OpenSpec.ofChange ringTellsWrong)

/- THE SECOND FORM. 'bulk': how many values and letters a reading holds, each counted each time it is reached (what is shared counts as often as it is met; a slice's spare places count too). A statement '..UptoSaid' is the law's where the arguments, and the package variables that the reading takes, are together of bulk at most 1048576: NARROWER than '..Said'. Prove '..Said' where nothing that the law and all that it calls make is longer than what came in: it says more and counts as full. Else prove '..UptoSaid'. A law counts once. -/
mutual
def uptoBulk {H : Type} : DataW H → Nat
  | .lit (.string bytes) => bytes.length + 1
  | .lit _ => 1
  | .nil => 1
  | .ptr d => uptoBulk d + 1
  | .slice elems spare => uptoBulkAll elems + uptoBulkAll spare + 1
  | .agg parts => uptoBulkAll parts + 1
  | .iface _ d => uptoBulk d + 1
  | .map entries => uptoBulkEntries entries + 1
  | .held _ => 1
def uptoBulkAll {H : Type} : List (DataW H) → Nat
  | [] => 0
  | d :: r => uptoBulk d + uptoBulkAll r
def uptoBulkEntries {H : Type} : List (Lit × DataW H) → Nat
  | [] => 0
  | x :: r => uptoBulkEntry x + uptoBulkEntries r
def uptoBulkEntry {H : Type} : Lit × DataW H → Nat
  | (.string bytes, d) => bytes.length + uptoBulk d + 1
  | (_, d) => uptoBulk d + 1
 end
def uptoSmall : (H : Type) → List (DataW H) → Bool := fun _ ds => decide (uptoBulkAll ds ≤ 1048576)
def OpenSpec.upto (s : _root_.Go.ChangeSpec) : _root_.Go.OpenSpec := { _root_.Go.OpenSpec.ofChange s with cond := some uptoSmall }

/-- 'caravanlaw08.RingParts', WHERE WHAT IT READS IS OF BULK AT MOST 1048576: true; the input reads as it did. -/
def ringPartsUptoRow : OpenClaim := { program := "ytmmfbeeeamcooaadoor", sum := "2e29478ce722284c2e40a74fc8a8fb1e55bf54abbd13df73e6202936c2ee7b16", func := "caravan/caravanlaw08.RingParts", spec := "ringParts", unfollowed := true, recurses := true, named := ["caravan/fold.table"], apart := false, laid := [("caravan/fold.table", laid_caravan_fold_table)], narrowed := true }
def RingPartsUptoSaid : Prop := ringPartsUptoRow.holds Tryd.pinned (OpenSpec.upto ringPartsSpec)

/-- 'caravanlaw08.RingTells', WHERE WHAT IT READS IS OF BULK AT MOST 1048576: true; the input reads as it did. -/
def ringTellsUptoRow : OpenClaim := { program := "ytmmfbeeeamcooaadoor", sum := "2e29478ce722284c2e40a74fc8a8fb1e55bf54abbd13df73e6202936c2ee7b16", func := "caravan/caravanlaw08.RingTells", spec := "ringTells", unfollowed := true, recurses := true, named := ["caravan/fold.table"], apart := false, laid := [("caravan/fold.table", laid_caravan_fold_table)], narrowed := true }
def RingTellsUptoSaid : Prop := ringTellsUptoRow.holds Tryd.pinned (OpenSpec.upto ringTellsSpec)

end Rows
end Go.Proofs.YtmmfbeeeamcooaaDoor
