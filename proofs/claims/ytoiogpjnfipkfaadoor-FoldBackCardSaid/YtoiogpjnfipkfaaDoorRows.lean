/-
  NARROWER THAN 'FOR EVERY INPUT', by the rows' own cells (each row's printed sentence says how): FoldSums: laid · FoldApart: laid · FoldShort: laid · FoldTurned: laid · FoldLimit: laid · FoldBack: laid.
  DERIVED. THE GIVEN ROWS OF THIS SEAT. 6 by the template 'for every input the law returns true; each argument reads behind the call as it read before'; 0 by the template 'total and deterministic' (their statements: YtoiogpjnfipkfaaDoorTotals.lean).
  GIVEN WITH THE SEED: the statements are not yours to turn. If you find one false, say at which input.
  Laid BY PROGRAM, IN A SANDBOX (cutbox-rows.mjs): the forced cells as the released guide's own fill.sh prints them over the translation 7f698a7eb4fcb873… (all of the seat's roots in one cut). By AI agents, Wed Nov 11 2026. No macro, syntax, notation, axiom, sorry.
-/
import Derived.Test.YtoiogpjnfipkfaaDoorChecked
import GoSem.Claim
import GoSem.ClaimJoined
import GoSem.ClaimMapViews
import Derived.JoinedTies
import Derived.KernelRfl
namespace Go.Proofs.YtoiogpjnfipkfaaDoor
/- THE CELL 'sum', in the pinned program and in every row, IS THE sha256 OF THE DUMP (.gsa) THAT YtoiogpjnfipkfaaDoorProg.lean LOADS. Nothing in Lean hashes anything: it is a label: what it is worth is what the hold of that sum in a sandbox is worth. -/
noncomputable def Tryd.pinned : Pinned := { name := "ytoiogpjnfipkfaadoor", sum := "7f698a7eb4fcb873b5e38fa7f932465d7a5171f2ae007390fa84b6f99a4e1819", checked := Tryd.checked }
namespace Rows
def none {H : Type} : Left H := { results := [], args := [] }

/- WHAT THE LISTED PACKAGE-LEVEL VARIABLES READ AS WHEN THE CALL BEGINS. Each datum BY PROGRAM (the guide's laid-datum.mjs) off the statement by which the dump's own 'gosem.cut.vars' lays the variable. In a bare row this is a premise. The card (YtoiogpjnfipkfaaDoorCards.lean) ties it to the program's text. -/
def laid_caravan_fold_table {H : Type} : DataW H := .agg [.lit (.int .u16 0), .lit (.int .u16 4129), .lit (.int .u16 8258), .lit (.int .u16 12387), .lit (.int .u16 16516), .lit (.int .u16 20645), .lit (.int .u16 24774), .lit (.int .u16 28903), .lit (.int .u16 33032), .lit (.int .u16 37161), .lit (.int .u16 41290), .lit (.int .u16 45419), .lit (.int .u16 49548), .lit (.int .u16 53677), .lit (.int .u16 57806), .lit (.int .u16 61935)]

/-- 'caravanlaw02.FoldSums': WHATEVER THE INPUT: true; the input reads as it did. -/
def foldSumsSpec : ChangeSpec := { name := "foldSums", fn := fun _ => fun
  | [d1, d2] => { results := [.lit (.bool true)], args := [d1, d2] }
  | _ => none }
def foldSumsRow : OpenClaim := { program := "ytoiogpjnfipkfaadoor", sum := "7f698a7eb4fcb873b5e38fa7f932465d7a5171f2ae007390fa84b6f99a4e1819", func := "caravan/caravanlaw02.FoldSums", spec := "foldSums", named := ["caravan/fold.table"], apart := false, laid := [("caravan/fold.table", laid_caravan_fold_table)] }
def FoldSumsSaid : Prop := foldSumsRow.holds Tryd.pinned (OpenSpec.ofChange foldSumsSpec)

/-- ITS FALSE NEIGHBOUR: 'it returns false'. Refute it at one input. -/
def foldSumsWrong : ChangeSpec := { name := "foldSums", fn := fun _ => fun
  | [d1, d2] => { results := [.lit (.bool false)], args := [d1, d2] }
  | _ => none }
def FoldSumsWrongFalsely : Prop := foldSumsRow.holds Tryd.pinned (OpenSpec.ofChange foldSumsWrong)

/-- 'caravanlaw02.FoldApart': WHATEVER THE INPUT: true; the input reads as it did. -/
def foldApartSpec : ChangeSpec := { name := "foldApart", fn := fun _ => fun
  | [d1, d2] => { results := [.lit (.bool true)], args := [d1, d2] }
  | _ => none }
def foldApartRow : OpenClaim := { program := "ytoiogpjnfipkfaadoor", sum := "7f698a7eb4fcb873b5e38fa7f932465d7a5171f2ae007390fa84b6f99a4e1819", func := "caravan/caravanlaw02.FoldApart", spec := "foldApart", named := ["caravan/fold.table"], apart := false, laid := [("caravan/fold.table", laid_caravan_fold_table)] }
def FoldApartSaid : Prop := foldApartRow.holds Tryd.pinned (OpenSpec.ofChange foldApartSpec)

/-- ITS FALSE NEIGHBOUR: 'it returns false'. Refute it at one input. -/
def foldApartWrong : ChangeSpec := { name := "foldApart", fn := fun _ => fun
  | [d1, d2] => { results := [.lit (.bool false)], args := [d1, d2] }
  | _ => none }
def FoldApartWrongFalsely : Prop := foldApartRow.holds Tryd.pinned (OpenSpec.ofChange foldApartWrong)

/-- 'caravanlaw02.FoldShort': WHATEVER THE INPUT: true; the input reads as it did. -/
def foldShortSpec : ChangeSpec := { name := "foldShort", fn := fun _ => fun
  | [d1, d2] => { results := [.lit (.bool true)], args := [d1, d2] }
  | _ => none }
def foldShortRow : OpenClaim := { program := "ytoiogpjnfipkfaadoor", sum := "7f698a7eb4fcb873b5e38fa7f932465d7a5171f2ae007390fa84b6f99a4e1819", func := "caravan/caravanlaw02.FoldShort", spec := "foldShort", named := ["caravan/fold.table"], apart := false, laid := [("caravan/fold.table", laid_caravan_fold_table)] }
def FoldShortSaid : Prop := foldShortRow.holds Tryd.pinned (OpenSpec.ofChange foldShortSpec)

/-- ITS FALSE NEIGHBOUR: 'it returns false'. Refute it at one input. -/
def foldShortWrong : ChangeSpec := { name := "foldShort", fn := fun _ => fun
  | [d1, d2] => { results := [.lit (.bool false)], args := [d1, d2] }
  | _ => none }
def FoldShortWrongFalsely : Prop := foldShortRow.holds Tryd.pinned (OpenSpec.ofChange foldShortWrong)

/-- 'caravanlaw02.FoldTurned': WHATEVER THE INPUT: true; the input reads as it did. -/
def foldTurnedSpec : ChangeSpec := { name := "foldTurned", fn := fun _ => fun
  | [d1, d2, d3] => { results := [.lit (.bool true)], args := [d1, d2, d3] }
  | _ => none }
def foldTurnedRow : OpenClaim := { program := "ytoiogpjnfipkfaadoor", sum := "7f698a7eb4fcb873b5e38fa7f932465d7a5171f2ae007390fa84b6f99a4e1819", func := "caravan/caravanlaw02.FoldTurned", spec := "foldTurned", named := ["caravan/fold.table"], apart := false, laid := [("caravan/fold.table", laid_caravan_fold_table)] }
def FoldTurnedSaid : Prop := foldTurnedRow.holds Tryd.pinned (OpenSpec.ofChange foldTurnedSpec)

/-- ITS FALSE NEIGHBOUR: 'it returns false'. Refute it at one input. -/
def foldTurnedWrong : ChangeSpec := { name := "foldTurned", fn := fun _ => fun
  | [d1, d2, d3] => { results := [.lit (.bool false)], args := [d1, d2, d3] }
  | _ => none }
def FoldTurnedWrongFalsely : Prop := foldTurnedRow.holds Tryd.pinned (OpenSpec.ofChange foldTurnedWrong)

/-- 'caravanlaw02.FoldLimit': WHATEVER THE INPUT: true; the input reads as it did. -/
def foldLimitSpec : ChangeSpec := { name := "foldLimit", fn := fun _ => fun
  | [d] => { results := [.lit (.bool true)], args := [d] }
  | _ => none }
def foldLimitRow : OpenClaim := { program := "ytoiogpjnfipkfaadoor", sum := "7f698a7eb4fcb873b5e38fa7f932465d7a5171f2ae007390fa84b6f99a4e1819", func := "caravan/caravanlaw02.FoldLimit", spec := "foldLimit", named := ["caravan/fold.table"], apart := false, laid := [("caravan/fold.table", laid_caravan_fold_table)] }
def FoldLimitSaid : Prop := foldLimitRow.holds Tryd.pinned (OpenSpec.ofChange foldLimitSpec)

/-- ITS FALSE NEIGHBOUR: 'it returns false'. Refute it at one input. -/
def foldLimitWrong : ChangeSpec := { name := "foldLimit", fn := fun _ => fun
  | [d] => { results := [.lit (.bool false)], args := [d] }
  | _ => none }
def FoldLimitWrongFalsely : Prop := foldLimitRow.holds Tryd.pinned (OpenSpec.ofChange foldLimitWrong)

/-- 'caravanlaw02.FoldBack': WHATEVER THE INPUT: true; the input reads as it did. -/
def foldBackSpec : ChangeSpec := { name := "foldBack", fn := fun _ => fun
  | [d1, d2] => { results := [.lit (.bool true)], args := [d1, d2] }
  | _ => none }
def foldBackRow : OpenClaim := { program := "ytoiogpjnfipkfaadoor", sum := "7f698a7eb4fcb873b5e38fa7f932465d7a5171f2ae007390fa84b6f99a4e1819", func := "caravan/caravanlaw02.FoldBack", spec := "foldBack", named := ["caravan/fold.table"], apart := false, laid := [("caravan/fold.table", laid_caravan_fold_table)] }
def FoldBackSaid : Prop := foldBackRow.holds Tryd.pinned (OpenSpec.ofChange foldBackSpec)

/-- ITS FALSE NEIGHBOUR: 'it returns false'. Refute it at one input. -/
def foldBackWrong : ChangeSpec := { name := "foldBack", fn := fun _ => fun
  | [d1, d2] => { results := [.lit (.bool false)], args := [d1, d2] }
  | _ => none }
def FoldBackWrongFalsely : Prop := foldBackRow.holds Tryd.pinned (OpenSpec.ofChange foldBackWrong)

/- THE SECOND FORM. 'bulk': how many values and letters a reading holds, each counted each time it is reached (what is shared counts as often as it is met; a slice's spare places count too). A statement '..UptoSaid' is the law's where the arguments, and the package variables that the reading takes, are together of bulk at most 1048576: NARROWER than '..Said'. Prove '..Said' where nothing that the law and all that it calls make is longer than what came in: it says more and counts as full. Else prove '..UptoSaid'. A law counts once. -/
mutual
def uptoBulk {H : Type} : DataW H → Nat
  | .lit (.string bytes) => bytes.length + 1
  | .lit _ => 1
  | .nil => 1
  | .ptr d => uptoBulk d + 1
  | .slice elems spare => uptoBulkAll elems + uptoBulkAll spare + 1
  | .agg parts => uptoBulkAll parts + 1
  | .iface _ d => uptoBulk d + 1
  | .map entries => uptoBulkEntries entries + 1
  | .held _ => 1
def uptoBulkAll {H : Type} : List (DataW H) → Nat
  | [] => 0
  | d :: r => uptoBulk d + uptoBulkAll r
def uptoBulkEntries {H : Type} : List (Lit × DataW H) → Nat
  | [] => 0
  | x :: r => uptoBulkEntry x + uptoBulkEntries r
def uptoBulkEntry {H : Type} : Lit × DataW H → Nat
  | (.string bytes, d) => bytes.length + uptoBulk d + 1
  | (_, d) => uptoBulk d + 1
 end
def uptoSmall : (H : Type) → List (DataW H) → Bool := fun _ ds => decide (uptoBulkAll ds ≤ 1048576)
def OpenSpec.upto (s : _root_.Go.ChangeSpec) : _root_.Go.OpenSpec := { _root_.Go.OpenSpec.ofChange s with cond := some uptoSmall }

/-- 'caravanlaw02.FoldSums', WHERE WHAT IT READS IS OF BULK AT MOST 1048576: true; the input reads as it did. -/
def foldSumsUptoRow : OpenClaim := { program := "ytoiogpjnfipkfaadoor", sum := "7f698a7eb4fcb873b5e38fa7f932465d7a5171f2ae007390fa84b6f99a4e1819", func := "caravan/caravanlaw02.FoldSums", spec := "foldSums", named := ["caravan/fold.table"], apart := false, laid := [("caravan/fold.table", laid_caravan_fold_table)], narrowed := true }
def FoldSumsUptoSaid : Prop := foldSumsUptoRow.holds Tryd.pinned (OpenSpec.upto foldSumsSpec)

/-- 'caravanlaw02.FoldApart', WHERE WHAT IT READS IS OF BULK AT MOST 1048576: true; the input reads as it did. -/
def foldApartUptoRow : OpenClaim := { program := "ytoiogpjnfipkfaadoor", sum := "7f698a7eb4fcb873b5e38fa7f932465d7a5171f2ae007390fa84b6f99a4e1819", func := "caravan/caravanlaw02.FoldApart", spec := "foldApart", named := ["caravan/fold.table"], apart := false, laid := [("caravan/fold.table", laid_caravan_fold_table)], narrowed := true }
def FoldApartUptoSaid : Prop := foldApartUptoRow.holds Tryd.pinned (OpenSpec.upto foldApartSpec)

/-- 'caravanlaw02.FoldShort', WHERE WHAT IT READS IS OF BULK AT MOST 1048576: true; the input reads as it did. -/
def foldShortUptoRow : OpenClaim := { program := "ytoiogpjnfipkfaadoor", sum := "7f698a7eb4fcb873b5e38fa7f932465d7a5171f2ae007390fa84b6f99a4e1819", func := "caravan/caravanlaw02.FoldShort", spec := "foldShort", named := ["caravan/fold.table"], apart := false, laid := [("caravan/fold.table", laid_caravan_fold_table)], narrowed := true }
def FoldShortUptoSaid : Prop := foldShortUptoRow.holds Tryd.pinned (OpenSpec.upto foldShortSpec)

/-- 'caravanlaw02.FoldTurned', WHERE WHAT IT READS IS OF BULK AT MOST 1048576: true; the input reads as it did. -/
def foldTurnedUptoRow : OpenClaim := { program := "ytoiogpjnfipkfaadoor", sum := "7f698a7eb4fcb873b5e38fa7f932465d7a5171f2ae007390fa84b6f99a4e1819", func := "caravan/caravanlaw02.FoldTurned", spec := "foldTurned", named := ["caravan/fold.table"], apart := false, laid := [("caravan/fold.table", laid_caravan_fold_table)], narrowed := true }
def FoldTurnedUptoSaid : Prop := foldTurnedUptoRow.holds Tryd.pinned (OpenSpec.upto foldTurnedSpec)

/-- 'caravanlaw02.FoldLimit', WHERE WHAT IT READS IS OF BULK AT MOST 1048576: true; the input reads as it did. -/
def foldLimitUptoRow : OpenClaim := { program := "ytoiogpjnfipkfaadoor", sum := "7f698a7eb4fcb873b5e38fa7f932465d7a5171f2ae007390fa84b6f99a4e1819", func := "caravan/caravanlaw02.FoldLimit", spec := "foldLimit", named := ["caravan/fold.table"], apart := false, laid := [("caravan/fold.table", laid_caravan_fold_table)], narrowed := true }
def FoldLimitUptoSaid : Prop := foldLimitUptoRow.holds Tryd.pinned (OpenSpec.upto foldLimitSpec)

/-- 'caravanlaw02.FoldBack', WHERE WHAT IT READS IS OF BULK AT MOST 1048576: true; the input reads as it did. -/
def foldBackUptoRow : OpenClaim := { program := "ytoiogpjnfipkfaadoor", sum := "7f698a7eb4fcb873b5e38fa7f932465d7a5171f2ae007390fa84b6f99a4e1819", func := "caravan/caravanlaw02.FoldBack", spec := "foldBack", named := ["caravan/fold.table"], apart := false, laid := [("caravan/fold.table", laid_caravan_fold_table)], narrowed := true }
def FoldBackUptoSaid : Prop := foldBackUptoRow.holds Tryd.pinned (OpenSpec.upto foldBackSpec)

end Rows
end Go.Proofs.YtoiogpjnfipkfaaDoor
