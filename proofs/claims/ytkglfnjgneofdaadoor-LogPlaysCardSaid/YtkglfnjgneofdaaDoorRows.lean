/-
  NARROWER THAN 'FOR EVERY INPUT', by the rows' own cells (each row's printed sentence says how): LogAny: laid · LogWhole: laid · LogJoins: laid · LogBegins: laid · LogNil: laid · LogPlays: laid.
  DERIVED. THE GIVEN ROWS OF THIS SEAT. 6 by the template 'for every input the law returns true; each argument reads behind the call as it read before'; 0 by the template 'total and deterministic' (their statements: YtkglfnjgneofdaaDoorTotals.lean).
  GIVEN WITH THE SEED: the statements are not yours to turn. If you find one false, say at which input.
  Laid BY PROGRAM, IN A SANDBOX (cutbox-rows.mjs): the forced cells as the released guide's own fill.sh prints them over the translation 3d6b5633432b89cc… (all of the seat's roots in one cut). By AI agents, Wed Nov 11 2026. No macro, syntax, notation, axiom, sorry.
-/
import Derived.Test.YtkglfnjgneofdaaDoorChecked
import GoSem.Claim
import GoSem.ClaimJoined
import GoSem.ClaimMapViews
import Derived.JoinedTies
import Derived.KernelRfl
namespace Go.Proofs.YtkglfnjgneofdaaDoor
/- THE CELL 'sum', in the pinned program and in every row, IS THE sha256 OF THE DUMP (.gsa) THAT YtkglfnjgneofdaaDoorProg.lean LOADS. Nothing in Lean hashes anything: it is a label: what it is worth is what the hold of that sum in a sandbox is worth. -/
noncomputable def Tryd.pinned : Pinned := { name := "ytkglfnjgneofdaadoor", sum := "3d6b5633432b89cc5de14047fe7579749fd373bf898ab3a362de09438ef9b992", checked := Tryd.checked }
namespace Rows
def none {H : Type} : Left H := { results := [], args := [] }

/- WHAT THE LISTED PACKAGE-LEVEL VARIABLES READ AS WHEN THE CALL BEGINS. Each datum BY PROGRAM (the guide's laid-datum.mjs) off the statement by which the dump's own 'gosem.cut.vars' lays the variable. In a bare row this is a premise. The card (YtkglfnjgneofdaaDoorCards.lean) ties it to the program's text. -/
def laid_caravan_fold_table {H : Type} : DataW H := .agg [.lit (.int .u16 0), .lit (.int .u16 4129), .lit (.int .u16 8258), .lit (.int .u16 12387), .lit (.int .u16 16516), .lit (.int .u16 20645), .lit (.int .u16 24774), .lit (.int .u16 28903), .lit (.int .u16 33032), .lit (.int .u16 37161), .lit (.int .u16 41290), .lit (.int .u16 45419), .lit (.int .u16 49548), .lit (.int .u16 53677), .lit (.int .u16 57806), .lit (.int .u16 61935)]

/-- 'caravanlaw14.LogAny': WHATEVER THE INPUT: true; the input reads as it did. -/
def logAnySpec : ChangeSpec := { name := "logAny", fn := fun _ => fun
  | [d] => { results := [.lit (.bool true)], args := [d] }
  | _ => none }
def logAnyRow : OpenClaim := { program := "ytkglfnjgneofdaadoor", sum := "3d6b5633432b89cc5de14047fe7579749fd373bf898ab3a362de09438ef9b992", func := "caravan/caravanlaw14.LogAny", spec := "logAny", inPlace := ["internal/abi.NoEscape"], unfollowed := true, recurses := true, named := ["caravan/fold.table"], apart := false, laid := [("caravan/fold.table", laid_caravan_fold_table)] }
def LogAnySaid : Prop := logAnyRow.holds Tryd.pinned (OpenSpec.ofChange logAnySpec)

/-- ITS FALSE NEIGHBOUR: 'it returns false'. Refute it at one input. -/
def logAnyWrong : ChangeSpec := { name := "logAny", fn := fun _ => fun
  | [d] => { results := [.lit (.bool false)], args := [d] }
  | _ => none }
def LogAnyWrongFalsely : Prop := logAnyRow.holds Tryd.pinned (OpenSpec.ofChange logAnyWrong)

/-- 'caravanlaw14.LogWhole': WHATEVER THE INPUT: true; the input reads as it did. -/
def logWholeSpec : ChangeSpec := { name := "logWhole", fn := fun _ => fun
  | [d1, d2, d3] => { results := [.lit (.bool true)], args := [d1, d2, d3] }
  | _ => none }
def logWholeRow : OpenClaim := { program := "ytkglfnjgneofdaadoor", sum := "3d6b5633432b89cc5de14047fe7579749fd373bf898ab3a362de09438ef9b992", func := "caravan/caravanlaw14.LogWhole", spec := "logWhole", inPlace := ["internal/abi.NoEscape"], unfollowed := true, recurses := true, named := ["caravan/fold.table"], apart := false, laid := [("caravan/fold.table", laid_caravan_fold_table)] }
def LogWholeSaid : Prop := logWholeRow.holds Tryd.pinned (OpenSpec.ofChange logWholeSpec)

/-- ITS FALSE NEIGHBOUR: 'it returns false'. Refute it at one input. -/
def logWholeWrong : ChangeSpec := { name := "logWhole", fn := fun _ => fun
  | [d1, d2, d3] => { results := [.lit (.bool false)], args := [d1, d2, d3] }
  | _ => none }
def LogWholeWrongFalsely : Prop := logWholeRow.holds Tryd.pinned (OpenSpec.ofChange logWholeWrong)

/-- 'caravanlaw14.LogJoins': WHATEVER THE INPUT: true; the input reads as it did. -/
def logJoinsSpec : ChangeSpec := { name := "logJoins", fn := fun _ => fun
  | [d] => { results := [.lit (.bool true)], args := [d] }
  | _ => none }
def logJoinsRow : OpenClaim := { program := "ytkglfnjgneofdaadoor", sum := "3d6b5633432b89cc5de14047fe7579749fd373bf898ab3a362de09438ef9b992", func := "caravan/caravanlaw14.LogJoins", spec := "logJoins", inPlace := ["internal/abi.NoEscape"], unfollowed := true, recurses := true, named := ["caravan/fold.table"], apart := false, laid := [("caravan/fold.table", laid_caravan_fold_table)] }
def LogJoinsSaid : Prop := logJoinsRow.holds Tryd.pinned (OpenSpec.ofChange logJoinsSpec)

/-- ITS FALSE NEIGHBOUR: 'it returns false'. Refute it at one input. -/
def logJoinsWrong : ChangeSpec := { name := "logJoins", fn := fun _ => fun
  | [d] => { results := [.lit (.bool false)], args := [d] }
  | _ => none }
def LogJoinsWrongFalsely : Prop := logJoinsRow.holds Tryd.pinned (OpenSpec.ofChange logJoinsWrong)

/-- 'caravanlaw14.LogBegins': WHATEVER THE INPUT: true; the input reads as it did. -/
def logBeginsSpec : ChangeSpec := { name := "logBegins", fn := fun _ => fun
  | [d1, d2, d3] => { results := [.lit (.bool true)], args := [d1, d2, d3] }
  | _ => none }
def logBeginsRow : OpenClaim := { program := "ytkglfnjgneofdaadoor", sum := "3d6b5633432b89cc5de14047fe7579749fd373bf898ab3a362de09438ef9b992", func := "caravan/caravanlaw14.LogBegins", spec := "logBegins", inPlace := ["internal/abi.NoEscape"], unfollowed := true, recurses := true, named := ["caravan/fold.table"], apart := false, laid := [("caravan/fold.table", laid_caravan_fold_table)] }
def LogBeginsSaid : Prop := logBeginsRow.holds Tryd.pinned (OpenSpec.ofChange logBeginsSpec)

/-- ITS FALSE NEIGHBOUR: 'it returns false'. Refute it at one input. -/
def logBeginsWrong : ChangeSpec := { name := "logBegins", fn := fun _ => fun
  | [d1, d2, d3] => { results := [.lit (.bool false)], args := [d1, d2, d3] }
  | _ => none }
def LogBeginsWrongFalsely : Prop := logBeginsRow.holds Tryd.pinned (OpenSpec.ofChange logBeginsWrong)

/-- 'caravanlaw14.LogNil': WHATEVER THE INPUT: true; the input reads as it did. -/
def logNilSpec : ChangeSpec := { name := "logNil", fn := fun _ => fun
  | [d] => { results := [.lit (.bool true)], args := [d] }
  | _ => none }
def logNilRow : OpenClaim := { program := "ytkglfnjgneofdaadoor", sum := "3d6b5633432b89cc5de14047fe7579749fd373bf898ab3a362de09438ef9b992", func := "caravan/caravanlaw14.LogNil", spec := "logNil", inPlace := ["internal/abi.NoEscape"], unfollowed := true, recurses := true, named := ["caravan/fold.table"], apart := false, laid := [("caravan/fold.table", laid_caravan_fold_table)] }
def LogNilSaid : Prop := logNilRow.holds Tryd.pinned (OpenSpec.ofChange logNilSpec)

/-- ITS FALSE NEIGHBOUR: 'it returns false'. Refute it at one input. -/
def logNilWrong : ChangeSpec := { name := "logNil", fn := fun _ => fun
  | [d] => { results := [.lit (.bool false)], args := [d] }
  | _ => none }
def LogNilWrongFalsely : Prop := logNilRow.holds Tryd.pinned (OpenSpec.ofChange logNilWrong)

/-- 'caravanlaw14.LogPlays': WHATEVER THE INPUT: true; the input reads as it did. -/
def logPlaysSpec : ChangeSpec := { name := "logPlays", fn := fun _ => fun
  | [d1, d2] => { results := [.lit (.bool true)], args := [d1, d2] }
  | _ => none }
def logPlaysRow : OpenClaim := { program := "ytkglfnjgneofdaadoor", sum := "3d6b5633432b89cc5de14047fe7579749fd373bf898ab3a362de09438ef9b992", func := "caravan/caravanlaw14.LogPlays", spec := "logPlays", inPlace := ["internal/abi.NoEscape"], unfollowed := true, recurses := true, named := ["caravan/fold.table"], apart := false, laid := [("caravan/fold.table", laid_caravan_fold_table)] }
def LogPlaysSaid : Prop := logPlaysRow.holds Tryd.pinned (OpenSpec.ofChange logPlaysSpec)

/-- ITS FALSE NEIGHBOUR: 'it returns false'. Refute it at one input. -/
def logPlaysWrong : ChangeSpec := { name := "logPlays", fn := fun _ => fun
  | [d1, d2] => { results := [.lit (.bool false)], args := [d1, d2] }
  | _ => none }
def LogPlaysWrongFalsely : Prop := logPlaysRow.holds Tryd.pinned (OpenSpec.ofChange logPlaysWrong)

/- THE SECOND FORM. 'bulk': how many values and letters a reading holds, each counted each time it is reached (what is shared counts as often as it is met; a slice's spare places count too). A statement '..UptoSaid' is the law's where the arguments, and the package variables that the reading takes, are together of bulk at most 1048576: NARROWER than '..Said'. Prove '..Said' where nothing that the law and all that it calls make is longer than what came in: it says more and counts as full. Else prove '..UptoSaid'. A law counts once. -/
mutual
def uptoBulk {H : Type} : DataW H → Nat
  | .lit (.string bytes) => bytes.length + 1
  | .lit _ => 1
  | .nil => 1
  | .ptr d => uptoBulk d + 1
  | .slice elems spare => uptoBulkAll elems + uptoBulkAll spare + 1
  | .agg parts => uptoBulkAll parts + 1
  | .iface _ d => uptoBulk d + 1
  | .map entries => uptoBulkEntries entries + 1
  | .held _ => 1
def uptoBulkAll {H : Type} : List (DataW H) → Nat
  | [] => 0
  | d :: r => uptoBulk d + uptoBulkAll r
def uptoBulkEntries {H : Type} : List (Lit × DataW H) → Nat
  | [] => 0
  | x :: r => uptoBulkEntry x + uptoBulkEntries r
def uptoBulkEntry {H : Type} : Lit × DataW H → Nat
  | (.string bytes, d) => bytes.length + uptoBulk d + 1
  | (_, d) => uptoBulk d + 1
 end
def uptoSmall : (H : Type) → List (DataW H) → Bool := fun _ ds => decide (uptoBulkAll ds ≤ 1048576)
def OpenSpec.upto (s : _root_.Go.ChangeSpec) : _root_.Go.OpenSpec := { _root_.Go.OpenSpec.ofChange s with cond := some uptoSmall }

/-- 'caravanlaw14.LogAny', WHERE WHAT IT READS IS OF BULK AT MOST 1048576: true; the input reads as it did. -/
def logAnyUptoRow : OpenClaim := { program := "ytkglfnjgneofdaadoor", sum := "3d6b5633432b89cc5de14047fe7579749fd373bf898ab3a362de09438ef9b992", func := "caravan/caravanlaw14.LogAny", spec := "logAny", inPlace := ["internal/abi.NoEscape"], unfollowed := true, recurses := true, named := ["caravan/fold.table"], apart := false, laid := [("caravan/fold.table", laid_caravan_fold_table)], narrowed := true }
def LogAnyUptoSaid : Prop := logAnyUptoRow.holds Tryd.pinned (OpenSpec.upto logAnySpec)

/-- 'caravanlaw14.LogWhole', WHERE WHAT IT READS IS OF BULK AT MOST 1048576: true; the input reads as it did. -/
def logWholeUptoRow : OpenClaim := { program := "ytkglfnjgneofdaadoor", sum := "3d6b5633432b89cc5de14047fe7579749fd373bf898ab3a362de09438ef9b992", func := "caravan/caravanlaw14.LogWhole", spec := "logWhole", inPlace := ["internal/abi.NoEscape"], unfollowed := true, recurses := true, named := ["caravan/fold.table"], apart := false, laid := [("caravan/fold.table", laid_caravan_fold_table)], narrowed := true }
def LogWholeUptoSaid : Prop := logWholeUptoRow.holds Tryd.pinned (OpenSpec.upto logWholeSpec)

/-- 'caravanlaw14.LogJoins', WHERE WHAT IT READS IS OF BULK AT MOST 1048576: true; the input reads as it did. -/
def logJoinsUptoRow : OpenClaim := { program := "ytkglfnjgneofdaadoor", sum := "3d6b5633432b89cc5de14047fe7579749fd373bf898ab3a362de09438ef9b992", func := "caravan/caravanlaw14.LogJoins", spec := "logJoins", inPlace := ["internal/abi.NoEscape"], unfollowed := true, recurses := true, named := ["caravan/fold.table"], apart := false, laid := [("caravan/fold.table", laid_caravan_fold_table)], narrowed := true }
def LogJoinsUptoSaid : Prop := logJoinsUptoRow.holds Tryd.pinned (OpenSpec.upto logJoinsSpec)

/-- 'caravanlaw14.LogBegins', WHERE WHAT IT READS IS OF BULK AT MOST 1048576: true; the input reads as it did. -/
def logBeginsUptoRow : OpenClaim := { program := "ytkglfnjgneofdaadoor", sum := "3d6b5633432b89cc5de14047fe7579749fd373bf898ab3a362de09438ef9b992", func := "caravan/caravanlaw14.LogBegins", spec := "logBegins", inPlace := ["internal/abi.NoEscape"], unfollowed := true, recurses := true, named := ["caravan/fold.table"], apart := false, laid := [("caravan/fold.table", laid_caravan_fold_table)], narrowed := true }
def LogBeginsUptoSaid : Prop := logBeginsUptoRow.holds Tryd.pinned (OpenSpec.upto logBeginsSpec)

/-- 'caravanlaw14.LogNil', WHERE WHAT IT READS IS OF BULK AT MOST 1048576: true; the input reads as it did. -/
def logNilUptoRow : OpenClaim := { program := "ytkglfnjgneofdaadoor", sum := "3d6b5633432b89cc5de14047fe7579749fd373bf898ab3a362de09438ef9b992", func := "caravan/caravanlaw14.LogNil", spec := "logNil", inPlace := ["internal/abi.NoEscape"], unfollowed := true, recurses := true, named := ["caravan/fold.table"], apart := false, laid := [("caravan/fold.table", laid_caravan_fold_table)], narrowed := true }
def LogNilUptoSaid : Prop := logNilUptoRow.holds Tryd.pinned (OpenSpec.upto logNilSpec)

/-- 'caravanlaw14.LogPlays', WHERE WHAT IT READS IS OF BULK AT MOST 1048576: true; the input reads as it did. -/
def logPlaysUptoRow : OpenClaim := { program := "ytkglfnjgneofdaadoor", sum := "3d6b5633432b89cc5de14047fe7579749fd373bf898ab3a362de09438ef9b992", func := "caravan/caravanlaw14.LogPlays", spec := "logPlays", inPlace := ["internal/abi.NoEscape"], unfollowed := true, recurses := true, named := ["caravan/fold.table"], apart := false, laid := [("caravan/fold.table", laid_caravan_fold_table)], narrowed := true }
def LogPlaysUptoSaid : Prop := logPlaysUptoRow.holds Tryd.pinned (OpenSpec.upto logPlaysSpec)

end Rows
end Go.Proofs.YtkglfnjgneofdaaDoor
