/- '==' and '!=' between two pairs. -/
import Derived.Test.YtfpjdmplepepjaaProg
import Derived.Laws.StructEq
import Derived.WalkKit
namespace Go.Proofs.Ytfpjdmplepepjaa
open Go.RowKit

theorem pairEq (x1 x2 y1 y2 : Int) : ((x1, x2) = (y1, y2)) = (x1 = y1 ∧ x2 = y2) := by simp

theorem guardD (op : BinOp) (a b : Operand) (xs ys : Array Value) (w : World) : Sem.run Try.prog (eqGuard op 31 a b (.agg xs) (.agg ys)) w = .ok () w := run_eqGuard_agg w op _ a b xs ys (by kernel_rfl)
theorem equalD (x1 x2 y1 y2 : Int) (w : World) : (Op.equalIn 10000 31 (.agg #[.int .i64 x1, .int .i64 x2]) (.agg #[.int .i64 y1, .int .i64 y2])).run Try.prog w = .ok (decide ((x1, x2) = (y1, y2))) w := by
  rw [run_equalIn_agg w 9999 _ _ _ (by kernel_rfl) (by kernel_rfl)]
  by_cases h1 : x1 = y1
  · by_cases h2 : x2 = y2
    · simp [go_sem, Try.underlying31, Try.underlying3, h1, h2]
      done
    · simp [go_sem, Try.underlying31, Try.underlying3, h1, h2]
      done
  · simp [go_sem, Try.underlying31, Try.underlying3, h1]
    done
theorem eqlD (x1 x2 y1 y2 : Int) (b : Bool) (hb : decide ((x1, x2) = (y1, y2)) = b) (w : World) : Sem.run Try.prog (binOp .eql 31 (.agg #[.int .i64 x1, .int .i64 x2]) (.agg #[.int .i64 y1, .int .i64 y2])) w = .ok (.bool b) w := by
  rw [run_eql_struct, equalD, hb]; rfl
theorem neqD (x1 x2 y1 y2 : Int) (b : Bool) (hb : decide ((x1, x2) = (y1, y2)) = b) (w : World) : Sem.run Try.prog (binOp .neq 31 (.agg #[.int .i64 x1, .int .i64 x2]) (.agg #[.int .i64 y1, .int .i64 y2])) w = .ok (.bool (!b)) w := by
  rw [run_neq_struct, equalD, hb]; rfl
end Go.Proofs.Ytfpjdmplepepjaa
