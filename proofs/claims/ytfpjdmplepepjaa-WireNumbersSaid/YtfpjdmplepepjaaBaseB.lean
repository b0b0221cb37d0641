/- Rows of bytes that are made, and made texts of. -/
import Derived.Test.YtfpjdmplepepjaaBase
namespace Go.Proofs.Ytfpjdmplepepjaa
open Go.RowKit

/-- 'make([]byte, m)'. -/
theorem infoByte : (Try.prog.info? 5).map (fun i => (i.zero, i.size, i.bytes)) = some (some (.int .u8 0), 1, 1) := by kernel_rfl
theorem make_bytes (m : Nat) (h : m ≤ 281474976710656) (w : World) :
    (Instr.makeSlice 36 (.int .i64 (m : Int)) (.int .i64 (m : Int))).run Try.prog w = .ok (.slice (some ⟨w.heap.size, 0, none⟩) m m) (w.alloc (.cells (madeCells #[.int .u8 0] m) 5)) := by
  obtain ⟨i0, hi, hz0, hz1, hz2⟩ := info_parts infoByte
  have h := run_make (P := Try.prog) w 36 5 i0 (.int .u8 0) Try.underlying36 hi hz0 .i64 .i64 (m : Int) (m : Int) (by omega) (Int.le_refl _) (by rw [hz2]; omega) (by omega)
  simpa [hz1, Value.cells] using h

/-- 'string([]byte{x})'. -/
theorem conv_byte (x : Int) (b : UInt8) (hx : x = (b.toNat : Int)) (w : World) :
    (convert 36 9 (.slice (some ⟨w.heap.size, 0, none⟩) 1 1)).run Try.prog (w.alloc (.cells #[.int .u8 x] 5)) = .ok (.string (ofL [b])) (w.alloc (.cells #[.int .u8 x] 5)) := by
  subst hx
  exact conv_new w _ _ _ _ Try.underlying36 Try.underlying5 Try.underlying9 1 1 [b] _ rfl rfl

end Go.Proofs.Ytfpjdmplepepjaa
