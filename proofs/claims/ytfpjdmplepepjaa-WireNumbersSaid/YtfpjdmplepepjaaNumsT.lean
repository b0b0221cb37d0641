/- What a reader that is torn reads. -/
import Derived.Test.YtfpjdmplepepjaaReaderT
namespace Go.Proofs.Ytfpjdmplepepjaa
open Go.RowKit

theorem Rd.int_torn (L : ByteArray) (m : Int) : (Rd.mk L true).int m = (⟨L, true⟩, 0) := by
  unfold Rd.int
  split <;> rfl
theorem Rd.text_torn (L : ByteArray) (m : Int) : (Rd.mk L true).text m = (⟨L, true⟩, ⟨#[]⟩) := by
  rw [Rd.text, Rd.int_torn, if_pos (Or.inl rfl)]

set_option maxRecDepth 100000 in
set_option maxHeartbeats 1000000 in
theorem rnums_torn (b : Nat) (L : ByteArray) (many most : Int) (w : World) (hr : IsRd w b ⟨L, true⟩) (hs : L.size ≤ 4611686018427387904) (hm : many ≤ 9223372036854775807) :
    Calls Try.prog 37 #[.pointer (some ⟨b, 0, none⟩), .int .i64 many, .int .i64 most] w fun e w' => e = .returned (.slice none 0 0) ∧ IsRd w' b ⟨L, true⟩ ∧ Kept b w w' := by
  have R0 := Lib.hid (Rd.int_torn L many)
  go_enter Try.func37, Try.ntmps37
  go_wp2_with fail
  refine (rint_any b ⟨L, true⟩ many _ (((hr.alloc _).alloc _).alloc _) hs hm).mono ?_; rintro e w1 ⟨rfl, h1, hk⟩
  rw [R0.out] at h1 ⊢
  have hbl := hr.lt
  have cO : w1.cell? ⟨w.heap.size + 1 + 1, 0, none⟩ = some (.slice none 0 0) := by
    have := (hk.blk (Blk.new _ _ _) (by simp; omega)).cell 0
    simpa using this
  replace hk := (((Kept.refl b w).alloc _).alloc _).alloc _ |>.trans hk
  go_wp2_with fail
  go_loop [13] (fun i => i = .int .i64 0) (fun _ => 0)
  case atStart => rfl
  case round =>
    obtain rfl := hrel
    go_wp2_with fail
    go_ret
    exact ⟨rfl, h1, hk⟩

end Go.Proofs.Ytfpjdmplepepjaa
