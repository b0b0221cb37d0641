/- Texts as bytes: the walks of layer mint's Text and the document's. -/
import Derived.Test.YtfpjdmplepepjaaMint
namespace Go.Proofs.Ytfpjdmplepepjaa
open Go.RowKit

/-- The bytes of a text. -/
def textL (l : List UInt8) : List UInt8 := Pl.num l.length ++ l

set_option maxHeartbeats 400000 in
theorem text_any (s : ByteArray) (w : World) (hs : s.size ≤ 4611686018427387904) :
    Calls Try.prog 22 #[.string s] w fun e w' => e = .returned (.string (ofL (textL (bl s)))) ∧ Below w.heap.size w w' := by
  have hsz : (ofL (Pl.num s.size)).size ≤ 10 := by rw [ofL_size]; exact Pl.num_length_le _ (by omega)
  have hfin : Hid (ofL (Pl.num s.size) ++ s = ofL (textL (bl s))) := by
    show _ = _
    unfold textL
    rw [bl_length, ← ofL_append]; rfl
  go_enter Try.func22, Try.ntmps22
  go_wp2_with (go_at_call 57; refine (num_any _ _ (by omega)).mono ?_; rintro e w' ⟨rfl, hb⟩)
  go_ret
  exact ⟨by rw [hfin.out]; rfl, hb⟩


set_option maxHeartbeats 400000 in
theorem reftext_any (s : ByteArray) (w : World) (hs : s.size ≤ 4611686018427387904) :
    Calls Try.prog 61 #[.string s] w fun e w' => e = .returned (.string (ofL (textL (bl s)))) ∧ Below w.heap.size w w' := by
  have hsz : (ofL (Pl.num s.size)).size ≤ 10 := by rw [ofL_size]; exact Pl.num_length_le _ (by omega)
  have hfin : Hid (ofL (Pl.num s.size) ++ s = ofL (textL (bl s))) := by
    show _ = _
    unfold textL
    rw [bl_length, ← ofL_append]; rfl
  go_enter Try.func61, Try.ntmps61
  go_wp2_with (go_at_call 94; refine (refnum_any _ _ (by omega)).mono ?_; rintro e w' ⟨rfl, hb⟩)
  go_ret
  exact ⟨by rw [hfin.out]; rfl, hb⟩

end Go.Proofs.Ytfpjdmplepepjaa
