/- The examples of chapter 1. -/
import Derived.Test.YtnahdhhojjicjaaReaderB
namespace Go.Proofs.Ytnahdhhojjicjaa
open Go.RowKit

theorem bKept {w a c : World} {b : Nat} (h : Below w.heap.size w a) (k : Kept b a c) (hb : w.heap.size ≤ b) : Below w.heap.size w c := h.trans (k.below hb h.size)
theorem bOld {w : World} (o : Obj) : Below w.heap.size w (w.alloc o) := (Below.refl _ _).alloc (Nat.le_refl _) _

theorem read2_any (s : ByteArray) (w : World) :
    Calls Try.prog 22 #[.string s] w fun e w' => ∃ b, e = .returned (.pointer (some ⟨b, 0, none⟩)) ∧ w.heap.size ≤ b ∧ IsRd w' b ⟨s, false⟩ ∧ Below w.heap.size w w' :=
  (read_any s w).mono fun _ _ ⟨he, hw⟩ => ⟨w.heap.size, he, Nat.le_refl _, by rw [hw]; exact Blk.new _ _ _, by rw [hw]; exact bOld _⟩

theorem num_is (n : Nat) (t : ByteArray) (h : ofL (Pl.num n) = t) (w : World) (hn : n < 18446744073709551616) :
    Calls Try.prog 11 #[.int .u64 n] w fun e w' => e = .returned (.string t) ∧ Below w.heap.size w w' := by subst h; exact num_any n w hn

set_option maxRecDepth 100000 in
set_option maxHeartbeats 1000000 in
theorem awake_any (w : World) :
    Calls Try.prog 10 #[] w fun e w' => e = .returned (.bool true) ∧ Below w.heap.size w w' := by
  have n0 : ofL (Pl.num 0) = ⟨#[0]⟩ := by kernel_rfl
  have n300 : ofL (Pl.num 300) = ⟨#[130, 44]⟩ := by kernel_rfl
  have r0 : (Rd.mk ⟨#[128, 1]⟩ false).num = (⟨⟨#[128, 1]⟩, true⟩, 0) := by kernel_rfl
  have N0 := Lib.hid n0
  have N300 := Lib.hid n300
  have R0 := Lib.hid r0
  clear n0 n300 r0
  have e1 : ∀ l : List UInt8, (ByteArray.mk l.toArray).toList = l := ByteArray.toList_mk
  go_enter Try.func10, Try.ntmps10
  go_wp2_with fail
  refine (read2_any _ _).mono ?_; rintro e w1 ⟨b, rfl, hb, hr, hB⟩
  go_wp2_with fail
  refine (rnum_any b _ _ hr (by decide)).mono ?_; rintro e w2 ⟨rfl, hr, hk⟩
  rw [R0.out] at hr ⊢
  replace hB := bKept hB hk hb
  clear hk
  go_wp2_with fail
  refine (num_is 0 _ N0.out _ (by decide)).mono ?_; rintro e w3 ⟨rfl, hB3⟩
  go_wp2_with fail
  refine (num_is 300 _ N300.out _ (by decide)).mono ?_; rintro e w4 ⟨rfl, hB4⟩
  go_wp2_with fail
  refine (rend_any b _ _ (Blk.below (Blk.below hr hB3 hr.lt) hB4 ?_)).mono ?_
  · exact Nat.lt_of_lt_of_le hr.lt hB3.size
  rintro e w5 ⟨rfl, rfl⟩
  go_wp2_with fail
  go_ret
  exact ⟨rfl, bNext (bNext hB hB3) hB4⟩

end Go.Proofs.Ytnahdhhojjicjaa
