/- The examples of chapter 13; what a step comes to in each state of a disk. -/
import Derived.Test.YtkhmelpbndfbdaaDiskB
namespace Go.Proofs.Ytkhmelpbndfbdaa
open Go.RowKit

theorem bKept {w a c : World} {b : Nat} (h : Below w.heap.size w a) (k : Kept b a c) (hb : w.heap.size ≤ b) : Below w.heap.size w c := h.trans (k.below hb h.size)
theorem bOld {w : World} (o : Obj) : Below w.heap.size w (w.alloc o) := (Below.refl _ _).alloc (Nat.le_refl _) _

theorem dsafe_any2 (b : Nat) (d : Dk) (w : World) (hd : IsDk w b d) :
    Calls Try.prog 15 #[.pointer (some ⟨b, 0, none⟩)] w fun e w' => e = .returned (.string d.safe) ∧ w' = w := (dsafe_any b d w hd).mono fun _ _ ⟨h, k⟩ => ⟨h, k.symm⟩

/-- A new disk. -/
def Dk.new (n : Int) : Dk := ⟨⟨#[]⟩, ⟨#[]⟩, n, 0, true, false, 0⟩

theorem dnew2_any (n : Int) (w : World) (h : 1 ≤ n) (h2 : n ≤ 67108864) :
    Calls Try.prog 10 #[.int .i64 n] w fun e w' => ∃ b, e = .returned (.pointer (some ⟨b, 0, none⟩)) ∧ w.heap.size ≤ b ∧ IsDk w' b (Dk.new n) ∧ Below w.heap.size w w' :=
  (dnew_any n w h h2).mono fun _ _ ⟨he, hw⟩ => ⟨w.heap.size, he, Nat.le_refl _, by rw [hw]; exact Blk.new _ _ _, by rw [hw]; exact bOld _⟩

section
variable (d : Dk) (s : ByteArray)
theorem append_free (h1 : d.on = true) (h2 : d.armed = false) (h3 : ¬ d.room < (d.safe.size : Int) + d.tail.size + s.size) : d.append s = ({ d with tail := d.tail ++ s, steps := d.steps + 1 }, 0) := by
  simp [Dk.append, Dk.step, h1, h2, h3]
theorem append_full (h1 : d.on = true) (h3 : d.room < (d.safe.size : Int) + d.tail.size + s.size) : d.append s = (d, 15) := by
  simp [Dk.append, Dk.step, h1, h3]
theorem append_off (h1 : d.on = false) : d.append s = (d, 14) := by simp [Dk.append, Dk.step, h1]
theorem append_lost (h1 : d.on = true) (h2 : d.armed = true) (h3 : ¬ d.room < (d.safe.size : Int) + d.tail.size + s.size) (h4 : d.left = 0) : d.append s = ({ d with tail := d.tail ++ s, on := false }, 14) := by
  simp [Dk.append, Dk.step, h1, h2, h3, h4]
theorem append_armed (h1 : d.on = true) (h2 : d.armed = true) (h3 : ¬ d.room < (d.safe.size : Int) + d.tail.size + s.size) (h4 : d.left ≠ 0) : d.append s = ({ d with tail := d.tail ++ s, left := d.left - 1, steps := d.steps + 1 }, 0) := by
  simp [Dk.append, Dk.step, h1, h2, h3, h4]
theorem sync_free (h1 : d.on = true) (h2 : d.armed = false) (h3 : 0 ≤ d.room) : d.sync = ({ d with safe := d.safe ++ d.tail, tail := ⟨#[]⟩, steps := d.steps + 1 }, 0) := by
  simp [Dk.sync, Dk.step, h1, h2, show ¬ d.room < 0 from by omega]
theorem sync_off (h1 : d.on = false) : d.sync = (d, 14) := by simp [Dk.sync, Dk.step, h1]
theorem sync_lost (h1 : d.on = true) (h2 : d.armed = true) (h3 : 0 ≤ d.room) (h4 : d.left = 0) : d.sync = ({ d with on := false }, 14) := by
  simp [Dk.sync, Dk.step, h1, h2, show ¬ d.room < 0 from by omega, h4]
theorem sync_armed (h1 : d.on = true) (h2 : d.armed = true) (h3 : 0 ≤ d.room) (h4 : d.left ≠ 0) : d.sync = ({ d with safe := d.safe ++ d.tail, tail := ⟨#[]⟩, left := d.left - 1, steps := d.steps + 1 }, 0) := by
  simp [Dk.sync, Dk.step, h1, h2, show ¬ d.room < 0 from by omega, h4]
theorem swap_free (h1 : d.on = true) (h2 : d.armed = false) (h3 : ¬ d.room < (s.size : Int)) : d.swap s = ({ d with safe := s, tail := ⟨#[]⟩, steps := d.steps + 1 }, 0) := by
  simp [Dk.swap, Dk.step, h1, h2, h3]
theorem swap_full (h1 : d.on = true) (h3 : d.room < (s.size : Int)) : d.swap s = (d, 15) := by
  simp [Dk.swap, Dk.step, h1, h3]
theorem swap_off (h1 : d.on = false) : d.swap s = (d, 14) := by simp [Dk.swap, Dk.step, h1]
theorem swap_lost (h1 : d.on = true) (h2 : d.armed = true) (h3 : ¬ d.room < (s.size : Int)) (h4 : d.left = 0) : d.swap s = ({ d with on := false }, 14) := by
  simp [Dk.swap, Dk.step, h1, h2, h3, h4]
end

set_option maxRecDepth 100000 in
set_option maxHeartbeats 1000000 in
theorem awake_any (w : World) :
    Calls Try.prog 9 #[] w fun e w' => e = .returned (.bool true) ∧ Below w.heap.size w w' := by
  have a1 : (Dk.new 100).append ⟨#[97, 98]⟩ = (⟨⟨#[]⟩, ⟨#[97, 98]⟩, 100, 1, true, false, 0⟩, 0) := by rfl
  have a2 : (⟨⟨#[]⟩, ⟨#[97, 98]⟩, 100, 1, true, false, 0⟩ : Dk).sync = (⟨⟨#[97, 98]⟩, ⟨#[]⟩, 100, 2, true, false, 0⟩, 0) := by rfl
  have a3 : (⟨⟨#[97, 98]⟩, ⟨#[]⟩, 100, 2, true, false, 0⟩ : Dk).append ⟨#[99, 100]⟩ = (⟨⟨#[97, 98]⟩, ⟨#[99, 100]⟩, 100, 3, true, false, 0⟩, 0) := by rfl
  have a4 : (⟨⟨#[97, 98]⟩, ⟨#[99, 100]⟩, 100, 3, true, false, 0⟩ : Dk).crash 1 = ⟨⟨#[97, 98, 99]⟩, ⟨#[]⟩, 100, 3, true, false, 0⟩ := by rfl
  have a5 : (⟨⟨#[97, 98, 99]⟩, ⟨#[]⟩, 100, 3, true, false, 0⟩ : Dk).arm 0 = ⟨⟨#[97, 98, 99]⟩, ⟨#[]⟩, 100, 3, true, true, 0⟩ := by rfl
  have a6 : (⟨⟨#[97, 98, 99]⟩, ⟨#[]⟩, 100, 3, true, true, 0⟩ : Dk).append ⟨#[120]⟩ = (⟨⟨#[97, 98, 99]⟩, ⟨#[120]⟩, 100, 3, false, true, 0⟩, 14) := by rfl
  have a7 : (⟨⟨#[97, 98, 99]⟩, ⟨#[120]⟩, 100, 3, false, true, 0⟩ : Dk).crash 9 = ⟨⟨#[97, 98, 99, 120]⟩, ⟨#[]⟩, 100, 3, true, false, 0⟩ := by rfl
  have e1 : ∀ l : List UInt8, (ByteArray.mk l.toArray).toList = l := ByteArray.toList_mk
  go_enter Try.func9, Try.ntmps9
  go_wp2_with fail
  refine (dnew2_any 100 _ (by decide) (by decide)).mono ?_; rintro e w1 ⟨b, rfl, hb, hd, hB⟩
  go_wp2_with fail
  refine (dappend_any b _ _ _ hd (by decide) (by decide) (by decide)).mono ?_; rintro e w2 ⟨rfl, hd, hk⟩
  rw [a1] at hd ⊢; replace hB := bKept hB hk hb; clear hk
  go_wp2_with fail
  refine (dsync_any b _ _ hd (by decide) (by decide) (by decide)).mono ?_; rintro e w3 ⟨rfl, hd, hk⟩
  rw [a2] at hd ⊢; replace hB := bKept hB hk hb; clear hk
  go_wp2_with fail
  refine (dappend_any b _ _ _ hd (by decide) (by decide) (by decide)).mono ?_; rintro e w4 ⟨rfl, hd, hk⟩
  rw [a3] at hd ⊢; replace hB := bKept hB hk hb; clear hk
  go_wp2_with fail
  refine (dcrash_any b _ _ _ hd (by decide)).mono ?_; rintro e w5 ⟨rfl, hd, hk⟩
  rw [a4] at hd; replace hB := bKept hB hk hb; clear hk
  go_wp2_with fail
  refine (dbytes_any b _ _ hd (by decide)).mono ?_; rintro e w6 ⟨rfl, n6, rfl⟩
  replace hd := hd.drewN n6
  replace hB : Below w.heap.size w (w5.drewN n6) := below_drewN hB n6
  rw [show (ByteArray.mk #[97, 98, 99] ++ ByteArray.mk #[]) = ByteArray.mk #[97, 98, 99] from rfl]
  go_wp2_with fail
  refine (darm_any b _ _ _ hd).mono ?_; rintro e w7 ⟨rfl, hd, hk⟩
  rw [a5] at hd; replace hB := bKept hB hk hb; clear hk
  go_wp2_with fail
  refine (dappend_any b _ _ _ hd (by decide) (by decide) (by decide)).mono ?_; rintro e w8 ⟨rfl, hd, hk⟩
  rw [a6] at hd ⊢; replace hB := bKept hB hk hb; clear hk
  go_wp2_with fail
  refine (dcrash_any b _ _ _ hd (by decide)).mono ?_; rintro e w9 ⟨rfl, hd, hk⟩
  rw [a7] at hd; replace hB := bKept hB hk hb; clear hk
  go_wp2_with fail
  refine (dbytes_any b _ _ hd (by decide)).mono ?_; rintro e w10 ⟨rfl, n10, rfl⟩
  rw [show (ByteArray.mk #[97, 98, 99, 120] ++ ByteArray.mk #[]) = ByteArray.mk #[97, 98, 99, 120] from rfl]
  go_wp2_with fail
  go_ret
  exact ⟨rfl, below_drewN hB _⟩

end Go.Proofs.Ytkhmelpbndfbdaa
