/- A new disk; what a step comes to in each state of a disk. -/
import Derived.Test.YtkglfnjgneofdaaDoorDiskB
namespace Go.Proofs.YtkglfnjgneofdaaDoor
open Go.RowKit

theorem bKept {w a c : World} {b : Nat} (h : Below w.heap.size w a) (k : Kept b a c) (hb : w.heap.size ≤ b) : Below w.heap.size w c := h.trans (k.below hb h.size)
theorem bOld {w : World} (o : Obj) : Below w.heap.size w (w.alloc o) := (Below.refl _ _).alloc (Nat.le_refl _) _

theorem dsafe_any2 (b : Nat) (d : Dk) (w : World) (hd : IsDk w b d) :
    Calls Tryd.prog 23 #[.pointer (some ⟨b, 0, none⟩)] w fun e w' => e = .returned (.string d.safe) ∧ w' = w := (dsafe_any b d w hd).mono fun _ _ ⟨h, k⟩ => ⟨h, k.symm⟩

/-- A new disk. -/
def Dk.new (n : Int) : Dk := ⟨⟨#[]⟩, ⟨#[]⟩, n, 0, true, false, 0⟩

theorem dnew2_any (n : Int) (w : World) (h : 1 ≤ n) (h2 : n ≤ 67108864) :
    Calls Tryd.prog 14 #[.int .i64 n] w fun e w' => ∃ b, e = .returned (.pointer (some ⟨b, 0, none⟩)) ∧ w.heap.size ≤ b ∧ IsDk w' b (Dk.new n) ∧ Below w.heap.size w w' :=
  (dnew_any n w h h2).mono fun _ _ ⟨he, hw⟩ => ⟨w.heap.size, he, Nat.le_refl _, by rw [hw]; exact Blk.new _ _ _, by rw [hw]; exact bOld _⟩

section
variable (d : Dk) (s : ByteArray)
theorem append_free (h1 : d.on = true) (h2 : d.armed = false) (h3 : ¬ d.room < (d.safe.size : Int) + d.tail.size + s.size) : d.append s = ({ d with tail := d.tail ++ s, steps := d.steps + 1 }, 0) := by
  simp [Dk.append, Dk.step, h1, h2, h3]
theorem append_full (h1 : d.on = true) (h3 : d.room < (d.safe.size : Int) + d.tail.size + s.size) : d.append s = (d, 15) := by
  simp [Dk.append, Dk.step, h1, h3]
theorem append_off (h1 : d.on = false) : d.append s = (d, 14) := by simp [Dk.append, Dk.step, h1]
theorem append_lost (h1 : d.on = true) (h2 : d.armed = true) (h3 : ¬ d.room < (d.safe.size : Int) + d.tail.size + s.size) (h4 : d.left = 0) : d.append s = ({ d with tail := d.tail ++ s, on := false }, 14) := by
  simp [Dk.append, Dk.step, h1, h2, h3, h4]
theorem append_armed (h1 : d.on = true) (h2 : d.armed = true) (h3 : ¬ d.room < (d.safe.size : Int) + d.tail.size + s.size) (h4 : d.left ≠ 0) : d.append s = ({ d with tail := d.tail ++ s, left := d.left - 1, steps := d.steps + 1 }, 0) := by
  simp [Dk.append, Dk.step, h1, h2, h3, h4]
theorem sync_free (h1 : d.on = true) (h2 : d.armed = false) (h3 : 0 ≤ d.room) : d.sync = ({ d with safe := d.safe ++ d.tail, tail := ⟨#[]⟩, steps := d.steps + 1 }, 0) := by
  simp [Dk.sync, Dk.step, h1, h2, show ¬ d.room < 0 from by omega]
theorem sync_off (h1 : d.on = false) : d.sync = (d, 14) := by simp [Dk.sync, Dk.step, h1]
theorem sync_lost (h1 : d.on = true) (h2 : d.armed = true) (h3 : 0 ≤ d.room) (h4 : d.left = 0) : d.sync = ({ d with on := false }, 14) := by
  simp [Dk.sync, Dk.step, h1, h2, show ¬ d.room < 0 from by omega, h4]
theorem sync_armed (h1 : d.on = true) (h2 : d.armed = true) (h3 : 0 ≤ d.room) (h4 : d.left ≠ 0) : d.sync = ({ d with safe := d.safe ++ d.tail, tail := ⟨#[]⟩, left := d.left - 1, steps := d.steps + 1 }, 0) := by
  simp [Dk.sync, Dk.step, h1, h2, show ¬ d.room < 0 from by omega, h4]
theorem swap_free (h1 : d.on = true) (h2 : d.armed = false) (h3 : ¬ d.room < (s.size : Int)) : d.swap s = ({ d with safe := s, tail := ⟨#[]⟩, steps := d.steps + 1 }, 0) := by
  simp [Dk.swap, Dk.step, h1, h2, h3]
theorem swap_full (h1 : d.on = true) (h3 : d.room < (s.size : Int)) : d.swap s = (d, 15) := by
  simp [Dk.swap, Dk.step, h1, h3]
theorem swap_off (h1 : d.on = false) : d.swap s = (d, 14) := by simp [Dk.swap, Dk.step, h1]
theorem swap_lost (h1 : d.on = true) (h2 : d.armed = true) (h3 : ¬ d.room < (s.size : Int)) (h4 : d.left = 0) : d.swap s = ({ d with on := false }, 14) := by
  simp [Dk.swap, Dk.step, h1, h2, h3, h4]
end

end Go.Proofs.YtkglfnjgneofdaaDoor
