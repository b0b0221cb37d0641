/- Two spots, compared. -/
import Derived.Test.YtpolhdkjkidpgaaBase
import Derived.Test.YtpolhdkjkidpgaaBlk
import Derived.BigQuiet
import Derived.Deep.QuietTactic
import Derived.StillTailTactics
import Derived.Lib.Small
import Derived.Test.YtpolhdkjkidpgaaCmpShelf
import Derived.Sort.Grow
import Derived.Test.YtpolhdkjkidpgaaPlainD
namespace Go.Proofs.Ytpolhdkjkidpgaa
open Go.RowKit Go.Sort

theorem bKept {w a c : World} {b : Nat} (h : Below w.heap.size w a) (k : Kept b a c) (hb : w.heap.size ≤ b) : Below w.heap.size w c := h.trans (k.below hb h.size)
theorem bOld {w : World} (o : Obj) : Below w.heap.size w (w.alloc o) := (Below.refl _ _).alloc (Nat.le_refl _) _
theorem cmpint_any (x y : Int) (w : World) :
    Calls Try.prog 39 #[.int .i64 x, .int .i64 y] w fun e w' => e = .returned (.int .i64 (Lib.compareInt x y)) ∧ w' = w := AnyG.cmp_Compare_int Try.cmpInt x y w
set_option maxRecDepth 100000 in
set_option maxHeartbeats 400000 in
/-- cmp.Or of two numbers that lie in a row. -/
theorem or2_any (b : Nat) (x y z : Int) (hz : z = if x = 0 then y else x) (w : World) (h0 : w.cell? ⟨b, 0, none⟩ = some (.int .i64 x)) (h1 : w.cell? ⟨b, 1, none⟩ = some (.int .i64 y)) :
    Calls Try.prog 69 #[.slice (some ⟨b, 0, none⟩) 2 2] w fun e w' => e = .returned (.int .i64 z) ∧ w = w' := by
  by_cases hx : x = 0
  · rw [if_pos hx] at hz
    subst hx hz
    by_cases hy : z = 0
    · subst hy
      go_enter Try.func69, Try.ntmps69
      go_wp2_with fail
      refine wp_loop_rounds 3 ?_
      rw [rounds_succ]
      go_wp2_with fail
      rw [rounds_succ]
      go_wp2_with fail
      rw [rounds_succ]
      go_wp2_with fail
      go_ret
      exact ⟨rfl, rfl⟩
    · have hne : (z != 0) = true := by simpa using hy
      go_enter Try.func69, Try.ntmps69
      go_wp2_with fail
      refine wp_loop_rounds 3 ?_
      rw [rounds_succ]
      go_wp2_with fail
      rw [rounds_succ]
      go_wp2_with fail
      go_ret
      exact ⟨rfl, rfl⟩
  · rw [if_neg hx] at hz
    subst hz
    have hne : (z != 0) = true := by simpa using hx
    go_enter Try.func69, Try.ntmps69
    go_wp2_with fail
    refine wp_loop_rounds 3 ?_
    rw [rounds_succ]
    go_wp2_with fail
    go_ret
    exact ⟨rfl, rfl⟩
theorem wOne (b : Nat) (x y : Int) (hb : b = 0 ∨ b = 1) : (#[Value.int .i64 x, Value.int .i64 y] : Array Value)[b]? = some (.int .i64 (if b = 0 then x else y)) := by
  rcases hb with rfl | rfl <;> rfl
theorem cmpint_is (x y A : Int) (hA : Hid (A = Lib.compareInt x y)) (w : World) :
    Calls Try.prog 39 #[.int .i64 x, .int .i64 y] w fun e w' => e = .returned (.int .i64 A) ∧ w' = w := by rw [hA.out]; exact cmpint_any x y w
theorem or2_is (A B C : Int) (hC : Hid (C = if A = 0 then B else A)) (T : TypeId) (w w0 : World) (h : w = w0.alloc (.cells #[.int .i64 A, .int .i64 B] T)) :
    Calls Try.prog 69 #[.slice (some ⟨w0.heap.size, 0, none⟩) 2 2] w fun e w' => e = .returned (.int .i64 C) ∧ w = w' := by
  subst h
  exact or2_any _ A B C hC.out _ ((Blk.new w0 _ T).cell 0) ((Blk.new w0 _ T).cell 1)
set_option maxRecDepth 100000 in
set_option maxHeartbeats 400000 in
theorem compare_any (x y : Int × Int) (w : World) :
    Calls Try.prog 68 #[.agg #[.int .i64 x.1, .int .i64 x.2], .agg #[.int .i64 y.1, .int .i64 y.2]] w fun e w' => e = .returned (.int .i64 (if Lib.compareInt x.1 y.1 = 0 then Lib.compareInt x.2 y.2 else Lib.compareInt x.1 y.1)) ∧ ∃ q os', w' = grow (w.drewN q) os' := by
  obtain ⟨x1, x2⟩ := x
  obtain ⟨y1, y2⟩ := y
  simp only
  obtain ⟨A, hA⟩ := nm (Lib.compareInt x1 y1)
  obtain ⟨B, hB⟩ := nm (Lib.compareInt x2 y2)
  obtain ⟨C, hC⟩ := nm (if A = 0 then B else A)
  rw [← hA.out, ← hB.out, ← hC.out]
  go_enter Try.func68, Try.ntmps68
  go_wp2_with fail
  refine wp_region_still_tail 10 (by kernel_rfl) (by kernel_rfl) ?_
  simp only [List.take_succ_cons, List.take_zero, List.drop_succ_cons, List.drop_zero]
  change wpStill _ _ (World.drew _) (fun a' => wpList _ _ _ _ a' (World.drew _)) _ _
  still_step
  still_step
  still_step
  still_step
  still_call (cmpint_is x1 y1 A hA _)
  still_step
  still_step
  still_step
  still_step
  still_call (cmpint_is x2 y2 B hB _)
  refine wpStill_nil ?_
  generalize hw1 : ((w.alloc (Obj.cells #[Value.int IntKind.i64 x1, Value.int IntKind.i64 x2] 66)).alloc (Obj.cells #[Value.int IntKind.i64 y1, Value.int IntKind.i64 y2] 66)).drew = w1
  have HW := Lib.hid hw1
  clear hw1
  go_wp2_with fail
  refine (or2_is A B C hC 3 _ _ rfl).mono ?_; rintro e w2 ⟨rfl, rfl⟩
  go_wp2_with fail
  go_ret
  refine ⟨rfl, 1, #[.cells #[.int .i64 x1, .int .i64 x2] 66, .cells #[.int .i64 y1, .int .i64 y2] 66, .cells #[.int .i64 A, .int .i64 B] 3], ?_⟩
  rw [← HW.out]
  simp only [alloc_eq_grow, drew_grow, grow_grow]
  rfl
theorem below_grow {w : World} (q : Nat) (os : Array Obj) : Below w.heap.size w (grow (w.drewN q) os) :=
  ⟨rfl, rfl, rfl, by rw [size_grow]; exact Nat.le_add_right _ _, fun k hk => heap_grow_old _ _ hk⟩
end Go.Proofs.Ytpolhdkjkidpgaa
