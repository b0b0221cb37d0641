/- May a peer be? -/
import Derived.Test.YtpolhdkjkidpgaaVw
import Derived.Test.YtpolhdkjkidpgaaViewLater
namespace Go.Proofs.Ytpolhdkjkidpgaa
open Go.RowKit Go.Shelf Go.Lib Go.Sort

set_option maxRecDepth 100000 in
set_option maxHeartbeats 400000 in
theorem within_any (n l m : Int) (w : World) :
    Calls Try.prog 65 #[.int .i64 n, .int .i64 l, .int .i64 m] w fun e w' => e = .returned (.bool (decide (l ≤ n ∧ n ≤ m))) ∧ w' = w := by
  by_cases h1 : l ≤ n
  · have g1 : n ≥ l := h1
    obtain ⟨B, hB⟩ := nm (decide (n ≤ m))
    have hE : Hid (decide (l ≤ n ∧ n ≤ m) = B) := by show _ = _; rw [hB.out]; exact decide_eq_decide.2 ⟨fun h => h.2, fun h => ⟨h1, h⟩⟩
    rw [hE.out]
    have hb := hB.out.symm
    go_enter Try.func65, Try.ntmps65
    go_wp2_with fail
    go_ret
    exact ⟨rfl, rfl⟩
  · have hE : decide (l ≤ n ∧ n ≤ m) = false := decide_eq_false fun h => h1 h.1
    rw [hE]
    go_enter Try.func65, Try.ntmps65
    go_wp2_with fail
    go_ret
    exact ⟨rfl, rfl⟩

set_option maxRecDepth 100000 in
set_option maxHeartbeats 1000000 in
theorem may_any (x y z : Int) (w : World) :
    Calls Try.prog 42 #[.agg #[.int .i64 x, .int .i64 y, .int .i64 z]] w fun e w' => e = .returned (.bool (mayP (x, y, z))) ∧ w' = w.alloc (.cells #[.int .i64 x, .int .i64 y, .int .i64 z] 32) := by
  obtain ⟨b1, h1⟩ := nm (decide (1 ≤ x ∧ x ≤ 1099511627776))
  obtain ⟨b2, h2⟩ := nm (decide (0 ≤ y ∧ y ≤ 1073741824))
  obtain ⟨b3, h3⟩ := nm (decide (0 ≤ z ∧ z ≤ 2))
  have hE : mayP (x, y, z) = (b1 && (b2 && b3)) := by unfold mayP; rw [h1.out, h2.out, h3.out]
  have H1 : Hid (∀ w, Calls Try.prog 65 #[.int .i64 x, .int .i64 1, .int .i64 1099511627776] w fun e w' => e = .returned (.bool b1) ∧ w' = w) := by intro w; rw [h1.out]; exact within_any _ _ _ w
  have H2 : Hid (∀ w, Calls Try.prog 65 #[.int .i64 y, .int .i64 0, .int .i64 1073741824] w fun e w' => e = .returned (.bool b2) ∧ w' = w) := by intro w; rw [h2.out]; exact within_any _ _ _ w
  have H3 : Hid (∀ w, Calls Try.prog 65 #[.int .i64 z, .int .i64 0, .int .i64 2] w fun e w' => e = .returned (.bool b3) ∧ w' = w) := by intro w; rw [h3.out]; exact within_any _ _ _ w
  rw [hE]
  clear hE h1 h2 h3
  cases b1
  · go_enter Try.func42, Try.ntmps42
    go_wp2_with (go_at_call 65; first | (with_reducible (refine (H1.out _).mono ?_); rintro e w2 ⟨rfl, rfl⟩))
    go_ret
    exact ⟨rfl, rfl⟩
  · cases b2
    · go_enter Try.func42, Try.ntmps42
      go_wp2_with (go_at_call 65; first | (with_reducible (refine (H1.out _).mono ?_); rintro e w2 ⟨rfl, rfl⟩) | (with_reducible (refine (H2.out _).mono ?_); rintro e w2 ⟨rfl, rfl⟩))
      go_ret
      exact ⟨rfl, rfl⟩
    · go_enter Try.func42, Try.ntmps42
      go_wp2_with (go_at_call 65; first | (with_reducible (refine (H1.out _).mono ?_); rintro e w2 ⟨rfl, rfl⟩) | (with_reducible (refine (H2.out _).mono ?_); rintro e w2 ⟨rfl, rfl⟩) | (with_reducible (refine (H3.out _).mono ?_); rintro e w2 ⟨rfl, rfl⟩))
      go_ret
      exact ⟨rfl, rfl⟩
end Go.Proofs.Ytpolhdkjkidpgaa
