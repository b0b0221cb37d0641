/- Wire's numbers and Check, of what has no lists. -/
import Derived.Test.YtfpjdmplepepjaaWireEmptyC
import Derived.Test.YtfpjdmplepepjaaPairEq
namespace Go.Proofs.Ytfpjdmplepepjaa
open Go.RowKit

theorem infoNine : (Try.prog.info? 54).map (·.size) = some 9 := by kernel_rfl
set_option maxRecDepth 100000 in
set_option maxHeartbeats 8000000 in
theorem numbers_any (k f s p fl d0 d1 rc lg : Int) (w : World) :
    Calls Try.prog 20 #[.agg #[.int .i64 k, .int .i64 f, .int .i64 s, .int .i64 p, .int .i64 fl, .string ⟨#[]⟩, .slice none 0 0, .slice none 0 0, .slice none 0 0, .slice none 0 0, .slice none 0 0, .int .i64 d0, .int .i64 d1, .int .i64 rc, .int .i64 lg]] w fun e w' => e = .returned (.agg #[.int .i64 k, .int .i64 f, .int .i64 s, .int .i64 p, .int .i64 fl, .int .i64 d0, .int .i64 d1, .int .i64 rc, .int .i64 lg]) ∧ Below w.heap.size w w' := by
  go_enter Try.func20, Try.ntmps20
  go_wp2_with fail
  refine bodyPost_ret (results_cell_row rfl _ _ (w.heap.size + 1) 54 #[.int .i64 k, .int .i64 f, .int .i64 s, .int .i64 p, .int .i64 fl, .int .i64 d0, .int .i64 d1, .int .i64 rc, .int .i64 lg] (0, 0) _ rfl (blk_at (by simp)) Try.underlying54 rfl infoNine) rfl ?_
  exact ⟨rfl, bNew (bOld _) _⟩

set_option maxRecDepth 100000 in
set_option maxHeartbeats 8000000 in
theorem within_t (n l m : Int) (w : World) (h1 : l ≤ n) (h2 : n ≤ m) :
    Calls Try.prog 27 #[.int .i64 n, .int .i64 l, .int .i64 m] w fun e w' => e = .returned (.bool true) ∧ w = w' := by
  have g1 : n ≥ l := h1
  go_enter Try.func27, Try.ntmps27
  go_wp2_with fail
  go_ret
  exact ⟨rfl, rfl⟩
set_option maxRecDepth 100000 in
set_option maxHeartbeats 8000000 in
theorem within_f (n l m : Int) (w : World) (h1 : ¬ l ≤ n) :
    Calls Try.prog 27 #[.int .i64 n, .int .i64 l, .int .i64 m] w fun e w' => e = .returned (.bool false) ∧ w = w' := by
  have g1 : decide (n ≥ l) = false := decide_eq_false h1
  go_enter Try.func27, Try.ntmps27
  go_wp2_with fail
  go_ret
  exact ⟨rfl, rfl⟩
set_option maxRecDepth 100000 in
set_option maxHeartbeats 8000000 in
theorem dotin_t (n : Int) (w : World) (h1 : 1 ≤ n) (h2 : n ≤ 1099511627776) :
    Calls Try.prog 65 #[.int .i64 n] w fun e w' => e = .returned (.bool true) ∧ w = w' := by
  have g1 : n ≥ 1 := h1
  go_enter Try.func65, Try.ntmps65
  go_wp2_with fail
  go_ret
  exact ⟨rfl, rfl⟩
set_option maxRecDepth 100000 in
set_option maxHeartbeats 8000000 in
theorem dotck_t (n m : Int) (w : World) (h1 : 1 ≤ n) (h2 : n ≤ 1099511627776) (h3 : 1 ≤ m) (h4 : m ≤ 1099511627776) :
    Calls Try.prog 28 #[.agg #[.int .i64 n, .int .i64 m]] w fun e w' => e = .returned (.bool true) ∧ w' = w.alloc (.cells #[.int .i64 n, .int .i64 m] 31) := by
  have H1 : Hid (∀ w, Calls Try.prog 65 #[.int .i64 n] w fun e w' => e = .returned (.bool true) ∧ w = w') := fun w => dotin_t n w h1 h2
  have H2 : Hid (∀ w, Calls Try.prog 65 #[.int .i64 m] w fun e w' => e = .returned (.bool true) ∧ w = w') := fun w => dotin_t m w h3 h4
  go_enter Try.func28, Try.ntmps28
  go_wp2_with (go_at_call 65; first | (with_reducible (refine (H1.out _).mono ?_); rintro e w2 ⟨rfl, rfl⟩) | (with_reducible (refine (H2.out _).mono ?_); rintro e w2 ⟨rfl, rfl⟩))
  go_ret
  exact ⟨rfl, rfl⟩

set_option maxRecDepth 100000 in
set_option maxHeartbeats 8000000 in
theorem check_ok (k f s p fl d0 d1 rc lg : Int) (h : 1 ≤ k ∧ k ≤ 8 ∧ 1 ≤ f ∧ f ≤ 1099511627776 ∧ 0 ≤ s ∧ s ≤ 1099511627776 ∧ 0 ≤ p ∧ p ≤ 15 ∧ 0 ≤ fl ∧ fl ≤ 1 ∧ 0 ≤ rc ∧ rc ≤ 1099511627776 ∧ 0 ≤ lg ∧ lg ≤ 1073741824) (hd : d0 = 0 ∧ d1 = 0 ∨ (1 ≤ d0 ∧ d0 ≤ 1099511627776) ∧ 1 ≤ d1 ∧ d1 ≤ 1099511627776) (w : World) :
    Calls Try.prog 12 #[.agg #[.int .i64 k, .int .i64 f, .int .i64 s, .int .i64 p, .int .i64 fl, .string ⟨#[]⟩, .slice none 0 0, .slice none 0 0, .slice none 0 0, .slice none 0 0, .slice none 0 0, .int .i64 d0, .int .i64 d1, .int .i64 rc, .int .i64 lg]] w fun e w' => e = .returned (.int .i64 0) ∧ Below w.heap.size w w' := by
  have HK : Hid (∀ w, Calls Try.prog 27 #[.int .i64 k, .int .i64 1, .int .i64 8] w fun e w' => e = .returned (.bool true) ∧ w = w') := fun w => within_t k 1 8 w (by omega) (by omega)
  have HF : Hid (∀ w, Calls Try.prog 27 #[.int .i64 f, .int .i64 1, .int .i64 1099511627776] w fun e w' => e = .returned (.bool true) ∧ w = w') := fun w => within_t f 1 1099511627776 w (by omega) (by omega)
  have HS : Hid (∀ w, Calls Try.prog 27 #[.int .i64 s, .int .i64 0, .int .i64 1099511627776] w fun e w' => e = .returned (.bool true) ∧ w = w') := fun w => within_t s 0 1099511627776 w (by omega) (by omega)
  have HP : Hid (∀ w, Calls Try.prog 27 #[.int .i64 p, .int .i64 0, .int .i64 15] w fun e w' => e = .returned (.bool true) ∧ w = w') := fun w => within_t p 0 15 w (by omega) (by omega)
  have HL : Hid (∀ w, Calls Try.prog 27 #[.int .i64 fl, .int .i64 0, .int .i64 1] w fun e w' => e = .returned (.bool true) ∧ w = w') := fun w => within_t fl 0 1 w (by omega) (by omega)
  have HR : Hid (∀ w, Calls Try.prog 27 #[.int .i64 rc, .int .i64 0, .int .i64 1099511627776] w fun e w' => e = .returned (.bool true) ∧ w = w') := fun w => within_t rc 0 1099511627776 w (by omega) (by omega)
  have HG : Hid (∀ w, Calls Try.prog 27 #[.int .i64 lg, .int .i64 0, .int .i64 1073741824] w fun e w' => e = .returned (.bool true) ∧ w = w') := fun w => within_t lg 0 1073741824 w (by omega) (by omega)
  obtain ⟨w0, hw0⟩ := nm (w.alloc (.cells #[.int .i64 k, .int .i64 f, .int .i64 s, .int .i64 p, .int .i64 fl, .string ⟨#[]⟩, .slice none 0 0, .slice none 0 0, .slice none 0 0, .slice none 0 0, .slice none 0 0, .int .i64 d0, .int .i64 d1, .int .i64 rc, .int .i64 lg] 33))
  obtain ⟨x, hx⟩ := nm w.heap.size
  have Kx : Hid (Blk w0 x #[.int .i64 k, .int .i64 f, .int .i64 s, .int .i64 p, .int .i64 fl, .string ⟨#[]⟩, .slice none 0 0, .slice none 0 0, .slice none 0 0, .slice none 0 0, .slice none 0 0, .int .i64 d0, .int .i64 d1, .int .i64 rc, .int .i64 lg] 33) := by show Blk _ _ _ _; rw [hw0.out, hx.out]; exact Blk.new _ _ _
  have HB0 : Hid (Below w.heap.size w w0) := by rw [hw0.out]; exact bOld _
  clear h
  rcases hd with ⟨rfl, rfl⟩ | ⟨⟨g1, g2⟩, g3, g4⟩
  · have heq := fun w => eqlD 0 0 0 0 true (by simp) w
    have hgd := fun (a b : Operand) (w : World) => guardD .eql a b #[.int .i64 0, .int .i64 0] #[.int .i64 0, .int .i64 0] w
    go_enter Try.func12, Try.ntmps12
    go_upto_region 1 with fail
    rw [← hw0.out, ← hx.out]
    have c0 : w0.cell? ⟨x, 0, none⟩ = some (.int .i64 k) := Kx.out.cell 0
    have c1 : w0.cell? ⟨x, 1, none⟩ = some (.int .i64 f) := Kx.out.cell 1
    have c2 : w0.cell? ⟨x, 2, none⟩ = some (.int .i64 s) := Kx.out.cell 2
    have c3 : w0.cell? ⟨x, 3, none⟩ = some (.int .i64 p) := Kx.out.cell 3
    have c4 : w0.cell? ⟨x, 4, none⟩ = some (.int .i64 fl) := Kx.out.cell 4
    have c5 : w0.cell? ⟨x, 5, none⟩ = some (.string ⟨#[]⟩) := Kx.out.cell 5
    have c6 : w0.cell? ⟨x, 6, none⟩ = some (.slice none 0 0) := Kx.out.cell 6
    have c7 : w0.cell? ⟨x, 7, none⟩ = some (.slice none 0 0) := Kx.out.cell 7
    have c8 : w0.cell? ⟨x, 8, none⟩ = some (.slice none 0 0) := Kx.out.cell 8
    have c9 : w0.cell? ⟨x, 9, none⟩ = some (.slice none 0 0) := Kx.out.cell 9
    have c10 : w0.cell? ⟨x, 10, none⟩ = some (.slice none 0 0) := Kx.out.cell 10
    have c11 : w0.cell? ⟨x, 11, none⟩ = some (.int .i64 0) := Kx.out.cell 11
    have c12 : w0.cell? ⟨x, 12, none⟩ = some (.int .i64 0) := Kx.out.cell 12
    have c13 : w0.cell? ⟨x, 13, none⟩ = some (.int .i64 rc) := Kx.out.cell 13
    have c14 : w0.cell? ⟨x, 14, none⟩ = some (.int .i64 lg) := Kx.out.cell 14
    go_wp2_with (go_at_call 27; first | (with_reducible (refine (HK.out _).mono ?_); rintro e w2 ⟨rfl, rfl⟩) | (with_reducible (refine (HF.out _).mono ?_); rintro e w2 ⟨rfl, rfl⟩) | (with_reducible (refine (HS.out _).mono ?_); rintro e w2 ⟨rfl, rfl⟩) | (with_reducible (refine (HP.out _).mono ?_); rintro e w2 ⟨rfl, rfl⟩) | (with_reducible (refine (HL.out _).mono ?_); rintro e w2 ⟨rfl, rfl⟩) | (with_reducible (refine (HR.out _).mono ?_); rintro e w2 ⟨rfl, rfl⟩) | (with_reducible (refine (HG.out _).mono ?_); rintro e w2 ⟨rfl, rfl⟩))
    refine (bag0 _).mono ?_; rintro e w6 ⟨rfl, hB6⟩
    have K6 := Kx.out.below hB6 Kx.out.lt
    have e9 : w6.cell? ⟨x, 9, none⟩ = some (.slice none 0 0) := K6.cell 9
    have e10 : w6.cell? ⟨x, 10, none⟩ = some (.slice none 0 0) := K6.cell 10
    have HB6 := Lib.hid (bNext HB0.out hB6)
    clear hB6 K6
    go_wp2_with (first | (go_at_call 30; refine (names0 _).mono ?_; rintro e w7 ⟨rfl, rfl⟩) | (go_at_call 31; refine (views0 _).mono ?_; rintro e w8 ⟨rfl, rfl⟩))
    go_ret
    exact ⟨rfl, HB6.out⟩
  · have hne : (d0, d1) ≠ (0, 0) := by intro e; cases e; omega
    have heq := fun w => eqlD d0 d1 0 0 false (by simpa using hne) w
    have hgd := fun (a b : Operand) (w : World) => guardD .eql a b #[.int .i64 d0, .int .i64 d1] #[.int .i64 0, .int .i64 0] w
    have HD : Hid (∀ w, Calls Try.prog 28 #[.agg #[.int .i64 d0, .int .i64 d1]] w fun e w' => e = .returned (.bool true) ∧ w' = w.alloc (.cells #[.int .i64 d0, .int .i64 d1] 31)) := fun w => dotck_t d0 d1 w g1 g2 g3 g4
    clear hne
    go_enter Try.func12, Try.ntmps12
    go_upto_region 1 with fail
    rw [← hw0.out, ← hx.out]
    have c0 : w0.cell? ⟨x, 0, none⟩ = some (.int .i64 k) := Kx.out.cell 0
    have c1 : w0.cell? ⟨x, 1, none⟩ = some (.int .i64 f) := Kx.out.cell 1
    have c2 : w0.cell? ⟨x, 2, none⟩ = some (.int .i64 s) := Kx.out.cell 2
    have c3 : w0.cell? ⟨x, 3, none⟩ = some (.int .i64 p) := Kx.out.cell 3
    have c4 : w0.cell? ⟨x, 4, none⟩ = some (.int .i64 fl) := Kx.out.cell 4
    have c5 : w0.cell? ⟨x, 5, none⟩ = some (.string ⟨#[]⟩) := Kx.out.cell 5
    have c6 : w0.cell? ⟨x, 6, none⟩ = some (.slice none 0 0) := Kx.out.cell 6
    have c7 : w0.cell? ⟨x, 7, none⟩ = some (.slice none 0 0) := Kx.out.cell 7
    have c8 : w0.cell? ⟨x, 8, none⟩ = some (.slice none 0 0) := Kx.out.cell 8
    have c9 : w0.cell? ⟨x, 9, none⟩ = some (.slice none 0 0) := Kx.out.cell 9
    have c10 : w0.cell? ⟨x, 10, none⟩ = some (.slice none 0 0) := Kx.out.cell 10
    have c11 : w0.cell? ⟨x, 11, none⟩ = some (.int .i64 d0) := Kx.out.cell 11
    have c12 : w0.cell? ⟨x, 12, none⟩ = some (.int .i64 d1) := Kx.out.cell 12
    have c13 : w0.cell? ⟨x, 13, none⟩ = some (.int .i64 rc) := Kx.out.cell 13
    have c14 : w0.cell? ⟨x, 14, none⟩ = some (.int .i64 lg) := Kx.out.cell 14
    go_upto_region 3 with (go_at_call 28; with_reducible (refine (HD.out _).mono ?_); rintro e wd ⟨rfl, rfl⟩)
    obtain ⟨w1, hw1⟩ := nm (w0.alloc (.cells #[.int .i64 d0, .int .i64 d1] 31))
    have K1 : Hid (Blk w1 x #[.int .i64 k, .int .i64 f, .int .i64 s, .int .i64 p, .int .i64 fl, .string ⟨#[]⟩, .slice none 0 0, .slice none 0 0, .slice none 0 0, .slice none 0 0, .slice none 0 0, .int .i64 d0, .int .i64 d1, .int .i64 rc, .int .i64 lg] 33) := by show Blk _ _ _ _; rw [hw1.out]; exact Kx.out.alloc _
    have HB1 : Hid (Below w.heap.size w w1) := by rw [hw1.out]; exact bNew HB0.out _
    rw [← hw1.out]
    have m0 : w1.cell? ⟨x, 0, none⟩ = some (.int .i64 k) := K1.out.cell 0
    have m1 : w1.cell? ⟨x, 1, none⟩ = some (.int .i64 f) := K1.out.cell 1
    have m2 : w1.cell? ⟨x, 2, none⟩ = some (.int .i64 s) := K1.out.cell 2
    have m3 : w1.cell? ⟨x, 3, none⟩ = some (.int .i64 p) := K1.out.cell 3
    have m4 : w1.cell? ⟨x, 4, none⟩ = some (.int .i64 fl) := K1.out.cell 4
    have m5 : w1.cell? ⟨x, 5, none⟩ = some (.string ⟨#[]⟩) := K1.out.cell 5
    have m6 : w1.cell? ⟨x, 6, none⟩ = some (.slice none 0 0) := K1.out.cell 6
    have m7 : w1.cell? ⟨x, 7, none⟩ = some (.slice none 0 0) := K1.out.cell 7
    have m8 : w1.cell? ⟨x, 8, none⟩ = some (.slice none 0 0) := K1.out.cell 8
    have m9 : w1.cell? ⟨x, 9, none⟩ = some (.slice none 0 0) := K1.out.cell 9
    have m10 : w1.cell? ⟨x, 10, none⟩ = some (.slice none 0 0) := K1.out.cell 10
    have m11 : w1.cell? ⟨x, 11, none⟩ = some (.int .i64 d0) := K1.out.cell 11
    have m12 : w1.cell? ⟨x, 12, none⟩ = some (.int .i64 d1) := K1.out.cell 12
    have m13 : w1.cell? ⟨x, 13, none⟩ = some (.int .i64 rc) := K1.out.cell 13
    have m14 : w1.cell? ⟨x, 14, none⟩ = some (.int .i64 lg) := K1.out.cell 14
    go_wp2_with (go_at_call 27; first | (with_reducible (refine (HK.out _).mono ?_); rintro e w2 ⟨rfl, rfl⟩) | (with_reducible (refine (HF.out _).mono ?_); rintro e w2 ⟨rfl, rfl⟩) | (with_reducible (refine (HS.out _).mono ?_); rintro e w2 ⟨rfl, rfl⟩) | (with_reducible (refine (HP.out _).mono ?_); rintro e w2 ⟨rfl, rfl⟩) | (with_reducible (refine (HL.out _).mono ?_); rintro e w2 ⟨rfl, rfl⟩) | (with_reducible (refine (HR.out _).mono ?_); rintro e w2 ⟨rfl, rfl⟩) | (with_reducible (refine (HG.out _).mono ?_); rintro e w2 ⟨rfl, rfl⟩))
    refine (bag0 _).mono ?_; rintro e w6 ⟨rfl, hB6⟩
    have K6 := K1.out.below hB6 K1.out.lt
    have e9 : w6.cell? ⟨x, 9, none⟩ = some (.slice none 0 0) := K6.cell 9
    have e10 : w6.cell? ⟨x, 10, none⟩ = some (.slice none 0 0) := K6.cell 10
    have HB6 := Lib.hid (bNext HB1.out hB6)
    clear hB6 K6
    go_wp2_with (first | (go_at_call 30; refine (names0 _).mono ?_; rintro e w7 ⟨rfl, rfl⟩) | (go_at_call 31; refine (views0 _).mono ?_; rintro e w8 ⟨rfl, rfl⟩))
    go_ret
    exact ⟨rfl, HB6.out⟩

set_option maxRecDepth 100000 in
set_option maxHeartbeats 8000000 in
theorem check_zero (w : World) :
    Calls Try.prog 12 #[.agg #[.int .i64 0, .int .i64 0, .int .i64 0, .int .i64 0, .int .i64 0, .string ⟨#[]⟩, .slice none 0 0, .slice none 0 0, .slice none 0 0, .slice none 0 0, .slice none 0 0, .int .i64 0, .int .i64 0, .int .i64 0, .int .i64 0]] w fun e w' => e = .returned (.int .i64 1) ∧ Below w.heap.size w w' := by
  have heq := fun w => eqlD 0 0 0 0 true (by simp) w
  have hgd := fun (a b : Operand) (w : World) => guardD .eql a b #[.int .i64 0, .int .i64 0] #[.int .i64 0, .int .i64 0] w
  have HK : Hid (∀ w, Calls Try.prog 27 #[.int .i64 0, .int .i64 1, .int .i64 8] w fun e w' => e = .returned (.bool false) ∧ w = w') := fun w => within_f 0 1 8 w (by decide)
  go_enter Try.func12, Try.ntmps12
  go_wp2_with (go_at_call 27; with_reducible (refine (HK.out _).mono ?_); rintro e w2 ⟨rfl, rfl⟩)
  go_ret
  exact ⟨rfl, bOld _⟩
end Go.Proofs.Ytfpjdmplepepjaa
