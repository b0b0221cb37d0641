/- WireNumbers: for any nine numbers the law returns true. -/
import Derived.Test.YtfpjdmplepepjaaWireAwake
import Derived.Test.YtfpjdmplepepjaaLaw
import Derived.Outline
namespace Go.Proofs.Ytfpjdmplepepjaa
open Go.RowKit

theorem and_mod (x : Int) (k : Nat) (hk : k ≤ 62) : bits .and .i64 x (((2 ^ k - 1 : Nat)) : Int) = x % (2 ^ k : Nat) := by
  have hp : (2 : Nat) ^ k ≤ 2 ^ 62 := Nat.pow_le_pow_right (by decide) hk
  have hpos : 0 < (2 : Nat) ^ k := Nat.pos_of_ne_zero (by simp)
  have h2 : (BitVec.ofInt 64 ((2 ^ k - 1 : Nat) : Int)).toNat = 2 ^ k - 1 := by
    rw [BitVec.ofInt_natCast, BitVec.toNat_ofNat]; exact Nat.mod_eq_of_lt (by omega)
  show IntKind.i64.wrap ((BitVec.ofInt 64 x &&& BitVec.ofInt 64 ((2 ^ k - 1 : Nat) : Int)).toNat : Int) = _
  rw [BitVec.toNat_and, h2, Nat.and_two_pow_sub_one_eq_mod, BitVec.toNat_ofInt]
  have hdvd : ((2 ^ k : Nat) : Int) ∣ ((2 ^ 64 : Nat) : Int) := Int.natCast_dvd_natCast.2 (Nat.pow_dvd_pow 2 (by omega))
  have e : (((x % ((2 ^ 64 : Nat) : Int)).toNat % 2 ^ k : Nat) : Int) = x % ((2 ^ k : Nat) : Int) := by
    rw [Int.natCast_emod, Int.toNat_of_nonneg (Int.emod_nonneg _ (by decide)), Int.emod_emod_of_dvd _ hdvd]
  rw [e, IntKind.wrap_i64]
  have h3 := Int.emod_nonneg x (show ((2 ^ k : Nat) : Int) ≠ 0 by omega)
  have h4 := Int.emod_lt_of_pos x (show (0 : Int) < ((2 ^ k : Nat) : Int) by omega)
  omega
section
open Go.ChangeShapes Go.WideShapes Go.ChangeAt
variable {H : Type} {enc : TypeId × Value → H} {P : Program} {w : World} {base : Nat} {spare : Nat → Bool} {held : Bool}
/-- An array of nine integers, by value. -/
theorem open_nine {r : Reach} {b0 : Nat} {t e : TypeId} {k : IntKind} {v : Value} {d : DataW H} {p : List MemPlace} (ht : P.underlying t = some (.array 9 e)) (he : P.underlying e = some (.int k)) (hC : P.cellsOf t = 9) (hE : P.cellsOf e = 1)
    (hv : Value.okWide P w r b0 t v) (h : DataW.Trod enc P w base spare held t v d p) :
    ∃ q0 q1 q2 q3 q4 q5 q6 q7 q8 : Int, v = .agg #[.int k q0, .int k q1, .int k q2, .int k q3, .int k q4, .int k q5, .int k q6, .int k q7, .int k q8] := by
  obtain ⟨⟨l⟩, rfl, hsz⟩ := okWide_array2 ht hv
  rw [hC] at hsz
  match l, hsz with
  | [c0, c1, c2, c3, c4, c5, c6, c7, c8], _ =>
    obtain ⟨fuel, hf⟩ := h
    obtain ⟨xs, m, _, _, _, hx, hi⟩ := DataW.trod_array ht hf
    have h0 := hi 0 (by omega)
    rw [hE] at h0
    obtain ⟨y0, hy0⟩ : ∃ y, xs[0]? = some y := ⟨xs[0]'(by omega), by simp⟩
    rw [hy0] at h0
    obtain ⟨a0, e0, _, _⟩ := DataW.trod_int he h0
    simp [Value.cells] at e0
    have h1 := hi 1 (by omega)
    rw [hE] at h1
    obtain ⟨y1, hy1⟩ : ∃ y, xs[1]? = some y := ⟨xs[1]'(by omega), by simp⟩
    rw [hy1] at h1
    obtain ⟨a1, e1, _, _⟩ := DataW.trod_int he h1
    simp [Value.cells] at e1
    have h2 := hi 2 (by omega)
    rw [hE] at h2
    obtain ⟨y2, hy2⟩ : ∃ y, xs[2]? = some y := ⟨xs[2]'(by omega), by simp⟩
    rw [hy2] at h2
    obtain ⟨a2, e2, _, _⟩ := DataW.trod_int he h2
    simp [Value.cells] at e2
    have h3 := hi 3 (by omega)
    rw [hE] at h3
    obtain ⟨y3, hy3⟩ : ∃ y, xs[3]? = some y := ⟨xs[3]'(by omega), by simp⟩
    rw [hy3] at h3
    obtain ⟨a3, e3, _, _⟩ := DataW.trod_int he h3
    simp [Value.cells] at e3
    have h4 := hi 4 (by omega)
    rw [hE] at h4
    obtain ⟨y4, hy4⟩ : ∃ y, xs[4]? = some y := ⟨xs[4]'(by omega), by simp⟩
    rw [hy4] at h4
    obtain ⟨a4, e4, _, _⟩ := DataW.trod_int he h4
    simp [Value.cells] at e4
    have h5 := hi 5 (by omega)
    rw [hE] at h5
    obtain ⟨y5, hy5⟩ : ∃ y, xs[5]? = some y := ⟨xs[5]'(by omega), by simp⟩
    rw [hy5] at h5
    obtain ⟨a5, e5, _, _⟩ := DataW.trod_int he h5
    simp [Value.cells] at e5
    have h6 := hi 6 (by omega)
    rw [hE] at h6
    obtain ⟨y6, hy6⟩ : ∃ y, xs[6]? = some y := ⟨xs[6]'(by omega), by simp⟩
    rw [hy6] at h6
    obtain ⟨a6, e6, _, _⟩ := DataW.trod_int he h6
    simp [Value.cells] at e6
    have h7 := hi 7 (by omega)
    rw [hE] at h7
    obtain ⟨y7, hy7⟩ : ∃ y, xs[7]? = some y := ⟨xs[7]'(by omega), by simp⟩
    rw [hy7] at h7
    obtain ⟨a7, e7, _, _⟩ := DataW.trod_int he h7
    simp [Value.cells] at e7
    have h8 := hi 8 (by omega)
    rw [hE] at h8
    obtain ⟨y8, hy8⟩ : ∃ y, xs[8]? = some y := ⟨xs[8]'(by omega), by simp⟩
    rw [hy8] at h8
    obtain ⟨a8, e8, _, _⟩ := DataW.trod_int he h8
    simp [Value.cells] at e8
    exact ⟨a0, a1, a2, a3, a4, a5, a6, a7, a8, by rw [e0, e1, e2, e3, e4, e5, e6, e7, e8]⟩
end

set_option maxRecDepth 100000 in
set_option maxHeartbeats 16000000 in
theorem wireNumbers_walk (q0 q1 q2 q3 q4 q5 q6 q7 q8 : Int) (w : World) :
    Calls Try.prog 7 #[.agg #[.int .i64 q0, .int .i64 q1, .int .i64 q2, .int .i64 q3, .int .i64 q4, .int .i64 q5, .int .i64 q6, .int .i64 q7, .int .i64 q8]] w fun e w' => e = .returned (.bool true) ∧ Below w.heap.size w w' := by
  obtain ⟨a0, h0⟩ := nm (bits .and .i64 q0 7)
  have b0 : bits .and .i64 q0 7 = q0 % 8 := and_mod q0 3 (by decide)
  obtain ⟨l0, u0⟩ : 0 ≤ a0 ∧ a0 < 8 := by rw [h0.out, b0]; omega
  clear b0
  have e0 : bits .and .i64 q0 7 = a0 := h0.out.symm
  obtain ⟨a1, h1⟩ := nm (bits .and .i64 q1 549755813887)
  have b1 : bits .and .i64 q1 549755813887 = q1 % 549755813888 := and_mod q1 39 (by decide)
  obtain ⟨l1, u1⟩ : 0 ≤ a1 ∧ a1 < 549755813888 := by rw [h1.out, b1]; omega
  clear b1
  have e1 : bits .and .i64 q1 549755813887 = a1 := h1.out.symm
  obtain ⟨a2, h2⟩ := nm (bits .and .i64 q2 549755813887)
  have b2 : bits .and .i64 q2 549755813887 = q2 % 549755813888 := and_mod q2 39 (by decide)
  obtain ⟨l2, u2⟩ : 0 ≤ a2 ∧ a2 < 549755813888 := by rw [h2.out, b2]; omega
  clear b2
  have e2 : bits .and .i64 q2 549755813887 = a2 := h2.out.symm
  obtain ⟨a3, h3⟩ := nm (bits .and .i64 q3 15)
  have b3 : bits .and .i64 q3 15 = q3 % 16 := and_mod q3 4 (by decide)
  obtain ⟨l3, u3⟩ : 0 ≤ a3 ∧ a3 < 16 := by rw [h3.out, b3]; omega
  clear b3
  have e3 : bits .and .i64 q3 15 = a3 := h3.out.symm
  obtain ⟨a4, h4⟩ := nm (bits .and .i64 q4 1)
  have b4 : bits .and .i64 q4 1 = q4 % 2 := and_mod q4 1 (by decide)
  obtain ⟨l4, u4⟩ : 0 ≤ a4 ∧ a4 < 2 := by rw [h4.out, b4]; omega
  clear b4
  have e4 : bits .and .i64 q4 1 = a4 := h4.out.symm
  obtain ⟨a5, h5⟩ := nm (bits .and .i64 q5 549755813887)
  have b5 : bits .and .i64 q5 549755813887 = q5 % 549755813888 := and_mod q5 39 (by decide)
  obtain ⟨l5, u5⟩ : 0 ≤ a5 ∧ a5 < 549755813888 := by rw [h5.out, b5]; omega
  clear b5
  have e5 : bits .and .i64 q5 549755813887 = a5 := h5.out.symm
  obtain ⟨a6, h6⟩ := nm (bits .and .i64 q6 549755813887)
  have b6 : bits .and .i64 q6 549755813887 = q6 % 549755813888 := and_mod q6 39 (by decide)
  obtain ⟨l6, u6⟩ : 0 ≤ a6 ∧ a6 < 549755813888 := by rw [h6.out, b6]; omega
  clear b6
  have e6 : bits .and .i64 q6 549755813887 = a6 := h6.out.symm
  obtain ⟨a7, h7⟩ := nm (bits .and .i64 q7 549755813887)
  have b7 : bits .and .i64 q7 549755813887 = q7 % 549755813888 := and_mod q7 39 (by decide)
  obtain ⟨l7, u7⟩ : 0 ≤ a7 ∧ a7 < 549755813888 := by rw [h7.out, b7]; omega
  clear b7
  have e7 : bits .and .i64 q7 549755813887 = a7 := h7.out.symm
  obtain ⟨a8, h8⟩ := nm (bits .and .i64 q8 536870911)
  have b8 : bits .and .i64 q8 536870911 = q8 % 536870912 := and_mod q8 29 (by decide)
  obtain ⟨l8, u8⟩ : 0 ≤ a8 ∧ a8 < 536870912 := by rw [h8.out, b8]; omega
  clear b8
  have e8 : bits .and .i64 q8 536870911 = a8 := h8.out.symm
  have w0 : IntKind.i64.wrap (1 + a0) = 1 + a0 := by rw [IntKind.wrap_i64]; omega
  have w1 : IntKind.i64.wrap (1 + a1) = 1 + a1 := by rw [IntKind.wrap_i64]; omega
  have w5 : IntKind.i64.wrap (1 + a5) = 1 + a5 := by rw [IntKind.wrap_i64]; omega
  have w6 : IntKind.i64.wrap (1 + a6) = 1 + a6 := by rw [IntKind.wrap_i64]; omega
  obtain ⟨S, hS⟩ := nm (ofL (wireL [1 + a0, 1 + a1, a2, a3, a4, 1 + a5, 1 + a6, a7, a8]))
  have HBY : Hid (∀ w, Calls Try.prog 10 #[.agg #[.int .i64 (1 + a0), .int .i64 (1 + a1), .int .i64 a2, .int .i64 a3, .int .i64 a4, .string ⟨#[]⟩, .slice none 0 0, .slice none 0 0, .slice none 0 0, .slice none 0 0, .slice none 0 0, .int .i64 (1 + a5), .int .i64 (1 + a6), .int .i64 a7, .int .i64 a8]] w fun e w' => e = .returned (.tuple #[.string S, .int .i64 0]) ∧ Below w.heap.size w w') := by intro w; rw [hS.out]; exact bytes_ok (1 + a0) (1 + a1) a2 a3 a4 (1 + a5) (1 + a6) a7 a8 (by omega) (.inr (by omega)) w
  have HRD : Hid (∀ w, Calls Try.prog 14 #[.string S] w fun e w' => e = .returned (.tuple #[.agg #[.int .i64 (1 + a0), .int .i64 (1 + a1), .int .i64 a2, .int .i64 a3, .int .i64 a4, .string ⟨#[]⟩, .slice none 0 0, .slice none 0 0, .slice none 0 0, .slice none 0 0, .slice none 0 0, .int .i64 (1 + a5), .int .i64 (1 + a6), .int .i64 a7, .int .i64 a8], .int .i64 0]) ∧ Below w.heap.size w w') := by intro w; rw [hS.out]; exact read_ok (1 + a0) (1 + a1) a2 a3 a4 (1 + a5) (1 + a6) a7 a8 (by omega) (.inr (by omega)) w
  have heq := fun w => eqlD (1 + a5) (1 + a6) (1 + a5) (1 + a6) true (by simp) w
  have hgd := fun (a b : Operand) (w : World) => guardD .eql a b #[.int .i64 (1 + a5), .int .i64 (1 + a6)] #[.int .i64 (1 + a5), .int .i64 (1 + a6)] w
  obtain ⟨wb, hwb⟩ := nm (w.alloc (.cells #[.int .i64 q0, .int .i64 q1, .int .i64 q2, .int .i64 q3, .int .i64 q4, .int .i64 q5, .int .i64 q6, .int .i64 q7, .int .i64 q8] 54))
  obtain ⟨b, hb⟩ := nm w.heap.size
  have Kb : Hid (Blk wb b #[.int .i64 q0, .int .i64 q1, .int .i64 q2, .int .i64 q3, .int .i64 q4, .int .i64 q5, .int .i64 q6, .int .i64 q7, .int .i64 q8] 54) := by show Blk _ _ _ _; rw [hwb.out, hb.out]; exact Blk.new _ _ _
  have HB : Hid (Below w.heap.size w wb) := by show Below _ _ _; rw [hwb.out]; exact bOld _
  go_enter Try.func7, Try.ntmps7
  go_upto_region 1 with fail
  rw [← hwb.out, ← hb.out]
  go_wp2_with fail
  refine (awake_any _).mono ?_; rintro e w1 ⟨rfl, h1⟩
  replace Kb := Lib.hid (Kb.out.below h1 Kb.out.lt)
  replace HB := Lib.hid (bNext HB.out h1)
  clear h1
  have c0 : w1.cell? ⟨b, 0, none⟩ = some (.int .i64 q0) := Kb.out.cell 0
  have c1 : w1.cell? ⟨b, 1, none⟩ = some (.int .i64 q1) := Kb.out.cell 1
  have c2 : w1.cell? ⟨b, 2, none⟩ = some (.int .i64 q2) := Kb.out.cell 2
  have c3 : w1.cell? ⟨b, 3, none⟩ = some (.int .i64 q3) := Kb.out.cell 3
  have c4 : w1.cell? ⟨b, 4, none⟩ = some (.int .i64 q4) := Kb.out.cell 4
  have c5 : w1.cell? ⟨b, 5, none⟩ = some (.int .i64 q5) := Kb.out.cell 5
  have c6 : w1.cell? ⟨b, 6, none⟩ = some (.int .i64 q6) := Kb.out.cell 6
  have c7 : w1.cell? ⟨b, 7, none⟩ = some (.int .i64 q7) := Kb.out.cell 7
  have c8 : w1.cell? ⟨b, 8, none⟩ = some (.int .i64 q8) := Kb.out.cell 8
  obtain ⟨x, hx⟩ := nm w1.heap.size
  obtain ⟨w2, hw2⟩ := nm (w1.alloc (.cells #[.int .i64 (1 + a0), .int .i64 (1 + a1), .int .i64 a2, .int .i64 a3, .int .i64 a4, .string ⟨#[]⟩, .slice none 0 0, .slice none 0 0, .slice none 0 0, .slice none 0 0, .slice none 0 0, .int .i64 (1 + a5), .int .i64 (1 + a6), .int .i64 a7, .int .i64 a8] 33))
  have Kx : Hid (Blk w2 x #[.int .i64 (1 + a0), .int .i64 (1 + a1), .int .i64 a2, .int .i64 a3, .int .i64 a4, .string ⟨#[]⟩, .slice none 0 0, .slice none 0 0, .slice none 0 0, .slice none 0 0, .slice none 0 0, .int .i64 (1 + a5), .int .i64 (1 + a6), .int .i64 a7, .int .i64 a8] 33) := by show Blk _ _ _ _; rw [hw2.out, hx.out]; exact Blk.new _ _ _
  replace HB : Hid (Below w.heap.size w w2) := by show Below _ _ _; rw [hw2.out]; exact bNew HB.out _
  go_upto_region 3 with fail
  rw [← hw2.out, ← hx.out]
  clear c0 e0 c1 e1 c2 e2 c3 e3 c4 e4 c5 e5 c6 e6 c7 e7 c8 e8
  have d0 : w2.cell? ⟨x, 0, none⟩ = some (.int .i64 (1 + a0)) := Kx.out.cell 0
  have d1 : w2.cell? ⟨x, 1, none⟩ = some (.int .i64 (1 + a1)) := Kx.out.cell 1
  have d2 : w2.cell? ⟨x, 2, none⟩ = some (.int .i64 a2) := Kx.out.cell 2
  have d3 : w2.cell? ⟨x, 3, none⟩ = some (.int .i64 a3) := Kx.out.cell 3
  have d4 : w2.cell? ⟨x, 4, none⟩ = some (.int .i64 a4) := Kx.out.cell 4
  have d5 : w2.cell? ⟨x, 5, none⟩ = some (.string ⟨#[]⟩) := Kx.out.cell 5
  have d6 : w2.cell? ⟨x, 6, none⟩ = some (.slice none 0 0) := Kx.out.cell 6
  have d7 : w2.cell? ⟨x, 7, none⟩ = some (.slice none 0 0) := Kx.out.cell 7
  have d8 : w2.cell? ⟨x, 8, none⟩ = some (.slice none 0 0) := Kx.out.cell 8
  have d9 : w2.cell? ⟨x, 9, none⟩ = some (.slice none 0 0) := Kx.out.cell 9
  have d10 : w2.cell? ⟨x, 10, none⟩ = some (.slice none 0 0) := Kx.out.cell 10
  have d11 : w2.cell? ⟨x, 11, none⟩ = some (.int .i64 (1 + a5)) := Kx.out.cell 11
  have d12 : w2.cell? ⟨x, 12, none⟩ = some (.int .i64 (1 + a6)) := Kx.out.cell 12
  have d13 : w2.cell? ⟨x, 13, none⟩ = some (.int .i64 a7) := Kx.out.cell 13
  have d14 : w2.cell? ⟨x, 14, none⟩ = some (.int .i64 a8) := Kx.out.cell 14
  go_wp2_with fail
  refine (HBY.out _).mono ?_; rintro e w3 ⟨rfl, h3⟩
  replace Kx := Lib.hid (Kx.out.below h3 Kx.out.lt)
  replace HB := Lib.hid (bNext HB.out h3)
  clear h3 d0 d1 d2 d3 d4 d5 d6 d7 d8 d9 d10 d11 d12 d13 d14
  go_wp2_with fail
  refine (HRD.out _).mono ?_; rintro e w4 ⟨rfl, h4⟩
  replace Kx := Lib.hid (Kx.out.below h4 Kx.out.lt)
  replace HB := Lib.hid (bNext HB.out h4)
  clear h4
  have d0 : (w4.alloc (.cells #[.int .i64 (1 + a0), .int .i64 (1 + a1), .int .i64 a2, .int .i64 a3, .int .i64 a4, .string ⟨#[]⟩, .slice none 0 0, .slice none 0 0, .slice none 0 0, .slice none 0 0, .slice none 0 0, .int .i64 (1 + a5), .int .i64 (1 + a6), .int .i64 a7, .int .i64 a8] 33)).cell? ⟨x, 0, none⟩ = some (.int .i64 (1 + a0)) := cell_al (Kx.out.cell 0)
  have d1 : (w4.alloc (.cells #[.int .i64 (1 + a0), .int .i64 (1 + a1), .int .i64 a2, .int .i64 a3, .int .i64 a4, .string ⟨#[]⟩, .slice none 0 0, .slice none 0 0, .slice none 0 0, .slice none 0 0, .slice none 0 0, .int .i64 (1 + a5), .int .i64 (1 + a6), .int .i64 a7, .int .i64 a8] 33)).cell? ⟨x, 1, none⟩ = some (.int .i64 (1 + a1)) := cell_al (Kx.out.cell 1)
  have d2 : (w4.alloc (.cells #[.int .i64 (1 + a0), .int .i64 (1 + a1), .int .i64 a2, .int .i64 a3, .int .i64 a4, .string ⟨#[]⟩, .slice none 0 0, .slice none 0 0, .slice none 0 0, .slice none 0 0, .slice none 0 0, .int .i64 (1 + a5), .int .i64 (1 + a6), .int .i64 a7, .int .i64 a8] 33)).cell? ⟨x, 2, none⟩ = some (.int .i64 a2) := cell_al (Kx.out.cell 2)
  have d3 : (w4.alloc (.cells #[.int .i64 (1 + a0), .int .i64 (1 + a1), .int .i64 a2, .int .i64 a3, .int .i64 a4, .string ⟨#[]⟩, .slice none 0 0, .slice none 0 0, .slice none 0 0, .slice none 0 0, .slice none 0 0, .int .i64 (1 + a5), .int .i64 (1 + a6), .int .i64 a7, .int .i64 a8] 33)).cell? ⟨x, 3, none⟩ = some (.int .i64 a3) := cell_al (Kx.out.cell 3)
  have d4 : (w4.alloc (.cells #[.int .i64 (1 + a0), .int .i64 (1 + a1), .int .i64 a2, .int .i64 a3, .int .i64 a4, .string ⟨#[]⟩, .slice none 0 0, .slice none 0 0, .slice none 0 0, .slice none 0 0, .slice none 0 0, .int .i64 (1 + a5), .int .i64 (1 + a6), .int .i64 a7, .int .i64 a8] 33)).cell? ⟨x, 4, none⟩ = some (.int .i64 a4) := cell_al (Kx.out.cell 4)
  have d5 : (w4.alloc (.cells #[.int .i64 (1 + a0), .int .i64 (1 + a1), .int .i64 a2, .int .i64 a3, .int .i64 a4, .string ⟨#[]⟩, .slice none 0 0, .slice none 0 0, .slice none 0 0, .slice none 0 0, .slice none 0 0, .int .i64 (1 + a5), .int .i64 (1 + a6), .int .i64 a7, .int .i64 a8] 33)).cell? ⟨x, 5, none⟩ = some (.string ⟨#[]⟩) := cell_al (Kx.out.cell 5)
  have d6 : (w4.alloc (.cells #[.int .i64 (1 + a0), .int .i64 (1 + a1), .int .i64 a2, .int .i64 a3, .int .i64 a4, .string ⟨#[]⟩, .slice none 0 0, .slice none 0 0, .slice none 0 0, .slice none 0 0, .slice none 0 0, .int .i64 (1 + a5), .int .i64 (1 + a6), .int .i64 a7, .int .i64 a8] 33)).cell? ⟨x, 6, none⟩ = some (.slice none 0 0) := cell_al (Kx.out.cell 6)
  have d7 : (w4.alloc (.cells #[.int .i64 (1 + a0), .int .i64 (1 + a1), .int .i64 a2, .int .i64 a3, .int .i64 a4, .string ⟨#[]⟩, .slice none 0 0, .slice none 0 0, .slice none 0 0, .slice none 0 0, .slice none 0 0, .int .i64 (1 + a5), .int .i64 (1 + a6), .int .i64 a7, .int .i64 a8] 33)).cell? ⟨x, 7, none⟩ = some (.slice none 0 0) := cell_al (Kx.out.cell 7)
  have d8 : (w4.alloc (.cells #[.int .i64 (1 + a0), .int .i64 (1 + a1), .int .i64 a2, .int .i64 a3, .int .i64 a4, .string ⟨#[]⟩, .slice none 0 0, .slice none 0 0, .slice none 0 0, .slice none 0 0, .slice none 0 0, .int .i64 (1 + a5), .int .i64 (1 + a6), .int .i64 a7, .int .i64 a8] 33)).cell? ⟨x, 8, none⟩ = some (.slice none 0 0) := cell_al (Kx.out.cell 8)
  have d9 : (w4.alloc (.cells #[.int .i64 (1 + a0), .int .i64 (1 + a1), .int .i64 a2, .int .i64 a3, .int .i64 a4, .string ⟨#[]⟩, .slice none 0 0, .slice none 0 0, .slice none 0 0, .slice none 0 0, .slice none 0 0, .int .i64 (1 + a5), .int .i64 (1 + a6), .int .i64 a7, .int .i64 a8] 33)).cell? ⟨x, 9, none⟩ = some (.slice none 0 0) := cell_al (Kx.out.cell 9)
  have d10 : (w4.alloc (.cells #[.int .i64 (1 + a0), .int .i64 (1 + a1), .int .i64 a2, .int .i64 a3, .int .i64 a4, .string ⟨#[]⟩, .slice none 0 0, .slice none 0 0, .slice none 0 0, .slice none 0 0, .slice none 0 0, .int .i64 (1 + a5), .int .i64 (1 + a6), .int .i64 a7, .int .i64 a8] 33)).cell? ⟨x, 10, none⟩ = some (.slice none 0 0) := cell_al (Kx.out.cell 10)
  have d11 : (w4.alloc (.cells #[.int .i64 (1 + a0), .int .i64 (1 + a1), .int .i64 a2, .int .i64 a3, .int .i64 a4, .string ⟨#[]⟩, .slice none 0 0, .slice none 0 0, .slice none 0 0, .slice none 0 0, .slice none 0 0, .int .i64 (1 + a5), .int .i64 (1 + a6), .int .i64 a7, .int .i64 a8] 33)).cell? ⟨x, 11, none⟩ = some (.int .i64 (1 + a5)) := cell_al (Kx.out.cell 11)
  have d12 : (w4.alloc (.cells #[.int .i64 (1 + a0), .int .i64 (1 + a1), .int .i64 a2, .int .i64 a3, .int .i64 a4, .string ⟨#[]⟩, .slice none 0 0, .slice none 0 0, .slice none 0 0, .slice none 0 0, .slice none 0 0, .int .i64 (1 + a5), .int .i64 (1 + a6), .int .i64 a7, .int .i64 a8] 33)).cell? ⟨x, 12, none⟩ = some (.int .i64 (1 + a6)) := cell_al (Kx.out.cell 12)
  have d13 : (w4.alloc (.cells #[.int .i64 (1 + a0), .int .i64 (1 + a1), .int .i64 a2, .int .i64 a3, .int .i64 a4, .string ⟨#[]⟩, .slice none 0 0, .slice none 0 0, .slice none 0 0, .slice none 0 0, .slice none 0 0, .int .i64 (1 + a5), .int .i64 (1 + a6), .int .i64 a7, .int .i64 a8] 33)).cell? ⟨x, 13, none⟩ = some (.int .i64 a7) := cell_al (Kx.out.cell 13)
  have d14 : (w4.alloc (.cells #[.int .i64 (1 + a0), .int .i64 (1 + a1), .int .i64 a2, .int .i64 a3, .int .i64 a4, .string ⟨#[]⟩, .slice none 0 0, .slice none 0 0, .slice none 0 0, .slice none 0 0, .slice none 0 0, .int .i64 (1 + a5), .int .i64 (1 + a6), .int .i64 a7, .int .i64 a8] 33)).cell? ⟨x, 14, none⟩ = some (.int .i64 a8) := cell_al (Kx.out.cell 14)
  go_wp2_with fail
  go_ret
  exact ⟨by simp, bNew HB.out _⟩

namespace LWireNumbers
open Go.ChangeShapes Go.WideShapes Go.ChangeAt
open Go.ChangeMaps (open_string shut_string)

set_option maxRecDepth 100000 in
theorem contract (H : Type) (enc : TypeId × Value → H) (W : World) (base : Nat) (args : Array Value) (ds gs : List (DataW H)) (before : List MemPlace)
    (hval : ∀ (j : Nat) t v, Try.f7.params[j]? = some t → args[j]? = some v → Value.okWide Try.prog W .any base t v)
    (hW : DataW.Whole enc Try.prog Try.f7.params.toList Rows.wireNumbersSpec.vars false W args.toList ds gs before)
    (_hsz : (DataW.weightsEach Try.prog (Try.f7.params.toList ++ (OpenSpec.ofChange Rows.wireNumbersSpec).bare.plain.varTypes Try.prog) (ds ++ gs)).all (fun x => decide (x ≤ reachBytes)) = true) :
    Calls Try.prog 7 args W fun e W' => ∃ v, e = .returned v ∧ Rows.wireNumbersSpec.post enc Try.prog Try.f7 false true false false W args v W' := by
  have hW' := hW
  obtain ⟨p, q, hA0, hV, rfl, hfz, hnd⟩ := hW
  have hA : DataW.TrodAll enc Try.prog W 0 (fun _ => true) true Try.f7.params.toList args.toList ds p := hA0
  rw [Try.params7] at hA hval
  obtain ⟨v0, vs0, d0, ds0, p0, q0, hargs, rfl, rfl, h0, r0⟩ := trodAll_cons hA
  obtain ⟨rfl, rfl, rfl⟩ := trodAll_nil r0
  obtain rfl : args = #[v0] := by cases args; simp_all
  obtain ⟨rfl, rfl⟩ := trodVars_none hV
  obtain ⟨q0, q1, q2, q3, q4, q5, q6, q7, q8, rfl⟩ := open_nine Try.underlying54 Try.underlying3 (show Try.prog.cellsOf 54 = 9 by kernel_rfl) (show Try.prog.cellsOf 3 = 1 by kernel_rfl) (hval 0 54 v0 rfl rfl) h0
  clear hA0
  refine (wireNumbers_walk q0 q1 q2 q3 q4 q5 q6 q7 q8 W).mono fun e W' ⟨he, hb⟩ => ?_
  subst he
  exact ⟨_, rfl, law_post laidOut Try.underlying4 rfl (by kernel_rfl) rfl rfl rfl rfl hW' hb⟩

theorem reads (os : Os) {H : Type} (enc : TypeId × Value → H) : ∃ places, DataW.whole enc Try.prog ((World.holding Try.prog os ⟨#[], #[], []⟩).forCall (fun _ _ => 0) ⟨#[], #[.agg #[.int .i64 0, .int .i64 0, .int .i64 0, .int .i64 0, .int .i64 0, .int .i64 0, .int .i64 0, .int .i64 0, .int .i64 0]], []⟩).memory Try.f7.params.toList Rows.wireNumbersSpec.vars false (#[.agg #[.int .i64 0, .int .i64 0, .int .i64 0, .int .i64 0, .int .i64 0, .int .i64 0, .int .i64 0, .int .i64 0, .int .i64 0]] : Array Value).toList 8 = some ([.agg [.lit (.int .i64 0), .lit (.int .i64 0), .lit (.int .i64 0), .lit (.int .i64 0), .lit (.int .i64 0), .lit (.int .i64 0), .lit (.int .i64 0), .lit (.int .i64 0), .lit (.int .i64 0)]], [], places) :=
  ⟨[], by kernel_rfl⟩
theorem laid_met (os : Os) : laidMet Try.prog Rows.wireNumbersRow.laid ((World.holding Try.prog os ⟨#[], #[], []⟩).forCall (fun _ _ => 0) ⟨#[], #[.agg #[.int .i64 0, .int .i64 0, .int .i64 0, .int .i64 0, .int .i64 0, .int .i64 0, .int .i64 0, .int .i64 0, .int .i64 0]], []⟩).memory :=
  laidMet_of_run' 8 (by kernel_rfl) (by kernel_rfl)

set_option maxRecDepth 100000 in
theorem lifted (os : Os) (started : os.Started) (H : Type) (enc : TypeId × Value → H) (F : Stop.Interp) :
    ReturnsInHanded {} Try.checked os 7 .any ((OpenSpec.ofChange Rows.wireNumbersSpec).preRow enc Try.prog Try.f7 Rows.wireNumbersRow.domain false Rows.wireNumbersRow.laid) (((OpenSpec.ofChange Rows.wireNumbersSpec).at F).post enc Try.prog Try.f7 false true false false) := by
  obtain ⟨places, hx⟩ := reads os enc
  refine returnsInHanded_of_row (C := Try.checked) (s := OpenSpec.ofChange Rows.wireNumbersSpec) own started (by kernel_rfl) Try.func7
    (witness_row_at (enc := enc) (C := Try.checked) false (World.holding Try.prog os ⟨#[], #[], []⟩) #[.agg #[.int .i64 0, .int .i64 0, .int .i64 0, .int .i64 0, .int .i64 0, .int .i64 0, .int .i64 0, .int .i64 0, .int .i64 0]] rfl (by kernel_rfl) (by kernel_rfl) (by kernel_rfl)
      (OpenSpec.preRow_of_cond 8 hx (by kernel_rfl) (fun k hk => by cases hk) (by kernel_rfl) (laid_met os))) ?_
  intro W base args ds gs before hval hW _ _ hsz hL _ _
  exact contract H enc W base args ds gs before hval hW hsz

theorem said : Rows.WireNumbersSaid :=
  OpenClaim.holds_of_cond 7 Try.f7 rfl rfl rfl rfl rfl rfl rfl ⟨rfl, rfl, rfl, rfl, rfl⟩ rfl rfl rfl rfl rfl (by kernel_rfl) Try.func7 (by kernel_rfl)
    (of_decide_eq_true (by kernel_rfl)) (by unfold Func.isWrapper; first | (rw [if_pos (by decide +kernel)]; kernel_rfl) | (rw [if_neg (by decide +kernel)]; exact ⟨rfl, rfl⟩))
    (fun os started H enc _ F => by rw [OpenClaim.pre_eq_preRow]; exact lifted os started H enc F)
end LWireNumbers
end Go.Proofs.Ytfpjdmplepepjaa
