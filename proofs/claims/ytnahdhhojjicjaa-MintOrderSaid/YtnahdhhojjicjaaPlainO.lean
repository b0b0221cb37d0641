/- The order of numbers' bytes. No program in sight. -/
import Derived.Test.YtnahdhhojjicjaaPlainA
import GoSem.Op.String
namespace Go.Proofs.Ytnahdhhojjicjaa.Pl

theorem lex_lt (A B r s P : Nat) (hr : r < P) (hs : s < P) : (A * P + r < B * P + s ↔ A < B ∨ A = B ∧ r < s) ∧ (A * P + r = B * P + s ↔ A = B ∧ r = s) := by
  rcases Nat.lt_trichotomy A B with h | h | h
  · have h1 : (A + 1) * P ≤ B * P := Nat.mul_le_mul_right _ h
    rw [Nat.add_mul, Nat.one_mul] at h1
    constructor <;> constructor <;> intro h2 <;> omega
  · subst h
    constructor <;> constructor <;> intro h2 <;> omega
  · have h1 : (B + 1) * P ≤ A * P := Nat.mul_le_mul_right _ h
    rw [Nat.add_mul, Nat.one_mul] at h1
    constructor <;> constructor <;> intro h2 <;> omega

theorem mark_lt (A B : Nat) (hA : A < 128) (hB : B < 128) : (UInt8.ofNat (128 + A) < UInt8.ofNat (128 + B) ↔ A < B) ∧ (UInt8.ofNat (128 + A) = UInt8.ofNat (128 + B) ↔ A = B) := by
  have h1 := mark_toNat A hA
  have h2 := mark_toNat B hB
  constructor
  · rw [UInt8.lt_iff_toNat_lt, h1, h2]; omega
  · rw [← UInt8.toNat_inj, h1, h2]; omega

theorem dg_less (u v : UInt8) : ∀ k p q, Op.bytesLess (dg k p ++ [u]) (dg k q ++ [v]) = decide (p % 128 ^ k < q % 128 ^ k ∨ p % 128 ^ k = q % 128 ^ k ∧ u < v)
  | 0, p, q => by
    simp [dg, Op.bytesLess, Nat.mod_one]
  | k + 1, p, q => by
    have hP : 0 < 128 ^ k := Nat.pow_pos (by decide)
    obtain ⟨m1, m2⟩ := mark_lt (p / 128 ^ k % 128) (q / 128 ^ k % 128) (Nat.mod_lt _ (by decide)) (Nat.mod_lt _ (by decide))
    obtain ⟨l1, l2⟩ := lex_lt (p / 128 ^ k % 128) (q / 128 ^ k % 128) (p % 128 ^ k) (q % 128 ^ k) (128 ^ k) (Nat.mod_lt _ hP) (Nat.mod_lt _ hP)
    have e : ∀ x, x % 128 ^ (k + 1) = x / 128 ^ k % 128 * 128 ^ k + x % 128 ^ k := fun x => by
      rw [Nat.pow_succ, Nat.mod_mul, Nat.add_comm, Nat.mul_comm]
    rw [e p, e q]
    simp only [dg, List.cons_append, Op.bytesLess, dg_less u v k p q]
    rw [Bool.eq_iff_iff]
    simp only [Bool.or_eq_true, Bool.and_eq_true, decide_eq_true_eq, beq_iff_eq]
    rw [m1, m2, l1, l2]
    constructor
    · rintro (h | ⟨h1, h2 | ⟨h2, h3⟩⟩)
      · exact .inl (.inl h)
      · exact .inl (.inr ⟨h1, h2⟩)
      · exact .inr ⟨⟨h1, h2⟩, h3⟩
    · rintro ((h | ⟨h1, h2⟩) | ⟨⟨h1, h2⟩, h3⟩)
      · exact .inl h
      · exact .inr ⟨h1, .inl h2⟩
      · exact .inr ⟨h1, .inr ⟨h2, h3⟩⟩

/-- Of two numbers of as many digits the bytes are in the order of the numbers. -/
theorem num_less (a b : Nat) (ha : a < 18446744073709551616) (hb : b < 18446744073709551616) (h : nd a = nd b) : Op.bytesLess (num a) (num b) = decide (a < b) := by
  obtain ⟨h1, _⟩ := nd_spec a ha
  obtain ⟨h2, _⟩ := nd_spec b hb
  have hp := nd_pos a
  obtain ⟨K, hK⟩ : ∃ K, nd a = K + 1 := ⟨nd a - 1, by omega⟩
  unfold num
  rw [← h] at h2 ⊢
  rw [hK] at h1 h2 ⊢
  rw [Nat.pow_succ] at h1 h2
  rw [Nat.add_sub_cancel, dg_less, Nat.mod_eq_of_lt (Nat.div_lt_of_lt_mul (by rw [Nat.mul_comm]; exact h1)), Nat.mod_eq_of_lt (Nat.div_lt_of_lt_mul (by rw [Nat.mul_comm]; exact h2))]
  have hu : UInt8.ofNat (a % 128) < UInt8.ofNat (b % 128) ↔ a % 128 < b % 128 := by
    rw [UInt8.lt_iff_toNat_lt, plain_toNat _ (Nat.mod_lt _ (by decide)), plain_toNat _ (Nat.mod_lt _ (by decide))]
  rw [Bool.eq_iff_iff, decide_eq_true_eq, decide_eq_true_eq, hu]
  constructor <;> intro h <;> omega

/-- One of fewer digits is less. -/
theorem nd_less (a b : Nat) (ha : a < 18446744073709551616) (hb : b < 18446744073709551616) (h : nd a < nd b) : a < b := by
  obtain ⟨h1, _⟩ := nd_spec a ha
  obtain ⟨_, h2⟩ := nd_spec b hb
  have hp := nd_pos a
  rcases h2 with h2 | h2
  · omega
  · have : 128 ^ nd a ≤ 128 ^ (nd b - 1) := Nat.pow_le_pow_right (by decide) (by omega)
    omega
end Go.Proofs.Ytnahdhhojjicjaa.Pl
