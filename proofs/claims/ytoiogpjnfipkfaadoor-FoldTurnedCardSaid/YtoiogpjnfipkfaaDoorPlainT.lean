/- Turned bits and the sum. No program in sight. -/
import Derived.Test.YtoiogpjnfipkfaaDoorPlainB
namespace Go.Proofs.YtoiogpjnfipkfaaDoor.Pl

theorem dbls_low : ∀ (k x : Nat), x * 2 ^ k < 65536 → dbls k x = x * 2 ^ k
  | 0, x, _ => by simp [dbls]
  | k + 1, x, h => by
    have e : x * 2 ^ (k + 1) = x * 2 * 2 ^ k := by rw [Nat.pow_succ, Nat.mul_comm (2 ^ k) 2, Nat.mul_assoc]
    rw [e] at h ⊢
    have h2 : x * 2 < 65536 := Nat.lt_of_le_of_lt (Nat.le_mul_of_pos_right _ (Nat.pow_pos (by decide))) h
    have h3 : dbl x = x * 2 := by unfold dbl; rw [if_neg (by omega)]; omega
    rw [dbls, h3]
    exact dbls_low k (x * 2) h
theorem dbl_zero (x : Nat) (hx : x < 65536) (h : dbl x = 0) : x = 0 := by
  unfold dbl at h
  split at h
  · have h1 := congrArg (· ^^^ 4129) h
    simp only [Nat.xor_assoc, Nat.xor_self, Nat.xor_zero, Nat.zero_xor] at h1
    omega
  · omega
theorem dbls_zero : ∀ (k x : Nat), x < 65536 → dbls k x = 0 → x = 0
  | 0, _, _, h => h
  | k + 1, x, hx, h => dbl_zero x hx (dbls_zero k (dbl x) (dbl_lt x) h)
theorem dbls_nil : ∀ k, dbls k 0 = 0
  | 0 => rfl
  | k + 1 => by rw [dbls]; exact dbls_nil k

theorem crcB_xor (c d : Nat) (b : UInt8) (hc : c < 65536) (hd : d < 65536) : crcB (c ^^^ d) b = crcB c b ^^^ dbls 8 d := by
  have hb : b.toNat * 256 < 65536 := by have := b.toNat_lt; omega
  unfold crcB
  rw [show c ^^^ d ^^^ b.toNat * 256 = (c ^^^ b.toNat * 256) ^^^ d from by rw [Nat.xor_assoc, Nat.xor_comm d, ← Nat.xor_assoc]]
  exact dbls_xor 8 _ _ (xor_lt16 hc hb) hd
theorem crcF_xor : ∀ (l : List UInt8) (c d : Nat), c < 65536 → d < 65536 → crcF (c ^^^ d) l = crcF c l ^^^ dbls (8 * l.length) d
  | [], c, d, _, _ => by rw [crcF_nil, crcF_nil]; rfl
  | b :: l, c, d, hc, hd => by
    rw [crcF_cons, crcF_cons, crcB_xor c d b hc hd, crcF_xor l _ _ (crcB_lt c b hc) (dbls_lt 8 d hd), ← dbls_add, List.length_cons, show 8 + 8 * l.length = 8 * (l.length + 1) from by omega]

theorem byte_lt (b : UInt8) : b.toNat * 256 < 65536 := by have := b.toNat_lt; omega
/-- A byte is turned by a mask. -/
theorem crcB_turn (c : Nat) (b m : UInt8) (hc : c < 65536) : crcB c (b ^^^ m) = crcB c b ^^^ dbls 8 (m.toNat * 256) := by
  have hb : b.toNat * 256 < 65536 := byte_lt b
  have hm : m.toNat * 256 < 65536 := byte_lt m
  have e : (b ^^^ m).toNat * 256 = b.toNat * 256 ^^^ m.toNat * 256 := by
    have e : ∀ x : Nat, x * 256 = x <<< 8 := fun x => (Nat.shiftLeft_eq x 8).symm
    rw [UInt8.toNat_xor, e, e, e, Nat.shiftLeft_xor_distrib]
  unfold crcB
  rw [e, ← Nat.xor_assoc]
  exact dbls_xor 8 _ _ (xor_lt16 hc hb) hm

theorem crc_set (l : List UInt8) (j : Nat) (b m : UInt8) (hj : l[j]? = some b) (c : Nat) (hc : c < 65536) : crcF c (l.set j (b ^^^ m)) = crcF c l ^^^ dbls (8 * (l.length - j)) (m.toNat * 256) := by
  induction l generalizing j c with
  | nil => simp at hj
  | cons x l ih =>
    have hm : m.toNat * 256 < 65536 := byte_lt m
    cases j with
    | zero =>
      simp at hj
      subst hj
      rw [List.set_cons_zero, crcF_cons, crcF_cons, crcB_turn c x m hc, crcF_xor l _ _ (crcB_lt c x hc) (dbls_lt 8 _ hm), ← dbls_add]
      rw [List.length_cons, show 8 + 8 * l.length = 8 * (l.length + 1 - 0) from by omega]
    | succ j =>
      rw [List.getElem?_cons_succ] at hj
      rw [List.set_cons_succ, crcF_cons, crcF_cons, ih j hj (crcB c x) (crcB_lt c x hc), List.length_cons, Nat.succ_sub_succ]

/-- The mask of a place. -/
def mask (q : Nat) : UInt8 := UInt8.ofNat (128 / 2 ^ (q % 8))
theorem mask_toNat (q : Nat) : (mask q).toNat * 256 = 2 ^ (15 - q % 8) := by
  have : ∀ r : Fin 8, (UInt8.ofNat (128 / 2 ^ r.val)).toNat * 256 = 2 ^ (15 - r.val) := by decide +kernel
  exact this ⟨q % 8, Nat.mod_lt _ (by decide)⟩

/-- One place is turned. -/
theorem crc_place (l : List UInt8) (q : Nat) (b : UInt8) (hj : l[q / 8]? = some b) (E i : Nat) (hE : E + (15 - i) = 8 * l.length + 15 - q) (hi : i ≤ 15) (hq : q < 8 * l.length) :
    crc (l.set (q / 8) (b ^^^ mask q)) = crc l ^^^ dbls E (2 ^ (15 - i)) := by
  rw [crc, crc_set l _ b _ hj 65535 (by decide), mask_toNat]
  show crc l ^^^ _ = _
  congr 1
  have h2 : ∀ j, j ≤ 15 → dbls j 1 = 2 ^ j := fun j hj => by
    have := dbls_low j 1 (by rw [Nat.one_mul]; exact Nat.lt_of_le_of_lt (Nat.pow_le_pow_right (by decide) hj) (by decide))
    rwa [Nat.one_mul] at this
  rw [← h2 (15 - q % 8) (by omega), ← h2 (15 - i) (by omega), ← dbls_add, ← dbls_add]
  congr 1
  omega

/-- What so many of the bits have turned, the first one the greatest. -/
def acc (B : Nat) : Nat → Nat
  | 0 => 0
  | k + 1 => if B / 2 ^ k % 2 = 1 then acc B k ^^^ 2 ^ (15 - k) else acc B k
theorem acc_lt (B : Nat) : ∀ k, k ≤ 16 → acc B k < 65536
  | 0, _ => Nat.zero_lt_succ _
  | k + 1, h => by
    have ih := acc_lt B k (by omega)
    unfold acc
    split
    · exact xor_lt16 ih (Nat.lt_of_le_of_lt (Nat.pow_le_pow_right (by decide) (Nat.sub_le 15 k)) (by decide))
    · exact ih
theorem acc_bit (B : Nat) : ∀ k, k ≤ 16 → ∀ j, j < 16 → (acc B k).testBit j = (decide (15 - j < k) && B.testBit (15 - j))
  | 0, _, j, _ => by simp [acc]
  | k + 1, h, j, hj => by
    have ih := acc_bit B k (by omega) j hj
    have hb : B.testBit k = decide (B / 2 ^ k % 2 = 1) := Nat.testBit_eq_decide_div_mod_eq
    unfold acc
    by_cases hk : 15 - j = k
    · have e : 15 - k = j := by omega
      rw [hk] at ih
      split
      · rename_i h1
        rw [Nat.testBit_xor, ih, e, Nat.testBit_two_pow_self, hk, hb]
        simp [h1]
      · rename_i h1
        rw [ih, hk, hb]
        simp [h1]
    · have e : ¬ 15 - k = j := by omega
      have e2 : decide (15 - j < k + 1) = decide (15 - j < k) := by
        apply decide_eq_decide.2; omega
      rw [e2, ← ih]
      split
      · rw [Nat.testBit_xor, Nat.testBit_two_pow_of_ne (fun h => e h)]
        simp
      · rfl
theorem acc_zero (B : Nat) (hB : B < 65536) (h : acc B 16 = 0) : B = 0 := by
  apply Nat.eq_of_testBit_eq
  intro i
  rw [Nat.zero_testBit]
  by_cases hi : i < 16
  · have := acc_bit B 16 (by decide) (15 - i) (by omega)
    rw [h, Nat.zero_testBit, show 15 - (15 - i) = i from by omega] at this
    simp [hi] at this
    exact this
  · exact Nat.testBit_lt_two_pow (Nat.lt_of_lt_of_le hB (by
      have : (2 : Nat) ^ 16 ≤ 2 ^ i := Nat.pow_le_pow_right (by decide) (by omega)
      simpa using this))

/-- A sum, put behind its text, sums to nothing. -/
theorem crc_end (t : List UInt8) : crc (t ++ [UInt8.ofNat (crc t / 256), UInt8.ofNat (crc t % 256)]) = 0 := by
  have h16 := crc_lt t
  have e1 : (UInt8.ofNat (crc t / 256)).toNat = crc t / 256 := by rw [UInt8.toNat_ofNat']; omega
  have e2 : (UInt8.ofNat (crc t % 256)).toNat = crc t % 256 := by rw [UInt8.toNat_ofNat']; omega
  show crcF 65535 _ = 0
  rw [crcF_append]
  show crcF (crc t) _ = 0
  generalize crc t = c at h16 e1 e2
  rw [crcF_cons, crcF_cons, crcF_nil]
  have h1 : c ^^^ c / 256 * 256 = c % 256 := by
    have e : c / 256 * 256 = (c >>> 8) <<< 8 := by rw [Nat.shiftLeft_eq, Nat.shiftRight_eq_div_pow]
    apply Nat.eq_of_testBit_eq
    intro i
    rw [Nat.testBit_xor, e, show c % 256 = c % 2 ^ 8 from rfl, Nat.testBit_shiftLeft, Nat.testBit_mod_two_pow, Nat.testBit_shiftRight]
    by_cases h : 8 ≤ i
    · have h2 : ¬ i < 8 := by omega
      have h3 : 8 + (i - 8) = i := by omega
      simp [h, h2, h3]
    · have h2 : i < 8 := by omega
      simp [h, h2]
  have h3 : crcB c (UInt8.ofNat (c / 256)) = c % 256 * 256 := by rw [crcB, e1, h1, dbls_low 8 (c % 256) (by omega)]
  rw [h3, crcB, e2, Nat.xor_self]
  exact dbls_nil 8
end Go.Proofs.YtoiogpjnfipkfaaDoor.Pl
