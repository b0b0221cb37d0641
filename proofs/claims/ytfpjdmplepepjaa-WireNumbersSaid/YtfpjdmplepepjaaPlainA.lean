/- Plain arithmetic of the layer mint: the digits of a number in base 128. No program in sight. -/
import Derived.Lib.BitFns
namespace Go.Proofs.Ytfpjdmplepepjaa.Pl

/-- The k lowest digits of m, the greatest first, each with the mark 128. -/
def dg : Nat → Nat → List UInt8
  | 0, _ => []
  | k + 1, m => UInt8.ofNat (128 + m / 128 ^ k % 128) :: dg k m

theorem dg_length : ∀ k m, (dg k m).length = k
  | 0, _ => rfl
  | k + 1, m => by simp [dg, dg_length k m]

/-- How many digits a number has, at least one (up to ten are told). -/
def ndF : Nat → Nat → Nat
  | 0, _ => 1
  | f + 1, n => if n < 128 then 1 else ndF f (n / 128) + 1
def nd (n : Nat) : Nat := ndF 10 n

theorem ndF_pos : ∀ f n, 1 ≤ ndF f n
  | 0, _ => Nat.le_refl _
  | f + 1, n => by unfold ndF; split <;> omega
theorem nd_pos (n : Nat) : 1 ≤ nd n := ndF_pos 10 n

theorem ndF_spec : ∀ f n, n < 128 ^ (f + 1) → n < 128 ^ ndF f n ∧ (ndF f n = 1 ∨ 128 ^ (ndF f n - 1) ≤ n)
  | 0, n, h => by simpa [ndF] using h
  | f + 1, n, h => by
    unfold ndF
    split
    · next h1 => exact ⟨by simpa using h1, Or.inl rfl⟩
    · next h1 =>
      have h2 : n / 128 < 128 ^ (f + 1) := by
        rw [Nat.div_lt_iff_lt_mul (by decide)]; simpa [Nat.pow_succ] using h
      obtain ⟨a, b⟩ := ndF_spec f (n / 128) h2
      have hp := ndF_pos f (n / 128)
      refine ⟨?_, Or.inr ?_⟩
      · rw [Nat.pow_succ]
        exact (Nat.div_lt_iff_lt_mul (by decide)).1 a
      · rw [Nat.add_sub_cancel]
        rcases b with b | b
        · rw [b]; omega
        · obtain ⟨q, hq⟩ : ∃ q, ndF f (n / 128) = q + 1 := ⟨ndF f (n / 128) - 1, by omega⟩
          rw [hq] at b ⊢
          rw [Nat.add_sub_cancel] at b
          rw [Nat.pow_succ]
          exact (Nat.le_div_iff_mul_le (by decide)).1 b

theorem nd_spec (n : Nat) (h : n < 18446744073709551616) : n < 128 ^ nd n ∧ (nd n = 1 ∨ 128 ^ (nd n - 1) ≤ n) :=
  ndF_spec 10 n (Nat.lt_of_lt_of_le h (by decide))

theorem nd_unique (n k : Nat) (h : n < 18446744073709551616) (hk : 1 ≤ k) (h1 : n < 128 ^ k) (h2 : k = 1 ∨ 128 ^ (k - 1) ≤ n) : k = nd n := by
  obtain ⟨a, b⟩ := nd_spec n h
  have hp := nd_pos n
  rcases Nat.lt_trichotomy k (nd n) with hlt | heq | hgt
  · rcases b with b | b
    · omega
    · have : 128 ^ k ≤ 128 ^ (nd n - 1) := Nat.pow_le_pow_right (by decide) (by omega)
      omega
  · exact heq
  · rcases h2 with h2 | h2
    · omega
    · have : 128 ^ nd n ≤ 128 ^ (k - 1) := Nat.pow_le_pow_right (by decide) (by omega)
      omega

theorem nd_le (n : Nat) (h : n < 18446744073709551616) : nd n ≤ 10 := by
  have hp := nd_pos n
  rcases (nd_spec n h).2 with b | b
  · omega
  · rcases Nat.lt_or_ge 10 (nd n) with hgt | hle
    · have : 128 ^ 10 ≤ 128 ^ (nd n - 1) := Nat.pow_le_pow_right (by decide) (by omega)
      have h10 : (128 : Nat) ^ 10 = 1180591620717411303424 := by decide
      omega
    · exact hle

/-- A number's bytes (P1.1). -/
def num (n : Nat) : List UInt8 := dg (nd n - 1) (n / 128) ++ [UInt8.ofNat (n % 128)]

theorem num_length (n : Nat) : (num n).length = nd n := by
  have := nd_pos n
  simp [num, dg_length]; omega
theorem num_length_le (n : Nat) (h : n < 18446744073709551616) : (num n).length ≤ 10 := by rw [num_length]; exact nd_le n h

theorem num_small (n : Nat) (h : n < 128) : num n = [UInt8.ofNat n] := by
  have h1 : nd n = 1 := by simp [nd, ndF, h]
  simp [num, h1, dg, Nat.mod_eq_of_lt h]

/-- How many bytes the program makes room for. -/
theorem bitLen_lt (n : Nat) (h : n < 18446744073709551616) : n < 2 ^ Lib.bitLen n ∧ (n = 0 ∨ 2 ^ (Lib.bitLen n - 1) ≤ n) := by
  have key : ∀ f x, x < 2 ^ f → x < 2 ^ Lib.bitLenAux f x ∧ (x = 0 ∨ 2 ^ (Lib.bitLenAux f x - 1) ≤ x) := by
    intro f
    induction f with
    | zero =>
      intro x hx
      have h0 : x = 0 := by simpa using hx
      subst h0; simp [Lib.bitLenAux]
    | succ f ih =>
      intro x hx
      unfold Lib.bitLenAux
      split
      · next h0 => subst h0; simp
      · next h0 =>
        have hx2 : x / 2 < 2 ^ f := by rw [Nat.pow_succ] at hx; omega
        obtain ⟨a, b⟩ := ih (x / 2) hx2
        refine ⟨by rw [Nat.pow_add]; omega, Or.inr ?_⟩
        rw [Nat.add_sub_cancel_left]
        by_cases h3 : Lib.bitLenAux f (x / 2) = 0
        · rw [h3]; simp; omega
        · obtain ⟨q, hq⟩ : ∃ q, Lib.bitLenAux f (x / 2) = q + 1 := ⟨Lib.bitLenAux f (x / 2) - 1, by omega⟩
          rw [hq] at a b ⊢
          rw [Nat.add_sub_cancel] at b
          rcases b with b | b
          · rw [b] at hq
            exfalso
            cases f <;> simp [Lib.bitLenAux] at hq
          · rw [Nat.pow_succ]; omega
  exact key 64 n h

theorem many_eq (n : Nat) (h : n < 18446744073709551616) : max ((Lib.bitLen n + 6) / 7) 1 = nd n := by
  obtain ⟨a, b⟩ := bitLen_lt n h
  have e : ∀ k, (128 : Nat) ^ k = 2 ^ (7 * k) := fun k => by rw [Nat.pow_mul]
  refine nd_unique n _ h (by omega) ?_ ?_
  · rw [e]
    refine Nat.lt_of_lt_of_le a (Nat.pow_le_pow_right (by decide) ?_)
    omega
  · rcases b with b | b
    · subst b; left; decide
    · by_cases h1 : (Lib.bitLen n + 6) / 7 ≤ 1
      · left; omega
      · right
        rw [e]
        refine Nat.le_trans (Nat.pow_le_pow_right (by decide) ?_) b
        omega

theorem bitLen_le (n : Nat) : Lib.bitLen n ≤ 64 := by
  have key : ∀ f x, Lib.bitLenAux f x ≤ f := by
    intro f
    induction f with
    | zero => intro x; simp [Lib.bitLenAux]
    | succ f ih => intro x; have := ih (x / 2); unfold Lib.bitLenAux; split <;> omega
  exact key 64 n

/-- The cells behind i rounds: the i last bytes hold a digit with its mark. -/
def cellN (many n i j : Nat) : Nat := if many - 1 - j < i then 128 + n / 128 ^ (many - 1 - j) % 128 else 0

theorem dg_get : ∀ k m j, j < k → (dg k m)[j]? = some (UInt8.ofNat (128 + m / 128 ^ (k - 1 - j) % 128))
  | 0, _, _, h => by omega
  | k + 1, m, 0, _ => by simp [dg]
  | k + 1, m, j + 1, h => by
    simp only [dg, List.getElem?_cons_succ]
    rw [dg_get k m j (by omega), show k + 1 - 1 - (j + 1) = k - 1 - j from by omega]

/-- Told from behind: a digit more. -/
theorem dg_snoc : ∀ k m, dg (k + 1) m = dg k (m / 128) ++ [UInt8.ofNat (128 + m % 128)]
  | 0, m => by simp [dg]
  | k + 1, m => by
    rw [dg, dg_snoc k m]
    simp only [dg, List.cons_append]
    congr 3
    rw [Nat.div_div_eq_div_mul, Nat.pow_succ, Nat.mul_comm 128]

/-- A step of the document's loop. -/
theorem ref_step (n k m : Nat) (hn : n < 18446744073709551616) (hm : m = n / 128 ^ k) (h : 128 ≤ m) :
    m / 128 = n / 128 ^ (k + 1) ∧ dg (k + 1) (n / 128) = UInt8.ofNat (128 + m / 128 % 128) :: dg k (n / 128) ∧ 128 ^ (k + 1) ≤ n ∧ k + 1 ≤ 10 := by
  have e : n / 128 / 128 ^ k = m / 128 := by rw [hm, Nat.div_div_eq_div_mul, Nat.div_div_eq_div_mul, Nat.mul_comm]
  have h3 : 128 ^ (k + 1) ≤ n := by
    rw [Nat.pow_succ, Nat.mul_comm]
    rw [hm] at h
    exact (Nat.le_div_iff_mul_le (Nat.pow_pos (by decide))).1 h
  refine ⟨by rw [hm, Nat.div_div_eq_div_mul, Nat.pow_succ], by rw [dg, e], h3, ?_⟩
  rcases Nat.lt_or_ge 10 (k + 1) with hgt | hle
  · have : (128 : Nat) ^ 10 ≤ 128 ^ (k + 1) := Nat.pow_le_pow_right (by decide) (by omega)
    have h10 : (128 : Nat) ^ 10 = 1180591620717411303424 := by decide
    omega
  · exact hle
theorem ref_end (n k m : Nat) (hn : n < 18446744073709551616) (hm : m = n / 128 ^ k) (h : m < 128) (h2 : k = 0 ∨ 128 ^ k ≤ n) :
    dg k (n / 128) ++ [UInt8.ofNat (n % 128)] = num n := by
  have : k + 1 = nd n := by
    refine nd_unique n (k + 1) hn (by omega) ?_ ?_
    · rw [Nat.pow_succ, Nat.mul_comm]
      rw [hm] at h
      exact (Nat.div_lt_iff_lt_mul (Nat.pow_pos (by decide))).1 h
    · rcases h2 with h2 | h2
      · left; omega
      · right; simpa using h2
  rw [num, ← this]; rfl

/-- A number is read: so many digits at most; whether this is the first; what was read; the bytes. -/
def rdG : Nat → Bool → Nat → List UInt8 → Option (Nat × List UInt8)
  | 0, _, _, _ => none
  | _ + 1, _, _, [] => none
  | f + 1, first, n, c :: l =>
    if 144115188075855872 ≤ n ∨ (first = true ∧ c = 128) then none
    else if c < 128 then some (n * 128 + c.toNat % 128, l) else rdG f false (n * 128 + c.toNat % 128) l
def rdNum (l : List UInt8) : Option (Nat × List UInt8) := rdG 10 true 0 l

theorem mark_toNat (x : Nat) (h : x < 128) : (UInt8.ofNat (128 + x)).toNat = 128 + x := by
  rw [UInt8.toNat_ofNat']; omega
theorem plain_toNat (x : Nat) (h : x < 128) : (UInt8.ofNat x).toNat = x := by
  rw [UInt8.toNat_ofNat']; omega

theorem rdG_num (n : Nat) (hn : n < 18446744073709551616) (r : List UInt8) : ∀ (k f : Nat) (first : Bool), k + 1 ≤ f → (first = true → k = 0 ∨ n / 128 ^ k % 128 ≠ 0) →
    rdG f first (n / 128 ^ (k + 1)) (dg k (n / 128) ++ UInt8.ofNat (n % 128) :: r) = some (n, r)
  | 0, f, first, hf, _ => by
    obtain ⟨g, rfl⟩ : ∃ g, f = g + 1 := ⟨f - 1, by omega⟩
    have h1 : (UInt8.ofNat (n % 128)).toNat = n % 128 := plain_toNat _ (by omega)
    have h2 : UInt8.ofNat (n % 128) < 128 := by rw [UInt8.lt_iff_toNat_lt, h1]; exact Nat.mod_lt _ (by decide)
    simp only [dg, List.nil_append, rdG, Nat.zero_add, Nat.pow_one]
    rw [if_neg, if_pos h2, h1]
    · congr 2; omega
    · rintro (h3 | ⟨_, h3⟩)
      · omega
      · rw [h3] at h2; exact absurd h2 (by decide)
  | k + 1, f, first, hf, hz => by
    obtain ⟨g, rfl⟩ : ∃ g, f = g + 1 := ⟨f - 1, by omega⟩
    have e0 : n / 128 / 128 ^ k = n / 128 ^ (k + 1) := by rw [Nat.div_div_eq_div_mul, Nat.pow_succ, Nat.mul_comm]
    have e1 : n / 128 ^ (k + 1 + 1) = n / 128 ^ (k + 1) / 128 := by rw [Nat.div_div_eq_div_mul, Nat.pow_succ]
    have h1 : (UInt8.ofNat (128 + n / 128 ^ (k + 1) % 128)).toNat = 128 + n / 128 ^ (k + 1) % 128 := mark_toNat _ (by omega)
    have h2 : ¬ UInt8.ofNat (128 + n / 128 ^ (k + 1) % 128) < 128 := by
      rw [UInt8.lt_iff_toNat_lt, h1]
      show ¬ _ < 128
      omega
    have h4 : n / 128 ^ (k + 1) ≤ n / 128 := Nat.div_le_div_left (by rw [Nat.pow_succ]; exact Nat.le_mul_of_pos_left _ (Nat.pow_pos (by decide))) (by decide)
    simp only [dg, List.cons_append, rdG, e0]
    rw [if_neg, if_neg h2, h1, e1]
    · rw [show n / 128 ^ (k + 1) / 128 * 128 + (128 + n / 128 ^ (k + 1) % 128) % 128 = n / 128 ^ (k + 1) from by omega]
      exact rdG_num n hn r k g false (by omega) (fun h => by cases h)
    · rintro (h3 | ⟨hfi, h3⟩)
      · omega
      · rcases hz hfi with h5 | h5
        · omega
        · have := congrArg UInt8.toNat h3
          rw [h1] at this
          have e : (128 : UInt8).toNat = 128 := rfl
          omega

/-- What was written is read again, and what stands behind it is left. -/
theorem rd_num (n : Nat) (hn : n < 18446744073709551616) (r : List UInt8) : rdNum (num n ++ r) = some (n, r) := by
  obtain ⟨a, b⟩ := nd_spec n hn
  have hp := nd_pos n
  have hle := nd_le n hn
  have h := rdG_num n hn r (nd n - 1) 10 true (by omega) (fun _ => by
    rcases b with b | b
    · left; omega
    · right
      have hq : 0 < 128 ^ (nd n - 1) := Nat.pow_pos (by decide)
      have h1 : n / 128 ^ (nd n - 1) < 128 := by
        rw [Nat.div_lt_iff_lt_mul hq, Nat.mul_comm, ← Nat.pow_succ, show Nat.succ (nd n - 1) = nd n from by omega]; exact a
      have h2 : 1 ≤ n / 128 ^ (nd n - 1) := (Nat.le_div_iff_mul_le hq).2 (by omega)
      omega)
  rw [show nd n - 1 + 1 = nd n from by omega, Nat.div_eq_of_lt a] at h
  rw [rdNum, num, List.append_assoc]
  exact h

/-- No number's bytes begin another one's. -/
theorem num_inj {a b : Nat} {r t : List UInt8} (ha : a < 18446744073709551616) (hb : b < 18446744073709551616) (h : num a ++ r = num b ++ t) : a = b ∧ r = t := by
  have h1 := rd_num a ha r
  rw [h, rd_num b hb t] at h1
  cases h1
  exact ⟨rfl, rfl⟩

end Go.Proofs.Ytfpjdmplepepjaa.Pl
