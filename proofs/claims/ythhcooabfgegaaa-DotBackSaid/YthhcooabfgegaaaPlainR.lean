/- The document's reader of a number is the program's. No program in sight. -/
import Derived.Test.YthhcooabfgegaaaPlainA
namespace Go.Proofs.Ythhcooabfgegaaa.Pl

/-- What is read is a number's digits. -/
theorem rdG_is : ∀ (f : Nat) (first : Bool) (m : Nat) (l : List UInt8) (n : Nat) (r : List UInt8), rdG f first m l = some (n, r) →
    ∃ k, k + 1 ≤ f ∧ m = n / 128 ^ (k + 1) ∧ l = dg k (n / 128) ++ UInt8.ofNat (n % 128) :: r ∧ (first = true → k = 0 ∨ n / 128 ^ k % 128 ≠ 0)
  | 0, _, _, _, _, _, h => by cases h
  | f + 1, _, _, [], _, _, h => by cases h
  | f + 1, first, m, c :: l, n, r, h => by
    rw [rdG] at h
    have hc := c.toNat_lt
    split at h
    · cases h
    · rename_i hb
      split at h
      · rename_i hc2
        have hc3 : c.toNat < 128 := by rw [UInt8.lt_iff_toNat_lt] at hc2; exact hc2
        cases h
        refine ⟨0, by omega, by omega, ?_, fun _ => .inl rfl⟩
        have e : (m * 128 + c.toNat % 128) % 128 = c.toNat := by omega
        rw [e]
        simp [dg]
      · rename_i hc2
        have hc3 : 128 ≤ c.toNat := by
          rcases Nat.lt_or_ge c.toNat 128 with h' | h'
          · exact absurd (UInt8.lt_iff_toNat_lt.2 h') hc2
          · exact h'
        obtain ⟨k, h1, h2, h3, _⟩ := rdG_is f false _ l n r h
        have e0 : n / 128 / 128 ^ k = n / 128 ^ (k + 1) := by rw [Nat.div_div_eq_div_mul, Nat.pow_succ, Nat.mul_comm]
        have e1 : n / 128 ^ (k + 1 + 1) = n / 128 ^ (k + 1) / 128 := by rw [Nat.div_div_eq_div_mul, Nat.pow_succ]
        refine ⟨k + 1, by omega, by rw [e1, ← h2]; omega, ?_, fun hf => .inr ?_⟩
        · rw [dg, e0, ← h2, List.cons_append, ← h3]
          congr 1
          have e : 128 + (m * 128 + c.toNat % 128) % 128 = c.toNat := by omega
          rw [e]
          simp
        · rw [← h2]
          intro h0
          apply hb
          right
          refine ⟨hf, UInt8.toNat_inj.1 ?_⟩
          show c.toNat = 128
          omega

theorem rdNum_is (l : List UInt8) (n : Nat) (r : List UInt8) (hn : n < 18446744073709551616) (h : rdNum l = some (n, r)) : l = num n ++ r := by
  obtain ⟨k, h1, h2, h3, h4⟩ := rdG_is 10 true 0 l n r h
  have hk : k + 1 = nd n := by
    refine nd_unique n (k + 1) hn (by omega) ?_ ?_
    · rcases Nat.lt_or_ge n (128 ^ (k + 1)) with h5 | h5
      · exact h5
      · have : 1 ≤ n / 128 ^ (k + 1) := by rw [Nat.le_div_iff_mul_le (Nat.pow_pos (by decide))]; omega
        omega
    · rcases h4 rfl with h5 | h5
      · left; omega
      · right
        rw [Nat.add_sub_cancel]
        rcases Nat.lt_or_ge n (128 ^ k) with h6 | h6
        · rw [Nat.div_eq_of_lt h6] at h5; exact absurd rfl h5
        · exact h6
  rw [h3, num, ← hk, Nat.add_sub_cancel]
  simp

/-- Without the first digit's test as much is read. -/
theorem rdG_false : ∀ (f : Nat) (m : Nat) (l : List UInt8) (x : Nat × List UInt8), rdG f true m l = some x → rdG f false m l = some x
  | 0, _, _, _, h => by cases h
  | f + 1, _, [], _, h => by cases h
  | f + 1, m, c :: l, x, h => by
    rw [rdG] at h ⊢
    split at h
    · cases h
    · rename_i hb
      rw [if_neg (by intro h'; rcases h' with h' | ⟨h', _⟩; exact hb (.inl h'); cases h')]
      exact h

/-- The document's: it reads on, and then holds what it read against the number's bytes. -/
theorem ref_reads (l : List UInt8) (hb : ∀ n r, rdG 10 false 0 l = some (n, r) → n < 18446744073709551616) : rdNum l = match rdG 10 false 0 l with
    | some (n, r) => if num n = l.take (l.length - r.length) then some (n, r) else none
    | none => none := by
  cases h : rdG 10 false 0 l with
  | none =>
    simp only
    cases h2 : rdNum l with
    | none => rfl
    | some x => rw [rdG_false 10 0 l x h2] at h; cases h
  | some x =>
    obtain ⟨n, r⟩ := x
    have hn := hb n r h
    simp only
    obtain ⟨k, _, _, h3, _⟩ := rdG_is 10 false 0 l n r h
    split
    · rename_i he
      have h5 : l = l.take (l.length - r.length) ++ r := by
        have hlen : l.length - r.length = (dg k (n / 128) ++ [UInt8.ofNat (n % 128)]).length := by rw [h3]; simp; omega
        rw [hlen]
        have h6 : l = (dg k (n / 128) ++ [UInt8.ofNat (n % 128)]) ++ r := by rw [h3]; simp
        conv => rhs; rw [h6, List.take_left]
        exact h6
      rw [← he] at h5
      rw [h5]
      exact rd_num n hn r
    · rename_i he
      cases h2 : rdNum l with
      | none => rfl
      | some x =>
        obtain ⟨n2, r2⟩ := x
        have h4 := rdG_false 10 0 l _ h2
        rw [h] at h4
        cases h4
        exfalso
        apply he
        have h5 := rdNum_is l n r hn h2
        rw [h5]
        simp
end Go.Proofs.Ythhcooabfgegaaa.Pl
