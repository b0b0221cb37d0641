/- Plain arithmetic of the layer fold: the sum of some bytes. No program in sight. -/
import Derived.KernelRfl
namespace Go.Proofs.YtmmfbeeeamcooaaDoor.Pl

/-- A doubling (the document's). -/
def dbl (c : Nat) : Nat := if 32768 ≤ c then (c * 2 % 65536) ^^^ 4129 else c * 2 % 65536
def dbls : Nat → Nat → Nat
  | 0, c => c
  | k + 1, c => dbls k (dbl c)
/-- A byte more. -/
def crcB (c : Nat) (b : UInt8) : Nat := dbls 8 (c ^^^ b.toNat * 256)
def crcF (c : Nat) (l : List UInt8) : Nat := l.foldl crcB c
def crc (l : List UInt8) : Nat := crcF 65535 l

theorem xor_lt16 {a b : Nat} (ha : a < 65536) (hb : b < 65536) : a ^^^ b < 65536 := Nat.xor_lt_two_pow (n := 16) ha hb
theorem dbl_lt (c : Nat) : dbl c < 65536 := by
  unfold dbl; split
  · exact xor_lt16 (Nat.mod_lt _ (by decide)) (by decide)
  · exact Nat.mod_lt _ (by decide)
theorem dbls_lt : ∀ k c, c < 65536 → dbls k c < 65536
  | 0, _, h => h
  | k + 1, c, _ => dbls_lt k (dbl c) (dbl_lt c)
theorem crcB_lt (c : Nat) (b : UInt8) (h : c < 65536) : crcB c b < 65536 := dbls_lt 8 _ (xor_lt16 h (by have := b.toNat_lt; omega))
theorem crcF_lt : ∀ (l : List UInt8) (c : Nat), c < 65536 → crcF c l < 65536
  | [], _, h => h
  | b :: l, c, h => by
    have ih := crcF_lt l (crcB c b) (crcB_lt c b h)
    unfold crcF at ih ⊢
    rw [List.foldl_cons]
    exact ih
theorem crcF_append (l m : List UInt8) (c : Nat) : crcF c (l ++ m) = crcF (crcF c l) m := by
  unfold crcF; rw [List.foldl_append]
theorem crcF_cons (b : UInt8) (m : List UInt8) (c : Nat) : crcF c (b :: m) = crcF (crcB c b) m := by
  unfold crcF; rw [List.foldl_cons]
theorem crcF_nil (c : Nat) : crcF c [] = c := by unfold crcF; rw [List.foldl_nil]
theorem crcF_snoc (l : List UInt8) (b : UInt8) (c : Nat) : crcF c (l ++ [b]) = crcB (crcF c l) b := by
  rw [crcF_append, crcF_cons, crcF_nil]
theorem crc_lt (l : List UInt8) : crc l < 65536 := crcF_lt l _ (by decide)

/-- What the program's table makes of four doublings. -/
def tab (i : Nat) : Nat := [0, 4129, 8258, 12387, 16516, 20645, 24774, 28903, 33032, 37161, 41290, 45419, 49548, 53677, 57806, 61935].getD i 0
def nib (c : Nat) : Nat := (c * 16 % 65536) ^^^ tab (c / 4096)
theorem testBit15 (c : Nat) (h : c < 65536) : (32768 ≤ c) = (c.testBit 15 = true) := by
  rw [Nat.testBit_eq_decide_div_mod_eq]
  simp only [decide_eq_true_eq, eq_iff_iff]
  have : (2 : Nat) ^ 15 = 32768 := by decide
  omega
theorem dbl_eq (c : Nat) (h : c < 65536) : dbl c = (c * 2 % 65536) ^^^ (bif c.testBit 15 then 4129 else 0) := by
  unfold dbl
  simp only [testBit15 c h]
  cases c.testBit 15 <;> simp
theorem mul2_xor (a b : Nat) : (a ^^^ b) * 2 % 65536 = (a * 2 % 65536) ^^^ (b * 2 % 65536) := by
  have e : ∀ x : Nat, x * 2 % 65536 = (x <<< 1) % 2 ^ 16 := fun x => by rw [Nat.shiftLeft_eq]
  rw [e, e, e, Nat.shiftLeft_xor_distrib, Nat.xor_mod_two_pow]
/-- Doubling goes through an exclusive or. -/
theorem dbl_xor (a b : Nat) (ha : a < 65536) (hb : b < 65536) : dbl (a ^^^ b) = dbl a ^^^ dbl b := by
  rw [dbl_eq a ha, dbl_eq b hb, dbl_eq _ (xor_lt16 ha hb), mul2_xor, Nat.testBit_xor]
  generalize a * 2 % 65536 = x
  generalize b * 2 % 65536 = y
  generalize a.testBit 15 = p
  generalize b.testBit 15 = q
  apply Nat.eq_of_testBit_eq
  intro i
  cases p <;> cases q <;> simp only [Nat.testBit_xor, Bool.xor_false, Bool.xor_true, Bool.not_false, Bool.not_true, cond_true, cond_false, Nat.zero_testBit] <;>
    (generalize x.testBit i = u; generalize y.testBit i = v; generalize Nat.testBit 4129 i = t; revert u v t; decide)
theorem dbls_xor : ∀ k a b, a < 65536 → b < 65536 → dbls k (a ^^^ b) = dbls k a ^^^ dbls k b
  | 0, _, _, _, _ => rfl
  | k + 1, a, b, ha, hb => by
    rw [dbls, dbls, dbls, dbl_xor a b ha hb]
    exact dbls_xor k _ _ (dbl_lt a) (dbl_lt b)
theorem dbls4_low (x : Nat) (h : x < 4096) : dbls 4 x = x * 16 := by
  have e : ∀ y : Nat, y < 32768 → dbl y = y * 2 := fun y hy => by unfold dbl; rw [if_neg (by omega)]; omega
  simp only [dbls]
  rw [e x (by omega), e (x * 2) (by omega), e (x * 2 * 2) (by omega), e (x * 2 * 2 * 2) (by omega)]
  omega
theorem dbls4_high : ∀ i : Fin 16, dbls 4 (i.val * 4096) = tab i.val := by decide +kernel
theorem hi_lo (c : Nat) : (c / 4096) * 4096 ^^^ c % 4096 = c := by
  have e1 : (c / 4096) * 4096 = (c >>> 12) <<< 12 := by rw [Nat.shiftLeft_eq, Nat.shiftRight_eq_div_pow]
  have e2 : c % 4096 = c % 2 ^ 12 := rfl
  apply Nat.eq_of_testBit_eq
  intro i
  rw [Nat.testBit_xor, e1, e2, Nat.testBit_shiftLeft, Nat.testBit_mod_two_pow, Nat.testBit_shiftRight]
  by_cases h : 12 ≤ i
  · have h2 : ¬ i < 12 := by omega
    simp [h, h2]
  · have h2 : i < 12 := by omega
    simp [h, h2]
theorem nib_eq (c : Nat) (h : c < 65536) : nib c = dbls 4 c := by
  have e := dbls_xor 4 (c / 4096 * 4096) (c % 4096) (by omega) (by omega)
  rw [hi_lo, dbls4_low (c % 4096) (by omega), dbls4_high ⟨c / 4096, by omega⟩] at e
  rw [e, nib, Nat.xor_comm]
  congr 1
  omega
theorem tab_lt : ∀ i, tab i < 65536 := by
  intro i
  by_cases h : i < 16
  · have : ∀ j : Fin 16, tab j.val < 65536 := by decide
    exact this ⟨i, h⟩
  · unfold tab
    rw [List.getD_eq_getElem?_getD, List.getElem?_eq_none (by simp; omega)]
    decide
theorem nib_lt (c : Nat) : nib c < 65536 := xor_lt16 (Nat.mod_lt _ (by decide)) (tab_lt _)
def nibs : Nat → Nat → Nat
  | 0, c => c
  | k + 1, c => nib (nibs k c)
theorem nibs_lt : ∀ k c, c < 65536 → nibs k c < 65536
  | 0, _, h => h
  | _ + 1, _, _ => nib_lt _
theorem dbls_add : ∀ a b c, dbls (a + b) c = dbls b (dbls a c)
  | 0, b, c => by simp [dbls]
  | a + 1, b, c => by rw [show a + 1 + b = (a + b) + 1 from by omega, dbls, dbls, dbls_add a b]
theorem nib_nib (c : Nat) (h : c < 65536) : nib (nib c) = dbls 8 c := by
  rw [nib_eq c h, nib_eq _ (dbls_lt 4 c h), ← dbls_add]
theorem nibs_two (c : Nat) (b : UInt8) (h : c < 65536) : nibs 2 (c ^^^ b.toNat * 256) = crcB c b :=
  nib_nib _ (xor_lt16 h (by have := b.toNat_lt; omega))
theorem dbls_succ : ∀ k c, dbls (k + 1) c = dbl (dbls k c) := fun k c => by rw [dbls_add k 1]; rfl

end Go.Proofs.YtmmfbeeeamcooaaDoor.Pl
