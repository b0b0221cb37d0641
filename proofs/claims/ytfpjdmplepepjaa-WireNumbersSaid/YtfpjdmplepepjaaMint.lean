/- The walks of layer mint: numbers and texts as bytes. -/
import Derived.Test.YtfpjdmplepepjaaBaseB
import Derived.Test.YtfpjdmplepepjaaBase
import Derived.Test.YtfpjdmplepepjaaPlainA
import Derived.Test.YtfpjdmplepepjaaShelf
import Derived.Outline
import Derived.Deep.DeepCutAuto
namespace Go.Proofs.Ytfpjdmplepepjaa
open Go.RowKit


/-- The bytes of the row behind i rounds. -/
def cellsN (m n i : Nat) : Array Value := ((List.range m).map fun j => Value.int .u8 (Pl.cellN m n i j)).toArray
theorem cellsN_size (m n i : Nat) : (cellsN m n i).size = m := by simp [cellsN]
theorem cellsN_get (m n i j : Nat) (h : j < m) : (cellsN m n i)[j]? = some (.int .u8 (Pl.cellN m n i j)) := by simp [cellsN, h]

theorem mark_byte : ∀ x : Fin 256, bits BinOp.or IntKind.u8 (bits BinOp.and IntKind.u8 (x.val : Int) 127) 128 = (128 + x.val % 128 : Nat) := by decide +kernel
theorem unmark_byte : ∀ x : Fin 256, bits BinOp.andNot IntKind.u8 (x.val : Int) 128 = (x.val % 128 : Nat) := by decide +kernel
theorem mark_nat (x : Nat) (h : x < 256) : bits BinOp.or IntKind.u8 (bits BinOp.and IntKind.u8 (x : Int) 127) 128 = ((128 + x % 128 : Nat) : Int) := mark_byte ⟨x, h⟩
theorem unmark_nat (x : Nat) (h : x < 256) : bits BinOp.andNot IntKind.u8 (x : Int) 128 = ((x % 128 : Nat) : Int) := unmark_byte ⟨x, h⟩
theorem cellsN_step (m n k : Nat) (h : k < m) :
    (cellsN m n k).setIfInBounds (m - 1 - k) (Value.int IntKind.u8 (bits BinOp.or IntKind.u8 (bits BinOp.and IntKind.u8 ((n : Int) / 2 ^ (7 * k) % 256) 127) 128)) = cellsN m n (k + 1) := by
  have e : ((n : Int) / 2 ^ (7 * k) % 256) = ((n / 2 ^ (7 * k) % 256 : Nat) : Int) := by simp
  rw [e, mark_nat _ (by omega)]
  apply Array.ext_getElem?
  intro j
  rw [Array.getElem?_setIfInBounds]
  by_cases hj : j < m
  · by_cases he : m - 1 - k = j
    · rw [if_pos he, if_pos (by rw [cellsN_size]; omega)]
      rw [cellsN_get _ _ _ _ hj]
      unfold Pl.cellN
      rw [if_pos (by omega), show m - 1 - j = k from by omega]
      rw [show (128 : Nat) = 2 ^ 7 from rfl, ← Nat.pow_mul]
      congr 3; omega
    · rw [if_neg he, cellsN_get _ _ _ _ hj, cellsN_get _ _ _ _ hj]
      unfold Pl.cellN
      by_cases h1 : m - 1 - j < k
      · rw [if_pos h1, if_pos (by omega)]
      · rw [if_neg h1, if_neg (by omega)]
  · have h1 : (cellsN m n (k + 1))[j]? = none := by rw [Array.getElem?_eq_none_iff, cellsN_size]; omega
    have h2 : (cellsN m n k)[j]? = none := by rw [Array.getElem?_eq_none_iff, cellsN_size]; omega
    rw [h1, if_neg (by omega), h2]
theorem cellsN_zero (m n : Nat) : madeCells #[Value.int IntKind.u8 0] m = cellsN m n 0 := by
  apply Array.ext_getElem?
  intro j
  by_cases hj : j < m
  · rw [cellsN_get _ _ _ _ hj]
    simp [madeCells, hj, Pl.cellN, Nat.mod_one]
  · have h1 : (cellsN m n 0)[j]? = none := by rw [Array.getElem?_eq_none_iff, cellsN_size]; omega
    rw [h1, Array.getElem?_eq_none_iff, size_madeCells]; omega

theorem cellsN_done (n k : Nat) (hk : k = Pl.nd n) :
    (cellsN k n k).setIfInBounds (k - 1) (Value.int IntKind.u8 (bits BinOp.andNot IntKind.u8 ((Pl.cellN k n k (k - 1) : Nat) : Int) 128)) = byteCells (Pl.num n) := by
  have h1 := Pl.nd_pos n
  have e : Pl.cellN k n k (k - 1) = 128 + n % 128 := by
    unfold Pl.cellN
    rw [if_pos (by omega), show k - 1 - (k - 1) = 0 from by omega]; simp
  rw [e, unmark_nat _ (by omega)]
  apply Array.ext_getElem?
  intro j
  rw [Array.getElem?_setIfInBounds, byteCells_get, Pl.num]
  by_cases hj : j < k
  · by_cases he : k - 1 = j
    · rw [if_pos he, if_pos (by rw [cellsN_size]; omega), List.getElem?_append_right (by rw [Pl.dg_length]; omega), Pl.dg_length, show j - (Pl.nd n - 1) = 0 from by omega]
      have : (128 + n % 128) % 128 = n % 128 := by omega
      simp [this]; omega
    · rw [if_neg he, cellsN_get _ _ _ _ hj, List.getElem?_append_left (by rw [Pl.dg_length]; omega), Pl.dg_get _ _ _ (by omega)]
      unfold Pl.cellN
      have e2 : n / 128 / 128 ^ (Pl.nd n - 1 - 1 - j) = n / 128 ^ (k - 1 - j) := by
        rw [Nat.div_div_eq_div_mul, ← Nat.pow_succ', show Nat.succ (Pl.nd n - 1 - 1 - j) = k - 1 - j from by omega]
      rw [e2, if_pos (by omega)]
      simp; omega
  · have h2 : (cellsN k n k)[j]? = none := by rw [Array.getElem?_eq_none_iff, cellsN_size]; omega
    rw [if_neg (by omega), h2, List.getElem?_eq_none (by simp [Pl.dg_length]; omega)]
    rfl

set_option maxHeartbeats 400000 in
theorem num_any (n : Nat) (w : World) (hn : n < 18446744073709551616) :
    Calls Try.prog 57 #[.int .u64 n] w fun e w' => e = .returned (.string (ofL (Pl.num n))) ∧ Below w.heap.size w w' := by
  have hb := Pl.bitLen_le n
  have hm : Hid (max ((Lib.bitLen n + 6) / 7) 1 = Pl.nd n) := Pl.many_eq n hn
  obtain ⟨m, hm2⟩ : ∃ m : Nat, Hid (m = Pl.nd n) := ⟨_, rfl⟩
  have hm0 : 1 ≤ m := by rw [hm2.out]; exact Pl.nd_pos n
  have hm1 : m ≤ 10 := by rw [hm2.out]; exact Pl.nd_le n hn
  have hmk := make_bytes m (by omega)
  go_enter Try.func57, Try.ntmps57
  go_upto_region 1 with fail
  go_cut [3] (fun s3 wx => s3 = .int .i64 (m : Int) ∧ w = wx)
  case first =>
    go_wp2_with (go_at_call 92; refine (len64_any _ _ hn).mono ?_; rintro e w' ⟨rfl, rfl⟩)
    go_meet
    have h1 := hm.out
    have h2 := hm2.out
    exact ⟨congrArg _ (by omega), rfl⟩
  case rest =>
    obtain ⟨rfl, rfl⟩ := hcut
    go_wp2_with fail
    go_loopw [16] (fun i wr => ∃ k : Nat, k ≤ m ∧ i = .int .i64 (k : Int) ∧ wr = w.alloc (.cells (cellsN m n k) 5)) (fun i _ => m - (intOf i).toNat)
    case atStart => exact ⟨0, Nat.zero_le _, rfl, by rw [cellsN_zero m n]⟩
    case round =>
      obtain ⟨k, hk, rfl, rfl⟩ := hrel
      by_cases hlt : k < m
      · have hget : (cellsN m n k)[m - 1 - k]? = some (.int .u8 (Pl.cellN m n k (m - 1 - k))) := cellsN_get _ _ _ _ (by omega)
        go_wp2
        go_roundw
        case rel => exact ⟨k + 1, by omega, by go_num, by rw [cellsN_step m n k hlt]⟩
        case measure => simp [intOf]; omega
      · obtain rfl : k = m := by omega
        have hget : (cellsN k n k)[k - 1]? = some (.int .u8 (Pl.cellN k n k (k - 1))) := cellsN_get _ _ _ _ (by omega)
        have hcv := conv_new (P := Try.prog) w 36 5 9 5 Try.underlying36 Try.underlying5 Try.underlying9 k k (Pl.num n) _ (by rw [Pl.num_length]; exact hm2.out.symm) (cellsN_done n k hm2.out)
        go_wp2
        go_ret
        exact ⟨rfl, (Below.refl _ _).alloc (Nat.le_refl _) _⟩

set_option maxRecDepth 100000 in
set_option maxHeartbeats 400000 in
theorem refnum_any (n : Nat) (w : World) (hn : n < 18446744073709551616) :
    Calls Try.prog 94 #[.int .u64 n] w fun e w' => e = .returned (.string (ofL (Pl.num n))) ∧ Below w.heap.size w w' := by
  have hcv := conv_byte ((n : Int) % 128) (UInt8.ofNat (n % 128)) (by simp; omega)
  obtain ⟨T, hT⟩ : ∃ T : List UInt8, Hid (T = [UInt8.ofNat (n % 128)]) := ⟨_, rfl⟩
  rw [← hT.out] at hcv
  have hTl : (ofL T).size ≤ 1 := by rw [ofL_size, hT.out]; simp
  go_enter Try.func94, Try.ntmps94
  go_wp2_with fail
  clear hcv
  go_loopw [0, 3] (fun x s wr => ∃ k : Nat, k ≤ 10 ∧ x = .int .u64 (n / 128 ^ k : Nat) ∧ s = .string (ofL (Pl.dg k (n / 128) ++ T)) ∧ Hid (k = 0 ∨ 128 ^ k ≤ n) ∧ Below w.heap.size w wr) (fun x _ _ => (intOf x).toNat)
  case atStart => exact ⟨0, by omega, by simp, rfl, Or.inl rfl, (Below.refl _ _).alloc (Nat.le_refl _) _⟩
  case round =>
    obtain ⟨k, hk, rfl, rfl, hk2, hb⟩ := hrel
    obtain ⟨m, hm⟩ : ∃ m : Nat, Hid (m = n / 128 ^ k) := ⟨_, rfl⟩
    rw [← hm.out]
    have hm64 : m < 18446744073709551616 := by rw [hm.out]; exact Nat.lt_of_le_of_lt (Nat.div_le_self _ _) hn
    have hsl : (ofL (Pl.dg k (n / 128) ++ T)).size ≤ 11 := by rw [ofL_size, List.length_append, Pl.dg_length]; rw [ofL_size] at hTl; omega
    by_cases hlt : 128 ≤ m
    · have hcv := conv_byte (128 + (m : Int) / 128 % 128) (UInt8.ofNat (128 + m / 128 % 128)) (by simp; omega)
      obtain ⟨D, hD⟩ : ∃ D : List UInt8, Hid (D = [UInt8.ofNat (128 + m / 128 % 128)]) := ⟨_, rfl⟩
      rw [← hD.out] at hcv
      have hDl : (ofL D).size ≤ 1 := by rw [ofL_size, hD.out]; simp
      go_wp2
      go_roundw
      case rel =>
        obtain ⟨r1, r2, r3, r4⟩ := Pl.ref_step n k m hn hm.out hlt
        exact ⟨k + 1, r4, by rw [← r1]; simp, by rw [ofL_append, r2, hD.out]; rfl, Or.inr r3, hb.alloc hb.size _⟩
      case measure => simp [intOf]; omega
    · go_wp2
      go_ret
      exact ⟨by rw [hT.out, Pl.ref_end n k m hn hm.out (by omega) hk2.out]; rfl, hb⟩

end Go.Proofs.Ytfpjdmplepepjaa
