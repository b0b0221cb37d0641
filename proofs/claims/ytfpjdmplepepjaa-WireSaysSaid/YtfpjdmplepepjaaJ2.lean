/- The walks of layer mint: numbers and texts as bytes. (and what stands on it: 12 texts in one) -/
import Derived.Outline
import Derived.Deep.DeepCutAuto
import Derived.WalkMore
import Derived.Shelf.Strings.Builder1
import Derived.Deep.AppendLies
import Derived.Deep.RegionHeld3
import Derived.Shelf.RegionOpenPlain
import Derived.OwnWalk
import Derived.Deep.RegionLaw
import Derived.Test.YtfpjdmplepepjaaJ1
/-! Mint: The walks of layer mint: numbers and texts as bytes. -/
namespace Go.Proofs.Ytfpjdmplepepjaa
open Go.RowKit


/-- The bytes of the row behind i rounds. -/
def cellsN (m n i : Nat) : Array Value := ((List.range m).map fun j => Value.int .u8 (Pl.cellN m n i j)).toArray
theorem cellsN_size (m n i : Nat) : (cellsN m n i).size = m := by simp [cellsN]
theorem cellsN_get (m n i j : Nat) (h : j < m) : (cellsN m n i)[j]? = some (.int .u8 (Pl.cellN m n i j)) := by simp [cellsN, h]

theorem mark_byte : ∀ x : Fin 256, bits BinOp.or IntKind.u8 (bits BinOp.and IntKind.u8 (x.val : Int) 127) 128 = (128 + x.val % 128 : Nat) := by decide +kernel
theorem unmark_byte : ∀ x : Fin 256, bits BinOp.andNot IntKind.u8 (x.val : Int) 128 = (x.val % 128 : Nat) := by decide +kernel
theorem mark_nat (x : Nat) (h : x < 256) : bits BinOp.or IntKind.u8 (bits BinOp.and IntKind.u8 (x : Int) 127) 128 = ((128 + x % 128 : Nat) : Int) := mark_byte ⟨x, h⟩
theorem unmark_nat (x : Nat) (h : x < 256) : bits BinOp.andNot IntKind.u8 (x : Int) 128 = ((x % 128 : Nat) : Int) := unmark_byte ⟨x, h⟩
theorem cellsN_step (m n k : Nat) (h : k < m) :
    (cellsN m n k).setIfInBounds (m - 1 - k) (Value.int IntKind.u8 (bits BinOp.or IntKind.u8 (bits BinOp.and IntKind.u8 ((n : Int) / 2 ^ (7 * k) % 256) 127) 128)) = cellsN m n (k + 1) := by
  have e : ((n : Int) / 2 ^ (7 * k) % 256) = ((n / 2 ^ (7 * k) % 256 : Nat) : Int) := by simp
  rw [e, mark_nat _ (by omega)]
  apply Array.ext_getElem?
  intro j
  rw [Array.getElem?_setIfInBounds]
  by_cases hj : j < m
  · by_cases he : m - 1 - k = j
    · rw [if_pos he, if_pos (by rw [cellsN_size]; omega)]
      rw [cellsN_get _ _ _ _ hj]
      unfold Pl.cellN
      rw [if_pos (by omega), show m - 1 - j = k from by omega]
      rw [show (128 : Nat) = 2 ^ 7 from rfl, ← Nat.pow_mul]
      congr 3; omega
    · rw [if_neg he, cellsN_get _ _ _ _ hj, cellsN_get _ _ _ _ hj]
      unfold Pl.cellN
      by_cases h1 : m - 1 - j < k
      · rw [if_pos h1, if_pos (by omega)]
      · rw [if_neg h1, if_neg (by omega)]
  · have h1 : (cellsN m n (k + 1))[j]? = none := by rw [Array.getElem?_eq_none_iff, cellsN_size]; omega
    have h2 : (cellsN m n k)[j]? = none := by rw [Array.getElem?_eq_none_iff, cellsN_size]; omega
    rw [h1, if_neg (by omega), h2]
theorem cellsN_zero (m n : Nat) : madeCells #[Value.int IntKind.u8 0] m = cellsN m n 0 := by
  apply Array.ext_getElem?
  intro j
  by_cases hj : j < m
  · rw [cellsN_get _ _ _ _ hj]
    simp [madeCells, hj, Pl.cellN, Nat.mod_one]
  · have h1 : (cellsN m n 0)[j]? = none := by rw [Array.getElem?_eq_none_iff, cellsN_size]; omega
    rw [h1, Array.getElem?_eq_none_iff, size_madeCells]; omega

theorem cellsN_done (n k : Nat) (hk : k = Pl.nd n) :
    (cellsN k n k).setIfInBounds (k - 1) (Value.int IntKind.u8 (bits BinOp.andNot IntKind.u8 ((Pl.cellN k n k (k - 1) : Nat) : Int) 128)) = byteCells (Pl.num n) := by
  have h1 := Pl.nd_pos n
  have e : Pl.cellN k n k (k - 1) = 128 + n % 128 := by
    unfold Pl.cellN
    rw [if_pos (by omega), show k - 1 - (k - 1) = 0 from by omega]; simp
  rw [e, unmark_nat _ (by omega)]
  apply Array.ext_getElem?
  intro j
  rw [Array.getElem?_setIfInBounds, byteCells_get, Pl.num]
  by_cases hj : j < k
  · by_cases he : k - 1 = j
    · rw [if_pos he, if_pos (by rw [cellsN_size]; omega), List.getElem?_append_right (by rw [Pl.dg_length]; omega), Pl.dg_length, show j - (Pl.nd n - 1) = 0 from by omega]
      have : (128 + n % 128) % 128 = n % 128 := by omega
      simp [this]; omega
    · rw [if_neg he, cellsN_get _ _ _ _ hj, List.getElem?_append_left (by rw [Pl.dg_length]; omega), Pl.dg_get _ _ _ (by omega)]
      unfold Pl.cellN
      have e2 : n / 128 / 128 ^ (Pl.nd n - 1 - 1 - j) = n / 128 ^ (k - 1 - j) := by
        rw [Nat.div_div_eq_div_mul, ← Nat.pow_succ', show Nat.succ (Pl.nd n - 1 - 1 - j) = k - 1 - j from by omega]
      rw [e2, if_pos (by omega)]
      simp; omega
  · have h2 : (cellsN k n k)[j]? = none := by rw [Array.getElem?_eq_none_iff, cellsN_size]; omega
    rw [if_neg (by omega), h2, List.getElem?_eq_none (by simp [Pl.dg_length]; omega)]
    rfl

set_option maxHeartbeats 400000 in
theorem num_any (n : Nat) (w : World) (hn : n < 18446744073709551616) :
    Calls Try.prog 57 #[.int .u64 n] w fun e w' => e = .returned (.string (ofL (Pl.num n))) ∧ Below w.heap.size w w' := by
  have hb := Pl.bitLen_le n
  have hm : Hid (max ((Lib.bitLen n + 6) / 7) 1 = Pl.nd n) := Pl.many_eq n hn
  obtain ⟨m, hm2⟩ : ∃ m : Nat, Hid (m = Pl.nd n) := ⟨_, rfl⟩
  have hm0 : 1 ≤ m := by rw [hm2.out]; exact Pl.nd_pos n
  have hm1 : m ≤ 10 := by rw [hm2.out]; exact Pl.nd_le n hn
  have hmk := make_bytes m (by omega)
  go_enter Try.func57, Try.ntmps57
  go_upto_region 1 with fail
  go_cut [3] (fun s3 wx => s3 = .int .i64 (m : Int) ∧ w = wx)
  case first =>
    go_wp2_with (go_at_call 92; refine (len64_any _ _ hn).mono ?_; rintro e w' ⟨rfl, rfl⟩)
    go_meet
    have h1 := hm.out
    have h2 := hm2.out
    exact ⟨congrArg _ (by omega), rfl⟩
  case rest =>
    obtain ⟨rfl, rfl⟩ := hcut
    go_wp2_with fail
    go_loopw [16] (fun i wr => ∃ k : Nat, k ≤ m ∧ i = .int .i64 (k : Int) ∧ wr = w.alloc (.cells (cellsN m n k) 5)) (fun i _ => m - (intOf i).toNat)
    case atStart => exact ⟨0, Nat.zero_le _, rfl, by rw [cellsN_zero m n]⟩
    case round =>
      obtain ⟨k, hk, rfl, rfl⟩ := hrel
      by_cases hlt : k < m
      · have hget : (cellsN m n k)[m - 1 - k]? = some (.int .u8 (Pl.cellN m n k (m - 1 - k))) := cellsN_get _ _ _ _ (by omega)
        go_wp2
        go_roundw
        case rel => exact ⟨k + 1, by omega, by go_num, by rw [cellsN_step m n k hlt]⟩
        case measure => simp [intOf]; omega
      · obtain rfl : k = m := by omega
        have hget : (cellsN k n k)[k - 1]? = some (.int .u8 (Pl.cellN k n k (k - 1))) := cellsN_get _ _ _ _ (by omega)
        have hcv := conv_new (P := Try.prog) w 36 5 9 5 Try.underlying36 Try.underlying5 Try.underlying9 k k (Pl.num n) _ (by rw [Pl.num_length]; exact hm2.out.symm) (cellsN_done n k hm2.out)
        go_wp2
        go_ret
        exact ⟨rfl, (Below.refl _ _).alloc (Nat.le_refl _) _⟩

set_option maxRecDepth 100000 in
set_option maxHeartbeats 400000 in
theorem refnum_any (n : Nat) (w : World) (hn : n < 18446744073709551616) :
    Calls Try.prog 94 #[.int .u64 n] w fun e w' => e = .returned (.string (ofL (Pl.num n))) ∧ Below w.heap.size w w' := by
  have hcv := conv_byte ((n : Int) % 128) (UInt8.ofNat (n % 128)) (by simp; omega)
  obtain ⟨T, hT⟩ : ∃ T : List UInt8, Hid (T = [UInt8.ofNat (n % 128)]) := ⟨_, rfl⟩
  rw [← hT.out] at hcv
  have hTl : (ofL T).size ≤ 1 := by rw [ofL_size, hT.out]; simp
  go_enter Try.func94, Try.ntmps94
  go_wp2_with fail
  clear hcv
  go_loopw [0, 3] (fun x s wr => ∃ k : Nat, k ≤ 10 ∧ x = .int .u64 (n / 128 ^ k : Nat) ∧ s = .string (ofL (Pl.dg k (n / 128) ++ T)) ∧ Hid (k = 0 ∨ 128 ^ k ≤ n) ∧ Below w.heap.size w wr) (fun x _ _ => (intOf x).toNat)
  case atStart => exact ⟨0, by omega, by simp, rfl, Or.inl rfl, (Below.refl _ _).alloc (Nat.le_refl _) _⟩
  case round =>
    obtain ⟨k, hk, rfl, rfl, hk2, hb⟩ := hrel
    obtain ⟨m, hm⟩ : ∃ m : Nat, Hid (m = n / 128 ^ k) := ⟨_, rfl⟩
    rw [← hm.out]
    have hm64 : m < 18446744073709551616 := by rw [hm.out]; exact Nat.lt_of_le_of_lt (Nat.div_le_self _ _) hn
    have hsl : (ofL (Pl.dg k (n / 128) ++ T)).size ≤ 11 := by rw [ofL_size, List.length_append, Pl.dg_length]; rw [ofL_size] at hTl; omega
    by_cases hlt : 128 ≤ m
    · have hcv := conv_byte (128 + (m : Int) / 128 % 128) (UInt8.ofNat (128 + m / 128 % 128)) (by simp; omega)
      obtain ⟨D, hD⟩ : ∃ D : List UInt8, Hid (D = [UInt8.ofNat (128 + m / 128 % 128)]) := ⟨_, rfl⟩
      rw [← hD.out] at hcv
      have hDl : (ofL D).size ≤ 1 := by rw [ofL_size, hD.out]; simp
      go_wp2
      go_roundw
      case rel =>
        obtain ⟨r1, r2, r3, r4⟩ := Pl.ref_step n k m hn hm.out hlt
        exact ⟨k + 1, r4, by rw [← r1]; simp, by rw [ofL_append, r2, hD.out]; rfl, Or.inr r3, hb.alloc hb.size _⟩
      case measure => simp [intOf]; omega
    · go_wp2
      go_ret
      exact ⟨by rw [hT.out, Pl.ref_end n k m hn hm.out (by omega) hk2.out]; rfl, hb⟩

end Go.Proofs.Ytfpjdmplepepjaa

/-! Int: Numbers as bytes, those below 0 as 0. -/
namespace Go.Proofs.Ytfpjdmplepepjaa
open Go.RowKit

set_option maxRecDepth 100000 in
set_option maxHeartbeats 400000 in
theorem mint_int (n : Int) (w : World) (hn : n ≤ 9223372036854775807) :
    Calls Try.prog 55 #[.int .i64 n] w fun e w' => e = .returned (.string (ofL (Pl.num n.toNat))) ∧ Below w.heap.size w w' := by
  by_cases h : n < 0
  · rw [show n.toNat = 0 from by omega]
    go_enter Try.func55, Try.ntmps55
    go_wp2_with fail
    rw [show max n 0 = ((0 : Nat) : Int) from by omega]
    refine (num_any 0 _ (by omega)).mono ?_; rintro e w' ⟨rfl, hb⟩
    go_wp2_with fail
    go_ret
    exact ⟨rfl, hb⟩
  · obtain ⟨N, rfl⟩ : ∃ N : Nat, n = N := ⟨n.toNat, by omega⟩
    rw [show (N : Int).toNat = N from by omega]
    go_enter Try.func55, Try.ntmps55
    go_wp2_with fail
    refine (num_any N _ (by omega)).mono ?_; rintro e w' ⟨rfl, hb⟩
    go_wp2_with fail
    go_ret
    exact ⟨rfl, hb⟩

set_option maxRecDepth 100000 in
set_option maxHeartbeats 400000 in
theorem ref_int (n : Int) (w : World) (hn : n ≤ 9223372036854775807) :
    Calls Try.prog 95 #[.int .i64 n] w fun e w' => e = .returned (.string (ofL (Pl.num n.toNat))) ∧ Below w.heap.size w w' := by
  by_cases h : n < 0
  · rw [show n.toNat = 0 from by omega]
    go_enter Try.func95, Try.ntmps95
    go_wp2_with fail
    refine (refnum_any 0 _ (by omega)).mono ?_; rintro e w' ⟨rfl, hb⟩
    go_wp2_with fail
    go_ret
    exact ⟨rfl, hb⟩
  · obtain ⟨N, rfl⟩ : ∃ N : Nat, n = N := ⟨n.toNat, by omega⟩
    rw [show (N : Int).toNat = N from by omega]
    go_enter Try.func95, Try.ntmps95
    go_wp2_with fail
    refine (refnum_any N _ (by omega)).mono ?_; rintro e w' ⟨rfl, hb⟩
    go_wp2_with fail
    go_ret
    exact ⟨rfl, hb⟩

end Go.Proofs.Ytfpjdmplepepjaa

/-! MintT: Texts as bytes: the walks of layer mint's Text and the document's. -/
namespace Go.Proofs.Ytfpjdmplepepjaa
open Go.RowKit

/-- The bytes of a text. -/
def textL (l : List UInt8) : List UInt8 := Pl.num l.length ++ l

set_option maxHeartbeats 400000 in
theorem text_any (s : ByteArray) (w : World) (hs : s.size ≤ 4611686018427387904) :
    Calls Try.prog 22 #[.string s] w fun e w' => e = .returned (.string (ofL (textL (bl s)))) ∧ Below w.heap.size w w' := by
  have hsz : (ofL (Pl.num s.size)).size ≤ 10 := by rw [ofL_size]; exact Pl.num_length_le _ (by omega)
  have hfin : Hid (ofL (Pl.num s.size) ++ s = ofL (textL (bl s))) := by
    show _ = _
    unfold textL
    rw [bl_length, ← ofL_append]; rfl
  go_enter Try.func22, Try.ntmps22
  go_wp2_with (go_at_call 57; refine (num_any _ _ (by omega)).mono ?_; rintro e w' ⟨rfl, hb⟩)
  go_ret
  exact ⟨by rw [hfin.out]; rfl, hb⟩


set_option maxHeartbeats 400000 in
theorem reftext_any (s : ByteArray) (w : World) (hs : s.size ≤ 4611686018427387904) :
    Calls Try.prog 61 #[.string s] w fun e w' => e = .returned (.string (ofL (textL (bl s)))) ∧ Below w.heap.size w w' := by
  have hsz : (ofL (Pl.num s.size)).size ≤ 10 := by rw [ofL_size]; exact Pl.num_length_le _ (by omega)
  have hfin : Hid (ofL (Pl.num s.size) ++ s = ofL (textL (bl s))) := by
    show _ = _
    unfold textL
    rw [bl_length, ← ofL_append]; rfl
  go_enter Try.func61, Try.ntmps61
  go_wp2_with (go_at_call 94; refine (refnum_any _ _ (by omega)).mono ?_; rintro e w' ⟨rfl, hb⟩)
  go_ret
  exact ⟨by rw [hfin.out]; rfl, hb⟩

end Go.Proofs.Ytfpjdmplepepjaa

/-! Reader: The walks of layer mint's reader. -/
namespace Go.Proofs.Ytfpjdmplepepjaa
open Go.RowKit

/-- A reader: what is left; is it torn. -/
structure Rd where
  left : ByteArray
  torn : Bool
def Rd.cells (r : Rd) : Array Value := #[.string r.left, .bool r.torn]
/-- Block b holds the program's reader r. -/
def IsRd (w : World) (b : Nat) (r : Rd) : Prop := Blk w b r.cells 108
theorem IsRd.setLeft {w : World} {b : Nat} {r : Rd} (h : IsRd w b r) (x : ByteArray) : IsRd (w.setCell ⟨b, 0, none⟩ (.string x)) b { r with left := x } := Blk.set h 0 (.string x)
theorem IsRd.setTorn {w : World} {b : Nat} {r : Rd} (h : IsRd w b r) (x : Bool) : IsRd (w.setCell ⟨b, 1, none⟩ (.bool x)) b { r with torn := x } := Blk.set h 1 (.bool x)

/-- A number is read. -/
def Rd.num (r : Rd) : Rd × Nat :=
  if r.torn then (r, 0) else match Pl.rdNum (bl r.left) with
    | some (n, l) => (⟨ofL l, false⟩, n)
    | none => (⟨r.left, true⟩, 0)
def Rd.int (r : Rd) (most : Int) : Rd × Nat := if most < 0 ∨ most < r.num.2 then (⟨r.num.1.left, true⟩, 0) else r.num
def Rd.text (r : Rd) (most : Int) : Rd × ByteArray :=
  if (r.int most).1.torn = true ∨ (r.int most).1.left.size < (r.int most).2 then (⟨(r.int most).1.left, true⟩, ⟨#[]⟩)
  else (⟨(r.int most).1.left.extract (r.int most).2 (r.int most).1.left.size, false⟩, (r.int most).1.left.extract 0 (r.int most).2)

set_option maxRecDepth 100000 in
set_option maxHeartbeats 400000 in
theorem read_any (s : ByteArray) (w : World) :
    Calls Try.prog 36 #[.string s] w fun e w' => e = .returned (.pointer (some ⟨w.heap.size, 0, none⟩)) ∧ w' = w.alloc (.cells (Rd.cells ⟨s, false⟩) 108) := by
  go_enter Try.func36, Try.ntmps36
  go_wp2
  go_ret
  exact ⟨rfl, rfl⟩

set_option maxRecDepth 100000 in
set_option maxHeartbeats 400000 in
theorem fine_any (b : Nat) (r : Rd) (w : World) (hr : IsRd w b r) :
    Calls Try.prog 78 #[.pointer (some ⟨b, 0, none⟩)] w fun e w' => e = .returned (.bool (!r.torn)) ∧ w = w' := by
  have c1 : w.cell? ⟨b, 1, none⟩ = some (.bool r.torn) := hr.cell 1
  go_enter Try.func78, Try.ntmps78
  go_wp2
  go_ret
  exact ⟨rfl, rfl⟩

theorem fine_is (t f : Bool) (hf : f = !t) (b : Nat) (s : ByteArray) (w : World) (hr : IsRd w b ⟨s, t⟩) :
    Calls Try.prog 78 #[.pointer (some ⟨b, 0, none⟩)] w fun e w' => e = .returned (.bool f) ∧ w = w' := by subst hf; exact fine_any b _ w hr

set_option maxRecDepth 100000 in
set_option maxHeartbeats 400000 in
theorem tears_any (b : Nat) (r : Rd) (w : World) (hr : IsRd w b r) :
    Calls Try.prog 79 #[.pointer (some ⟨b, 0, none⟩)] w fun e w' => e = .returned (.tuple #[]) ∧ IsRd w' b ⟨r.left, true⟩ ∧ Kept b w w' := by
  have c1 : w.cell? ⟨b, 1, none⟩ = some (.bool r.torn) := hr.cell 1
  have f1 : w.frozen? ⟨b, 1, none⟩ = false := hr.free 1
  go_enter Try.func79, Try.ntmps79
  go_wp2
  go_end0
  exact ⟨rfl, hr.setTorn true, (Kept.refl _ _).set _ _⟩

theorem mul64_small (x : Nat) (w : World) (hx : x < 144115188075855872) :
    Calls Try.prog 114 #[.int .u64 x, .int .u64 128] w fun e w' => e = .returned (.tuple #[.int .u64 0, .int .u64 ((x * 128 : Nat) : Int)]) ∧ w = w' := by
  refine (mul64_any x 128 w (by omega) (by decide)).mono ?_
  rintro e w' ⟨rfl, rfl⟩
  refine ⟨?_, rfl⟩
  rw [show x * 128 / 18446744073709551616 = 0 from by omega, show x * 128 % 18446744073709551616 = x * 128 from by omega]
  rfl
theorem mul64_big (x : Nat) (w : World) (hx : 144115188075855872 ≤ x) (hx2 : x < 18446744073709551616) :
    Calls Try.prog 114 #[.int .u64 x, .int .u64 128] w fun e w' => ∃ h l : Nat, e = .returned (.tuple #[.int .u64 (h : Int), .int .u64 (l : Int)]) ∧ 0 < h ∧ h < 18446744073709551616 ∧ l < 18446744073709551616 ∧ w = w' := by
  refine (mul64_any x 128 w (by omega) (by decide)).mono ?_
  rintro e w' ⟨rfl, rfl⟩
  exact ⟨_, _, rfl, by omega, by omega, by omega, rfl⟩

theorem or_digit (x c : Nat) (hx : x < 144115188075855872) (hc : c < 128) : bits BinOp.or IntKind.u64 ((x * 128 : Nat) : Int) (c : Int) = ((x * 128 + c : Nat) : Int) := by
  have h1 : (BitVec.ofInt 64 ((x * 128 : Nat) : Int)).toNat = x * 128 := by
    rw [BitVec.ofInt_natCast, BitVec.toNat_ofNat]; exact Nat.mod_eq_of_lt (by omega)
  have h2 : (BitVec.ofInt 64 (c : Int)).toNat = c := by
    rw [BitVec.ofInt_natCast, BitVec.toNat_ofNat]; exact Nat.mod_eq_of_lt (by omega)
  have h3 : x * 128 ||| c = x * 128 + c := by
    have := Nat.two_pow_add_eq_or_of_lt (i := 7) (b := c) (by omega) x
    rw [show 2 ^ 7 * x = x * 128 from by omega] at this
    exact this.symm
  show IntKind.u64.wrap ((BitVec.ofInt 64 ((x * 128 : Nat) : Int) ||| BitVec.ofInt 64 (c : Int)).toNat : Int) = _
  rw [BitVec.toNat_or, h1, h2, h3]
  rw [IntKind.wrap_u64]
  omega

theorem and_digit : ∀ x : Fin 256, bits BinOp.and IntKind.u8 (x.val : Int) 127 = (x.val % 128 : Nat) := by decide +kernel

theorem rdNum_step (s : ByteArray) (k m : Nat) (hk : k < 10) (h : k < s.size) :
    Pl.rdG (10 - k) (k == 0) m ((bl s).drop k) = if 144115188075855872 ≤ m ∨ (k = 0 ∧ s[k].toNat = 128) then none else
      if s[k].toNat < 128 then some (m * 128 + s[k].toNat % 128, (bl s).drop (k + 1)) else Pl.rdG (10 - (k + 1)) (k + 1 == 0) (m * 128 + s[k].toNat % 128) ((bl s).drop (k + 1)) := by
  have e : (bl s).drop k = s[k] :: (bl s).drop (k + 1) := by
    rw [List.drop_eq_getElem_cons (by rw [bl_length]; exact h)]; rfl
  rw [e, show 10 - k = (9 - k) + 1 from by omega, Pl.rdG, show 10 - (k + 1) = 9 - k from by omega]
  have h1 : (s[k] = 128) = (s[k].toNat = 128) := by
    apply propext
    constructor
    · intro h; rw [h]; rfl
    · intro h; exact UInt8.toNat_inj.1 (h.trans rfl)
  have h2 : (s[k] < 128) = (s[k].toNat < 128) := by
    rw [UInt8.lt_iff_toNat_lt]; rfl
  simp only [h1, h2, beq_iff_eq]
  rfl
theorem rdNum_end (s : ByteArray) (k m : Nat) (h : ¬ (k < 10 ∧ k < s.size)) : Pl.rdG (10 - k) (k == 0) m ((bl s).drop k) = none := by
  by_cases hk : k < 10
  · rw [List.drop_of_length_le (by rw [bl_length]; omega), show 10 - k = (9 - k) + 1 from by omega]; rfl
  · rw [show 10 - k = 0 from by omega]; rfl

set_option maxRecDepth 100000 in
set_option maxHeartbeats 1000000 in
theorem rnum_any (b : Nat) (r : Rd) (w : World) (hr : IsRd w b r) (hs : r.left.size ≤ 4611686018427387904) :
    Calls Try.prog 104 #[.pointer (some ⟨b, 0, none⟩)] w fun e w' => e = .returned (.int .u64 (r.num.2 : Nat)) ∧ IsRd w' b r.num.1 ∧ Kept b w w' := by
  obtain ⟨s, torn⟩ := r
  simp only at hs
  cases torn
  rotate_left
  · have e0 : (Rd.mk s true).num = (⟨s, true⟩, 0) := rfl
    rw [e0]; clear e0
    go_enter Try.func104, Try.ntmps104
    go_wp2_with fail
    go_step3
    go_wp2_with (go_at_call 78; refine (fine_is true false rfl b s w hr).mono ?_; rintro e w1 ⟨rfl, rfl⟩)
    (first | go_ret | (rw [Exit.noGoto_ret]; go_ret))
    exact ⟨rfl, hr, Kept.refl _ _⟩
  have c0 : w.cell? ⟨b, 0, none⟩ = some (.string s) := hr.cell 0
  have f0 : w.frozen? ⟨b, 0, none⟩ = false := hr.free 0
  have key : ∀ q, Pl.rdNum (bl s) = q → (Rd.mk s false).num = match q with | some (n, l) => (⟨ofL l, false⟩, n) | none => (⟨s, true⟩, 0) := by rintro q rfl; rfl
  obtain ⟨Q, hQ⟩ := nm ((Rd.mk s false).num)
  rw [← hQ.out]
  have KEY := Lib.hid key
  clear key
  go_enter Try.func104, Try.ntmps104
  go_wp2_with fail
  go_step3
  go_wp2_with (go_at_call 78; refine (fine_is false true rfl b s w hr).mono ?_; rintro e w1 ⟨rfl, rfl⟩)
  go_step3
  go_wp2_with fail
  go_loop [3, 17] (fun v i => ∃ k m : Nat, k ≤ 10 ∧ k ≤ s.size ∧ i = .int .i64 (k : Int) ∧ v = .int .u64 (m : Int) ∧ m < 18446744073709551616 ∧ Hid (Pl.rdNum (bl s) = Pl.rdG (10 - k) (k == 0) m ((bl s).drop k))) (fun _ i => 10 - (intOf i).toNat)
  case atStart => exact ⟨0, 0, by omega, by omega, rfl, rfl, by omega, rfl⟩
  case round =>
    obtain ⟨k, m, hk1, hk2, rfl, rfl, hm, hrel⟩ := hrel
    by_cases hlt : k < 10 ∧ k < s.size
    rotate_left
    · have HE := Lib.hid (KEY.out _ (hrel.out.trans (rdNum_end s k m hlt)))
      go_wp2_with fail
      all_goals
        refine (tears_any b _ _ hr).mono ?_; rintro e w2 ⟨rfl, h1, h2⟩
        go_wp2_with fail
        (first | go_ret | (rw [Exit.noGoto_ret]; go_ret))
        rw [hQ.out, HE.out]
        exact ⟨rfl, h1, h2⟩
    obtain ⟨hlt1, hlt2⟩ := hlt
    have hst := rdNum_step s k m hlt1 hlt2
    have h256 := s[k].toNat_lt
    by_cases hbad : 144115188075855872 ≤ m ∨ (k = 0 ∧ s[k].toNat = 128)
    · rw [if_pos hbad] at hst
      have HE := Lib.hid (KEY.out _ (hrel.out.trans hst))
      clear hst
      by_cases hm57 : m < 144115188075855872
      · obtain ⟨hk0, hc⟩ : k = 0 ∧ s[k].toNat = 128 := by omega
        subst hk0
        have hcb : ((s[0].toNat : Int) == 128) = true := by simp [hc]
        go_wp2_with fail
        refine (mul64_small m _ hm57).mono ?_; rintro e w2 ⟨rfl, rfl⟩
        go_wp2_with fail
        refine (tears_any b _ _ hr).mono ?_; rintro e w2 ⟨rfl, h1, h2⟩
        go_wp2_with fail
        (first | go_ret | (rw [Exit.noGoto_ret]; go_ret))
        rw [hQ.out, HE.out]
        exact ⟨rfl, h1, h2⟩
      · go_wp2_with fail
        refine (mul64_big m _ (by omega) hm).mono ?_; rintro e w2 ⟨h, l, rfl, hh1, hh2, hl2, rfl⟩
        go_wp2_with fail
        refine (tears_any b _ _ hr).mono ?_; rintro e w2 ⟨rfl, h1, h2⟩
        go_wp2_with fail
        (first | go_ret | (rw [Exit.noGoto_ret]; go_ret))
        rw [hQ.out, HE.out]
        exact ⟨rfl, h1, h2⟩
    · rw [if_neg hbad] at hst
      have hm57 : m < 144115188075855872 := by omega
      obtain ⟨d, hd⟩ := nm (s[k].toNat % 128)
      have hd7 : d < 128 := by rw [hd.out]; omega
      have ho := or_digit m d hm57 hd7
      have HO : Hid (bits BinOp.or IntKind.u64 ((m : Int) * 128) (IntKind.u64.wrap (bits BinOp.and IntKind.u8 (s[k].toNat : Int) 127)) = ((m * 128 + d : Nat) : Int)) := by
        show _ = _
        rw [and_digit ⟨s[k].toNat, h256⟩, ← ho, hd.out, IntKind.wrap_u64]
        congr 1
        simp only
        omega
      clear ho
      rw [← hd.out] at hst
      by_cases hc : s[k].toNat < 128
      · rw [if_pos hc] at hst
        have HE := Lib.hid (KEY.out _ (hrel.out.trans hst))
        clear hst
        have HX : Hid (s.extract (k + 1) s.size = ofL ((bl s).drop (k + 1))) := by
          show _ = _
          refine bl_inj ?_
          rw [bl_extract, bl_ofL, List.take_of_length_le (by rw [List.length_drop, bl_length]; exact Nat.le_refl _)]
        have hcb : ((s[k].toNat : Int) == 128) = false := by simp; omega
        clear hbad
        by_cases hk0 : k = 0
        · subst hk0
          go_wp2_with fail
          refine (mul64_small m _ hm57).mono ?_; rintro e w2 ⟨rfl, rfl⟩
          go_wp2_with fail
          first | go_ret | (rw [Exit.noGoto_ret]; go_ret)
          rw [hQ.out, HE.out]
          simp only
          rw [← HX.out]
          exact ⟨congrArg (fun x => Ending.returned (Value.int .u64 x)) HO.out, hr.setLeft _, (Kept.refl _ _).set _ _⟩
        · go_wp2_with fail
          refine (mul64_small m _ hm57).mono ?_; rintro e w2 ⟨rfl, rfl⟩
          go_wp2_with fail
          first | go_ret | (rw [Exit.noGoto_ret]; go_ret)
          rw [hQ.out, HE.out]
          simp only
          rw [← HX.out]
          exact ⟨congrArg (fun x => Ending.returned (Value.int .u64 x)) HO.out, hr.setLeft _, (Kept.refl _ _).set _ _⟩
      · rw [if_neg hc] at hst
        have HE := Lib.hid (hrel.out.trans hst)
        clear hst
        by_cases hk0 : k = 0
        · subst hk0
          have hcb : ((s[0].toNat : Int) == 128) = false := by simp; omega
          clear hbad
          go_wp2_with fail
          refine (mul64_small m _ hm57).mono ?_; rintro e w2 ⟨rfl, rfl⟩
          go_wp2_with fail
          go_round
          case rel => exact ⟨0 + 1, m * 128 + d, by omega, by omega, by go_num, congrArg _ HO.out, by omega, HE⟩
          case measure => simp [intOf]
        · clear hbad
          go_wp2_with fail
          refine (mul64_small m _ hm57).mono ?_; rintro e w2 ⟨rfl, rfl⟩
          go_wp2_with fail
          go_round
          case rel => exact ⟨k + 1, m * 128 + d, by omega, by omega, by go_num, congrArg _ HO.out, by omega, HE⟩
          case measure => simp [intOf]; omega

end Go.Proofs.Ytfpjdmplepepjaa

/-! ReaderB: The reader's walks, continued: Int, Left. -/
namespace Go.Proofs.Ytfpjdmplepepjaa
open Go.RowKit

theorem Pl.rdG_lt : ∀ (f : Nat) (first : Bool) (m : Nat) (l : List UInt8) (n : Nat) (r : List UInt8), Pl.rdG f first m l = some (n, r) → n < 18446744073709551616 ∧ r.length < l.length
  | 0, _, _, _, _, _, h => by cases h
  | f + 1, _, _, [], _, _, h => by cases h
  | f + 1, first, m, c :: l, n, r, h => by
    rw [Pl.rdG] at h
    split at h
    · cases h
    · rename_i hn
      split at h
      · cases h
        exact ⟨by have := c.toNat_lt; omega, by simp⟩
      · obtain ⟨h1, h2⟩ := Pl.rdG_lt f _ _ _ _ _ h
        exact ⟨h1, by simp; omega⟩

theorem Rd.num_lt (r : Rd) : r.num.2 < 18446744073709551616 ∧ r.num.1.left.size ≤ r.left.size := by
  unfold Rd.num
  split
  · exact ⟨Nat.zero_lt_succ _, Nat.le_refl _⟩
  · split
    · rename_i n l h
      obtain ⟨h1, h2⟩ := Pl.rdG_lt _ _ _ _ _ _ h
      rw [bl_length] at h2
      exact ⟨h1, by simp only [ofL_size]; omega⟩
    · exact ⟨Nat.zero_lt_succ _, Nat.le_refl _⟩

set_option maxRecDepth 100000 in
set_option maxHeartbeats 1000000 in
theorem rint_any (b : Nat) (r : Rd) (most : Int) (w : World) (hr : IsRd w b r) (hs : r.left.size ≤ 4611686018427387904) (hm : most ≤ 9223372036854775807) :
    Calls Try.prog 77 #[.pointer (some ⟨b, 0, none⟩), .int .i64 most] w fun e w' => e = .returned (.int .i64 ((r.int most).2 : Nat)) ∧ IsRd w' b (r.int most).1 ∧ Kept b w w' := by
  have hlt := r.num_lt.1
  obtain ⟨Q, hQ⟩ := nm (r.int most)
  rw [← hQ.out]
  obtain ⟨n, hn⟩ := nm r.num.2
  have hlt : n < 18446744073709551616 := by rw [hn.out]; exact hlt
  by_cases h0 : most < 0
  · have e0 : Q = (⟨r.num.1.left, true⟩, 0) := by rw [hQ.out, Rd.int, if_pos (Or.inl h0)]
    rw [e0]; clear e0
    go_enter Try.func77, Try.ntmps77
    go_wp2_with fail
    refine (rnum_any b r w hr hs).mono ?_; rintro e w1 ⟨rfl, h1, h2⟩
    rw [← hn.out]
    go_wp2_with fail
    refine (tears_any b _ _ h1).mono ?_; rintro e w2 ⟨rfl, h3, h4⟩
    go_wp2_with fail
    go_ret
    exact ⟨rfl, h3, h2.trans h4⟩
  · obtain ⟨M, rfl⟩ : ∃ M : Nat, most = M := ⟨most.toNat, by omega⟩
    by_cases h1 : M < n
    · have e0 : Q = (⟨r.num.1.left, true⟩, 0) := by rw [hQ.out, Rd.int, if_pos (Or.inr (by rw [← hn.out]; omega))]
      rw [e0]; clear e0
      go_enter Try.func77, Try.ntmps77
      go_wp2_with fail
      refine (rnum_any b r w hr hs).mono ?_; rintro e w1 ⟨rfl, h1, h2⟩
      rw [← hn.out]
      go_wp2_with fail
      refine (tears_any b _ _ h1).mono ?_; rintro e w2 ⟨rfl, h3, h4⟩
      go_wp2_with fail
      go_ret
      exact ⟨rfl, h3, h2.trans h4⟩
    · have e0 : Q = (r.num.1, n) := by rw [hQ.out, Rd.int, if_neg (by rw [← hn.out]; omega), hn.out]
      rw [e0]; clear e0
      go_enter Try.func77, Try.ntmps77
      go_wp2_with fail
      refine (rnum_any b r w hr hs).mono ?_; rintro e w1 ⟨rfl, h1, h2⟩
      rw [← hn.out]
      go_wp2_with fail
      go_ret
      exact ⟨rfl, h1, h2⟩

theorem Rd.int_lt (r : Rd) (most : Int) : (r.int most).2 < 18446744073709551616 ∧ (r.int most).1.left.size ≤ r.left.size ∧ ((r.int most).2 = 0 ∨ ((r.int most).2 : Int) ≤ most) := by
  unfold Rd.int
  split
  · exact ⟨Nat.zero_lt_succ _, r.num_lt.2, .inl rfl⟩
  · exact ⟨r.num_lt.1, r.num_lt.2, .inr (by omega)⟩

def Rd.rest (r : Rd) : ByteArray := if r.torn then ⟨#[]⟩ else r.left
def Rd.fin (r : Rd) : Int := if r.torn = true ∨ r.left.size ≠ 0 then 10 else 0

theorem size_zero {s : ByteArray} (h : s.size = 0) : s = ⟨#[]⟩ := by
  refine bl_inj ?_
  have : (bl s).length = 0 := by rw [bl_length]; exact h
  rw [List.length_eq_zero_iff.1 this]; rfl

end Go.Proofs.Ytfpjdmplepepjaa

/-! ReaderT: The reader's walks, continued: Text, End. -/
namespace Go.Proofs.Ytfpjdmplepepjaa
open Go.RowKit

set_option maxRecDepth 100000 in
set_option maxHeartbeats 1000000 in
theorem rtext_any (b : Nat) (r : Rd) (most : Int) (w : World) (hr : IsRd w b r) (hs : r.left.size ≤ 4611686018427387904) (hm : most ≤ 9223372036854775807) :
    Calls Try.prog 38 #[.pointer (some ⟨b, 0, none⟩), .int .i64 most] w fun e w' => e = .returned (.string (r.text most).2) ∧ IsRd w' b (r.text most).1 ∧ Kept b w w' := by
  obtain ⟨i1, i2, i3⟩ := r.int_lt most
  obtain ⟨Q, hQ⟩ := nm (r.text most)
  rw [← hQ.out]
  obtain ⟨⟨⟨s, torn⟩, n⟩, hn⟩ := nm (r.int most)
  rw [← hn.out] at i1 i2 i3
  simp only at i1 i2 i3
  have hqq : Q = if torn = true ∨ s.size < n then (⟨s, true⟩, ⟨#[]⟩) else (⟨s.extract n s.size, false⟩, s.extract 0 n) := by rw [hQ.out, Rd.text, ← hn.out]
  have hn63 : n ≤ 9223372036854775807 := by omega
  cases torn
  · by_cases hsz : s.size < n
    · rw [if_pos (Or.inr hsz)] at hqq
      rw [hqq]; clear hqq
      go_enter Try.func38, Try.ntmps38
      go_wp2_with fail
      refine (rint_any b r most w hr hs hm).mono ?_; rintro e w1 ⟨rfl, h1, h2⟩
      rw [← hn.out] at h1 ⊢
      have c0 : w1.cell? ⟨b, 0, none⟩ = some (.string s) := h1.cell 0
      go_wp2_with (go_at_call 78; refine (fine_is false true rfl b s w1 h1).mono ?_; rintro e w2 ⟨rfl, rfl⟩)
      refine (tears_any b _ _ h1).mono ?_; rintro e w2 ⟨rfl, h3, h4⟩
      go_wp2_with fail
      go_ret
      exact ⟨rfl, h3, h2.trans h4⟩
    · rw [if_neg (by simp; omega)] at hqq
      rw [hqq]; clear hqq
      go_enter Try.func38, Try.ntmps38
      go_wp2_with fail
      refine (rint_any b r most w hr hs hm).mono ?_; rintro e w1 ⟨rfl, h1, h2⟩
      rw [← hn.out] at h1 ⊢
      have c0 : w1.cell? ⟨b, 0, none⟩ = some (.string s) := h1.cell 0
      have f0 : w1.frozen? ⟨b, 0, none⟩ = false := h1.free 0
      go_wp2_with (go_at_call 78; refine (fine_is false true rfl b s w1 h1).mono ?_; rintro e w2 ⟨rfl, rfl⟩)
      go_ret
      exact ⟨rfl, h1.setLeft _, h2.set _ _⟩
  · rw [if_pos (Or.inl rfl)] at hqq
    rw [hqq]; clear hqq
    go_enter Try.func38, Try.ntmps38
    go_wp2_with fail
    refine (rint_any b r most w hr hs hm).mono ?_; rintro e w1 ⟨rfl, h1, h2⟩
    rw [← hn.out] at h1 ⊢
    go_wp2_with (go_at_call 78; refine (fine_is true false rfl b s w1 h1).mono ?_; rintro e w2 ⟨rfl, rfl⟩)
    refine (tears_any b _ _ h1).mono ?_; rintro e w2 ⟨rfl, h3, h4⟩
    go_wp2_with fail
    go_ret
    exact ⟨rfl, h3, h2.trans h4⟩

set_option maxRecDepth 100000 in
set_option maxHeartbeats 1000000 in
theorem rend_any (b : Nat) (r : Rd) (w : World) (hr : IsRd w b r) :
    Calls Try.prog 42 #[.pointer (some ⟨b, 0, none⟩)] w fun e w' => e = .returned (.int .i64 r.fin) ∧ w = w' := by
  obtain ⟨s, torn⟩ := r
  cases torn
  · by_cases hz : s.size = 0
    · obtain rfl := size_zero hz
      have c0 : w.cell? ⟨b, 0, none⟩ = some (.string ⟨#[]⟩) := hr.cell 0
      rw [show (Rd.mk ⟨#[]⟩ false).fin = 0 from rfl]
      go_enter Try.func42, Try.ntmps42
      go_wp2_with (go_at_call 78; refine (fine_is false true rfl b _ w hr).mono ?_; rintro e w2 ⟨rfl, rfl⟩)
      go_ret
      exact ⟨rfl, rfl⟩
    · have c0 : w.cell? ⟨b, 0, none⟩ = some (.string s) := hr.cell 0
      have hni : s.toList.isEmpty = false := by
        rw [toList_bl, List.isEmpty_eq_false_iff]
        intro h
        rw [← bl_length, h] at hz
        exact hz rfl
      rw [show (Rd.mk s false).fin = 10 from by simp [Rd.fin, hz]]
      go_enter Try.func42, Try.ntmps42
      go_wp2_with (go_at_call 78; refine (fine_is false true rfl b _ w hr).mono ?_; rintro e w2 ⟨rfl, rfl⟩)
      go_ret
      exact ⟨rfl, rfl⟩
  · rw [show (Rd.mk s true).fin = 10 from by simp [Rd.fin]]
    go_enter Try.func42, Try.ntmps42
    go_wp2_with (go_at_call 78; refine (fine_is true false rfl b _ w hr).mono ?_; rintro e w2 ⟨rfl, rfl⟩)
    go_ret
    exact ⟨rfl, rfl⟩

end Go.Proofs.Ytfpjdmplepepjaa

/-! Builder: strings.Builder at this dump: the shelf's contract of String (written by the shelf's tool, turned into a template); the walks of its check and of WriteString. -/
namespace Go.Proofs.Ytfpjdmplepepjaa
open Go.Shelf Go.RowKit
def Try.lays169_ren : Go.Shelf.Ren := ⟨fun | 169 => 56 | n => n, fun | 70 => 89 | 9 => 9 | 0 => 0 | 72 => 91 | 37 => 36 | 127 => 117 | 3 => 3 | 5 => 5 | n => n, fun | n => n⟩
theorem Try.lays169 : Go.Proofs.Lays.n169 Try.prog Try.lays169_ren := {
  mixed := by kernel_rfl
  f169 := Try.func56.trans (congrArg some (by kernel_rfl))
  t0 := Try.underlying0
  a0 := Try.isAgg0
  z0 := Try.sizeOf0
  v0 := Try.zeroValue0
  t3 := Try.underlying3
  a3 := Try.isAgg3
  z3 := Try.sizeOf3
  v3 := Try.zeroValue3
  t9 := Try.underlying9
  a9 := Try.isAgg9
  z9 := Try.sizeOf9
  v9 := Try.zeroValue9
  t37 := Try.underlying36
  a37 := Try.isAgg36
  z37 := Try.sizeOf36
  v37 := Try.zeroValue36
  t70 := Try.underlying89
  a70 := Try.isAgg89
  z70 := Try.sizeOf89
  v70 := Try.zeroValue89
  t72 := Try.underlying91
  a72 := Try.isAgg91
  z72 := Try.sizeOf91
  v72 := Try.zeroValue91
  t127 := Try.underlying117
  a127 := Try.isAgg117
  z127 := Try.sizeOf117
  v127 := Try.zeroValue117 }
theorem Try.Builder_Extra_169 : Builder.Extra Try.prog Try.lays169_ren := {
  sizeBuilder := by kernel_rfl
  liesBuilder := by kernel_rfl
  t5 := Try.underlying5
  a5 := Try.isAgg5
  z5 := Try.sizeOf5
  v5 := Try.zeroValue5
  infoByte := by kernel_rfl
  cellsByte := by kernel_rfl
  sizeByte := by kernel_rfl
  neB5 := by decide }
open Go.RowKit in
theorem Try.Builder_String_any (B b : Nat) (l : List UInt8) (w : World) (h : Lib.IsBuilder 91 5 B b (Lib.byteCells l) w) (hBw : B ≤ w.heap.size) :
    Calls Try.prog 56 #[.pointer (some ⟨b, 0, none⟩)] w fun e w' => e = .returned (.string ⟨l.toArray⟩) ∧ Below B w w' := Any.Builder_String_any Try.lays169 Try.Builder_Extra_169 B b l w h hBw

set_option maxHeartbeats 1000000 in
set_option maxRecDepth 100000 in
/-- A builder's check, at one that was used. -/
theorem bcheck_used (b : Nat) (w : World) (h0 : w.cell? ⟨b, 0, none⟩ = some (.pointer (some ⟨b, 0, none⟩))) :
    Calls Try.prog 91 #[.pointer (some ⟨b, 0, none⟩)] w fun e w' => e = .returned (.tuple #[]) ∧ w = w' := by
  obtain ⟨j, hj, _⟩ := Option.map_eq_some_iff.1 Try.Builder_Extra_169.toX72.sizeBuilder
  go_enter Try.func91, Try.ntmps91
  go_wp2
  rw [Lib.run_neq_ptr_same w _ Try.underlying89 hj]
  go_wp2
  go_end0
  exact ⟨rfl, rfl⟩

set_option maxHeartbeats 1000000 in
set_option maxRecDepth 100000 in
/-- .. at a fresh one. -/
theorem bcheck_fresh (b : Nat) (w : World) (h0 : w.cell? ⟨b, 0, none⟩ = some (.pointer none)) (hsh : w.shape? b = some (91, 2)) (hfz : w.frozen? ⟨b, 0, none⟩ = false) :
    Calls Try.prog 91 #[.pointer (some ⟨b, 0, none⟩)] w fun e w' => e = .returned (.tuple #[]) ∧ w' = w.setCell ⟨b, 0, none⟩ (.pointer (some ⟨b, 0, none⟩)) := by
  obtain ⟨j, hj, hjs⟩ := Option.map_eq_some_iff.1 Try.Builder_Extra_169.toX72.sizeBuilder
  go_enter Try.func91, Try.ntmps91
  go_wp2
  rw [Lib.run_to_unsafe w ⟨b, 0, none⟩ Try.underlying89 Try.underlying130 hj (by rw [hjs]; decide) hsh (Nat.zero_lt_succ 1)]
  simp only [Result.andThen]
  rw [Oper.upon_value]
  go_wp2
  rw [run_callFunc_extern Try.func110 (by kernel_rfl) (by kernel_rfl) (by kernel_rfl) (e := Extern.AbiNoEscape.same) (by kernel_rfl)]
  rw [Lib.run_noEscape]
  simp only [Result.andThen]
  rw [Oper.upon_value]
  go_wp2
  rw [Lib.run_from_unsafe w ⟨b, 0, none⟩ Try.underlying130 Try.underlying89 hj hsh Try.Builder_Extra_169.toX72.liesBuilder]
  simp only [Result.andThen]
  rw [Oper.upon_value]
  go_wp2
  go_end0
  exact ⟨rfl, rfl⟩

theorem bcheck_any (B b : Nat) (bs : List Value) (w : World) (h : Lib.IsBuilder 91 5 B b bs w) :
    Calls Try.prog 91 #[.pointer (some ⟨b, 0, none⟩)] w fun e w' => e = .returned (.tuple #[]) ∧ (Lib.BuilderAt 91 5 B b (.pointer (some ⟨b, 0, none⟩)) bs w' ∧ Below B w w') := by
  rcases h with h | h
  · refine (bcheck_fresh b w h.cell0 h.shape h.frozen0).mono ?_
    rintro e w' ⟨rfl, rfl⟩
    exact ⟨rfl, h.used _, (Below.refl B w).setCell (p := ⟨b, 0, none⟩) h.1 _⟩
  · refine (bcheck_used b w h.cell0).mono ?_
    rintro e w' ⟨rfl, rfl⟩
    exact ⟨rfl, h, Below.refl B _⟩

set_option maxHeartbeats 2000000 in
set_option maxRecDepth 100000 in
theorem bwrite_any (B b : Nat) (l : List UInt8) (s : ByteArray) (w : World) (h : Lib.IsBuilder 91 5 B b (Lib.byteCells l) w) (hlen : l.length + s.size ≤ 140737488355328) (hBw : B ≤ w.heap.size) :
    Calls Try.prog 54 #[.pointer (some ⟨b, 0, none⟩), .string s] w fun e w' => e = .returned (.tuple #[.int .i64 s.size, .nilIface]) ∧ (Lib.IsBuilder 91 5 B b (Lib.byteCells (l ++ bl s)) w' ∧ Below B w w') := by
  obtain ⟨i0, hi, hz0, hz1, hz2⟩ := info_parts infoByte
  have e240 : ∀ args w, (callFunc 91 args).run Try.prog w = .ok (.enter 91 args) w := enters_of Try.func91 (by kernel_rfl) rfl
  have hbs : (Lib.byteCells l).length = l.length := Lib.byteCells_length l
  obtain ⟨bs, hbs2⟩ := nm (Lib.byteCells l)
  rw [← hbs2.out] at h hbs
  go_enter Try.func54, Try.ntmps54
  go_wp2_with (go_at_call 91; refine (bcheck_any B b bs _ h).mono ?_)
  rintro e w1 ⟨rfl, h1, hb1⟩
  obtain ⟨hB, v, hbk, hown, hne⟩ := h1
  have c0 : w1.cell? ⟨b, 0, none⟩ = some (.pointer (some ⟨b, 0, none⟩)) := by rw [Lib.cell_of_heap hbk]; rfl
  have c1 : w1.cell? ⟨b, 1, none⟩ = some v := by rw [Lib.cell_of_heap hbk]; rfl
  go_wp2_with (at_builtin; refine Lib.wpList_append_own_string _ rfl _ _ 36 9 rfl B 5 i0 Try.underlying36 Try.underlying9 hi hz0 hz1 hz2 _ _ _ rfl hown s rfl ?c3 ?c4 ?c5 ?_)
  case c3 => unfold maxLen; omega
  case c4 => omega
  case c5 => have := hb1.size; omega
  intro v' w2 hown' hgrow _
  have hlt : b < w1.heap.size := lt_of_block hbk
  have hb2 : w2.heap[b]? = some (.cells #[.pointer (some ⟨b, 0, none⟩), v] 91 (0, 0)) := by
    rw [hgrow.block b hlt (fun e => hne e.symm)]
    exact hbk
  have d0 : w2.cell? ⟨b, 0, none⟩ = some (.pointer (some ⟨b, 0, none⟩)) := by rw [Lib.cell_of_heap hb2]; rfl
  have d1 : w2.cell? ⟨b, 1, none⟩ = some v := by rw [Lib.cell_of_heap hb2]; rfl
  have f1 : w2.frozen? ⟨b, 1, none⟩ = false := Lib.frozen_of_heap hb2 1
  obtain ⟨ao, n', cap, rfl⟩ : ∃ ao n' cap, v' = .slice ao n' cap := by
    rcases hown'.2 with ⟨hv, _⟩ | ⟨g, cap, cur, hv, _⟩
    · exact ⟨_, _, _, hv⟩
    · exact ⟨_, _, _, hv⟩
  go_wp2
  go_ret2
  refine ⟨rfl, Or.inr ?_, ?_⟩
  · have := Lib.BuilderAt.put (T := 91) (e := 5) hB hb2 (bs' := bs ++ Lib.strCells s) (by simpa [Lib.strCells_length, hbs] using hown') (by decide)
    have e1 : bs ++ Lib.strCells s = Lib.byteCells (l ++ bl s) := by
      rw [hbs2.out, Lib.byteCells, Lib.byteCells, List.map_append]; rfl
    rw [← e1]
    exact this
  · exact (hb1.grown hgrow (by have := hb1.size; omega) (fun k hk => (hown.lt k hk).1)).setCell (p := ⟨b, 1, none⟩) hB _

/-- A new builder. -/
theorem bnew (w : World) : Lib.IsBuilder 91 5 w.heap.size w.heap.size (Lib.byteCells []) (w.alloc (.cells #[.pointer none, .slice none 0 0] 91)) := by
  left
  refine ⟨Nat.le_refl _, .slice none 0 0, by show (w.heap.push _)[w.heap.size]? = _; simp, ⟨?_, ?_⟩, by simp [Value.ownBlock]⟩
  · simp [Lib.byteCells]
  · exact .inl ⟨rfl, rfl⟩

/-- A builder is as it was where nothing that was there has turned. -/
theorem bstays {B b : Nat} {bs : List Value} {w w' : World} (h : Lib.IsBuilder 91 5 B b bs w) (hb : Below w.heap.size w w') : Lib.IsBuilder 91 5 B b bs w' := by
  have key : ∀ p, Lib.BuilderAt 91 5 B b p bs w → Lib.BuilderAt 91 5 B b p bs w' := by
    rintro p ⟨h1, v, h2, ⟨h3, h4⟩, h5⟩
    refine ⟨h1, v, (hb.block b (lt_of_block h2)).trans h2, ⟨h3, ?_⟩, h5⟩
    rcases h4 with h4 | ⟨g, cap, cur, e1, e2, e3, e4⟩
    · exact .inl h4
    · exact .inr ⟨g, cap, cur, e1, e2, (hb.block g (lt_of_block e3)).trans e3, e4⟩
  exact h.elim (fun x => .inl (key _ x)) (fun x => .inr (key _ x))

end Go.Proofs.Ytfpjdmplepepjaa

/-! Nums: Lists of numbers as bytes: the program's walk over a builder, the document's over a text. -/
namespace Go.Proofs.Ytfpjdmplepepjaa
open Go.RowKit

/-- The bytes of a list. -/
def intsL (l : List Int) : List UInt8 := l.flatMap fun z => Pl.num z.toNat
def numsL (l : List Int) : List UInt8 := Pl.num l.length ++ intsL l

theorem intsL_take (l : List Int) (k : Nat) (h : k < l.length) : intsL (l.take (k + 1)) = intsL (l.take k) ++ Pl.num (l[k]).toNat := by
  rw [intsL, intsL, List.take_succ_eq_append_getElem h, List.flatMap_append]
  simp only [List.flatMap_cons, List.flatMap_nil, List.append_nil]

theorem intsL_le : ∀ (l : List Int), (∀ z ∈ l, z ≤ 9223372036854775807) → (intsL l).length ≤ 10 * l.length
  | [], _ => by simp [intsL]
  | z :: l, h => by
    have h1 := intsL_le l (fun y hy => h y (by simp [hy]))
    have h2 := Pl.num_length_le z.toNat (by have := h z (by simp); omega)
    have e : intsL (z :: l) = Pl.num z.toNat ++ intsL l := by simp [intsL]
    rw [e, List.length_append, List.length_cons]; omega

/-- Element k of a slice of numbers. -/
theorem SlAt.int {w : World} {ao : Option Addr} {zs : List Int} (h : SlAt w ao (zs.map (Value.int .i64))) (k : Nat) (hk : k < zs.length) :
    ∃ b off, ao = some ⟨b, off, none⟩ ∧ b < w.heap.size ∧ w.cell? ⟨b, off + k, none⟩ = some (.int .i64 zs[k]) := by
  obtain ⟨b, off, h1, h2, h3⟩ := h k (by simpa using hk)
  refine ⟨b, off, h1, h2, ?_⟩
  rw [h3 k (by simpa using hk)]
  simp [hk]

set_option maxRecDepth 100000 in
set_option maxHeartbeats 1000000 in
theorem nums_any (ao : Option Addr) (len cap : Nat) (zs : List Int) (hl : zs.length = len) (hlen : len ≤ 1000000) (hz : ∀ z ∈ zs, z ≤ 9223372036854775807) (w : World) (hat : SlAt w ao (zs.map (Value.int .i64))) :
    Calls Try.prog 21 #[.slice ao len cap] w fun e w' => e = .returned (.string (ofL (numsL zs))) ∧ Below w.heap.size w w' := by
  have HAT := Lib.hid hat
  clear hat
  have HL := Lib.hid hl
  clear hl
  have HZ := Lib.hid hz
  clear hz
  have hB0 := bnew w
  have hBw : Below w.heap.size w (w.alloc (.cells #[.pointer none, .slice none 0 0] 91)) := (Below.refl _ _).alloc (Nat.le_refl _) _
  have hl0 : (ofL (Pl.num len)).size ≤ 10 := by rw [ofL_size]; exact Pl.num_length_le _ (by omega)
  go_enter Try.func21, Try.ntmps21
  go_wp2_with fail
  refine (mint_int len _ (by omega)).mono ?_; rintro e w1 ⟨rfl, h1⟩
  rw [show (len : Int).toNat = len from by omega]
  have hB1 := bstays hB0 h1
  replace hBw := hBw.trans (h1.mono hBw.size)
  clear hB0 h1
  go_wp2_with fail
  refine (bwrite_any _ _ [] _ _ hB1 (by simp only [List.length_nil]; omega) hBw.size).mono ?_; rintro e w2 ⟨rfl, hB2, h2⟩
  replace hBw := hBw.trans h2
  clear hB1 h2
  go_wp2_with fail
  go_loopw [12] (fun i wr => ∃ k : Nat, k ≤ len ∧ i = .int .i64 (k : Int) ∧ Lib.IsBuilder 91 5 w.heap.size w.heap.size (Lib.byteCells (Pl.num len ++ intsL (zs.take k))) wr ∧ Below w.heap.size w wr) (fun i _ => len - (intOf i).toNat)
  case atStart => exact ⟨0, Nat.zero_le _, rfl, by simpa [intsL, bl_ofL] using hB2, hBw⟩
  case round =>
    clear hB2 hBw
    obtain ⟨k, hk, rfl, hB, hW⟩ := hrel
    by_cases hlt : k < len
    · obtain ⟨bs, off, rfl, hbs, hcell⟩ := SlAt.int HAT.out k (by rw [HL.out]; exact hlt)
      obtain ⟨z, hzz⟩ := nm (zs[k]'(by rw [HL.out]; exact hlt))
      have hz63 : z ≤ 9223372036854775807 := by rw [hzz.out]; exact HZ.out _ (List.getElem_mem _)
      rw [← hzz.out] at hcell
      have hc : wr.cell? ⟨bs, off + k, none⟩ = some (.int .i64 z) := (hW.cell (p := ⟨bs, off + k, none⟩) hbs).trans hcell
      clear hcell
      have hsz : (Pl.num len ++ intsL (zs.take k)).length ≤ 10 + 10 * 1000000 := by
        have h1 := intsL_le (zs.take k) (fun z hz => HZ.out z (List.mem_of_mem_take hz))
        have h2 := Pl.num_length_le len (by omega)
        rw [List.length_append]
        rw [List.length_take] at h1
        omega
      have hzl : (ofL (Pl.num z.toNat)).size ≤ 10 := by rw [ofL_size]; exact Pl.num_length_le _ (by omega)
      go_wp2_with fail
      refine (mint_int z _ hz63).mono ?_; rintro e w3 ⟨rfl, h1⟩
      have hB3 := bstays hB h1
      have hW3 := hW.trans (h1.mono hW.size)
      go_wp2_with fail
      refine (bwrite_any _ _ _ _ _ hB3 (by omega) hW3.size).mono ?_; rintro e w4 ⟨rfl, hB4, h2⟩
      have hW4 := hW3.trans h2
      go_wp2_with fail
      go_roundw
      case rel => exact ⟨k + 1, by omega, by go_num, by rw [intsL_take _ _ (by rw [HL.out]; exact hlt), ← hzz.out, ← List.append_assoc]; exact hB4, hW4⟩
      case measure => simp [intOf]; omega
    · obtain rfl : k = len := by omega
      have e1 : zs.take k = zs := List.take_of_length_le (by rw [HL.out]; exact Nat.le_refl _)
      rw [e1] at hB
      go_wp2_with fail
      refine (Try.Builder_String_any _ _ _ _ hB hW.size).mono ?_; rintro e w3 ⟨rfl, h1⟩
      have hW3 := hW.trans h1
      go_wp2_with fail
      go_ret
      exact ⟨by rw [numsL, HL.out]; rfl, hW3⟩

end Go.Proofs.Ytfpjdmplepepjaa

/-! NumsT: What a reader that is torn reads. -/
namespace Go.Proofs.Ytfpjdmplepepjaa
open Go.RowKit

theorem Rd.int_torn (L : ByteArray) (m : Int) : (Rd.mk L true).int m = (⟨L, true⟩, 0) := by
  unfold Rd.int
  split <;> rfl
theorem Rd.text_torn (L : ByteArray) (m : Int) : (Rd.mk L true).text m = (⟨L, true⟩, ⟨#[]⟩) := by
  rw [Rd.text, Rd.int_torn, if_pos (Or.inl rfl)]

set_option maxRecDepth 100000 in
set_option maxHeartbeats 1000000 in
theorem rnums_torn (b : Nat) (L : ByteArray) (many most : Int) (w : World) (hr : IsRd w b ⟨L, true⟩) (hs : L.size ≤ 4611686018427387904) (hm : many ≤ 9223372036854775807) :
    Calls Try.prog 37 #[.pointer (some ⟨b, 0, none⟩), .int .i64 many, .int .i64 most] w fun e w' => e = .returned (.slice none 0 0) ∧ IsRd w' b ⟨L, true⟩ ∧ Kept b w w' := by
  have R0 := Lib.hid (Rd.int_torn L many)
  go_enter Try.func37, Try.ntmps37
  go_wp2_with fail
  refine (rint_any b ⟨L, true⟩ many _ (((hr.alloc _).alloc _).alloc _) hs hm).mono ?_; rintro e w1 ⟨rfl, h1, hk⟩
  rw [R0.out] at h1 ⊢
  have hbl := hr.lt
  have cO : w1.cell? ⟨w.heap.size + 1 + 1, 0, none⟩ = some (.slice none 0 0) := by
    have := (hk.blk (Blk.new _ _ _) (by simp; omega)).cell 0
    simpa using this
  replace hk := (((Kept.refl b w).alloc _).alloc _).alloc _ |>.trans hk
  go_wp2_with fail
  go_loop [13] (fun i => i = .int .i64 0) (fun _ => 0)
  case atStart => rfl
  case round =>
    obtain rfl := hrel
    go_wp2_with fail
    go_ret
    exact ⟨rfl, h1, hk⟩

end Go.Proofs.Ytfpjdmplepepjaa

/-! Next: The reader's Nums: its closure, which appends to a list that it holds; the loop. -/
namespace Go.Proofs.Ytfpjdmplepepjaa
open Go.RowKit

/-- Of what lay below base only the blocks b and o may have turned. -/
structure Past (base b o : Nat) (w w' : World) : Prop where
  os : w'.os = w.os
  tape : w'.tape = w.tape
  output : w'.output = w.output
  size : w.heap.size ≤ w'.heap.size
  block : ∀ k, k < base → k ≠ b → k ≠ o → w'.heap[k]? = w.heap[k]?
theorem Past.refl (base b o : Nat) (w : World) : Past base b o w w := ⟨rfl, rfl, rfl, Nat.le_refl _, fun _ _ _ _ => rfl⟩
theorem Past.trans {base b o : Nat} {w v u : World} (h : Past base b o w v) (k : Past base b o v u) : Past base b o w u :=
  ⟨k.os.trans h.os, k.tape.trans h.tape, k.output.trans h.output, Nat.le_trans h.size k.size, fun i hi hb ho => (k.block i hi hb ho).trans (h.block i hi hb ho)⟩
theorem Kept.past {b : Nat} {w v : World} (h : Kept b w v) {base o : Nat} (hb : base ≤ w.heap.size) : Past base b o w v :=
  ⟨h.os, h.tape, h.output, h.size, fun k hk hne _ => h.block k (by omega) hne⟩
theorem Past.blk {base b o : Nat} {w v : World} {c : Array Value} {t : TypeId} (h : Past base b o w v) {k : Nat} (hk : Blk w k c t) (hl : k < base) (h1 : k ≠ b) (h2 : k ≠ o) : Blk v k c t := (h.block k hl h1 h2).trans hk
theorem grown_blk {w w' : World} {row : Option Nat} (h : w.grownBy w' row) {k : Nat} {c : Array Value} {t : TypeId} (hk : Blk w k c t) (hne : some k ≠ row) : Blk w' k c t := (h.block k hk.lt hne).trans hk

theorem infoInt : (Try.prog.info? 3).map (fun i => (i.zero, i.size, i.bytes)) = some (some (.int .i64 0), 1, 8) := by kernel_rfl

/-- What the closure of Nums holds: the list v (of zs), the reader, the number. -/
structure Holds (base b O R M : Nat) (r : Rd) (most : Int) (v : Value) (zs : List Int) (w : World) : Prop where
  lb : b < base
  lO : O < base
  lR : R < base
  lM : M < base
  bO : b ≠ O
  bR : b ≠ R
  bM : b ≠ M
  OR : O ≠ R
  OM : O ≠ M
  size : base ≤ w.heap.size
  rd : IsRd w b r
  out : Blk w O #[v] 60
  box : Blk w R #[.pointer (some ⟨b, 0, none⟩)] 71
  num : Blk w M #[.int .i64 most] 3
  own : w.ownsRow base 3 1 v zs.length (zs.map (Value.int .i64))

theorem rint3_any {base b O R M : Nat} {r : Rd} {most : Int} {v : Value} {zs : List Int} (w w0 : World) (h : Holds base b O R M r most v zs w) (hd : w0 = w.drew) (hs : r.left.size ≤ 4611686018427387904) (hm : most ≤ 9223372036854775807) :
    Calls Try.prog 77 #[.pointer (some ⟨b, 0, none⟩), .int .i64 most] w0 fun e w' => e = .returned (.int .i64 ((r.int most).2 : Nat)) ∧ (Holds base b O R M (r.int most).1 most v zs w' ∧ Kept b w w') ∧
      w'.cell? ⟨O, 0, none⟩ = some v ∧ w'.cell? ⟨R, 0, none⟩ = some (.pointer (some ⟨b, 0, none⟩)) ∧ w'.cell? ⟨M, 0, none⟩ = some (.int .i64 most) := by
  subst hd
  refine (rint_any b r most _ h.rd.drew hs hm).mono ?_
  rintro e w' ⟨rfl, h1, hk⟩
  have hk2 : Kept b w w' := (Kept.refl b w).drew.trans hk
  have o1 := hk2.blk h.out h.bO.symm
  have o2 := hk2.blk h.box h.bR.symm
  have o3 := hk2.blk h.num h.bM.symm
  refine ⟨rfl, ⟨⟨h.lb, h.lO, h.lR, h.lM, h.bO, h.bR, h.bM, h.OR, h.OM, Nat.le_trans h.size hk2.size, h1, o1, o2, o3, ?_⟩, hk2⟩, o1.cell 0, o2.cell 0, o3.cell 0⟩
  have hg : w.grownBy w' (some b) := ⟨hk2.os, hk2.tape, hk2.output, hk2.size, fun k hk' hne => hk2.block k hk' (fun e => hne (by rw [e]))⟩
  refine h.own.kept hg ?_
  cases hv : v.ownBlock with
  | none => exact .inl rfl
  | some g =>
    right
    intro e
    have := (h.own.lt g hv).1
    have := h.lb
    cases e
    omega

theorem Holds.far {base b O R M : Nat} {r : Rd} {most : Int} {v : Value} {zs : List Int} {w w2 : World} {o : Obj} (h : Holds base b O R M r most v zs w) (hg : (w.alloc o).grownBy w2 v.ownBlock) :
    IsRd w2 b r ∧ Blk w2 O #[v] 60 ∧ Blk w2 R #[.pointer (some ⟨b, 0, none⟩)] 71 ∧ Blk w2 M #[.int .i64 most] 3 := by
  have hne : ∀ k, k < base → some k ≠ v.ownBlock := by
    intro k hk e
    have := (h.own.lt k e.symm).1
    omega
  exact ⟨grown_blk hg (h.rd.alloc o) (hne _ h.lb), grown_blk hg (h.out.alloc o) (hne _ h.lO), grown_blk hg (h.box.alloc o) (hne _ h.lR), grown_blk hg (h.num.alloc o) (hne _ h.lM)⟩

/-- Behind the append and its store. -/
theorem Holds.push {base b O R M : Nat} {r : Rd} {most : Int} {v : Value} {zs : List Int} {w w2 : World} {o : Obj} {g cap : Nat} {z : Int} (h : Holds base b O R M r most v zs w) (hg : (w.alloc o).grownBy w2 v.ownBlock)
    (hown : w2.ownsRow base 3 1 (.slice (some ⟨g, 0, none⟩) (zs.length + 1) cap) (zs.length + 1) (zs.map (Value.int .i64) ++ [.int .i64 z])) :
    Holds base b O R M r most (.slice (some ⟨g, 0, none⟩) (zs.length + 1) cap) (zs ++ [z]) (w2.setCell ⟨O, 0, none⟩ (.slice (some ⟨g, 0, none⟩) (zs.length + 1) cap)) ∧
      Past base b O w (w2.setCell ⟨O, 0, none⟩ (.slice (some ⟨g, 0, none⟩) (zs.length + 1) cap)) := by
  obtain ⟨d0, d1, d2, d3⟩ := h.far hg
  have hsz : w.heap.size ≤ w2.heap.size := Nat.le_trans (by simp) hg.size
  have hge : base ≤ g := (hown.lt g rfl).1
  have hg2 : w2.grownBy (w2.setCell ⟨O, 0, none⟩ (.slice (some ⟨g, 0, none⟩) (zs.length + 1) cap)) (some O) :=
    ⟨rfl, rfl, rfl, by simp [World.setCell], fun k _ hk => Below.heap_setCell _ _ _ _ (fun e => hk (by rw [e]))⟩
  refine ⟨⟨h.lb, h.lO, h.lR, h.lM, h.bO, h.bR, h.bM, h.OR, h.OM, ?_, Blk.setOther d0 h.bO _, Blk.set d1 0 _, Blk.setOther d2 h.OR.symm _, Blk.setOther d3 h.OM.symm _, ?_⟩, ?_⟩
  · have := h.size
    have := hg2.size
    omega
  · have := hown.kept hg2 (.inr (by simp only [Value.ownBlock]; intro e; cases e; have := h.lO; omega))
    simpa using this
  · refine ⟨hg.os, hg.tape, hg.output, Nat.le_trans hsz hg2.size, fun k hk h1 h2 => ?_⟩
    rw [hg2.block k (by have := h.size; omega) (by simp [h2]), hg.block k (by have := h.size; simp; omega) (by intro e; have := (h.own.lt k e.symm).1; omega), Below.heap_alloc _ _ _ (by have := h.size; omega)]

set_option maxRecDepth 100000 in
set_option maxHeartbeats 4000000 in
theorem next_any {base b O R M : Nat} {r : Rd} {most : Int} {v : Value} {zs : List Int} (w : World) (h : Holds base b O R M r most v zs w) (hs : r.left.size ≤ 4611686018427387904) (hm : most ≤ 9223372036854775807) (hz : zs.length ≤ 1000000) :
    Calls Try.prog 76 #[.pointer (some ⟨O, 0, none⟩), .pointer (some ⟨R, 0, none⟩), .pointer (some ⟨M, 0, none⟩)] w fun e w' =>
      e = .returned (.bool (!(r.int most).1.torn)) ∧ ∃ v', Holds base b O R M (r.int most).1 most v' (zs ++ [((r.int most).2 : Int)]) w' ∧ Past base b O w w' := by
  have c1 : w.cell? ⟨O, 0, none⟩ = some v := h.out.cell 0
  have c2 : w.cell? ⟨R, 0, none⟩ = some (.pointer (some ⟨b, 0, none⟩)) := h.box.cell 0
  have c3 : w.cell? ⟨M, 0, none⟩ = some (.int .i64 most) := h.num.cell 0
  obtain ⟨z, hzz⟩ := nm (r.int most).2
  obtain ⟨q, hq⟩ := nm (r.int most).1
  rw [← hzz.out, ← hq.out]
  have HR : Hid (∀ w0 : World, w0 = w.drew → Calls Try.prog 77 #[.pointer (some ⟨b, 0, none⟩), .int .i64 most] w0 fun e w' => e = .returned (.int .i64 (z : Nat)) ∧ (Holds base b O R M q most v zs w' ∧ Kept b w w') ∧
      w'.cell? ⟨O, 0, none⟩ = some v ∧ w'.cell? ⟨R, 0, none⟩ = some (.pointer (some ⟨b, 0, none⟩)) ∧ w'.cell? ⟨M, 0, none⟩ = some (.int .i64 most)) := by
    show ∀ _, _
    rw [hzz.out, hq.out]
    exact fun w0 hd => rint3_any w w0 h hd hs hm
  obtain ⟨i0, hi, hz0, hz1, hz2⟩ := info_parts infoInt
  go_enter Try.func76, Try.ntmps76
  go_wp2
  go_region_law
    (first
      | (go_simp; go_at_call 77; refine (HR.out _ ?_).mono ?_; rfl; rintro e w1 ⟨rfl, h1, g1, g2, g3⟩; have g4 : ∀ o, (w1.alloc o).cell? ⟨O, 0, none⟩ = some v := fun o => (h1.1.out.alloc o).cell 0; simp only [])
      | (refine step_append_lies _ (by rfl) _ _ 60 (by rfl) base 3 i0 (.int .i64 0) 1 8 Try.underlying60 hi hz0 hz1 hz2 rfl (by decide) v zs.length (zs.map (Value.int .i64)) (by rfl) (h1.1.own.alloc _) ⟨w1.heap.size, 0, none⟩ 1 1 [.int .i64 z] (by rfl) rfl
          (World.news_of_block (heap_alloc_new w1 _)) (by simp [Value.oneCell']) (by decide) (by unfold maxLen; omega) (by omega) (Nat.le_trans h1.1.size (by simp)) _ rfl ?_
         intro g cap w2 hown hgrow hat hlt
         obtain ⟨d0, d1, d2, d3⟩ := h1.1.far hgrow
         have e1 : w2.cell? ⟨O, 0, none⟩ = some v := d1.cell 0
         have e2 : w2.cell? ⟨R, 0, none⟩ = some (.pointer (some ⟨b, 0, none⟩)) := d2.cell 0
         have e3 : w2.cell? ⟨M, 0, none⟩ = some (.int .i64 most) := d3.cell 0
         have e4 : w2.frozen? ⟨O, 0, none⟩ = false := d1.free 0))
  all_goals
    obtain ⟨hH, hP⟩ := h1.1.push hgrow hown
    have hbx := hH.box.cell 0
    go_wp2_with fail
    refine (fine_any b _ _ hH.rd).mono ?_; rintro e w4 ⟨rfl, rfl⟩
    go_wp2_with fail
    go_ret
    exact ⟨rfl, _, hH, (h1.2.past h.size).trans hP⟩

end Go.Proofs.Ytfpjdmplepepjaa

/-! ReadNums: The reader's Nums, whole. -/
namespace Go.Proofs.Ytfpjdmplepepjaa
open Go.RowKit

/-- So many numbers are read, none above most. -/
def Rd.items (most : Int) : Nat → Rd → Rd × Option (List Int)
  | 0, r => (r, some [])
  | k + 1, r => if (r.int most).1.torn then ((r.int most).1, none) else ((Rd.items most k (r.int most).1).1, (Rd.items most k (r.int most).1).2.map (((r.int most).2 : Int) :: ·))
def Rd.nums (r : Rd) (many most : Int) : Rd × List Int := ((Rd.items most (r.int many).2 (r.int many).1).1, (Rd.items most (r.int many).2 (r.int many).1).2.getD [])

theorem Rd.num_uses (r : Rd) (h : r.num.1.torn = false) : r.torn = false ∧ r.num.1.left.size + 1 ≤ r.left.size := by
  unfold Rd.num at h ⊢
  split at h
  · rename_i ht; simp only at h; rw [ht] at h; cases h
  · rename_i ht
    rw [if_neg ht]
    split at h
    · rename_i n l hq
      have h2 := (Pl.rdG_lt _ _ _ _ _ _ hq).2
      rw [bl_length] at h2
      exact ⟨by simpa using ht, by simp only [ofL_size]; omega⟩
    · cases h
theorem Rd.int_uses (r : Rd) (m : Int) (h : (r.int m).1.torn = false) : r.torn = false ∧ (r.int m).1.left.size + 1 ≤ r.left.size := by
  unfold Rd.int at h ⊢
  split at h
  · cases h
  · rename_i hc
    rw [if_neg hc]
    exact r.num_uses h
theorem Rd.int_none (r : Rd) (m : Int) (h : (r.int m).2 ≠ 0) : (r.int m).1.torn = false := by
  unfold Rd.int at h ⊢
  split at h
  · exact absurd rfl h
  · rename_i hc
    rw [if_neg hc]
    unfold Rd.num at h ⊢
    split at h
    · exact absurd rfl h
    · rename_i ht
      rw [if_neg ht]
      split at h
      · rfl
      · exact absurd rfl h

/-- A slice that a call owns, as its elements. -/
theorem SlAt.own {w : World} {base : Nat} {v : Value} {zs : List Int} (h : w.ownsRow base 3 1 v zs.length (zs.map (Value.int .i64))) :
    ∃ ao cap, v = .slice ao zs.length cap ∧ zs.length ≤ cap ∧ SlAt w ao (zs.map (Value.int .i64)) := by
  rcases h.2 with ⟨rfl, h0⟩ | ⟨g, cap, cur, rfl, _, hg, hc, _, _, ht⟩
  · exact ⟨none, 0, by rw [h0], by omega, fun k hk => by rw [List.length_map, h0] at hk; omega⟩
  · refine ⟨some ⟨g, 0, none⟩, cap, rfl, hc, fun k _ => ⟨g, 0, rfl, lt_of_block hg, fun j hj => ?_⟩⟩
    rw [List.length_map] at hj
    rw [Nat.zero_add, ← ht, List.getElem?_take, if_pos (by omega)]
    simp [World.cell?, hg]

theorem Holds.start {b : Nat} {r : Rd} {most : Int} {w w1 : World} {o1 o2 o3 : Obj} (e1 : o1 = .cells #[.pointer (some ⟨b, 0, none⟩)] 71) (e2 : o2 = .cells #[.int .i64 most] 3) (e3 : o3 = .cells #[.slice none 0 0] 60)
    (hb : b < w.heap.size) (hk : Kept b (((w.alloc o1).alloc o2).alloc o3) w1) (hr : IsRd w1 b r) :
    Holds (w.heap.size + 3) b (w.heap.size + 1 + 1) w.heap.size (w.heap.size + 1) r most (.slice none 0 0) [] w1 := by
  subst e1 e2 e3
  have hs := hk.size
  simp at hs
  refine ⟨by omega, by omega, by omega, by omega, by omega, by omega, by omega, by omega, by omega, by omega, hr, ?_, ?_, ?_, ⟨rfl, .inl ⟨rfl, rfl⟩⟩⟩
  · have := hk.blk (Blk.new ((w.alloc (.cells #[.pointer (some ⟨b, 0, none⟩)] 71)).alloc (.cells #[.int .i64 most] 3)) #[.slice none 0 0] 60) (by simp; omega)
    simpa using this
  · exact hk.blk (((Blk.new w _ _).alloc _).alloc _) (by omega)
  · have := hk.blk ((Blk.new (w.alloc (.cells #[.pointer (some ⟨b, 0, none⟩)] 71)) #[.int .i64 most] 3).alloc (.cells #[.slice none 0 0] 60)) (by simp; omega)
    simpa using this

theorem Past.kept {b o base : Nat} {w w1 w2 : World} (hk : Kept b w w1) (hP : Past base b o w1 w2) (h1 : w.heap.size ≤ base) (h2 : w.heap.size ≤ o) : Kept b w w2 :=
  ⟨hP.os.trans hk.os, hP.tape.trans hk.tape, hP.output.trans hk.output, Nat.le_trans hk.size hP.size, fun k hk' hne => (hP.block k (by omega) hne (by omega)).trans (hk.block k hk' hne)⟩

set_option maxRecDepth 100000 in
set_option maxHeartbeats 4000000 in
theorem rnums_any (b : Nat) (r : Rd) (many most : Int) (w : World) (hr : IsRd w b r) (hs : r.left.size ≤ 1000000) (hm : many ≤ 9223372036854775807) (hm2 : most ≤ 9223372036854775807) :
    Calls Try.prog 37 #[.pointer (some ⟨b, 0, none⟩), .int .i64 many, .int .i64 most] w fun e w' =>
      ∃ ao cap, e = .returned (.slice ao (r.nums many most).2.length cap) ∧ (r.nums many most).2.length ≤ cap ∧ SlAt w' ao ((r.nums many most).2.map (Value.int .i64)) ∧ IsRd w' b (r.nums many most).1 ∧ Kept b w w' := by
  have hbl := hr.lt
  obtain ⟨i1, i2, i3⟩ := r.int_lt many
  have i4 := r.int_none many
  have i5 := r.int_uses many
  obtain ⟨q, hq⟩ := nm (r.int many).1
  obtain ⟨n, hn⟩ := nm (r.int many).2
  rw [← hq.out] at i2 i4 i5
  rw [← hn.out] at i1 i3 i4
  have hn63 : n ≤ 9223372036854775807 := by omega
  obtain ⟨Q, hQ⟩ := nm (r.nums many most)
  have hq2 : Q = ((Rd.items most n q).1, (Rd.items most n q).2.getD []) := by rw [hQ.out, Rd.nums, hn.out, hq.out]
  rw [← hQ.out]
  have HQ := Lib.hid hq2
  clear hq2
  have I4 := Lib.hid i4
  have I5 := Lib.hid i5
  clear i4 i5 i3
  go_enter Try.func37, Try.ntmps37
  go_wp2_with fail
  refine (rint_any b r many _ (((hr.alloc _).alloc _).alloc _) (by omega) hm).mono ?_; rintro e w1 ⟨rfl, h1, hk⟩
  rw [← hq.out] at h1
  rw [← hn.out]
  have hH := Holds.start rfl rfl rfl hbl hk h1
  have hP : Past (w.heap.size + 3) b (w.heap.size + 1 + 1) w1 w1 := Past.refl _ _ _ _
  replace hk := (((Kept.refl b w).alloc _).alloc _).alloc _ |>.trans hk
  clear h1
  go_wp2_with fail
  go_loopw [13] (fun i wr => ∃ (k : Nat) (ri : Rd) (v : Value) (zs : List Int), k ≤ n ∧ i = .int .i64 (k : Int) ∧ zs.length = k ∧ Holds (w.heap.size + 3) b (w.heap.size + 1 + 1) w.heap.size (w.heap.size + 1) ri most v zs wr ∧ Past (w.heap.size + 3) b (w.heap.size + 1 + 1) w1 wr ∧
    (k < n → ri.torn = false) ∧ ri.left.size + k ≤ 1000000 ∧ Hid (Rd.items most n q = ((Rd.items most (n - k) ri).1, (Rd.items most (n - k) ri).2.map (zs ++ ·)))) (fun i _ => n - (intOf i).toNat)
  case atStart => exact ⟨0, q, _, [], by omega, rfl, rfl, hH, hP, fun h => I4.out (by omega), by omega, Lib.hid (by simp)⟩
  case round =>
    clear hH hP
    obtain ⟨k, ri, v, zs, hkn, rfl, hz, hH, hP, ht, hsz, hI⟩ := hrel
    by_cases hlt : k < n
    · have hfine := ht hlt
      obtain ⟨e1, e2, e3⟩ := ri.int_lt most
      have u1 := ri.int_uses most
      have hst : Rd.items most (n - k) ri = if (ri.int most).1.torn then ((ri.int most).1, none) else ((Rd.items most (n - (k + 1)) (ri.int most).1).1, (Rd.items most (n - (k + 1)) (ri.int most).1).2.map (((ri.int most).2 : Int) :: ·)) := by
        rw [show n - k = (n - (k + 1)) + 1 from by omega, Rd.items]
      obtain ⟨rj, hj⟩ := nm (ri.int most).1
      obtain ⟨z, hzz⟩ := nm (ri.int most).2
      go_wp2_with fail
      refine (next_any _ hH (by omega) hm2 (by omega)).mono ?_; rintro e w2 ⟨rfl, v', hH2, hP2⟩
      rw [← hj.out, ← hzz.out] at hH2
      rw [← hj.out]
      have hP3 := hP.trans hP2
      clear hH hP hP2
      rw [← hj.out, ← hzz.out] at hst
      rw [← hj.out] at e2 u1
      have htt : rj.torn = false ∨ rj.torn = true := by cases rj.torn <;> simp
      rcases htt with htt | htt
      · have u2 := (u1 htt).2
        rw [htt] at hst ⊢
        rw [if_neg (by decide)] at hst
        have HI : Hid (Rd.items most n q = ((Rd.items most (n - (k + 1)) rj).1, (Rd.items most (n - (k + 1)) rj).2.map ((zs ++ [(z : Int)]) ++ ·))) := by
          show _ = _
          rw [hI.out, hst]
          simp only [Option.map_map]
          congr 2
          funext l
          simp
        clear hst hI u1
        go_wp2_with fail
        go_roundw
        case rel => exact ⟨k + 1, rj, v', zs ++ [(z : Int)], by omega, by go_num, by simp [hz], hH2, hP3, fun _ => htt, by omega, HI⟩
        case measure => simp [intOf]; omega
      · have HE : Hid (Q = (rj, [])) := by
          show _ = _
          rw [HQ.out, hI.out, hst, htt]; rfl
        clear hst hI u1
        rw [htt]
        go_wp2_with fail
        go_ret
        rw [HE.out]
        exact ⟨none, 0, rfl, Nat.le_refl _, (fun k hk => by simp at hk), hH2.rd, hP3.kept hk (by omega) (by omega)⟩
    · obtain rfl : k = n := by omega
      have HE : Hid (Q = (ri, zs)) := by
        show _ = _
        rw [HQ.out, hI.out, Nat.sub_self]
        simp [Rd.items]
      obtain ⟨ao, cap, rfl, hcap, hsl⟩ := SlAt.own hH.own
      have cO := hH.out.cell 0
      have cO2 : wr.cell? ⟨w.heap.size + 1 + 1, 0, none⟩ = some (.slice ao zs.length cap) := cO
      clear cO
      go_wp2_with fail
      go_ret
      rw [HE.out]
      exact ⟨ao, cap, (by show _ = Ending.returned (Value.slice ao zs.length cap); rw [hz]; rfl), hcap, hsl, hH.rd, hP.kept hk (by omega) (by omega)⟩

end Go.Proofs.Ytfpjdmplepepjaa

/-! BackPlain: What was written is read again: a number, a text, a list; what stands behind is left. No program in sight. -/
namespace Go.Proofs.Ytfpjdmplepepjaa
open Go.RowKit

theorem Rd.num_back (n : Nat) (hn : n < 18446744073709551616) (t : List UInt8) : (Rd.mk (ofL (Pl.num n ++ t)) false).num = (⟨ofL t, false⟩, n) := by
  rw [Rd.num, if_neg (by simp)]
  show (match Pl.rdNum (Pl.num n ++ t) with | some (n, l) => ((⟨ofL l, false⟩ : Rd), n) | none => _) = _
  rw [Pl.rd_num n hn t]

theorem Rd.int_back (n : Nat) (most : Int) (hn : n < 18446744073709551616) (h : (n : Int) ≤ most) (t : List UInt8) : (Rd.mk (ofL (Pl.num n ++ t)) false).int most = (⟨ofL t, false⟩, n) := by
  rw [Rd.int, Rd.num_back n hn t, if_neg (by simp only; omega)]

theorem Rd.text_back (l t : List UInt8) (most : Int) (h : (l.length : Int) ≤ most) (h2 : l.length < 18446744073709551616) : (Rd.mk (ofL (textL l ++ t)) false).text most = (⟨ofL t, false⟩, ofL l) := by
  have e := Rd.int_back l.length most h2 h (l ++ t)
  rw [← List.append_assoc] at e
  have e2 : (Rd.mk (ofL (textL l ++ t)) false).int most = (⟨ofL (l ++ t), false⟩, l.length) := e
  rw [Rd.text, e2, if_neg]
  · simp only
    refine Prod.ext ?_ ?_
    · simp only [Rd.mk.injEq, and_true]
      refine bl_inj ?_
      rw [bl_extract, bl_ofL, bl_ofL, List.drop_left, List.take_of_length_le (by rw [ofL_size, List.length_append]; omega)]
    · refine bl_inj ?_
      rw [bl_extract, bl_ofL, bl_ofL, List.drop_zero, Nat.sub_zero, List.take_left]
  · simp only [ofL_size, List.length_append]
    intro h
    rcases h with h | h
    · cases h
    · omega

theorem Rd.items_back (most : Int) : ∀ (zs : List Int) (t : List UInt8), (∀ z ∈ zs, 0 ≤ z ∧ z ≤ most ∧ z < 18446744073709551616) → Rd.items most zs.length (Rd.mk (ofL (intsL zs ++ t)) false) = (⟨ofL t, false⟩, some zs)
  | [], t, _ => rfl
  | z :: zs, t, h => by
    obtain ⟨h1, h2, h3⟩ := h z (by simp)
    have e : intsL (z :: zs) ++ t = Pl.num z.toNat ++ (intsL zs ++ t) := by simp [intsL]
    have e2 := Rd.int_back z.toNat most (by omega) (by omega) (intsL zs ++ t)
    rw [List.length_cons, Rd.items, e, e2]
    simp only [Bool.false_eq_true, if_false]
    rw [Rd.items_back most zs t (fun y hy => h y (by simp [hy]))]
    simp only [Option.map_some]
    rw [show ((z.toNat : Nat) : Int) = z from by omega]

theorem Rd.nums_back (most many : Int) (zs : List Int) (t : List UInt8) (hl : zs.length < 18446744073709551616) (h0 : (zs.length : Int) ≤ many) (h : ∀ z ∈ zs, 0 ≤ z ∧ z ≤ most ∧ z < 18446744073709551616) :
    (Rd.mk (ofL (numsL zs ++ t)) false).nums many most = (⟨ofL t, false⟩, zs) := by
  have e := Rd.int_back zs.length many hl h0 (intsL zs ++ t)
  rw [← List.append_assoc] at e
  have e2 : (Rd.mk (ofL (numsL zs ++ t)) false).int many = (⟨ofL (intsL zs ++ t), false⟩, zs.length) := e
  rw [Rd.nums, e2]
  simp only
  rw [Rd.items_back most zs t h]
  rfl
end Go.Proofs.Ytfpjdmplepepjaa

