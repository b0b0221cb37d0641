/- Small facts on texts as byte arrays, and on masks. -/
import Derived.Test.YtfpjdmplepepjaaBase
namespace Go.Proofs.Ytfpjdmplepepjaa
open Go.RowKit

theorem nil_append (t : ByteArray) : (⟨#[]⟩ : ByteArray) ++ t = t := bl_inj (by rw [bl_append]; rfl)
theorem append_nil (t : ByteArray) : t ++ (⟨#[]⟩ : ByteArray) = t := bl_inj (by rw [bl_append]; exact List.append_nil _)
theorem nil_size : (⟨#[]⟩ : ByteArray).size = 0 := rfl
theorem lit_size (l : Array UInt8) : (ByteArray.mk l).size = l.size := rfl
theorem nil_extract (a b : Nat) : (⟨#[]⟩ : ByteArray).extract a b = ⟨#[]⟩ := bl_inj (by rw [bl_extract]; simp [bl])
theorem app_size (a b : ByteArray) : (a ++ b).size = a.size + b.size := ByteArray.size_append
theorem app_assoc (a b c : ByteArray) : a ++ b ++ c = a ++ (b ++ c) := bl_inj (by simp [bl_append])
theorem app_extract_le (a b : ByteArray) (n : Nat) (h : n ≤ a.size) : (a ++ b).extract 0 n = a.extract 0 n := by
  refine bl_inj ?_
  rw [bl_extract, bl_extract, bl_append]
  simp only [List.drop_zero, Nat.sub_zero]
  exact List.take_append_of_le_length (by rw [bl_length]; exact h)
theorem app_extract_ge (a b : ByteArray) (n : Nat) (h : a.size ≤ n) : (a ++ b).extract 0 n = a ++ b.extract 0 (n - a.size) := by
  refine bl_inj ?_
  rw [bl_extract, bl_append, bl_append, bl_extract]
  simp only [List.drop_zero, Nat.sub_zero]
  rw [List.take_append, bl_length, List.take_of_length_le (by rw [bl_length]; exact h)]
theorem extract_all (a : ByteArray) (n : Nat) (h : a.size ≤ n) : a.extract 0 n = a := by
  refine bl_inj ?_
  rw [bl_extract]
  simp only [List.drop_zero, Nat.sub_zero]
  exact List.take_of_length_le (by rw [bl_length]; exact h)

/-- A text, cut. -/
def cutB (s : ByteArray) (n : Nat) : ByteArray := if n < s.size then s.extract 0 n else s
theorem cutB_le (s : ByteArray) (n : Nat) : (cutB s n).size ≤ n := by
  unfold cutB
  split
  · rw [ByteArray.size_extract]; omega
  · omega
theorem cutB_cases (s : ByteArray) (n : Nat) : (n < s.size ∧ s.extract 0 n = cutB s n) ∨ (¬ n < s.size ∧ s = cutB s n) := by
  unfold cutB
  by_cases h : n < s.size
  · exact .inl ⟨h, by rw [if_pos h]⟩
  · exact .inr ⟨h, by rw [if_neg h]⟩

/-- A number's lowest bits. -/
theorem and_mask (x : Int) (m : Nat) (hm : m < 9223372036854775808) : ∃ K : Nat, K ≤ m ∧ bits .and .i64 x (m : Int) = (K : Int) := by
  refine ⟨(BitVec.ofInt 64 x).toNat &&& m, Nat.and_le_right, ?_⟩
  have h2 : (BitVec.ofInt 64 (m : Int)).toNat = m := by
    rw [BitVec.ofInt_natCast, BitVec.toNat_ofNat]; exact Nat.mod_eq_of_lt (by omega)
  have hx : (BitVec.ofInt 64 x).toNat &&& m ≤ m := Nat.and_le_right
  show IntKind.i64.wrap ((BitVec.ofInt 64 x &&& BitVec.ofInt 64 (m : Int)).toNat : Int) = _
  rw [BitVec.toNat_and, h2, IntKind.wrap_i64]
  omega
theorem zeroCells (n : Nat) : madeCells #[Value.int IntKind.u8 0] n = byteCells (List.replicate n 0) := by
  apply Array.ext_getElem?
  intro j
  rw [byteCells_get]
  by_cases hj : j < n
  · simp [madeCells, hj, Nat.mod_one]
  · rw [Array.getElem?_eq_none_iff.2 (by rw [size_madeCells]; omega), List.getElem?_eq_none (by simp; omega)]; rfl

end Go.Proofs.Ytfpjdmplepepjaa
