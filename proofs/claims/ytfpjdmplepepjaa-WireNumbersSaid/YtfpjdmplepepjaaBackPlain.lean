/- What was written is read again: a number, a text, a list; what stands behind is left. No program in sight. -/
import Derived.Test.YtfpjdmplepepjaaReadNums
import Derived.Test.YtfpjdmplepepjaaNums
namespace Go.Proofs.Ytfpjdmplepepjaa
open Go.RowKit

theorem Rd.num_back (n : Nat) (hn : n < 18446744073709551616) (t : List UInt8) : (Rd.mk (ofL (Pl.num n ++ t)) false).num = (⟨ofL t, false⟩, n) := by
  rw [Rd.num, if_neg (by simp)]
  show (match Pl.rdNum (Pl.num n ++ t) with | some (n, l) => ((⟨ofL l, false⟩ : Rd), n) | none => _) = _
  rw [Pl.rd_num n hn t]

theorem Rd.int_back (n : Nat) (most : Int) (hn : n < 18446744073709551616) (h : (n : Int) ≤ most) (t : List UInt8) : (Rd.mk (ofL (Pl.num n ++ t)) false).int most = (⟨ofL t, false⟩, n) := by
  rw [Rd.int, Rd.num_back n hn t, if_neg (by simp only; omega)]

theorem Rd.text_back (l t : List UInt8) (most : Int) (h : (l.length : Int) ≤ most) (h2 : l.length < 18446744073709551616) : (Rd.mk (ofL (textL l ++ t)) false).text most = (⟨ofL t, false⟩, ofL l) := by
  have e := Rd.int_back l.length most h2 h (l ++ t)
  rw [← List.append_assoc] at e
  have e2 : (Rd.mk (ofL (textL l ++ t)) false).int most = (⟨ofL (l ++ t), false⟩, l.length) := e
  rw [Rd.text, e2, if_neg]
  · simp only
    refine Prod.ext ?_ ?_
    · simp only [Rd.mk.injEq, and_true]
      refine bl_inj ?_
      rw [bl_extract, bl_ofL, bl_ofL, List.drop_left, List.take_of_length_le (by rw [ofL_size, List.length_append]; omega)]
    · refine bl_inj ?_
      rw [bl_extract, bl_ofL, bl_ofL, List.drop_zero, Nat.sub_zero, List.take_left]
  · simp only [ofL_size, List.length_append]
    intro h
    rcases h with h | h
    · cases h
    · omega

theorem Rd.items_back (most : Int) : ∀ (zs : List Int) (t : List UInt8), (∀ z ∈ zs, 0 ≤ z ∧ z ≤ most ∧ z < 18446744073709551616) → Rd.items most zs.length (Rd.mk (ofL (intsL zs ++ t)) false) = (⟨ofL t, false⟩, some zs)
  | [], t, _ => rfl
  | z :: zs, t, h => by
    obtain ⟨h1, h2, h3⟩ := h z (by simp)
    have e : intsL (z :: zs) ++ t = Pl.num z.toNat ++ (intsL zs ++ t) := by simp [intsL]
    have e2 := Rd.int_back z.toNat most (by omega) (by omega) (intsL zs ++ t)
    rw [List.length_cons, Rd.items, e, e2]
    simp only [Bool.false_eq_true, if_false]
    rw [Rd.items_back most zs t (fun y hy => h y (by simp [hy]))]
    simp only [Option.map_some]
    rw [show ((z.toNat : Nat) : Int) = z from by omega]

theorem Rd.nums_back (most many : Int) (zs : List Int) (t : List UInt8) (hl : zs.length < 18446744073709551616) (h0 : (zs.length : Int) ≤ many) (h : ∀ z ∈ zs, 0 ≤ z ∧ z ≤ most ∧ z < 18446744073709551616) :
    (Rd.mk (ofL (numsL zs ++ t)) false).nums many most = (⟨ofL t, false⟩, zs) := by
  have e := Rd.int_back zs.length many hl h0 (intsL zs ++ t)
  rw [← List.append_assoc] at e
  have e2 : (Rd.mk (ofL (numsL zs ++ t)) false).int many = (⟨ofL (intsL zs ++ t), false⟩, zs.length) := e
  rw [Rd.nums, e2]
  simp only
  rw [Rd.items_back most zs t h]
  rfl
end Go.Proofs.Ytfpjdmplepepjaa
