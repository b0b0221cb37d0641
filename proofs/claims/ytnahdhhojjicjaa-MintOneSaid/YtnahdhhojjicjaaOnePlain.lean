/- Of two numbers, or lists, the bytes of one begin the other's just if they are the same. No program in sight. -/
import Derived.Test.YtnahdhhojjicjaaBackPlain
namespace Go.Proofs.Ytnahdhhojjicjaa
open Go.RowKit

theorem begins {x y : ByteArray} (h : ((y.extract 0 x.size).toList == x.toList) = true) : ∃ t, bl y = bl x ++ t := by
  rw [toList_bl, toList_bl, bl_extract] at h
  simp only [List.drop_zero] at h
  refine ⟨(bl y).drop x.size, ?_⟩
  have h2 := eq_of_beq h
  rw [← h2]
  exact (List.take_append_drop _ _).symm

/-- What is asked of two texts: does the one begin the other? -/
def Ask (x y : ByteArray) (e : Bool) : Prop := (x.size ≤ y.size ∧ ((y.extract 0 x.size).toList == x.toList) = e) ∨ (y.size < x.size ∧ e = false)

theorem ask_of {x y : ByteArray} {e : Bool} (h1 : e = true → x = y) (h2 : e = false → ∀ t, bl y ≠ bl x ++ t) : Ask x y e := by
  cases e
  · rcases Nat.lt_or_ge y.size x.size with h | h
    · exact .inr ⟨h, rfl⟩
    · refine .inl ⟨h, ?_⟩
      cases hb : ((y.extract 0 x.size).toList == x.toList)
      · rfl
      · obtain ⟨t, ht⟩ := begins hb
        exact absurd ht (h2 rfl t)
  · obtain rfl := h1 rfl
    refine .inl ⟨Nat.le_refl _, ?_⟩
    rw [toList_bl, toList_bl, bl_extract, List.drop_zero, List.take_of_length_le (by rw [bl_length]; exact Nat.le_refl _)]
    simp

theorem ask_num (a b : Nat) (ha : a < 18446744073709551616) (hb : b < 18446744073709551616) : Ask (ofL (Pl.num a)) (ofL (Pl.num b)) (decide (a = b)) := by
  refine ask_of (fun h => by rw [of_decide_eq_true h]) (fun h t ht => of_decide_eq_false h ?_)
  rw [bl_ofL, bl_ofL] at ht
  have e1 := Rd.num_back a ha t
  have e2 := Rd.num_back b hb []
  rw [List.append_nil, ht, e1] at e2
  exact (Prod.mk.injEq _ _ _ _ ▸ e2).2

theorem ask_nums (l m : List Int) (hl : l.length ≤ 20) (hm : m.length ≤ 20) (hlb : ∀ z ∈ l, 0 ≤ z ∧ z ≤ 1125899906842624) (hmb : ∀ z ∈ m, 0 ≤ z ∧ z ≤ 1125899906842624) : Ask (ofL (numsL l)) (ofL (numsL m)) (decide (l = m)) := by
  refine ask_of (fun h => by rw [of_decide_eq_true h]) (fun h t ht => of_decide_eq_false h ?_)
  rw [bl_ofL, bl_ofL] at ht
  have e1 := Rd.nums_back 1125899906842624 20 l t (by omega) (by omega) (fun z hz => by have := hlb z hz; omega)
  have e2 := Rd.nums_back 1125899906842624 20 m [] (by omega) (by omega) (fun z hz => by have := hmb z hz; omega)
  rw [List.append_nil, ht, e1] at e2
  exact (Prod.mk.injEq _ _ _ _ ▸ e2).2
end Go.Proofs.Ytnahdhhojjicjaa
