/- The reader's walks, continued: Int, Left. -/
import Derived.Test.YtfpjdmplepepjaaReader
namespace Go.Proofs.Ytfpjdmplepepjaa
open Go.RowKit

theorem Pl.rdG_lt : ∀ (f : Nat) (first : Bool) (m : Nat) (l : List UInt8) (n : Nat) (r : List UInt8), Pl.rdG f first m l = some (n, r) → n < 18446744073709551616 ∧ r.length < l.length
  | 0, _, _, _, _, _, h => by cases h
  | f + 1, _, _, [], _, _, h => by cases h
  | f + 1, first, m, c :: l, n, r, h => by
    rw [Pl.rdG] at h
    split at h
    · cases h
    · rename_i hn
      split at h
      · cases h
        exact ⟨by have := c.toNat_lt; omega, by simp⟩
      · obtain ⟨h1, h2⟩ := Pl.rdG_lt f _ _ _ _ _ h
        exact ⟨h1, by simp; omega⟩

theorem Rd.num_lt (r : Rd) : r.num.2 < 18446744073709551616 ∧ r.num.1.left.size ≤ r.left.size := by
  unfold Rd.num
  split
  · exact ⟨Nat.zero_lt_succ _, Nat.le_refl _⟩
  · split
    · rename_i n l h
      obtain ⟨h1, h2⟩ := Pl.rdG_lt _ _ _ _ _ _ h
      rw [bl_length] at h2
      exact ⟨h1, by simp only [ofL_size]; omega⟩
    · exact ⟨Nat.zero_lt_succ _, Nat.le_refl _⟩

set_option maxRecDepth 100000 in
set_option maxHeartbeats 1000000 in
theorem rint_any (b : Nat) (r : Rd) (most : Int) (w : World) (hr : IsRd w b r) (hs : r.left.size ≤ 4611686018427387904) (hm : most ≤ 9223372036854775807) :
    Calls Try.prog 77 #[.pointer (some ⟨b, 0, none⟩), .int .i64 most] w fun e w' => e = .returned (.int .i64 ((r.int most).2 : Nat)) ∧ IsRd w' b (r.int most).1 ∧ Kept b w w' := by
  have hlt := r.num_lt.1
  obtain ⟨Q, hQ⟩ := nm (r.int most)
  rw [← hQ.out]
  obtain ⟨n, hn⟩ := nm r.num.2
  have hlt : n < 18446744073709551616 := by rw [hn.out]; exact hlt
  by_cases h0 : most < 0
  · have e0 : Q = (⟨r.num.1.left, true⟩, 0) := by rw [hQ.out, Rd.int, if_pos (Or.inl h0)]
    rw [e0]; clear e0
    go_enter Try.func77, Try.ntmps77
    go_wp2_with fail
    refine (rnum_any b r w hr hs).mono ?_; rintro e w1 ⟨rfl, h1, h2⟩
    rw [← hn.out]
    go_wp2_with fail
    refine (tears_any b _ _ h1).mono ?_; rintro e w2 ⟨rfl, h3, h4⟩
    go_wp2_with fail
    go_ret
    exact ⟨rfl, h3, h2.trans h4⟩
  · obtain ⟨M, rfl⟩ : ∃ M : Nat, most = M := ⟨most.toNat, by omega⟩
    by_cases h1 : M < n
    · have e0 : Q = (⟨r.num.1.left, true⟩, 0) := by rw [hQ.out, Rd.int, if_pos (Or.inr (by rw [← hn.out]; omega))]
      rw [e0]; clear e0
      go_enter Try.func77, Try.ntmps77
      go_wp2_with fail
      refine (rnum_any b r w hr hs).mono ?_; rintro e w1 ⟨rfl, h1, h2⟩
      rw [← hn.out]
      go_wp2_with fail
      refine (tears_any b _ _ h1).mono ?_; rintro e w2 ⟨rfl, h3, h4⟩
      go_wp2_with fail
      go_ret
      exact ⟨rfl, h3, h2.trans h4⟩
    · have e0 : Q = (r.num.1, n) := by rw [hQ.out, Rd.int, if_neg (by rw [← hn.out]; omega), hn.out]
      rw [e0]; clear e0
      go_enter Try.func77, Try.ntmps77
      go_wp2_with fail
      refine (rnum_any b r w hr hs).mono ?_; rintro e w1 ⟨rfl, h1, h2⟩
      rw [← hn.out]
      go_wp2_with fail
      go_ret
      exact ⟨rfl, h1, h2⟩

theorem Rd.int_lt (r : Rd) (most : Int) : (r.int most).2 < 18446744073709551616 ∧ (r.int most).1.left.size ≤ r.left.size ∧ ((r.int most).2 = 0 ∨ ((r.int most).2 : Int) ≤ most) := by
  unfold Rd.int
  split
  · exact ⟨Nat.zero_lt_succ _, r.num_lt.2, .inl rfl⟩
  · exact ⟨r.num_lt.1, r.num_lt.2, .inr (by omega)⟩

def Rd.rest (r : Rd) : ByteArray := if r.torn then ⟨#[]⟩ else r.left
def Rd.fin (r : Rd) : Int := if r.torn = true ∨ r.left.size ≠ 0 then 10 else 0

theorem size_zero {s : ByteArray} (h : s.size = 0) : s = ⟨#[]⟩ := by
  refine bl_inj ?_
  have : (bl s).length = 0 := by rw [bl_length]; exact h
  rw [List.length_eq_zero_iff.1 this]; rfl

end Go.Proofs.Ytfpjdmplepepjaa
