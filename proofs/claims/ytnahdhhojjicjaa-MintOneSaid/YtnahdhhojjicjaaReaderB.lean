/- The reader's walks, continued: Int, Text, Left, End; no reader; the examples of chapter 1. -/
import Derived.Test.YtnahdhhojjicjaaReader
namespace Go.Proofs.Ytnahdhhojjicjaa
open Go.RowKit

theorem Pl.rdG_lt : ∀ (f : Nat) (first : Bool) (m : Nat) (l : List UInt8) (n : Nat) (r : List UInt8), Pl.rdG f first m l = some (n, r) → n < 18446744073709551616 ∧ r.length < l.length
  | 0, _, _, _, _, _, h => by cases h
  | f + 1, _, _, [], _, _, h => by cases h
  | f + 1, first, m, c :: l, n, r, h => by
    rw [Pl.rdG] at h
    split at h
    · cases h
    · rename_i hn
      split at h
      · cases h
        exact ⟨by have := c.toNat_lt; omega, by simp⟩
      · obtain ⟨h1, h2⟩ := Pl.rdG_lt f _ _ _ _ _ h
        exact ⟨h1, by simp; omega⟩

theorem Rd.num_lt (r : Rd) : r.num.2 < 18446744073709551616 ∧ r.num.1.left.size ≤ r.left.size := by
  unfold Rd.num
  split
  · exact ⟨Nat.zero_lt_succ _, Nat.le_refl _⟩
  · split
    · rename_i n l h
      obtain ⟨h1, h2⟩ := Pl.rdG_lt _ _ _ _ _ _ h
      rw [bl_length] at h2
      exact ⟨h1, by simp only [ofL_size]; omega⟩
    · exact ⟨Nat.zero_lt_succ _, Nat.le_refl _⟩

set_option maxRecDepth 100000 in
set_option maxHeartbeats 1000000 in
theorem rint_any (b : Nat) (r : Rd) (most : Int) (w : World) (hr : IsRd w b r) (hs : r.left.size ≤ 4611686018427387904) (hm : most ≤ 9223372036854775807) :
    Calls Try.prog 25 #[.pointer (some ⟨b, 0, none⟩), .int .i64 most] w fun e w' => e = .returned (.int .i64 ((r.int most).2 : Nat)) ∧ IsRd w' b (r.int most).1 ∧ Kept b w w' := by
  have hlt := r.num_lt.1
  obtain ⟨Q, hQ⟩ := nm (r.int most)
  rw [← hQ.out]
  obtain ⟨n, hn⟩ := nm r.num.2
  have hlt : n < 18446744073709551616 := by rw [hn.out]; exact hlt
  by_cases h0 : most < 0
  · have e0 : Q = (⟨r.num.1.left, true⟩, 0) := by rw [hQ.out, Rd.int, if_pos (Or.inl h0)]
    rw [e0]; clear e0
    go_enter Try.func25, Try.ntmps25
    go_wp2_with fail
    refine (rnum_any b r w hr hs).mono ?_; rintro e w1 ⟨rfl, h1, h2⟩
    rw [← hn.out]
    go_wp2_with fail
    refine (tears_any b _ _ h1).mono ?_; rintro e w2 ⟨rfl, h3, h4⟩
    go_wp2_with fail
    go_ret
    exact ⟨rfl, h3, h2.trans h4⟩
  · obtain ⟨M, rfl⟩ : ∃ M : Nat, most = M := ⟨most.toNat, by omega⟩
    by_cases h1 : M < n
    · have e0 : Q = (⟨r.num.1.left, true⟩, 0) := by rw [hQ.out, Rd.int, if_pos (Or.inr (by rw [← hn.out]; omega))]
      rw [e0]; clear e0
      go_enter Try.func25, Try.ntmps25
      go_wp2_with fail
      refine (rnum_any b r w hr hs).mono ?_; rintro e w1 ⟨rfl, h1, h2⟩
      rw [← hn.out]
      go_wp2_with fail
      refine (tears_any b _ _ h1).mono ?_; rintro e w2 ⟨rfl, h3, h4⟩
      go_wp2_with fail
      go_ret
      exact ⟨rfl, h3, h2.trans h4⟩
    · have e0 : Q = (r.num.1, n) := by rw [hQ.out, Rd.int, if_neg (by rw [← hn.out]; omega), hn.out]
      rw [e0]; clear e0
      go_enter Try.func25, Try.ntmps25
      go_wp2_with fail
      refine (rnum_any b r w hr hs).mono ?_; rintro e w1 ⟨rfl, h1, h2⟩
      rw [← hn.out]
      go_wp2_with fail
      go_ret
      exact ⟨rfl, h1, h2⟩

theorem Rd.int_lt (r : Rd) (most : Int) : (r.int most).2 < 18446744073709551616 ∧ (r.int most).1.left.size ≤ r.left.size ∧ ((r.int most).2 = 0 ∨ ((r.int most).2 : Int) ≤ most) := by
  unfold Rd.int
  split
  · exact ⟨Nat.zero_lt_succ _, r.num_lt.2, .inl rfl⟩
  · exact ⟨r.num_lt.1, r.num_lt.2, .inr (by omega)⟩

set_option maxRecDepth 100000 in
set_option maxHeartbeats 1000000 in
theorem rtext_any (b : Nat) (r : Rd) (most : Int) (w : World) (hr : IsRd w b r) (hs : r.left.size ≤ 4611686018427387904) (hm : most ≤ 9223372036854775807) :
    Calls Try.prog 27 #[.pointer (some ⟨b, 0, none⟩), .int .i64 most] w fun e w' => e = .returned (.string (r.text most).2) ∧ IsRd w' b (r.text most).1 ∧ Kept b w w' := by
  obtain ⟨i1, i2, i3⟩ := r.int_lt most
  obtain ⟨Q, hQ⟩ := nm (r.text most)
  rw [← hQ.out]
  obtain ⟨⟨⟨s, torn⟩, n⟩, hn⟩ := nm (r.int most)
  rw [← hn.out] at i1 i2 i3
  simp only at i1 i2 i3
  have hqq : Q = if torn = true ∨ s.size < n then (⟨s, true⟩, ⟨#[]⟩) else (⟨s.extract n s.size, false⟩, s.extract 0 n) := by rw [hQ.out, Rd.text, ← hn.out]
  have hn63 : n ≤ 9223372036854775807 := by omega
  cases torn
  · by_cases hsz : s.size < n
    · rw [if_pos (Or.inr hsz)] at hqq
      rw [hqq]; clear hqq
      go_enter Try.func27, Try.ntmps27
      go_wp2_with fail
      refine (rint_any b r most w hr hs hm).mono ?_; rintro e w1 ⟨rfl, h1, h2⟩
      rw [← hn.out] at h1 ⊢
      have c0 : w1.cell? ⟨b, 0, none⟩ = some (.string s) := h1.cell 0
      go_wp2_with (go_at_call 31; refine (fine_is false true rfl b s w1 h1).mono ?_; rintro e w2 ⟨rfl, rfl⟩)
      refine (tears_any b _ _ h1).mono ?_; rintro e w2 ⟨rfl, h3, h4⟩
      go_wp2_with fail
      go_ret
      exact ⟨rfl, h3, h2.trans h4⟩
    · rw [if_neg (by simp; omega)] at hqq
      rw [hqq]; clear hqq
      go_enter Try.func27, Try.ntmps27
      go_wp2_with fail
      refine (rint_any b r most w hr hs hm).mono ?_; rintro e w1 ⟨rfl, h1, h2⟩
      rw [← hn.out] at h1 ⊢
      have c0 : w1.cell? ⟨b, 0, none⟩ = some (.string s) := h1.cell 0
      have f0 : w1.frozen? ⟨b, 0, none⟩ = false := h1.free 0
      go_wp2_with (go_at_call 31; refine (fine_is false true rfl b s w1 h1).mono ?_; rintro e w2 ⟨rfl, rfl⟩)
      go_ret
      exact ⟨rfl, h1.setLeft _, h2.set _ _⟩
  · rw [if_pos (Or.inl rfl)] at hqq
    rw [hqq]; clear hqq
    go_enter Try.func27, Try.ntmps27
    go_wp2_with fail
    refine (rint_any b r most w hr hs hm).mono ?_; rintro e w1 ⟨rfl, h1, h2⟩
    rw [← hn.out] at h1 ⊢
    go_wp2_with (go_at_call 31; refine (fine_is true false rfl b s w1 h1).mono ?_; rintro e w2 ⟨rfl, rfl⟩)
    refine (tears_any b _ _ h1).mono ?_; rintro e w2 ⟨rfl, h3, h4⟩
    go_wp2_with fail
    go_ret
    exact ⟨rfl, h3, h2.trans h4⟩

def Rd.rest (r : Rd) : ByteArray := if r.torn then ⟨#[]⟩ else r.left
def Rd.fin (r : Rd) : Int := if r.torn = true ∨ r.left.size ≠ 0 then 10 else 0

set_option maxRecDepth 100000 in
set_option maxHeartbeats 1000000 in
theorem rleft_any (b : Nat) (r : Rd) (w : World) (hr : IsRd w b r) :
    Calls Try.prog 32 #[.pointer (some ⟨b, 0, none⟩)] w fun e w' => e = .returned (.string r.rest) ∧ w = w' := by
  obtain ⟨s, torn⟩ := r
  have c0 : w.cell? ⟨b, 0, none⟩ = some (.string s) := hr.cell 0
  cases torn
  · rw [show (Rd.mk s false).rest = s from rfl]
    go_enter Try.func32, Try.ntmps32
    go_wp2_with (go_at_call 31; refine (fine_is false true rfl b s w hr).mono ?_; rintro e w2 ⟨rfl, rfl⟩)
    go_ret
    exact ⟨rfl, rfl⟩
  · rw [show (Rd.mk s true).rest = ⟨#[]⟩ from rfl]
    go_enter Try.func32, Try.ntmps32
    go_wp2_with (go_at_call 31; refine (fine_is true false rfl b s w hr).mono ?_; rintro e w2 ⟨rfl, rfl⟩)
    go_ret
    exact ⟨rfl, rfl⟩

theorem size_zero {s : ByteArray} (h : s.size = 0) : s = ⟨#[]⟩ := by
  refine bl_inj ?_
  have : (bl s).length = 0 := by rw [bl_length]; exact h
  rw [List.length_eq_zero_iff.1 this]; rfl

set_option maxRecDepth 100000 in
set_option maxHeartbeats 1000000 in
theorem rend_any (b : Nat) (r : Rd) (w : World) (hr : IsRd w b r) :
    Calls Try.prog 34 #[.pointer (some ⟨b, 0, none⟩)] w fun e w' => e = .returned (.int .i64 r.fin) ∧ w = w' := by
  obtain ⟨s, torn⟩ := r
  cases torn
  · by_cases hz : s.size = 0
    · obtain rfl := size_zero hz
      have c0 : w.cell? ⟨b, 0, none⟩ = some (.string ⟨#[]⟩) := hr.cell 0
      rw [show (Rd.mk ⟨#[]⟩ false).fin = 0 from rfl]
      go_enter Try.func34, Try.ntmps34
      go_wp2_with (go_at_call 31; refine (fine_is false true rfl b _ w hr).mono ?_; rintro e w2 ⟨rfl, rfl⟩)
      go_ret
      exact ⟨rfl, rfl⟩
    · have c0 : w.cell? ⟨b, 0, none⟩ = some (.string s) := hr.cell 0
      have hni : s.toList.isEmpty = false := by
        rw [toList_bl, List.isEmpty_eq_false_iff]
        intro h
        rw [← bl_length, h] at hz
        exact hz rfl
      rw [show (Rd.mk s false).fin = 10 from by simp [Rd.fin, hz]]
      go_enter Try.func34, Try.ntmps34
      go_wp2_with (go_at_call 31; refine (fine_is false true rfl b _ w hr).mono ?_; rintro e w2 ⟨rfl, rfl⟩)
      go_ret
      exact ⟨rfl, rfl⟩
  · rw [show (Rd.mk s true).fin = 10 from by simp [Rd.fin]]
    go_enter Try.func34, Try.ntmps34
    go_wp2_with (go_at_call 31; refine (fine_is true false rfl b _ w hr).mono ?_; rintro e w2 ⟨rfl, rfl⟩)
    go_ret
    exact ⟨rfl, rfl⟩

end Go.Proofs.Ytnahdhhojjicjaa
