/- The reader's walks, continued: Text, End. -/
import Derived.Test.YtfpjdmplepepjaaMintT
import Derived.Test.YtfpjdmplepepjaaReaderB
namespace Go.Proofs.Ytfpjdmplepepjaa
open Go.RowKit

set_option maxRecDepth 100000 in
set_option maxHeartbeats 1000000 in
theorem rtext_any (b : Nat) (r : Rd) (most : Int) (w : World) (hr : IsRd w b r) (hs : r.left.size ≤ 4611686018427387904) (hm : most ≤ 9223372036854775807) :
    Calls Try.prog 38 #[.pointer (some ⟨b, 0, none⟩), .int .i64 most] w fun e w' => e = .returned (.string (r.text most).2) ∧ IsRd w' b (r.text most).1 ∧ Kept b w w' := by
  obtain ⟨i1, i2, i3⟩ := r.int_lt most
  obtain ⟨Q, hQ⟩ := nm (r.text most)
  rw [← hQ.out]
  obtain ⟨⟨⟨s, torn⟩, n⟩, hn⟩ := nm (r.int most)
  rw [← hn.out] at i1 i2 i3
  simp only at i1 i2 i3
  have hqq : Q = if torn = true ∨ s.size < n then (⟨s, true⟩, ⟨#[]⟩) else (⟨s.extract n s.size, false⟩, s.extract 0 n) := by rw [hQ.out, Rd.text, ← hn.out]
  have hn63 : n ≤ 9223372036854775807 := by omega
  cases torn
  · by_cases hsz : s.size < n
    · rw [if_pos (Or.inr hsz)] at hqq
      rw [hqq]; clear hqq
      go_enter Try.func38, Try.ntmps38
      go_wp2_with fail
      refine (rint_any b r most w hr hs hm).mono ?_; rintro e w1 ⟨rfl, h1, h2⟩
      rw [← hn.out] at h1 ⊢
      have c0 : w1.cell? ⟨b, 0, none⟩ = some (.string s) := h1.cell 0
      go_wp2_with (go_at_call 78; refine (fine_is false true rfl b s w1 h1).mono ?_; rintro e w2 ⟨rfl, rfl⟩)
      refine (tears_any b _ _ h1).mono ?_; rintro e w2 ⟨rfl, h3, h4⟩
      go_wp2_with fail
      go_ret
      exact ⟨rfl, h3, h2.trans h4⟩
    · rw [if_neg (by simp; omega)] at hqq
      rw [hqq]; clear hqq
      go_enter Try.func38, Try.ntmps38
      go_wp2_with fail
      refine (rint_any b r most w hr hs hm).mono ?_; rintro e w1 ⟨rfl, h1, h2⟩
      rw [← hn.out] at h1 ⊢
      have c0 : w1.cell? ⟨b, 0, none⟩ = some (.string s) := h1.cell 0
      have f0 : w1.frozen? ⟨b, 0, none⟩ = false := h1.free 0
      go_wp2_with (go_at_call 78; refine (fine_is false true rfl b s w1 h1).mono ?_; rintro e w2 ⟨rfl, rfl⟩)
      go_ret
      exact ⟨rfl, h1.setLeft _, h2.set _ _⟩
  · rw [if_pos (Or.inl rfl)] at hqq
    rw [hqq]; clear hqq
    go_enter Try.func38, Try.ntmps38
    go_wp2_with fail
    refine (rint_any b r most w hr hs hm).mono ?_; rintro e w1 ⟨rfl, h1, h2⟩
    rw [← hn.out] at h1 ⊢
    go_wp2_with (go_at_call 78; refine (fine_is true false rfl b s w1 h1).mono ?_; rintro e w2 ⟨rfl, rfl⟩)
    refine (tears_any b _ _ h1).mono ?_; rintro e w2 ⟨rfl, h3, h4⟩
    go_wp2_with fail
    go_ret
    exact ⟨rfl, h3, h2.trans h4⟩

set_option maxRecDepth 100000 in
set_option maxHeartbeats 1000000 in
theorem rend_any (b : Nat) (r : Rd) (w : World) (hr : IsRd w b r) :
    Calls Try.prog 42 #[.pointer (some ⟨b, 0, none⟩)] w fun e w' => e = .returned (.int .i64 r.fin) ∧ w = w' := by
  obtain ⟨s, torn⟩ := r
  cases torn
  · by_cases hz : s.size = 0
    · obtain rfl := size_zero hz
      have c0 : w.cell? ⟨b, 0, none⟩ = some (.string ⟨#[]⟩) := hr.cell 0
      rw [show (Rd.mk ⟨#[]⟩ false).fin = 0 from rfl]
      go_enter Try.func42, Try.ntmps42
      go_wp2_with (go_at_call 78; refine (fine_is false true rfl b _ w hr).mono ?_; rintro e w2 ⟨rfl, rfl⟩)
      go_ret
      exact ⟨rfl, rfl⟩
    · have c0 : w.cell? ⟨b, 0, none⟩ = some (.string s) := hr.cell 0
      have hni : s.toList.isEmpty = false := by
        rw [toList_bl, List.isEmpty_eq_false_iff]
        intro h
        rw [← bl_length, h] at hz
        exact hz rfl
      rw [show (Rd.mk s false).fin = 10 from by simp [Rd.fin, hz]]
      go_enter Try.func42, Try.ntmps42
      go_wp2_with (go_at_call 78; refine (fine_is false true rfl b _ w hr).mono ?_; rintro e w2 ⟨rfl, rfl⟩)
      go_ret
      exact ⟨rfl, rfl⟩
  · rw [show (Rd.mk s true).fin = 10 from by simp [Rd.fin]]
    go_enter Try.func42, Try.ntmps42
    go_wp2_with (go_at_call 78; refine (fine_is true false rfl b _ w hr).mono ?_; rintro e w2 ⟨rfl, rfl⟩)
    go_ret
    exact ⟨rfl, rfl⟩

end Go.Proofs.Ytfpjdmplepepjaa
