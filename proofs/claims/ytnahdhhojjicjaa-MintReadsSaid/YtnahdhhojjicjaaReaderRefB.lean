/- The document's reader, continued: Int, Text, Left, End. -/
import Derived.Test.YtnahdhhojjicjaaReaderRef
import Derived.Test.YtnahdhhojjicjaaReadNums
namespace Go.Proofs.Ytnahdhhojjicjaa
open Go.RowKit

theorem Rd.num_torn (r : Rd) (h : r.num.1.torn = true) : r.num.2 = 0 := by
  unfold Rd.num at h ⊢
  split at h
  · rename_i ht; rw [if_pos ht]
  · rename_i ht
    rw [if_neg ht]
    split at h
    · cases h
    · rfl
theorem Rd.int_torn0 (r : Rd) (m : Int) (h : (r.int m).1.torn = true) : (r.int m).2 = 0 := by
  unfold Rd.int at h ⊢
  split at h
  · rename_i hc; rw [if_pos hc]
  · rename_i hc; rw [if_neg hc]; exact r.num_torn h

set_option maxRecDepth 100000 in
set_option maxHeartbeats 1000000 in
theorem refrint_any (b : Nat) (r : Rd) (most : Int) (w : World) (hr : IsRr w b r) (hs : r.left.size ≤ 4611686018427387904) (hm : most ≤ 9223372036854775807) :
    Calls Try.prog 26 #[.pointer (some ⟨b, 0, none⟩), .int .i64 most] w fun e w' => e = .returned (.int .i64 ((r.int most).2 : Nat)) ∧ IsRr w' b (r.int most).1 ∧ Kept b w w' := by
  have hlt := r.num_lt.1
  have htn := r.num_torn
  obtain ⟨Q, hQ⟩ := nm (r.int most)
  rw [← hQ.out]
  obtain ⟨⟨⟨s, torn⟩, n⟩, hn⟩ := nm r.num
  have hqq : Q = if most < 0 ∨ most < n then (⟨s, true⟩, 0) else (⟨s, torn⟩, n) := by rw [hQ.out, Rd.int, ← hn.out]
  rw [← hn.out] at htn hlt
  simp only at htn hlt
  by_cases h0 : most < 0
  · rw [if_pos (Or.inl h0)] at hqq
    rw [hqq]; clear hqq
    go_enter Try.func26, Try.ntmps26
    go_wp2_with fail
    refine (refread_any b r w hr hs).mono ?_; rintro e w1 ⟨rfl, h1, h2⟩
    rw [← hn.out] at h1 ⊢
    have f1 : w1.frozen? ⟨b, 1, none⟩ = false := h1.free 1
    have c1 : w1.cell? ⟨b, 1, none⟩ = some (.bool torn) := h1.cell 1
    go_wp2_with fail
    go_ret
    exact ⟨rfl, h1.setTorn _, h2.set _ _⟩
  · obtain ⟨M, rfl⟩ : ∃ M : Nat, most = M := ⟨most.toNat, by omega⟩
    by_cases h1 : M < n
    · rw [if_pos (Or.inr (by omega))] at hqq
      rw [hqq]; clear hqq
      go_enter Try.func26, Try.ntmps26
      go_wp2_with fail
      refine (refread_any b r w hr hs).mono ?_; rintro e w1 ⟨rfl, h1, h2⟩
      rw [← hn.out] at h1 ⊢
      have f1 : w1.frozen? ⟨b, 1, none⟩ = false := h1.free 1
      have c1 : w1.cell? ⟨b, 1, none⟩ = some (.bool torn) := h1.cell 1
      go_wp2_with fail
      go_ret
      exact ⟨rfl, h1.setTorn _, h2.set _ _⟩
    · rw [if_neg (by omega)] at hqq
      rw [hqq]; clear hqq
      cases torn
      · go_enter Try.func26, Try.ntmps26
        go_wp2_with fail
        refine (refread_any b r w hr hs).mono ?_; rintro e w1 ⟨rfl, h1, h2⟩
        rw [← hn.out] at h1 ⊢
        have c1 : w1.cell? ⟨b, 1, none⟩ = some (.bool false) := h1.cell 1
        go_wp2_with fail
        go_ret
        exact ⟨rfl, h1, h2⟩
      · obtain rfl : n = 0 := htn rfl
        go_enter Try.func26, Try.ntmps26
        go_wp2_with fail
        refine (refread_any b r w hr hs).mono ?_; rintro e w1 ⟨rfl, h1, h2⟩
        rw [← hn.out] at h1 ⊢
        have c1 : w1.cell? ⟨b, 1, none⟩ = some (.bool true) := h1.cell 1
        go_wp2_with fail
        go_ret
        exact ⟨rfl, h1, h2⟩

set_option maxRecDepth 100000 in
set_option maxHeartbeats 1000000 in
theorem refrtext_any (b : Nat) (r : Rd) (most : Int) (w : World) (hr : IsRr w b r) (hs : r.left.size ≤ 4611686018427387904) (hm : most ≤ 9223372036854775807) :
    Calls Try.prog 28 #[.pointer (some ⟨b, 0, none⟩), .int .i64 most] w fun e w' => e = .returned (.string (r.text most).2) ∧ IsRr w' b (r.text most).1 ∧ Kept b w w' := by
  obtain ⟨i1, i2, i3⟩ := r.int_lt most
  obtain ⟨Q, hQ⟩ := nm (r.text most)
  rw [← hQ.out]
  obtain ⟨⟨⟨s, torn⟩, n⟩, hn⟩ := nm (r.int most)
  rw [← hn.out] at i1 i2 i3
  simp only at i1 i2 i3
  have hqq : Q = if torn = true ∨ s.size < n then (⟨s, true⟩, ⟨#[]⟩) else (⟨s.extract n s.size, false⟩, s.extract 0 n) := by rw [hQ.out, Rd.text, ← hn.out]
  have hn63 : n ≤ 9223372036854775807 := by omega
  cases torn
  · by_cases hsz : s.size < n
    · rw [if_pos (Or.inr hsz)] at hqq
      rw [hqq]; clear hqq
      go_enter Try.func28, Try.ntmps28
      go_wp2_with fail
      refine (refrint_any b r most w hr hs hm).mono ?_; rintro e w1 ⟨rfl, h1, h2⟩
      rw [← hn.out] at h1 ⊢
      have c0 : w1.cell? ⟨b, 0, none⟩ = some (.string s) := h1.cell 0
      have c1 : w1.cell? ⟨b, 1, none⟩ = some (.bool false) := h1.cell 1
      have f1 : w1.frozen? ⟨b, 1, none⟩ = false := h1.free 1
      go_wp2_with fail
      go_ret
      exact ⟨rfl, h1.setTorn _, h2.set _ _⟩
    · rw [if_neg (by simp; omega)] at hqq
      rw [hqq]; clear hqq
      go_enter Try.func28, Try.ntmps28
      go_wp2_with fail
      refine (refrint_any b r most w hr hs hm).mono ?_; rintro e w1 ⟨rfl, h1, h2⟩
      rw [← hn.out] at h1 ⊢
      have c0 : w1.cell? ⟨b, 0, none⟩ = some (.string s) := h1.cell 0
      have c1 : w1.cell? ⟨b, 1, none⟩ = some (.bool false) := h1.cell 1
      have f0 : w1.frozen? ⟨b, 0, none⟩ = false := h1.free 0
      go_wp2_with fail
      go_ret
      exact ⟨rfl, h1.setLeft _, h2.set _ _⟩
  · rw [if_pos (Or.inl rfl)] at hqq
    rw [hqq]; clear hqq
    go_enter Try.func28, Try.ntmps28
    go_wp2_with fail
    refine (refrint_any b r most w hr hs hm).mono ?_; rintro e w1 ⟨rfl, h1, h2⟩
    rw [← hn.out] at h1 ⊢
    have c1 : w1.cell? ⟨b, 1, none⟩ = some (.bool true) := h1.cell 1
    have f1 : w1.frozen? ⟨b, 1, none⟩ = false := h1.free 1
    go_wp2_with fail
    go_ret
    exact ⟨rfl, h1.setTorn _, h2.set _ _⟩

set_option maxRecDepth 100000 in
set_option maxHeartbeats 1000000 in
theorem refrleft_any (b : Nat) (r : Rd) (w : World) (hr : IsRr w b r) :
    Calls Try.prog 33 #[.pointer (some ⟨b, 0, none⟩)] w fun e w' => e = .returned (.string r.rest) ∧ w = w' := by
  obtain ⟨s, torn⟩ := r
  have c0 : w.cell? ⟨b, 0, none⟩ = some (.string s) := hr.cell 0
  have c1 : w.cell? ⟨b, 1, none⟩ = some (.bool torn) := hr.cell 1
  cases torn
  · rw [show (Rd.mk s false).rest = s from rfl]
    go_enter Try.func33, Try.ntmps33
    go_wp2_with fail
    go_ret
    exact ⟨rfl, rfl⟩
  · rw [show (Rd.mk s true).rest = ⟨#[]⟩ from rfl]
    go_enter Try.func33, Try.ntmps33
    go_wp2_with fail
    go_ret
    exact ⟨rfl, rfl⟩

set_option maxRecDepth 100000 in
set_option maxHeartbeats 1000000 in
theorem refrend_any (b : Nat) (r : Rd) (w : World) (hr : IsRr w b r) :
    Calls Try.prog 35 #[.pointer (some ⟨b, 0, none⟩)] w fun e w' => e = .returned (.int .i64 r.fin) ∧ w = w' := by
  obtain ⟨s, torn⟩ := r
  have c0 : w.cell? ⟨b, 0, none⟩ = some (.string s) := hr.cell 0
  have c1 : w.cell? ⟨b, 1, none⟩ = some (.bool torn) := hr.cell 1
  cases torn
  · by_cases hz : s.size = 0
    · obtain rfl := size_zero hz
      rw [show (Rd.mk ⟨#[]⟩ false).fin = 0 from rfl]
      go_enter Try.func35, Try.ntmps35
      go_wp2_with fail
      go_ret
      exact ⟨rfl, rfl⟩
    · have hni : s.toList.isEmpty = false := by
        rw [toList_bl, List.isEmpty_eq_false_iff]
        intro h
        rw [← bl_length, h] at hz
        exact hz rfl
      rw [show (Rd.mk s false).fin = 10 from by simp [Rd.fin, hz]]
      go_enter Try.func35, Try.ntmps35
      go_wp2_with fail
      go_ret
      exact ⟨rfl, rfl⟩
  · rw [show (Rd.mk s true).fin = 10 from by simp [Rd.fin]]
    go_enter Try.func35, Try.ntmps35
    go_wp2_with fail
    go_ret
    exact ⟨rfl, rfl⟩

end Go.Proofs.Ytnahdhhojjicjaa
