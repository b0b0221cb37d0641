/- The document's reader, continued: Int. -/
import Derived.Test.YthhcooabfgegaaaReaderRef
namespace Go.Proofs.Ythhcooabfgegaaa
open Go.RowKit

theorem Rd.num_torn (r : Rd) (h : r.num.1.torn = true) : r.num.2 = 0 := by
  unfold Rd.num at h ⊢
  split at h
  · rename_i ht; rw [if_pos ht]
  · rename_i ht
    rw [if_neg ht]
    split at h
    · cases h
    · rfl
theorem Rd.int_torn0 (r : Rd) (m : Int) (h : (r.int m).1.torn = true) : (r.int m).2 = 0 := by
  unfold Rd.int at h ⊢
  split at h
  · rename_i hc; rw [if_pos hc]
  · rename_i hc; rw [if_neg hc]; exact r.num_torn h

set_option maxRecDepth 100000 in
set_option maxHeartbeats 1000000 in
theorem refrint_any (b : Nat) (r : Rd) (most : Int) (w : World) (hr : IsRr w b r) (hs : r.left.size ≤ 4611686018427387904) (hm : most ≤ 9223372036854775807) :
    Calls Try.prog 48 #[.pointer (some ⟨b, 0, none⟩), .int .i64 most] w fun e w' => e = .returned (.int .i64 ((r.int most).2 : Nat)) ∧ IsRr w' b (r.int most).1 ∧ Kept b w w' := by
  have hlt := r.num_lt.1
  have htn := r.num_torn
  obtain ⟨Q, hQ⟩ := nm (r.int most)
  rw [← hQ.out]
  obtain ⟨⟨⟨s, torn⟩, n⟩, hn⟩ := nm r.num
  have hqq : Q = if most < 0 ∨ most < n then (⟨s, true⟩, 0) else (⟨s, torn⟩, n) := by rw [hQ.out, Rd.int, ← hn.out]
  rw [← hn.out] at htn hlt
  simp only at htn hlt
  by_cases h0 : most < 0
  · rw [if_pos (Or.inl h0)] at hqq
    rw [hqq]; clear hqq
    go_enter Try.func48, Try.ntmps48
    go_wp2_with fail
    refine (refread_any b r w hr hs).mono ?_; rintro e w1 ⟨rfl, h1, h2⟩
    rw [← hn.out] at h1 ⊢
    have f1 : w1.frozen? ⟨b, 1, none⟩ = false := h1.free 1
    have c1 : w1.cell? ⟨b, 1, none⟩ = some (.bool torn) := h1.cell 1
    go_wp2_with fail
    go_ret
    exact ⟨rfl, h1.setTorn _, h2.set _ _⟩
  · obtain ⟨M, rfl⟩ : ∃ M : Nat, most = M := ⟨most.toNat, by omega⟩
    by_cases h1 : M < n
    · rw [if_pos (Or.inr (by omega))] at hqq
      rw [hqq]; clear hqq
      go_enter Try.func48, Try.ntmps48
      go_wp2_with fail
      refine (refread_any b r w hr hs).mono ?_; rintro e w1 ⟨rfl, h1, h2⟩
      rw [← hn.out] at h1 ⊢
      have f1 : w1.frozen? ⟨b, 1, none⟩ = false := h1.free 1
      have c1 : w1.cell? ⟨b, 1, none⟩ = some (.bool torn) := h1.cell 1
      go_wp2_with fail
      go_ret
      exact ⟨rfl, h1.setTorn _, h2.set _ _⟩
    · rw [if_neg (by omega)] at hqq
      rw [hqq]; clear hqq
      cases torn
      · go_enter Try.func48, Try.ntmps48
        go_wp2_with fail
        refine (refread_any b r w hr hs).mono ?_; rintro e w1 ⟨rfl, h1, h2⟩
        rw [← hn.out] at h1 ⊢
        have c1 : w1.cell? ⟨b, 1, none⟩ = some (.bool false) := h1.cell 1
        go_wp2_with fail
        go_ret
        exact ⟨rfl, h1, h2⟩
      · obtain rfl : n = 0 := htn rfl
        go_enter Try.func48, Try.ntmps48
        go_wp2_with fail
        refine (refread_any b r w hr hs).mono ?_; rintro e w1 ⟨rfl, h1, h2⟩
        rw [← hn.out] at h1 ⊢
        have c1 : w1.cell? ⟨b, 1, none⟩ = some (.bool true) := h1.cell 1
        go_wp2_with fail
        go_ret
        exact ⟨rfl, h1, h2⟩

end Go.Proofs.Ythhcooabfgegaaa
