/- caravanref01.Same: are two lists the same? -/
import Derived.Test.YtpolhdkjkidpgaaRingA
import Derived.BigQuiet
import Derived.Deep.QuietTactic
namespace Go.Proofs.Ytpolhdkjkidpgaa
open Go.RowKit Go.Shelf Go.Lib Go.Sort

set_option maxRecDepth 100000 in
set_option maxHeartbeats 1000000 in
theorem sameI_any (a1 a2 : Option Addr) (c1 c2 : Nat) (xs ys : List Int) (w : World) (hlen : xs.length ≤ 4611686018427387904) (h1 : SlAt w a1 (xs.map (Value.int .i64))) (h2 : SlAt w a2 (ys.map (Value.int .i64))) :
    Calls Try.prog 25 #[.slice a1 xs.length c1, .slice a2 ys.length c2] w fun e w' => e = .returned (.bool (decide (xs = ys))) ∧ ∃ n, w' = w.drewN n := by
  obtain ⟨m, hm⟩ := nm xs.length
  obtain ⟨n, hn⟩ := nm ys.length
  rw [← hm.out] at hlen
  rw [← hm.out, ← hn.out]
  by_cases hmn : m = n
  rotate_left
  · have hne : decide (xs = ys) = false := decide_eq_false (by intro e; apply hmn; rw [hm.out, hn.out, e])
    rw [hne]
    go_enter Try.func25, Try.ntmps25
    go_wp2_with fail
    go_ret
    exact ⟨rfl, 0, rfl⟩
  subst hmn
  obtain ⟨B, hB⟩ := nm (decide (xs = ys))
  rw [← hB.out]
  have H1 := Lib.hid h1
  have H2 := Lib.hid h2
  clear h1 h2
  go_enter Try.func25, Try.ntmps25
  go_wp2_with fail
  go_loopw [5] (fun i wr => ∃ (k q : Nat), k ≤ m ∧ i = .int .i64 (k : Int) ∧ wr = w.drewN q ∧ Hid (xs.take k = ys.take k)) (fun i _ => m - (intOf i).toNat)
  case atStart => exact ⟨0, 0, by omega, rfl, rfl, Lib.hid (by simp)⟩
  case round =>
    obtain ⟨k, q, hk, rfl, rfl, ht⟩ := hrel
    by_cases hlt : k < m
    · obtain ⟨b1, o1, rfl, hb1, d1⟩ := SlAt.int' H1.out k (by rw [← hm.out]; exact hlt)
      obtain ⟨b2, o2, rfl, hb2, d2⟩ := SlAt.int' H2.out k (by rw [← hn.out]; exact hlt)
      obtain ⟨x, hx⟩ := nm (xs[k]'(by rw [← hm.out]; exact hlt))
      obtain ⟨y, hy⟩ := nm (ys[k]'(by rw [← hn.out]; exact hlt))
      rw [← hx.out] at d1
      rw [← hy.out] at d2
      by_cases hxy : x = y
      · have hne : (x != y) = false := by simp [hxy]
        have HT : Hid (xs.take (k + 1) = ys.take (k + 1)) := by
          show _ = _
          rw [List.take_succ_eq_append_getElem (by rw [← hm.out]; exact hlt), List.take_succ_eq_append_getElem (by rw [← hn.out]; exact hlt), ht.out, ← hx.out, ← hy.out, hxy]
        clear ht
        go_wp2_with fail
        go_quiet (fail)
        go_wp2_with fail
        go_roundw
        case rel => exact ⟨k + 1, q + nq, by omega, by go_num, rfl, HT⟩
        case measure => simp [intOf]; omega
      · have hne : (x != y) = true := by simpa using hxy
        have HE : Hid (B = false) := by
          show _ = _
          rw [hB.out]
          refine decide_eq_false fun e => hxy ?_
          rw [hx.out, hy.out]
          simp only [e]
        go_wp2_with fail
        go_quiet (fail)
        go_wp2_with fail
        go_ret
        exact ⟨by rw [HE.out]; rfl, q + nq, (by rw [World.drewN_drewN])⟩
    · obtain rfl : k = m := by omega
      have HE : Hid (B = true) := by
        show _ = _
        rw [hB.out]
        refine decide_eq_true ?_
        have e := ht.out
        rw [List.take_of_length_le (by rw [hm.out]; exact Nat.le_refl _), List.take_of_length_le (by rw [hn.out]; exact Nat.le_refl _)] at e
        exact e
      go_wp2_with fail
      go_ret
      exact ⟨by rw [HE.out]; rfl, q, rfl⟩

end Go.Proofs.Ytpolhdkjkidpgaa
