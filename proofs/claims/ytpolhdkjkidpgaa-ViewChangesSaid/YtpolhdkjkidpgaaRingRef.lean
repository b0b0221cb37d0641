/- The document's rings: rest, Spots. -/
import Derived.Test.YtpolhdkjkidpgaaRingA
namespace Go.Proofs.Ytpolhdkjkidpgaa
open Go.RowKit Go.Shelf Go.Lib Go.Sort

set_option maxRecDepth 100000 in
set_option maxHeartbeats 400000 in
theorem refrest_64k (x : Int) (w : World) :
    Calls Try.prog 71 #[.int .i64 x, .int .i64 65536] w fun e w' => e = .returned (.int .i64 (x % 65536)) ∧ w = w' := by
  have h1 : -65536 < x.tmod 65536 := Int.lt_tmod_of_pos x (by decide)
  have h2 : x.tmod 65536 < 65536 := Int.tmod_lt_of_pos x (by decide)
  have h3 : (x.tmod 65536 + 65536) % 65536 = x % 65536 := by rw [Int.tmod_eq_emod]; split <;> omega
  have H3 := Lib.hid h3
  clear h3
  go_enter Try.func71, Try.ntmps71
  go_wp2_with fail
  go_ret
  exact ⟨congrArg (fun y => Ending.returned (Value.int .i64 y)) H3.out, rfl⟩

set_option maxRecDepth 100000 in
set_option maxHeartbeats 1000000 in
theorem refspots_any (id : Int) (w : World) :
    Calls Try.prog 56 #[.int .i64 id] w fun e w' => ∃ ao cap, e = .returned (.slice ao 4 cap) ∧ ao ≠ none ∧ SlP w' ao (spotsL id) ∧ Below w.heap.size w w' := by
  go_enter Try.func56, Try.ntmps56
  go_wp2_with fail
  go_loopw [3, 4] (fun v i wr => ∃ k : Nat, k ≤ 4 ∧ i = .int .i64 (k : Int) ∧ OwnP wr w.heap.size 66 v ((spotsL id).take k) ∧ Below w.heap.size w wr) (fun _ i _ => 4 - (intOf i).toNat)
  case atStart => exact ⟨0, by omega, rfl, OwnP.nil _ _ _, Below.refl _ _⟩
  case round =>
    obtain ⟨k, hk, rfl, hown, hB⟩ := hrel
    by_cases hlt : k < 4
    · have hA0 : 0 ≤ id % 65536 := by omega
      have hA1 : id % 65536 ≤ 65535 := by omega
      have hT : (spotsL id).take (k + 1) = (spotsL id).take k ++ [((id % 65536 * 40503 + (k : Int) * 25717 + 12345) % 65536, id)] := by
        have : k = 0 ∨ k = 1 ∨ k = 2 ∨ k = 3 := by omega
        rcases this with rfl | rfl | rfl | rfl <;> rfl
      have HT := Lib.hid hT
      have hLl : ((spotsL id).take k).length ≤ 4 := by rw [List.length_take]; simp [spotsL]; omega
      obtain ⟨L, hL⟩ := nm ((spotsL id).take k)
      rw [← hL.out] at hown hLl HT
      clear hT
      go_wp2_with (first
        | (go_at_call 71; refine (refrest_64k _ _).mono ?_; rintro e w2 ⟨rfl, rfl⟩)
        | (at_builtin; refine app_pairs rfl _ _ rfl w.heap.size _ L rfl (hown.alloc _) (some ⟨wr.heap.size, 0, none⟩) 1 1 [(_, id)] rfl rfl (fun h => by cases h) (SlP.ofBlk (Blk.new wr _ _)) (by omega) (Nat.le_trans hB.size (by simp)) ?_))
      intro v' w4 hown4 hg
      have hB4 := own_grown (hown.alloc _) (bNew hB _) (Nat.le_refl _) hg
      rw [← HT.out] at hown4
      clear hown hg hB
      go_wp2_with fail
      go_roundw
      case rel => exact ⟨k + 1, by omega, by go_num, hown4, hB4⟩
      case measure => simp [intOf]; omega
    · obtain rfl : k = 4 := by omega
      obtain ⟨a3, cap3, rfl, hc3, hcm3, hsl3, hab3⟩ := hown.sl
      go_wp2_with fail
      go_ret
      exact ⟨a3, cap3, rfl, (by rintro rfl; have := hsl3.none_len; simp [spotsL] at this), hsl3, hB⟩
end Go.Proofs.Ytpolhdkjkidpgaa
