/- Numbers as bytes, those below 0 as 0. -/
import Derived.Test.YtfpjdmplepepjaaMint
namespace Go.Proofs.Ytfpjdmplepepjaa
open Go.RowKit

set_option maxRecDepth 100000 in
set_option maxHeartbeats 400000 in
theorem mint_int (n : Int) (w : World) (hn : n ≤ 9223372036854775807) :
    Calls Try.prog 55 #[.int .i64 n] w fun e w' => e = .returned (.string (ofL (Pl.num n.toNat))) ∧ Below w.heap.size w w' := by
  by_cases h : n < 0
  · rw [show n.toNat = 0 from by omega]
    go_enter Try.func55, Try.ntmps55
    go_wp2_with fail
    rw [show max n 0 = ((0 : Nat) : Int) from by omega]
    refine (num_any 0 _ (by omega)).mono ?_; rintro e w' ⟨rfl, hb⟩
    go_wp2_with fail
    go_ret
    exact ⟨rfl, hb⟩
  · obtain ⟨N, rfl⟩ : ∃ N : Nat, n = N := ⟨n.toNat, by omega⟩
    rw [show (N : Int).toNat = N from by omega]
    go_enter Try.func55, Try.ntmps55
    go_wp2_with fail
    refine (num_any N _ (by omega)).mono ?_; rintro e w' ⟨rfl, hb⟩
    go_wp2_with fail
    go_ret
    exact ⟨rfl, hb⟩

set_option maxRecDepth 100000 in
set_option maxHeartbeats 400000 in
theorem ref_int (n : Int) (w : World) (hn : n ≤ 9223372036854775807) :
    Calls Try.prog 95 #[.int .i64 n] w fun e w' => e = .returned (.string (ofL (Pl.num n.toNat))) ∧ Below w.heap.size w w' := by
  by_cases h : n < 0
  · rw [show n.toNat = 0 from by omega]
    go_enter Try.func95, Try.ntmps95
    go_wp2_with fail
    refine (refnum_any 0 _ (by omega)).mono ?_; rintro e w' ⟨rfl, hb⟩
    go_wp2_with fail
    go_ret
    exact ⟨rfl, hb⟩
  · obtain ⟨N, rfl⟩ : ∃ N : Nat, n = N := ⟨n.toNat, by omega⟩
    rw [show (N : Int).toNat = N from by omega]
    go_enter Try.func95, Try.ntmps95
    go_wp2_with fail
    refine (refnum_any N _ (by omega)).mono ?_; rintro e w' ⟨rfl, hb⟩
    go_wp2_with fail
    go_ret
    exact ⟨rfl, hb⟩

end Go.Proofs.Ytfpjdmplepepjaa
