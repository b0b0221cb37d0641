/- Parts of queues. -/
import Derived.Test.YtmmfbeeeamcooaaDoorSum
import Derived.Test.YtmmfbeeeamcooaaDoorRingD
namespace Go.Proofs.YtmmfbeeeamcooaaDoor
open Go.RowKit

set_option maxRecDepth 100000 in
set_option maxHeartbeats 400000 in
theorem part_any (s : ByteArray) (P : Nat) (hP : Hid (P = Pl.crc (bl s) % 16)) (hs : s.size ≤ 1000) (w : World) (ht : Tab w) :
    Calls Tryd.prog 8 #[.string s] w fun e w' => e = .returned (.int .i64 (P : Int)) ∧ w = w' := by
  have HT : Hid (Tab w) := ht
  clear ht
  obtain ⟨c, hc⟩ := nm (Pl.crc (bl s))
  have hS := sum_any s w (by omega) HT.out
  rw [← hc.out] at hS hP
  have HS := Lib.hid hS
  clear hS
  go_enter Tryd.func8, Tryd.ntmps8
  go_wp2_with fail
  refine HS.out.mono ?_; rintro e w2 ⟨rfl, rfl⟩
  go_wp2_with fail
  go_ret
  exact ⟨congrArg (fun x => Ending.returned (Value.int .i64 x)) (by rw [hP.out]; simp), rfl⟩
set_option maxRecDepth 100000 in
set_option maxHeartbeats 400000 in
theorem refpart_any (s : ByteArray) (P : Nat) (hP : Hid (P = Pl.crc (bl s) % 16)) (hs : s.size ≤ 1000) (w : World) :
    Calls Tryd.prog 18 #[.string s] w fun e w' => e = .returned (.int .i64 (P : Int)) ∧ w = w' := by
  obtain ⟨c, hc⟩ := nm (Pl.crc (bl s))
  have hS := refsum_any s w (by omega)
  rw [← hc.out] at hS hP
  have HS := Lib.hid hS
  clear hS
  go_enter Tryd.func18, Tryd.ntmps18
  go_wp2_with fail
  refine HS.out.mono ?_; rintro e w2 ⟨rfl, rfl⟩
  go_wp2_with fail
  go_ret
  exact ⟨congrArg (fun x => Ending.returned (Value.int .i64 x)) (by rw [hP.out]; simp), rfl⟩
end Go.Proofs.YtmmfbeeeamcooaaDoor
