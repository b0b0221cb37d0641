/- The examples of chapter 2, and 'short'. -/
import Derived.Test.YtoiogpjnfipkfaaDoorFold
namespace Go.Proofs.YtoiogpjnfipkfaaDoor
open Go.RowKit

theorem frame_nil : frameL [] = [0, 225, 240] := by decide +kernel
theorem crc_nine : Pl.crc [49, 50, 51, 52, 53, 54, 55, 56, 57] = 10673 := by decide +kernel

set_option maxRecDepth 100000 in
set_option maxHeartbeats 400000 in
theorem awake_any (w : World) (ht : Tab w) :
    Calls Tryd.prog 9 #[] w fun e w' => e = .returned (.bool true) ∧ Below w.heap.size w w' := by
  have HT : Hid (Tab w) := ht
  clear ht
  have hv : wrapL (bl ⟨#[]⟩) = [0, 225, 240] := (wrapL_yes (by decide)).trans frame_nil
  have hv2 : wrapE (bl ⟨#[]⟩) = 0 := wrapE_yes (by decide)
  have e1 : (ofL [0, 225, 240]).toList = [0, 225, 240] := toList_ofL _
  go_enter Tryd.func9, Tryd.ntmps9
  go_wp2_with fail
  refine (wrap_any _ _ (by decide) HT.out).mono ?_; rintro e w1 ⟨rfl, hb1⟩
  have HT1 : Hid (Tab w1) := HT.out.below hb1
  rw [hv, hv2]
  go_wp2_with fail
  refine (sum_any _ _ (by decide) HT1.out).mono ?_; rintro e w2 ⟨rfl, rfl⟩
  rw [show Pl.crc (bl ⟨#[49, 50, 51, 52, 53, 54, 55, 56, 57]⟩) = 10673 from crc_nine]
  go_wp2_with fail
  go_ret
  exact ⟨rfl, hb1⟩

set_option maxRecDepth 100000 in
set_option maxHeartbeats 400000 in
theorem short_any (s : ByteArray) (n : Nat) (w : World) :
    Calls Tryd.prog 10 #[.string s, .int .i64 n] w fun e w' => e = .returned (.string (ofL ((bl s).take n))) ∧ w = w' := by
  by_cases h : n < s.size
  · have e : s.extract 0 n = ofL ((bl s).take n) := bl_inj (by rw [bl_extract, bl_ofL]; simp)
    go_enter Tryd.func10, Tryd.ntmps10
    go_wp2_with fail
    go_ret
    exact ⟨rfl, rfl⟩
  · have e : s = ofL ((bl s).take n) := bl_inj (by rw [bl_ofL, List.take_of_length_le (by rw [bl_length]; omega)])
    have E : Hid (s = ofL ((bl s).take n)) := e
    clear e
    go_enter Tryd.func10, Tryd.ntmps10
    go_wp2_with fail
    go_ret
    exact ⟨congrArg (fun x => Ending.returned (Value.string x)) E.out, rfl⟩

end Go.Proofs.YtoiogpjnfipkfaaDoor
