/- A law's examples: awake. -/
import Derived.Test.YtpolhdkjkidpgaaViewWith
import Derived.Test.YtpolhdkjkidpgaaViewChg
import Derived.Test.YtpolhdkjkidpgaaViewIds
import Derived.Deep.RegionHeld3
import Derived.Deep.DeepCutAuto
namespace Go.Proofs.Ytpolhdkjkidpgaa
open Go.RowKit Go.Shelf Go.Lib Go.Sort

theorem aw1 : vwith [] (1, 0, 0) = [(1, 0, 0)] := by decide
theorem aw2 : chgL suspP 1 [(1, 0, 0)] = [(1, 0, 1)] := by decide
theorem aw3 : chgL refuP 1 [(1, 0, 1)] = [(1, 1, 0)] := by decide
theorem aw4 : chgL leavP 1 [(1, 0, 0)] = [(1, 0, 2)] := by decide
theorem aw5 : vwith [(1, 0, 2)] (1, 0, 0) = [(1, 0, 2)] := by decide
theorem aw6 : aliL [(1, 1, 0)] = [1] := by decide
theorem aw7 : memL [(1, 0, 2)] = [] := by decide
theorem vok1 {p : P3} (h : mayP p = true) : Vok [p] := ⟨List.pairwise_singleton _ _, (fun q hq => by obtain rfl := List.mem_singleton.1 hq; exact h), by simp⟩
theorem Vw.one {w : World} {v : Value} {x y z : Int} (h : Vw w v [(x, y, z)]) : ∃ b off cap, v = .slice (some ⟨b, off, none⟩) 1 cap ∧ b < w.heap.size ∧ w.cell? ⟨b, off, none⟩ = some (.int .i64 x) ∧ w.cell? ⟨b, off + 1, none⟩ = some (.int .i64 y) ∧ w.cell? ⟨b, off + 2, none⟩ = some (.int .i64 z) := by
  obtain ⟨ao, cap, rfl, _, _, h4⟩ := h
  obtain ⟨b, off, e, hb, hj⟩ := h4 0 (by simp)
  subst e
  obtain ⟨c0, c1, c2⟩ := hj 0 (x, y, z) rfl
  rw [Nat.zero_mul, Nat.add_zero] at c0 c1 c2
  exact ⟨b, off, cap, rfl, hb, c0, c1, c2⟩

set_option maxRecDepth 100000 in
set_option maxHeartbeats 4000000 in
theorem awake_any (w : World) : Calls Try.prog 9 #[] w fun e w' => e = .returned (.bool true) ∧ Below w.heap.size w w' := by
  obtain ⟨w1, hw1⟩ := nm (w.alloc (.cells #[.int .i64 1, .int .i64 0, .int .i64 0] 32))
  obtain ⟨bp, hbp⟩ := nm w.heap.size
  have hb1 : Blk w1 bp #[.int .i64 1, .int .i64 0, .int .i64 0] 32 := by rw [hw1.out, hbp.out]; exact Blk.new _ _ _
  have q0 : w1.cell? ⟨bp, 0, none⟩ = some (.int .i64 1) := hb1.cell 0
  have q1 : w1.cell? ⟨bp, 1, none⟩ = some (.int .i64 0) := hb1.cell 1
  have q2 : w1.cell? ⟨bp, 2, none⟩ = some (.int .i64 0) := hb1.cell 2
  have HB1 : Hid (Below w.heap.size w w1) := by rw [hw1.out]; exact bOld _
  have HBK := Lib.hid hb1
  have HW := Lib.hid (with_any [] Vok.nil 1 0 0 _ w1 (Vw.nil _))
  clear hb1
  go_enter Try.func9, Try.ntmps9
  go_upto_region 2 with fail
  rw [← hw1.out, ← hbp.out]
  go_wp2_with fail
  refine HW.out.mono ?_; rintro e w2 ⟨v2, rfl, hv2, hB2⟩
  rw [aw1] at hv2
  have HV2 := Lib.hid hv2
  have HBK2 := Lib.hid (Blk.below HBK.out hB2 HBK.out.lt)
  have HB2 := Lib.hid (bNext HB1.out hB2)
  have HS := Lib.hid (suspect_any [(1, 0, 0)] (vok1 (by decide)) 1 v2 w2 hv2)
  clear hv2 hB2 q0 q1 q2
  go_wp2_with fail
  refine HS.out.mono ?_; rintro e w3 ⟨v3, rfl, hv3, hB3⟩
  rw [aw2] at hv3
  have HV23 := Lib.hid (HV2.out.below hB3)
  have HBK3 := Lib.hid (Blk.below HBK2.out hB3 HBK2.out.lt)
  have HB3 := Lib.hid (bNext HB2.out hB3)
  have HR := Lib.hid (refute_any [(1, 0, 1)] (vok1 (by decide)) 1 v3 w3 hv3)
  clear hv3 hB3
  go_wp2_with fail
  refine HR.out.mono ?_; rintro e w4 ⟨v4, rfl, hv4, hB4⟩
  rw [aw3] at hv4
  have HV4 := Lib.hid hv4
  have HV24 := Lib.hid (HV23.out.below hB4)
  have hb4 := Blk.below HBK3.out hB4 HBK3.out.lt
  have HBK4 := Lib.hid hb4
  have HB4 := Lib.hid (bNext HB3.out hB4)
  have HL := Lib.hid (leave_any [(1, 0, 0)] (vok1 (by decide)) 1 v2 w4.drew HV24.out)
  have q0 : w4.cell? ⟨bp, 0, none⟩ = some (.int .i64 1) := hb4.cell 0
  have q1 : w4.cell? ⟨bp, 1, none⟩ = some (.int .i64 0) := hb4.cell 1
  have q2 : w4.cell? ⟨bp, 2, none⟩ = some (.int .i64 0) := hb4.cell 2
  have hlt4 : bp < w4.heap.size := hb4.lt
  have HKEEP : Hid (∀ wa : World, Below w4.drew.heap.size w4.drew wa → wa.cell? ⟨bp, 0, none⟩ = some (.int .i64 1) ∧ wa.cell? ⟨bp, 1, none⟩ = some (.int .i64 0) ∧ wa.cell? ⟨bp, 2, none⟩ = some (.int .i64 0)) := by
    show ∀ wa : World, _
    intro wa hBa
    exact ⟨(hBa.cell (p := ⟨bp, 0, none⟩) hlt4).trans q0, (hBa.cell (p := ⟨bp, 1, none⟩) hlt4).trans q1, (hBa.cell (p := ⟨bp, 2, none⟩) hlt4).trans q2⟩
  clear hv4 hB4 hb4
  go_wp2_with fail
  go_region_held3 (fun w' => w'.cell? ⟨bp, 0, none⟩ = some (.int .i64 1) ∧ w'.cell? ⟨bp, 1, none⟩ = some (.int .i64 0) ∧ w'.cell? ⟨bp, 2, none⟩ = some (.int .i64 0))
    (first
      | exact HKEEP.out _ (bNext hB5 hB6)
      | exact HKEEP.out _ hB5
      | (go_split_ands; refine ⟨?_, ?_, ?_⟩ <;> (repeat (first | with_reducible refine cell_al ?_ | with_reducible refine cell_dr ?_)) <;> with_reducible assumption))
    (first
      | (go_at_call 18; refine HL.out.mono ?_; rintro e w5 ⟨v5, rfl, hv5, hB5⟩; rw [aw4] at hv5)
      | (go_at_call 15; refine (with_any [(1, 0, 2)] (vok1 (by decide)) 1 0 0 v5 _ hv5).mono ?_; rintro e w6 ⟨v6, rfl, hv6, hB6⟩; rw [aw5] at hv6))
  have HV46 := Lib.hid (((show Vw w4.drew v4 _ from HV4.out).below hB5).below hB6)
  have HB6 := Lib.hid (bNext (bNext (bDrew HB4.out) hB5) hB6)
  have HA := Lib.hid (alive_any [(1, 1, 0)] (by simp) v4 w6 HV46.out)
  have HV6 := Lib.hid hv6
  clear hv5 hB5 hv6 hB6 q0 q1 q2 HKEEP
  go_wp2_with fail
  refine HA.out.mono ?_; rintro e w7 ⟨v7, rfl, hv7, hB7⟩
  rw [aw6] at hv7
  obtain ⟨a7, c7, rfl, _, _, h7⟩ := hv7
  obtain ⟨b7, o7, rfl, hl7, hj7⟩ := h7 0 (by simp)
  have r7 : w7.cell? ⟨b7, o7, none⟩ = some (.int .i64 1) := by have := hj7 0 (by simp); simpa using this
  obtain ⟨b4, o4, cp4, rfl, hl4, s0, s1, s2⟩ := (HV46.out.below hB7).one
  have HM := Lib.hid (members_any [(1, 0, 2)] (by simp) v6 w7 (HV6.out.below hB7))
  obtain ⟨b6, o6, cp6, rfl, hl6, t0, t1, t2⟩ := (HV6.out.below hB7).one
  have HB7 := Lib.hid (bNext HB6.out hB7)
  clear hB7 hj7 h7 t0 t1 t2
  go_wp2_with (go_at_call 20; refine HM.out.mono ?_; rintro e w8 ⟨v8, rfl, hv8, hB8⟩; rw [aw7] at hv8; obtain ⟨a8, c8, rfl, _, _, _⟩ := hv8)
  go_ret
  exact ⟨rfl, bNext HB7.out hB8⟩
end Go.Proofs.Ytpolhdkjkidpgaa
