/- Wire, of what has no lists: their checks, bytes, reads, sames. -/
import Derived.Test.YtfpjdmplepepjaaReadNums
import Derived.Test.YtfpjdmplepepjaaBackPlain
import Derived.Deep.RegionHeld3
import Derived.Deep.DeepCutAuto
import Derived.BigQuiet
import Derived.Deep.QuietTactic
namespace Go.Proofs.Ytfpjdmplepepjaa
open Go.RowKit

theorem bOld {w : World} (o : Obj) : Below w.heap.size w (w.alloc o) := (Below.refl _ _).alloc (Nat.le_refl _) _
theorem cell_al {w : World} {a : Addr} {v : Value} {o : Obj} (h : w.cell? a = some v) : (w.alloc o).cell? a = some v := by
  rw [World.cell?_alloc_some _ _ _ (by rw [h]; rfl)]; exact h
theorem blk_at {w : World} {c : Array Value} {t : TypeId} {k : Nat} (h : w.heap.size = k) : Blk (w.alloc (.cells c t)) k c t := h ▸ Blk.new w c t
theorem bDrewN {B : Nat} {w a : World} (h : Below B w a) (n : Nat) : Below B w (a.drewN n) := ⟨h.os, h.tape, h.output, h.size, h.block⟩
theorem bDrew {B : Nat} {w a : World} (h : Below B w a) : Below B w a.drew := ⟨h.os, h.tape, h.output, h.size, h.block⟩
theorem cell_dr {w : World} {a : Addr} {v : Value} (h : w.cell? a = some v) : w.drew.cell? a = some v := h
theorem num0 : Pl.num 0 = [0] := Pl.num_small 0 (by decide)

set_option maxRecDepth 100000 in
set_option maxHeartbeats 1000000 in
theorem rises0 (w : World) : Calls Try.prog 98 #[.slice none 0 0] w fun e w' => e = .returned (.bool true) ∧ w = w' := by
  go_enter Try.func98, Try.ntmps98
  go_wp2_with fail
  refine wp_loop_rounds 1 ?_
  rw [rounds_succ]
  go_wp2_with fail
  go_ret
  exact ⟨rfl, rfl⟩

set_option maxRecDepth 100000 in
set_option maxHeartbeats 1000000 in
theorem names0 (w : World) : Calls Try.prog 30 #[.slice none 0 0] w fun e w' => e = .returned (.int .i64 0) ∧ w = w' := by
  go_enter Try.func30, Try.ntmps30
  go_wp2_with fail
  refine wp_loop_rounds 1 ?_
  rw [rounds_succ]
  go_wp2_with fail
  go_ret
  exact ⟨rfl, rfl⟩

set_option maxRecDepth 100000 in
set_option maxHeartbeats 1000000 in
theorem views0 (w : World) : Calls Try.prog 31 #[.slice none 0 0] w fun e w' => e = .returned (.int .i64 0) ∧ w = w' := by
  go_enter Try.func31, Try.ntmps31
  go_wp2_with fail
  refine wp_loop_rounds 1 ?_
  rw [rounds_succ]
  go_wp2_with fail
  go_ret
  exact ⟨rfl, rfl⟩

set_option maxRecDepth 100000 in
set_option maxHeartbeats 1000000 in
theorem eqD0 (w : World) : Calls Try.prog 107 #[.slice none 0 0, .slice none 0 0] w fun e w' => e = .returned (.bool true) ∧ w = w' := by
  go_enter Try.func107, Try.ntmps107
  go_wp2_with fail
  refine wp_loop_rounds 1 ?_
  rw [rounds_succ]
  go_wp2_with fail
  go_ret
  exact ⟨rfl, rfl⟩

set_option maxRecDepth 100000 in
set_option maxHeartbeats 1000000 in
theorem eqM0 (w : World) : Calls Try.prog 83 #[.slice none 0 0, .slice none 0 0] w fun e w' => e = .returned (.bool true) ∧ w = w' := by
  go_enter Try.func83, Try.ntmps83
  go_wp2_with fail
  refine wp_loop_rounds 1 ?_
  rw [rounds_succ]
  go_wp2_with fail
  go_ret
  exact ⟨rfl, rfl⟩

set_option maxRecDepth 100000 in
set_option maxHeartbeats 1000000 in
theorem eqT0 (w : World) : Calls Try.prog 84 #[.slice none 0 0, .slice none 0 0] w fun e w' => e = .returned (.bool true) ∧ w = w' := by
  go_enter Try.func84, Try.ntmps84
  go_wp2_with fail
  refine wp_loop_rounds 1 ?_
  rw [rounds_succ]
  go_wp2_with fail
  go_ret
  exact ⟨rfl, rfl⟩

set_option maxRecDepth 100000 in
set_option maxHeartbeats 1000000 in
theorem eqP0 (w : World) : Calls Try.prog 85 #[.slice none 0 0, .slice none 0 0] w fun e w' => e = .returned (.bool true) ∧ w = w' := by
  go_enter Try.func85, Try.ntmps85
  go_wp2_with fail
  refine wp_loop_rounds 1 ?_
  rw [rounds_succ]
  go_wp2_with fail
  go_ret
  exact ⟨rfl, rfl⟩

set_option maxRecDepth 100000 in
set_option maxHeartbeats 1000000 in
theorem sameT0 (w : World) : Calls Try.prog 46 #[.slice none 0 0, .slice none 0 0] w fun e w' => e = .returned (.bool true) ∧ w = w' := by
  go_enter Try.func46, Try.ntmps46
  go_wp2_with fail
  refine (eqT0 _).mono ?_; rintro e w2 ⟨rfl, rfl⟩
  go_wp2_with fail
  go_ret
  exact ⟨rfl, rfl⟩

set_option maxRecDepth 100000 in
set_option maxHeartbeats 1000000 in
theorem sameP0 (w : World) : Calls Try.prog 47 #[.slice none 0 0, .slice none 0 0] w fun e w' => e = .returned (.bool true) ∧ w = w' := by
  go_enter Try.func47, Try.ntmps47
  go_wp2_with fail
  refine (eqP0 _).mono ?_; rintro e w2 ⟨rfl, rfl⟩
  go_wp2_with fail
  go_ret
  exact ⟨rfl, rfl⟩

set_option maxRecDepth 100000 in
set_option maxHeartbeats 1000000 in
theorem ctxsame0 (w : World) : Calls Try.prog 82 #[.agg #[.slice none 0 0, .slice none 0 0], .agg #[.slice none 0 0, .slice none 0 0]] w fun e w' => e = .returned (.bool true) ∧ Below w.heap.size w w' := by
  go_enter Try.func82, Try.ntmps82
  go_wp2_with (go_at_call 107; with_reducible (refine (eqD0 _).mono ?_); rintro e w2 ⟨rfl, rfl⟩)
  go_ret
  exact ⟨rfl, bNew (bOld _) _⟩

set_option maxRecDepth 100000 in
set_option maxHeartbeats 1000000 in
theorem bagsame0 (w : World) : Calls Try.prog 45 #[.agg #[.slice none 0 0, .slice none 0 0, .slice none 0 0], .agg #[.slice none 0 0, .slice none 0 0, .slice none 0 0]] w fun e w' => e = .returned (.bool true) ∧ Below w.heap.size w w' := by
  obtain ⟨w0, hw0⟩ := nm ((w.alloc (.cells #[.slice none 0 0, .slice none 0 0, .slice none 0 0] 27)).alloc (.cells #[.slice none 0 0, .slice none 0 0, .slice none 0 0] 27))
  have HB : Hid (Below w.heap.size w w0) := by rw [hw0.out]; exact bNew (bOld _) _
  have k1 : Blk w0 w.heap.size #[.slice none 0 0, .slice none 0 0, .slice none 0 0] 27 := by rw [hw0.out]; exact (Blk.new w _ _).alloc _
  have k2 : Blk w0 (w.heap.size + 1) #[.slice none 0 0, .slice none 0 0, .slice none 0 0] 27 := by rw [hw0.out]; exact blk_at (by simp)
  go_enter Try.func45, Try.ntmps45
  go_upto_region 1 with fail
  rw [← hw0.out]
  have c0 : w0.cell? ⟨w.heap.size, 0, none⟩ = some (.slice none 0 0) := k1.cell 0
  have d0 : w0.cell? ⟨w.heap.size + 1, 0, none⟩ = some (.slice none 0 0) := k2.cell 0
  have c1 : w0.cell? ⟨w.heap.size, 1, none⟩ = some (.slice none 0 0) := k1.cell 1
  have d1 : w0.cell? ⟨w.heap.size + 1, 1, none⟩ = some (.slice none 0 0) := k2.cell 1
  have c2 : w0.cell? ⟨w.heap.size, 2, none⟩ = some (.slice none 0 0) := k1.cell 2
  have d2 : w0.cell? ⟨w.heap.size + 1, 2, none⟩ = some (.slice none 0 0) := k2.cell 2
  go_wp2_with fail
  refine (ctxsame0 _).mono ?_; rintro e w2 ⟨rfl, hB2⟩
  have e1 : w2.cell? ⟨w.heap.size, 0, none⟩ = some (.slice none 0 0) := (hB2.cell (p := ⟨w.heap.size, 0, none⟩) k1.lt).trans c0
  have e2 : w2.cell? ⟨w.heap.size + 1, 0, none⟩ = some (.slice none 0 0) := (hB2.cell (p := ⟨w.heap.size + 1, 0, none⟩) k2.lt).trans d0
  go_wp2_with (go_at_call 83; with_reducible (refine (eqM0 _).mono ?_); rintro e w2 ⟨rfl, rfl⟩)
  go_ret
  exact ⟨rfl, bNext HB.out hB2⟩

set_option maxRecDepth 100000 in
set_option maxHeartbeats 1000000 in
theorem ctx0 (w : World) : Calls Try.prog 66 #[.agg #[.slice none 0 0, .slice none 0 0]] w fun e w' => e = .returned (.int .i64 0) ∧ Below w.heap.size w w' := by
  go_enter Try.func66, Try.ntmps66
  go_wp2_with (go_at_call 98; with_reducible (refine (rises0 _).mono ?_); rintro e w2 ⟨rfl, rfl⟩)
  refine wp_loop_rounds 1 ?_
  rw [rounds_succ]
  go_wp2_with fail
  refine wp_loop_rounds 1 ?_
  rw [rounds_succ]
  go_wp2_with fail
  go_ret
  exact ⟨rfl, bOld _⟩

set_option maxRecDepth 100000 in
set_option maxHeartbeats 1000000 in
theorem bag0 (w : World) : Calls Try.prog 29 #[.agg #[.slice none 0 0, .slice none 0 0, .slice none 0 0]] w fun e w' => e = .returned (.int .i64 0) ∧ Below w.heap.size w w' := by
  obtain ⟨w0, hw0⟩ := nm (w.alloc (.cells #[.slice none 0 0, .slice none 0 0, .slice none 0 0] 27))
  have HB : Hid (Below w.heap.size w w0) := by rw [hw0.out]; exact bOld _
  have k1 : Blk w0 w.heap.size #[.slice none 0 0, .slice none 0 0, .slice none 0 0] 27 := by rw [hw0.out]; exact Blk.new w _ _
  go_enter Try.func29, Try.ntmps29
  go_upto_region 1 with fail
  rw [← hw0.out]
  have c0 : w0.cell? ⟨w.heap.size, 0, none⟩ = some (.slice none 0 0) := k1.cell 0
  have c1 : w0.cell? ⟨w.heap.size, 1, none⟩ = some (.slice none 0 0) := k1.cell 1
  have c2 : w0.cell? ⟨w.heap.size, 2, none⟩ = some (.slice none 0 0) := k1.cell 2
  go_wp2_with fail
  refine (ctx0 _).mono ?_; rintro e w2 ⟨rfl, hB2⟩
  have e1 : w2.cell? ⟨w.heap.size, 0, none⟩ = some (.slice none 0 0) := (hB2.cell (p := ⟨w.heap.size, 0, none⟩) k1.lt).trans c0
  go_wp2_with fail
  refine wp_loop_rounds 1 ?_
  rw [rounds_succ]
  go_wp2_with fail
  go_ret
  exact ⟨rfl, bNext HB.out hB2⟩

set_option maxRecDepth 100000 in
set_option maxHeartbeats 1000000 in
theorem int0 (w : World) : Calls Try.prog 55 #[.int .i64 0] w fun e w' => e = .returned (.string (ofL [0])) ∧ Below w.heap.size w w' := by
  have h := mint_int 0 w (by decide)
  rw [show (0 : Int).toNat = 0 from rfl, num0] at h
  exact h
set_option maxRecDepth 100000 in
set_option maxHeartbeats 1000000 in
theorem row0 (w : World) : Calls Try.prog 93 #[.slice none 0 0] w fun e w' => e = .returned (.string (ofL [0])) ∧ Below w.heap.size w w' := by
  go_enter Try.func93, Try.ntmps93
  go_wp2_with fail
  refine (int0 _).mono ?_; rintro e w2 ⟨rfl, hB⟩
  go_wp2_with fail
  refine wp_loop_rounds 1 ?_
  rw [rounds_succ]
  go_wp2_with fail
  go_ret
  exact ⟨rfl, hB⟩

set_option maxRecDepth 100000 in
set_option maxHeartbeats 1000000 in
theorem namesb0 (w : World) : Calls Try.prog 24 #[.slice none 0 0] w fun e w' => e = .returned (.string (ofL [0])) ∧ Below w.heap.size w w' := by
  go_enter Try.func24, Try.ntmps24
  go_wp2_with fail
  refine (int0 _).mono ?_; rintro e w2 ⟨rfl, hB⟩
  go_wp2_with fail
  refine wp_loop_rounds 1 ?_
  rw [rounds_succ]
  go_wp2_with fail
  go_ret
  exact ⟨rfl, hB⟩

set_option maxRecDepth 100000 in
set_option maxHeartbeats 1000000 in
theorem viewb0 (w : World) : Calls Try.prog 25 #[.slice none 0 0] w fun e w' => e = .returned (.string (ofL [0])) ∧ Below w.heap.size w w' := by
  go_enter Try.func25, Try.ntmps25
  go_wp2_with fail
  refine (int0 _).mono ?_; rintro e w2 ⟨rfl, hB⟩
  go_wp2_with fail
  refine wp_loop_rounds 1 ?_
  rw [rounds_succ]
  go_wp2_with fail
  go_ret
  exact ⟨rfl, hB⟩

end Go.Proofs.Ytfpjdmplepepjaa
