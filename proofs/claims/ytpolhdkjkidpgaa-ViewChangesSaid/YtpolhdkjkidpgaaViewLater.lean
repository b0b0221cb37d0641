/- The later one of two peers. -/
import Derived.Test.YtpolhdkjkidpgaaViewPlain
import Derived.Test.YtpolhdkjkidpgaaSpotCmp
import Derived.Deep.RegionHeld3
import Derived.Deep.DeepCutAuto
namespace Go.Proofs.Ytpolhdkjkidpgaa
open Go.RowKit Go.Shelf Go.Lib Go.Sort

set_option maxRecDepth 100000 in
set_option maxHeartbeats 1000000 in
theorem compare3_any (a b : Addr) (x0 x1 x2 y0 y1 y2 : Int) (ab bb ao bo : Nat) (ha : a = ⟨ab, ao, none⟩) (hb : b = ⟨bb, bo, none⟩) (w : World)
    (h0 : w.cell? ⟨ab, ao, none⟩ = some (.int .i64 x0)) (h1 : w.cell? ⟨ab, ao + 1, none⟩ = some (.int .i64 x1)) (h2 : w.cell? ⟨ab, ao + 2, none⟩ = some (.int .i64 x2))
    (g0 : w.cell? ⟨bb, bo, none⟩ = some (.int .i64 y0)) (g1 : w.cell? ⟨bb, bo + 1, none⟩ = some (.int .i64 y1)) (g2 : w.cell? ⟨bb, bo + 2, none⟩ = some (.int .i64 y2)) :
    Calls Try.prog 58 #[.slice (some a) 3 3, .slice (some b) 3 3] w fun e w' => e = .returned (.int .i64 (if Lib.compareInt x0 y0 ≠ 0 then Lib.compareInt x0 y0 else if Lib.compareInt x1 y1 ≠ 0 then Lib.compareInt x1 y1 else Lib.compareInt x2 y2)) ∧ w = w' := by
  subst ha hb
  obtain ⟨c0, hc0⟩ := nm (Lib.compareInt x0 y0)
  obtain ⟨c1, hc1⟩ := nm (Lib.compareInt x1 y1)
  obtain ⟨c2, hc2⟩ := nm (Lib.compareInt x2 y2)
  have H0 : Hid (∀ w, Calls Try.prog 39 #[.int .i64 x0, .int .i64 y0] w fun e w' => e = .returned (.int .i64 c0) ∧ w' = w) := by intro w; rw [hc0.out]; exact cmpint_any x0 y0 w
  have H1 : Hid (∀ w, Calls Try.prog 39 #[.int .i64 x1, .int .i64 y1] w fun e w' => e = .returned (.int .i64 c1) ∧ w' = w) := by intro w; rw [hc1.out]; exact cmpint_any x1 y1 w
  have H2 : Hid (∀ w, Calls Try.prog 39 #[.int .i64 x2, .int .i64 y2] w fun e w' => e = .returned (.int .i64 c2) ∧ w' = w) := by intro w; rw [hc2.out]; exact cmpint_any x2 y2 w
  rw [← hc0.out, ← hc1.out, ← hc2.out]
  by_cases e0 : c0 = 0
  · subst e0
    rw [if_neg (by simp)]
    by_cases e1 : c1 = 0
    · subst e1
      rw [if_neg (by simp)]
      by_cases e2 : c2 = 0
      · subst e2
        go_enter Try.func58, Try.ntmps58
        go_wp2_with fail
        refine wp_loop_rounds 4 ?_
        rw [rounds_succ]
        go_wp2_with (go_at_call 39; with_reducible (refine (H0.out _).mono ?_); rintro e w2 ⟨rfl, rfl⟩)
        rw [rounds_succ]
        go_wp2_with (go_at_call 39; with_reducible (refine (H1.out _).mono ?_); rintro e w2 ⟨rfl, rfl⟩)
        rw [rounds_succ]
        go_wp2_with (go_at_call 39; with_reducible (refine (H2.out _).mono ?_); rintro e w2 ⟨rfl, rfl⟩)
        rw [rounds_succ]
        go_wp2_with fail
        go_ret
        exact ⟨rfl, rfl⟩
      · have hne : (c2 != 0) = true := by simpa using e2
        go_enter Try.func58, Try.ntmps58
        go_wp2_with fail
        refine wp_loop_rounds 4 ?_
        rw [rounds_succ]
        go_wp2_with (go_at_call 39; with_reducible (refine (H0.out _).mono ?_); rintro e w2 ⟨rfl, rfl⟩)
        rw [rounds_succ]
        go_wp2_with (go_at_call 39; with_reducible (refine (H1.out _).mono ?_); rintro e w2 ⟨rfl, rfl⟩)
        rw [rounds_succ]
        go_wp2_with (go_at_call 39; with_reducible (refine (H2.out _).mono ?_); rintro e w2 ⟨rfl, rfl⟩)
        go_ret
        exact ⟨rfl, rfl⟩
    · have hne : (c1 != 0) = true := by simpa using e1
      rw [if_pos e1]
      go_enter Try.func58, Try.ntmps58
      go_wp2_with fail
      refine wp_loop_rounds 4 ?_
      rw [rounds_succ]
      go_wp2_with (go_at_call 39; with_reducible (refine (H0.out _).mono ?_); rintro e w2 ⟨rfl, rfl⟩)
      rw [rounds_succ]
      go_wp2_with (go_at_call 39; with_reducible (refine (H1.out _).mono ?_); rintro e w2 ⟨rfl, rfl⟩)
      go_ret
      exact ⟨rfl, rfl⟩
  · have hne : (c0 != 0) = true := by simpa using e0
    rw [if_pos e0]
    go_enter Try.func58, Try.ntmps58
    go_wp2_with fail
    refine wp_loop_rounds 4 ?_
    rw [rounds_succ]
    go_wp2_with (go_at_call 39; with_reducible (refine (H0.out _).mono ?_); rintro e w2 ⟨rfl, rfl⟩)
    go_ret
    exact ⟨rfl, rfl⟩

set_option maxRecDepth 100000 in
set_option maxHeartbeats 400000 in
theorem age_any (p0 p1 p2 : Int) (w : World) :
    Calls Try.prog 57 #[.agg #[.int .i64 p0, .int .i64 p1, .int .i64 p2]] w fun e w' => e = .returned (.agg #[.int .i64 (leftI (p0, p1, p2)), .int .i64 p1, .int .i64 p2]) ∧ w' = (w.alloc (.cells #[.int .i64 p0, .int .i64 p1, .int .i64 p2] 32)).alloc (.cells #[.int .i64 (leftI (p0, p1, p2)), .int .i64 p1, .int .i64 p2] 68) := by
  have hi : (Try.prog.info? 68).map (·.size) = some 3 := by kernel_rfl
  unfold leftI
  by_cases h : p2 = 2
  · subst h
    go_enter Try.func57, Try.ntmps57
    go_wp2_with fail
    (try simp only [Exit.inBlock, Exit.then])
    refine bodyPost_ret (results_cell_row rfl _ _ (w.heap.size + 1) 68 #[.int .i64 1, .int .i64 p1, .int .i64 2] (0, 0) _ rfl (heap_alloc2_new _ _ _) Try.underlying68 rfl hi) rfl ?_
    exact ⟨rfl, rfl⟩
  · have hb : (p2 == 2) = false := by simpa using h
    rw [if_neg h]
    go_enter Try.func57, Try.ntmps57
    go_wp2_with fail
    (try simp only [Exit.inBlock, Exit.then])
    refine bodyPost_ret (results_cell_row rfl _ _ (w.heap.size + 1) 68 #[.int .i64 0, .int .i64 p1, .int .i64 p2] (0, 0) _ rfl (heap_alloc2_new _ _ _) Try.underlying68 rfl hi) rfl ?_
    exact ⟨rfl, rfl⟩

theorem cmp_lt {x0 x1 x2 y0 y1 y2 : Int} : (if Lib.compareInt x0 y0 ≠ 0 then Lib.compareInt x0 y0 else if Lib.compareInt x1 y1 ≠ 0 then Lib.compareInt x1 y1 else Lib.compareInt x2 y2) < 0 ↔ (x0 < y0 ∨ x0 = y0 ∧ (x1 < y1 ∨ x1 = y1 ∧ x2 < y2)) := by
  have a0 := cmpInt_zero x0 y0
  have a1 := cmpInt_zero x1 y1
  have b0 := cmpInt_neg x0 y0
  have b1 := cmpInt_neg x1 y1
  have b2 := cmpInt_neg x2 y2
  split
  · omega
  · split <;> omega

theorem cell_al {w : World} {a : Addr} {v : Value} {o : Obj} (h : w.cell? a = some v) : (w.alloc o).cell? a = some v := by
  rw [World.cell?_alloc_some _ _ _ (by rw [h]; rfl)]; exact h
theorem blk_at {w : World} {c : Array Value} {t : TypeId} {k : Nat} (h : w.heap.size = k) : Blk (w.alloc (.cells c t)) k c t := h ▸ Blk.new w c t
theorem bDrewN {B : Nat} {w a : World} (h : Below B w a) (n : Nat) : Below B w (a.drewN n) := ⟨h.os, h.tape, h.output, h.size, h.block⟩
theorem bDrew {B : Nat} {w a : World} (h : Below B w a) : Below B w a.drew := ⟨h.os, h.tape, h.output, h.size, h.block⟩
theorem cell_dr {w : World} {a : Addr} {v : Value} (h : w.cell? a = some v) : w.drew.cell? a = some v := h

set_option maxRecDepth 100000 in
set_option maxHeartbeats 4000000 in
theorem later_any (p0 p1 p2 q0 q1 q2 : Int) (w : World) :
    Calls Try.prog 34 #[.agg #[.int .i64 p0, .int .i64 p1, .int .i64 p2], .agg #[.int .i64 q0, .int .i64 q1, .int .i64 q2]] w fun e w' => e = .returned (aggT (laterP (p0, p1, p2) (q0, q1, q2))) ∧ Below w.heap.size w w' := by
  go_enter Try.func34, Try.ntmps34
  go_wp2_with fail
  obtain ⟨b, hb⟩ := nm w.heap.size
  obtain ⟨w0, hw0⟩ := nm (((w.alloc (.cells #[.int .i64 p0, .int .i64 p1, .int .i64 p2] 32)).alloc (.cells #[.int .i64 q0, .int .i64 q1, .int .i64 q2] 32)).alloc (.cells #[.int .i64 0, .int .i64 0, .int .i64 0] 32))
  have hB0 : Below w.heap.size w w0 := by rw [hw0.out]; exact bNew (bNew (bOld _) _) _
  have hs0 : w0.heap.size = b + 3 := by rw [hw0.out, hb.out]; simp
  have hp : Blk w0 b #[.int .i64 p0, .int .i64 p1, .int .i64 p2] 32 := by rw [hw0.out, hb.out]; exact ((Blk.new _ _ _).alloc _).alloc _
  have hq : Blk w0 (b + 1) #[.int .i64 q0, .int .i64 q1, .int .i64 q2] 32 := by
    rw [hw0.out, hb.out]
    have := Blk.new (w.alloc (.cells #[.int .i64 p0, .int .i64 p1, .int .i64 p2] 32)) #[.int .i64 q0, .int .i64 q1, .int .i64 q2] 32
    rw [World.size_alloc] at this
    exact this.alloc _
  have hr : Blk w0 (b + 2) #[.int .i64 0, .int .i64 0, .int .i64 0] 32 := by
    rw [hw0.out, hb.out]
    have := Blk.new ((w.alloc (.cells #[.int .i64 p0, .int .i64 p1, .int .i64 p2] 32)).alloc (.cells #[.int .i64 q0, .int .i64 q1, .int .i64 q2] 32)) #[.int .i64 0, .int .i64 0, .int .i64 0] 32
    rw [World.size_alloc, World.size_alloc] at this
    exact this
  rw [← hw0.out, ← hb.out]
  have HB0 := Lib.hid hB0
  have c0 : w0.cell? ⟨b, 0, none⟩ = some (.int .i64 p0) := hp.cell 0
  have c1 : w0.cell? ⟨b, 1, none⟩ = some (.int .i64 p1) := hp.cell 1
  have c2 : w0.cell? ⟨b, 2, none⟩ = some (.int .i64 p2) := hp.cell 2
  have d0 : w0.cell? ⟨b + 1, 0, none⟩ = some (.int .i64 q0) := hq.cell 0
  have d1 : w0.cell? ⟨b + 1, 1, none⟩ = some (.int .i64 q1) := hq.cell 1
  have d2 : w0.cell? ⟨b + 1, 2, none⟩ = some (.int .i64 q2) := hq.cell 2
  have hs1 : b + 2 < w0.heap.size := by omega
  have HPb := Lib.hid hp
  have HQb := Lib.hid hq
  have HRb := Lib.hid hr
  clear hB0 hs0 hp hq hr
  go_cut [5, 6] (fun v5 v6 wx => (∃ x y : Nat, v5 = .pointer (some ⟨x, 0, none⟩) ∧ v6 = .pointer (some ⟨y, 0, none⟩) ∧ Blk wx x #[.int .i64 (leftI (p0, p1, p2)), .int .i64 p1, .int .i64 p2] 68 ∧ Blk wx y #[.int .i64 (leftI (q0, q1, q2)), .int .i64 q1, .int .i64 q2] 68) ∧ Below w0.heap.size w0 wx)
  case first =>
    go_region_held3 (fun w' => w'.cell? ⟨b, 0, none⟩ = some (.int .i64 p0) ∧ w'.cell? ⟨b, 1, none⟩ = some (.int .i64 p1) ∧ w'.cell? ⟨b, 2, none⟩ = some (.int .i64 p2) ∧ w'.cell? ⟨b + 1, 0, none⟩ = some (.int .i64 q0) ∧ w'.cell? ⟨b + 1, 1, none⟩ = some (.int .i64 q1) ∧ w'.cell? ⟨b + 1, 2, none⟩ = some (.int .i64 q2)) (refine ⟨?_, ?_, ?_, ?_, ?_, ?_⟩ <;> (repeat (first | with_reducible refine cell_al ?_ | with_reducible refine cell_dr ?_)) <;> with_reducible assumption)
      (first
        | (go_at_call 57; with_reducible (refine (age_any p0 p1 p2 _).mono ?_); rintro e wa ⟨rfl, rfl⟩)
        | (go_at_call 57; with_reducible (refine (age_any q0 q1 q2 _).mono ?_); rintro e wb ⟨rfl, rfl⟩))
    all_goals (go_wp2_with fail; go_meet; exact ⟨⟨_, _, rfl, rfl, by (repeat (first | with_reducible refine Blk.drew ?_ | (with_reducible refine blk_at ?_; ((try simp only [World.size_alloc]) <;> omega)) | with_reducible refine Blk.alloc ?_ _)), by (repeat (first | with_reducible refine Blk.drew ?_ | (with_reducible refine blk_at ?_; ((try simp only [World.size_alloc]) <;> omega)) | with_reducible refine Blk.alloc ?_ _))⟩, by (repeat (first | exact Below.refl _ _ | with_reducible refine bDrew ?_ | with_reducible refine bNew ?_ _))⟩)
  obtain ⟨⟨x, y, rfl, rfl, hx, hy⟩, hB⟩ := hcut
  obtain ⟨r, hr⟩ := nm (if Lib.compareInt (leftI (p0, p1, p2)) (leftI (q0, q1, q2)) ≠ 0 then Lib.compareInt (leftI (p0, p1, p2)) (leftI (q0, q1, q2)) else if Lib.compareInt p1 q1 ≠ 0 then Lib.compareInt p1 q1 else Lib.compareInt p2 q2)
  have hrl : r < 0 ↔ ageLt (p0, p1, p2) (q0, q1, q2) := by rw [hr.out]; exact cmp_lt
  have HQ : Hid (∀ n, Calls Try.prog 58 #[.slice (some ⟨x, 0, none⟩) 3 3, .slice (some ⟨y, 0, none⟩) 3 3] (wc.drewN n) fun e w' => e = .returned (.int .i64 r) ∧ w' = wc.drewN n) := by
    intro n
    rw [hr.out]
    exact (compare3_any _ _ _ _ _ _ _ _ x y 0 0 rfl rfl (wc.drewN n) (hx.cell 0) (hx.cell 1) (hx.cell 2) (hy.cell 0) (hy.cell 1) (hy.cell 2)).mono fun _ _ ⟨a, b⟩ => ⟨a, b.symm⟩
  have hp1 := Blk.below HPb.out hB HPb.out.lt
  have hq1 := Blk.below HQb.out hB HQb.out.lt
  have hr1 := Blk.below HRb.out hB HRb.out.lt
  have HR1 := Lib.hid hr1
  have a0 : wc.cell? ⟨b, 0, none⟩ = some (.int .i64 p0) := hp1.cell 0
  have a1 : wc.cell? ⟨b, 1, none⟩ = some (.int .i64 p1) := hp1.cell 1
  have a2 : wc.cell? ⟨b, 2, none⟩ = some (.int .i64 p2) := hp1.cell 2
  have b0 : wc.cell? ⟨b + 1, 0, none⟩ = some (.int .i64 q0) := hq1.cell 0
  have b1 : wc.cell? ⟨b + 1, 1, none⟩ = some (.int .i64 q1) := hq1.cell 1
  have b2 : wc.cell? ⟨b + 1, 2, none⟩ = some (.int .i64 q2) := hq1.cell 2
  have z0 : wc.cell? ⟨b + 1 + 1, 0, none⟩ = some (.int .i64 0) := hr1.cell 0
  have z1 : wc.cell? ⟨b + 1 + 1, 1, none⟩ = some (.int .i64 0) := hr1.cell 1
  have z2 : wc.cell? ⟨b + 1 + 1, 2, none⟩ = some (.int .i64 0) := hr1.cell 2
  have y0 : wc.frozen? ⟨b + 1 + 1, 0, none⟩ = false := hr1.free 0
  have y1 : wc.frozen? ⟨b + 1 + 1, 1, none⟩ = false := hr1.free 1
  have y2 : wc.frozen? ⟨b + 1 + 1, 2, none⟩ = false := hr1.free 2
  have HB := Lib.hid hB
  have hiP : (Try.prog.info? 32).map (·.size) = some 3 := by kernel_rfl
  have HLT := Lib.hid hrl
  clear hx hy hp1 hq1 hr1 hB c0 c1 c2 d0 d1 d2 hrl hs1
  by_cases hlt : r < 0
  · have HE : Hid (laterP (p0, p1, p2) (q0, q1, q2) = (q0, q1, q2)) := if_pos (HLT.out.1 hlt)
    have hd : decide (r < 0) = true := decide_eq_true hlt
    go_wp2_with fail
    go_quiet ((go_at_call 58; exact Calls.quiet_of_same (HQ.out _)))
    go_wp2_with fail
    (try simp only [Exit.inBlock, Exit.then])
    refine bodyPost_ret (results_cell_row rfl _ _ (b + 1 + 1) 32 #[.int .i64 q0, .int .i64 q1, .int .i64 q2] (0, 0) _ rfl ((((HR1.out.drewN nq).set 0 (.int .i64 q0)).set 1 (.int .i64 q1)).set 2 (.int .i64 q2)) Try.underlying32 rfl hiP) rfl ?_
    have hbw : w.heap.size ≤ b + 1 + 1 := by rw [hb.out]; omega
    exact ⟨by rw [HE.out]; rfl, (((bDrewN (bNext HB0.out HB.out) nq).setCell (p := ⟨b + 1 + 1, 0, none⟩) hbw (.int .i64 q0)).setCell (p := ⟨b + 1 + 1, 1, none⟩) hbw (.int .i64 q1)).setCell (p := ⟨b + 1 + 1, 2, none⟩) hbw (.int .i64 q2)⟩
  · have HE : Hid (laterP (p0, p1, p2) (q0, q1, q2) = (p0, p1, p2)) := if_neg (fun h => hlt (HLT.out.2 h))
    have hd : decide (r < 0) = false := decide_eq_false hlt
    go_wp2_with fail
    go_quiet ((go_at_call 58; exact Calls.quiet_of_same (HQ.out _)))
    go_wp2_with fail
    (try simp only [Exit.inBlock, Exit.then])
    refine bodyPost_ret (results_cell_row rfl _ _ (b + 1 + 1) 32 #[.int .i64 p0, .int .i64 p1, .int .i64 p2] (0, 0) _ rfl ((((HR1.out.drewN nq).set 0 (.int .i64 p0)).set 1 (.int .i64 p1)).set 2 (.int .i64 p2)) Try.underlying32 rfl hiP) rfl ?_
    have hbw : w.heap.size ≤ b + 1 + 1 := by rw [hb.out]; omega
    exact ⟨by rw [HE.out]; rfl, (((bDrewN (bNext HB0.out HB.out) nq).setCell (p := ⟨b + 1 + 1, 0, none⟩) hbw (.int .i64 p0)).setCell (p := ⟨b + 1 + 1, 1, none⟩) hbw (.int .i64 p1)).setCell (p := ⟨b + 1 + 1, 2, none⟩) hbw (.int .i64 p2)⟩
end Go.Proofs.Ytpolhdkjkidpgaa
