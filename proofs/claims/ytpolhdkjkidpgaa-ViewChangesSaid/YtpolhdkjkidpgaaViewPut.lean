/- view.Join's put. -/
import Derived.Test.YtpolhdkjkidpgaaViewMap
namespace Go.Proofs.Ytpolhdkjkidpgaa
open Go.RowKit Go.Maps Go.Sort Go.Shelf Go.Lib

set_option maxRecDepth 100000 in
set_option maxHeartbeats 1000000 in
theorem put_any (p0 p1 p2 : Int) (m5 mb n : Nat) (D : DataW Unit) (S : List P3) (w : World) (hm : w.cell? ⟨m5, 0, none⟩ = some (.map (some mb))) (h : PM w mb n D S) (hn : n < 1000000) (hwf : (Lit.int .i64 p0).wf = true) :
    Calls Try.prog 33 #[.agg #[.int .i64 p0, .int .i64 p1, .int .i64 p2], .pointer (some ⟨m5, 0, none⟩)] w fun e w' => e = .returned (.tuple #[]) ∧ (∃ D', PM w' mb (n + 1) D' (putL S (p0, p1, p2))) ∧ Kept mb w w' := by
  have hkey : keyOf Try.prog 3 (.int .i64 p0) = some (.int .i64 p0) := keyOf_int_mk Try.underlying3 hwf
  obtain ⟨b, hb⟩ := nm w.heap.size
  obtain ⟨w1, hw1⟩ := nm (w.alloc (.cells #[.int .i64 p0, .int .i64 p1, .int .i64 p2] 32))
  have hB : Below w.heap.size w w1 := by rw [hw1.out]; exact bOld _
  have hp : Blk w1 b #[.int .i64 p0, .int .i64 p1, .int .i64 p2] 32 := by rw [hw1.out, hb.out]; exact Blk.new _ _ _
  have h1 : PM w1 mb n D S := h.kept (hB.block mb h.own.lt)
  have m1 : w1.cell? ⟨m5, 0, none⟩ = some (.map (some mb)) := (hB.cell (p := ⟨m5, 0, none⟩) (World.block_lt_of_cell? _ _ hm)).trans hm
  have c0 : w1.cell? ⟨b, 0, none⟩ = some (.int .i64 p0) := hp.cell 0
  have c1 : w1.cell? ⟨b, 1, none⟩ = some (.int .i64 p1) := hp.cell 1
  have c2 : w1.cell? ⟨b, 2, none⟩ = some (.int .i64 p2) := hp.cell 2
  have HB := Lib.hid hB
  have HM := Lib.hid hm
  have H1 := Lib.hid h1
  have HP := Lib.hid hp
  have HLT : Hid (mb < w.heap.size) := h.own.lt
  rcases h1.look p0 hwf with ⟨hf, hl⟩ | ⟨q, hf, hl⟩
  · have HF := Lib.hid hf
    clear hf hm h h1 hp hB
    unfold aggT at hl
    go_enter Try.func33, Try.ntmps33
    go_upto_region 1 with fail
    rw [← hw1.out, ← hb.out]
    go_upto_if 12 with fail
    obtain ⟨c, hc⟩ := nm w1.heap.size
    obtain ⟨w2, hw2⟩ := nm (w1.alloc (.cells #[.int .i64 0, .int .i64 0, .int .i64 0] 32))
    have hB2 : Below w1.heap.size w1 w2 := by rw [hw2.out]; exact bOld _
    have hp2 := Blk.below HP.out hB2 HP.out.lt
    have m2 : w2.cell? ⟨m5, 0, none⟩ = some (.map (some mb)) := (hB2.cell (p := ⟨m5, 0, none⟩) (World.block_lt_of_cell? _ _ m1)).trans m1
    have d0 : w2.cell? ⟨b, 0, none⟩ = some (.int .i64 p0) := hp2.cell 0
    have d1 : w2.cell? ⟨b, 1, none⟩ = some (.int .i64 p1) := hp2.cell 1
    have d2 : w2.cell? ⟨b, 2, none⟩ = some (.int .i64 p2) := hp2.cell 2
    have H2 : Hid (PM w2 mb n D S) := H1.out.kept (hB2.block mb (Nat.lt_of_lt_of_le HLT.out HB.out.size))
    have hown2 := H2.out.own
    have HB2 : Hid (Below w.heap.size w w2) := bNext HB.out hB2
    rw [← hw2.out, ← hc.out]
    clear hp2 hB2 c0 c1 c2 m1 hl
    go_wp2_with (at_mapUpdate; refine wpList_mapUpdate_own _ rfl _ _ _ 50 rfl 3 32 keyInt Try.underlying50 _ mb n D rfl hown2 (by unfold maxLen; omega) _ _ (.int .i64 p0) rfl rfl hkey (datT (p0, p1, p2)) [] (show peerEl (.agg #[.int .i64 p0, .int .i64 p1, .int .i64 p2]) = some (datT (p0, p1, p2), []) from rfl) ?_; intro w4 hm4 hg4)
    go_end0
    refine ⟨rfl, ⟨_, H2.out.put (p0, p1, p2) (p0, p1, p2) (by rw [HF.out]; rfl) hwf hm4⟩, (Kept.ofBelow HB2.out).trans ⟨hg4.os, hg4.tape, hg4.output, hg4.size, fun k hk hkb => hg4.block k hk (fun e => hkb (by cases e; rfl))⟩⟩
  · obtain ⟨q0, q1, q2⟩ := q
    obtain ⟨rr, hrr⟩ := nm (laterP (q0, q1, q2) (p0, p1, p2))
    obtain ⟨r0, r1, r2⟩ := rr
    have hq0 : q0 = p0 := (fnd_some hf).2
    obtain rfl : r0 = p0 := by
      have := congrArg (·.1) hrr.out
      rw [laterP_fst hq0] at this
      exact this.trans hq0
    have HF := Lib.hid hf
    have HL : Hid (∀ w, Calls Try.prog 34 #[.agg #[.int .i64 q0, .int .i64 q1, .int .i64 q2], .agg #[.int .i64 r0, .int .i64 p1, .int .i64 p2]] w fun e w' => e = .returned (.agg #[.int .i64 r0, .int .i64 r1, .int .i64 r2]) ∧ Below w.heap.size w w') := by
      intro w; have := later_any q0 q1 q2 r0 p1 p2 w; rw [← hrr.out] at this; exact this
    clear hf hm h h1 hp hB hq0
    unfold aggT at hl
    simp only at hl
    go_enter Try.func33, Try.ntmps33
    go_upto_region 1 with fail
    rw [← hw1.out, ← hb.out]
    go_upto_if 12 with fail
    obtain ⟨c, hc⟩ := nm w1.heap.size
    obtain ⟨w2, hw2⟩ := nm (w1.alloc (.cells #[.int .i64 q0, .int .i64 q1, .int .i64 q2] 32))
    have hB2 : Below w1.heap.size w1 w2 := by rw [hw2.out]; exact bOld _
    have hp2 := Blk.below HP.out hB2 HP.out.lt
    have hc2 : Blk w2 c #[.int .i64 q0, .int .i64 q1, .int .i64 q2] 32 := by rw [hw2.out, hc.out]; exact Blk.new _ _ _
    have M2 : Hid (w2.cell? ⟨m5, 0, none⟩ = some (.map (some mb))) := (hB2.cell (p := ⟨m5, 0, none⟩) (World.block_lt_of_cell? _ _ m1)).trans m1
    have d0 : w2.cell? ⟨b, 0, none⟩ = some (.int .i64 r0) := hp2.cell 0
    have d1 : w2.cell? ⟨b, 1, none⟩ = some (.int .i64 p1) := hp2.cell 1
    have d2 : w2.cell? ⟨b, 2, none⟩ = some (.int .i64 p2) := hp2.cell 2
    have e0 : w2.cell? ⟨c, 0, none⟩ = some (.int .i64 q0) := hc2.cell 0
    have e1 : w2.cell? ⟨c, 1, none⟩ = some (.int .i64 q1) := hc2.cell 1
    have e2 : w2.cell? ⟨c, 2, none⟩ = some (.int .i64 q2) := hc2.cell 2
    have H2 : Hid (PM w2 mb n D S) := H1.out.kept (hB2.block mb (Nat.lt_of_lt_of_le HLT.out HB.out.size))
    have HB2 : Hid (Below w.heap.size w w2) := bNext HB.out hB2
    have HP2 := Lib.hid hp2
    rw [← hw2.out, ← hc.out]
    clear hp2 hB2 c0 c1 c2 m1 hl hc2
    go_upto_region 4 with (go_at_call 34; refine (HL.out _).mono ?_; rintro e w3 ⟨rfl, hB3⟩; have hp3 := Blk.below HP2.out hB3 HP2.out.lt; have x0 : w3.cell? ⟨b, 0, none⟩ = some (.int .i64 r0) := hp3.cell 0; have x1 : w3.cell? ⟨b, 1, none⟩ = some (.int .i64 p1) := hp3.cell 1; have x2 : w3.cell? ⟨b, 2, none⟩ = some (.int .i64 p2) := hp3.cell 2; have y0 : w3.frozen? ⟨b, 0, none⟩ = false := hp3.free 0; have y1 : w3.frozen? ⟨b, 1, none⟩ = false := hp3.free 1; have y2 : w3.frozen? ⟨b, 2, none⟩ = false := hp3.free 2)
    obtain ⟨w4, hw4⟩ := nm (((w3.setCell ⟨b, 0, none⟩ (.int .i64 r0)).setCell ⟨b, 1, none⟩ (.int .i64 r1)).setCell ⟨b, 2, none⟩ (.int .i64 r2))
    have hp4 : Blk w4 b #[.int .i64 r0, .int .i64 r1, .int .i64 r2] 32 := by rw [hw4.out]; exact ((hp3.set 0 _).set 1 _).set 2 _
    have hbw : w.heap.size ≤ b := by rw [hb.out]; exact Nat.le_refl _
    have hB4 : Below w.heap.size w w4 := by
      rw [hw4.out]
      exact (((bNext HB2.out hB3).setCell (p := ⟨b, 0, none⟩) hbw (.int .i64 r0)).setCell (p := ⟨b, 1, none⟩) hbw (.int .i64 r1)).setCell (p := ⟨b, 2, none⟩) hbw (.int .i64 r2)
    rw [← hw4.out]
    have H4 : Hid (PM w4 mb n D S) := H1.out.kept (by rw [hB4.block mb HLT.out, HB.out.block mb HLT.out])
    have m4 : w4.cell? ⟨m5, 0, none⟩ = some (.map (some mb)) := (hB4.cell (p := ⟨m5, 0, none⟩) (World.block_lt_of_cell? _ _ HM.out)).trans HM.out
    have g0 : w4.cell? ⟨b, 0, none⟩ = some (.int .i64 r0) := hp4.cell 0
    have g1 : w4.cell? ⟨b, 1, none⟩ = some (.int .i64 r1) := hp4.cell 1
    have g2 : w4.cell? ⟨b, 2, none⟩ = some (.int .i64 r2) := hp4.cell 2
    have hown2 := H4.out.own
    have HB4 := Lib.hid hB4
    clear hB4 hp4 hp3 hB3 x0 x1 x2 y0 y1 y2 d0 d1 d2 e0 e1 e2 hw4
    go_wp2_with (at_mapUpdate; refine wpList_mapUpdate_own _ rfl _ _ _ 50 rfl 3 32 keyInt Try.underlying50 _ mb n D rfl hown2 (by unfold maxLen; omega) _ _ (.int .i64 r0) rfl rfl hkey (datT (r0, r1, r2)) [] (show peerEl (.agg #[.int .i64 r0, .int .i64 r1, .int .i64 r2]) = some (datT (r0, r1, r2), []) from rfl) ?_; intro w5 hm5 hg5)
    go_end0
    refine ⟨rfl, ⟨_, H4.out.put (r0, p1, p2) (r0, r1, r2) (by rw [HF.out]; exact hrr.out) hwf hm5⟩, (Kept.ofBelow HB4.out).trans ⟨hg5.os, hg5.tape, hg5.output, hg5.size, fun k hk hkb => hg5.block k hk (fun e => hkb (by cases e; rfl))⟩⟩
end Go.Proofs.Ytpolhdkjkidpgaa
