/- The document's wire: may it be said, its bytes. -/
import Derived.Test.YtfpjdmplepepjaaGreatK9
import Derived.Test.YtfpjdmplepepjaaGreatK5
namespace Go.Proofs.YtfpjdmplepepjaaGreat
open Go.RowKit

set_option maxRecDepth 100000 in
set_option maxHeartbeats 16000000 in
theorem refwcheck_any (k f s p fl d0 d1 rc lg : Int) (mark : ByteArray) (am ab ac ag av : Option Addr) (nl kl nb kb nc kc ng kg nv kv : Nat) (live : List Msg5) (bs cl : List Dot2) (tags : List Tag2) (view : List Peer3) (r : Bool) (hr : Hid (r = true ↔ (WL.mk k f s p fl d0 d1 rc lg mark live bs cl tags view).May)) (E : Int) (hE : Hid (E = errno r)) (w : World) (hL : Lies w am ab ac ag av nl nb nc ng nv live bs cl tags view) :
    Calls Tryz.prog 25 #[.agg #[.int .i64 k, .int .i64 f, .int .i64 s, .int .i64 p, .int .i64 fl, .string mark, .slice am nl kl, .slice ab nb kb, .slice ac nc kc, .slice ag ng kg, .slice av nv kv, .int .i64 d0, .int .i64 d1, .int .i64 rc, .int .i64 lg]] w fun e w' => e = .returned (.int .i64 E) ∧ Below w.heap.size w w' := by
  obtain ⟨w0, hw0⟩ := nm (w.alloc (.cells #[.int .i64 k, .int .i64 f, .int .i64 s, .int .i64 p, .int .i64 fl, .string mark, .slice am nl kl, .slice ab nb kb, .slice ac nc kc, .slice ag ng kg, .slice av nv kv, .int .i64 d0, .int .i64 d1, .int .i64 rc, .int .i64 lg] 35))
  obtain ⟨x, hx⟩ := nm w.heap.size
  have Kx : Hid (Blk w0 x #[.int .i64 k, .int .i64 f, .int .i64 s, .int .i64 p, .int .i64 fl, .string mark, .slice am nl kl, .slice ab nb kb, .slice ac nc kc, .slice ag ng kg, .slice av nv kv, .int .i64 d0, .int .i64 d1, .int .i64 rc, .int .i64 lg] 35) := blkN hw0.out hx.out
  have HB0 : Hid (Below w.heap.size w w0) := by rw [hw0.out]; exact bOld _
  have HL : Hid (Lies w0 am ab ac ag av nl nb nc ng nv live bs cl tags view) := hL.below HB0.out
  clear hL
  obtain ⟨C, hC⟩ := nm (okD d0 d1)
  obtain ⟨NB, hNB⟩ := nm (decide (d0 = 0 ∧ d1 = 0))
  go_enter Tryz.func25, Tryz.ntmps25
  go_upto_region 1 with fail
  rw [← hw0.out, ← hx.out]
  have c11 : w0.cell? ⟨x, 11, none⟩ = some (.int .i64 d0) := Kx.out.cell 11
  have c12 : w0.cell? ⟨x, 12, none⟩ = some (.int .i64 d1) := Kx.out.cell 12
  go_cut [3] (fun s3 wx => s3 = .bool NB ∧ w0 = wx)
  case first =>
    by_cases h0 : d0 = 0
    · have e0 : (d0 == 0) = true := by simp [h0]
      obtain ⟨M, hM⟩ := nm (d1 == 0)
      have e1 : (d1 == 0) = M := hM.out.symm
      have HN : Hid (M = NB) := by show _ = _; rw [hNB.out, hM.out]; by_cases h1 : d1 = 0 <;> simp [h0, h1]
      clear h0
      go_wp2_with fail
      go_meet
      exact ⟨congrArg Value.bool HN.out, rfl⟩
    · have e0 : (d0 == 0) = false := by simpa using h0
      have HN : Hid (NB = false) := by show _ = _; rw [hNB.out]; simp [h0]
      clear h0
      go_wp2_with fail
      go_meet
      exact ⟨congrArg Value.bool HN.out.symm, rfl⟩
  obtain ⟨rfl, rfl⟩ := hcut
  go_wp2_with fail
  refine (refcheck_any d0 d1 C hC _).mono ?_; rintro e w1 ⟨rfl, hB1⟩
  replace Kx := Lib.hid (Kx.out.below hB1 Kx.out.lt)
  replace HB0 := Lib.hid (bNext HB0.out hB1)
  replace HL := Lib.hid (HL.out.below hB1)
  clear hB1 c11 c12 hw0
  have c0 : w1.cell? ⟨x, 0, none⟩ = some (.int .i64 k) := Kx.out.cell 0
  have c1 : w1.cell? ⟨x, 1, none⟩ = some (.int .i64 f) := Kx.out.cell 1
  have c2 : w1.cell? ⟨x, 2, none⟩ = some (.int .i64 s) := Kx.out.cell 2
  have c3 : w1.cell? ⟨x, 3, none⟩ = some (.int .i64 p) := Kx.out.cell 3
  have c4 : w1.cell? ⟨x, 4, none⟩ = some (.int .i64 fl) := Kx.out.cell 4
  have c5 : w1.cell? ⟨x, 5, none⟩ = some (.string mark) := Kx.out.cell 5
  have c6 : w1.cell? ⟨x, 6, none⟩ = some (.slice am nl kl) := Kx.out.cell 6
  have c7 : w1.cell? ⟨x, 7, none⟩ = some (.slice ab nb kb) := Kx.out.cell 7
  have c8 : w1.cell? ⟨x, 8, none⟩ = some (.slice ac nc kc) := Kx.out.cell 8
  have c9 : w1.cell? ⟨x, 9, none⟩ = some (.slice ag ng kg) := Kx.out.cell 9
  have c10 : w1.cell? ⟨x, 10, none⟩ = some (.slice av nv kv) := Kx.out.cell 10
  have c11 : w1.cell? ⟨x, 11, none⟩ = some (.int .i64 d0) := Kx.out.cell 11
  have c12 : w1.cell? ⟨x, 12, none⟩ = some (.int .i64 d1) := Kx.out.cell 12
  have c13 : w1.cell? ⟨x, 13, none⟩ = some (.int .i64 rc) := Kx.out.cell 13
  have c14 : w1.cell? ⟨x, 14, none⟩ = some (.int .i64 lg) := Kx.out.cell 14
  obtain ⟨G, hG, hGf, hGt⟩ := boolOf (1 ≤ k ∧ k ≤ 8 ∧ 1 ≤ f ∧ f ≤ 1099511627776 ∧ 0 ≤ s ∧ s ≤ 1099511627776 ∧ 0 ≤ p ∧ p ≤ 15 ∧ 0 ≤ fl ∧ fl ≤ 1 ∧ mark.size ≤ 8000 ∧ 0 ≤ rc ∧ rc ≤ 1099511627776 ∧ 0 ≤ lg ∧ lg ≤ 1073741824 ∧ (NB = true ∨ C = true))
  have HRG : Hid ((WL.mk k f s p fl d0 d1 rc lg mark live bs cl tags view).May → G = true) := by
    show _ → _
    intro h
    refine hG.out.2 ⟨h.kind.1, h.kind.2, h.frm.1, h.frm.2, h.seq.1, h.seq.2, h.part.1, h.part.2, h.flag.1, h.flag.2, h.mark, h.receipt.1, h.receipt.2, h.long.1, h.long.2, ?_⟩
    rw [hNB.out, hC.out, decide_eq_true_iff]
    have := h.dot
    rw [Prod.mk.injEq] at this
    exact this
  go_upto_region 3 with fail
  go_cut [99] (fun s99 wx => s99 = .bool (!G) ∧ w1 = wx)
  case first => as_aux_lemma =>
    clear HRG hr hE HL HB0
    by_cases g0 : 1 ≤ k
    rotate_left
    · as_aux_lemma =>
        obtain rfl : G = false := notB hG.out fun h => g0 h.1
        have k0 : decide (k < 1) = true := decide_eq_true (by omega)
        clear g0
        go_wp2_with fail
        all_goals
          go_meet
          exact ⟨rfl, rfl⟩
    have k0 : decide (k < 1) = false := decide_eq_false (by omega)
    have HG0 : Hid (1 ≤ k) := g0
    clear g0
    by_cases g1 : k ≤ 8
    rotate_left
    · as_aux_lemma =>
        obtain rfl : G = false := notB hG.out fun h => g1 h.2.1
        have k1 : decide (8 < k) = true := decide_eq_true (by omega)
        clear g1
        go_wp2_with fail
        all_goals
          go_meet
          exact ⟨rfl, rfl⟩
    have k1 : decide (8 < k) = false := decide_eq_false (by omega)
    have HG1 : Hid (k ≤ 8) := g1
    clear g1
    by_cases g2 : 1 ≤ f
    rotate_left
    · as_aux_lemma =>
        obtain rfl : G = false := notB hG.out fun h => g2 h.2.2.1
        have k2 : decide (f < 1) = true := decide_eq_true (by omega)
        clear g2
        go_wp2_with fail
        all_goals
          go_meet
          exact ⟨rfl, rfl⟩
    have k2 : decide (f < 1) = false := decide_eq_false (by omega)
    have HG2 : Hid (1 ≤ f) := g2
    clear g2
    by_cases g3 : f ≤ 1099511627776
    rotate_left
    · as_aux_lemma =>
        obtain rfl : G = false := notB hG.out fun h => g3 h.2.2.2.1
        have k3 : decide (1099511627776 < f) = true := decide_eq_true (by omega)
        clear g3
        go_wp2_with fail
        all_goals
          go_meet
          exact ⟨rfl, rfl⟩
    have k3 : decide (1099511627776 < f) = false := decide_eq_false (by omega)
    have HG3 : Hid (f ≤ 1099511627776) := g3
    clear g3
    by_cases g4 : 0 ≤ s
    rotate_left
    · as_aux_lemma =>
        obtain rfl : G = false := notB hG.out fun h => g4 h.2.2.2.2.1
        have k4 : decide (s < 0) = true := decide_eq_true (by omega)
        clear g4
        go_wp2_with fail
        all_goals
          go_meet
          exact ⟨rfl, rfl⟩
    have k4 : decide (s < 0) = false := decide_eq_false (by omega)
    have HG4 : Hid (0 ≤ s) := g4
    clear g4
    by_cases g5 : s ≤ 1099511627776
    rotate_left
    · as_aux_lemma =>
        obtain rfl : G = false := notB hG.out fun h => g5 h.2.2.2.2.2.1
        have k5 : decide (1099511627776 < s) = true := decide_eq_true (by omega)
        clear g5
        go_wp2_with fail
        all_goals
          go_meet
          exact ⟨rfl, rfl⟩
    have k5 : decide (1099511627776 < s) = false := decide_eq_false (by omega)
    have HG5 : Hid (s ≤ 1099511627776) := g5
    clear g5
    by_cases g6 : 0 ≤ p
    rotate_left
    · as_aux_lemma =>
        obtain rfl : G = false := notB hG.out fun h => g6 h.2.2.2.2.2.2.1
        have k6 : decide (p < 0) = true := decide_eq_true (by omega)
        clear g6
        go_wp2_with fail
        all_goals
          go_meet
          exact ⟨rfl, rfl⟩
    have k6 : decide (p < 0) = false := decide_eq_false (by omega)
    have HG6 : Hid (0 ≤ p) := g6
    clear g6
    by_cases g7 : p ≤ 15
    rotate_left
    · as_aux_lemma =>
        obtain rfl : G = false := notB hG.out fun h => g7 h.2.2.2.2.2.2.2.1
        have k7 : decide (15 < p) = true := decide_eq_true (by omega)
        clear g7
        go_wp2_with fail
        all_goals
          go_meet
          exact ⟨rfl, rfl⟩
    have k7 : decide (15 < p) = false := decide_eq_false (by omega)
    have HG7 : Hid (p ≤ 15) := g7
    clear g7
    by_cases g8 : 0 ≤ fl
    rotate_left
    · as_aux_lemma =>
        obtain rfl : G = false := notB hG.out fun h => g8 h.2.2.2.2.2.2.2.2.1
        have k8 : decide (fl < 0) = true := decide_eq_true (by omega)
        clear g8
        go_wp2_with fail
        all_goals
          go_meet
          exact ⟨rfl, rfl⟩
    have k8 : decide (fl < 0) = false := decide_eq_false (by omega)
    have HG8 : Hid (0 ≤ fl) := g8
    clear g8
    by_cases g9 : fl ≤ 1
    rotate_left
    · as_aux_lemma =>
        obtain rfl : G = false := notB hG.out fun h => g9 h.2.2.2.2.2.2.2.2.2.1
        have k9 : decide (1 < fl) = true := decide_eq_true (by omega)
        clear g9
        go_wp2_with fail
        all_goals
          go_meet
          exact ⟨rfl, rfl⟩
    have k9 : decide (1 < fl) = false := decide_eq_false (by omega)
    have HG9 : Hid (fl ≤ 1) := g9
    clear g9
    by_cases g10 : mark.size ≤ 8000
    rotate_left
    · as_aux_lemma =>
        obtain rfl : G = false := notB hG.out fun h => g10 h.2.2.2.2.2.2.2.2.2.2.1
        have k10 : decide ((8000 : Int) < (mark.size : Int)) = true := decide_eq_true (by omega)
        clear g10
        go_wp2_with fail
        all_goals
          go_meet
          exact ⟨rfl, rfl⟩
    have k10 : decide ((8000 : Int) < (mark.size : Int)) = false := decide_eq_false (by omega)
    have HG10 : Hid (mark.size ≤ 8000) := g10
    clear g10
    by_cases g11 : 0 ≤ rc
    rotate_left
    · as_aux_lemma =>
        obtain rfl : G = false := notB hG.out fun h => g11 h.2.2.2.2.2.2.2.2.2.2.2.1
        have k11 : decide (rc < 0) = true := decide_eq_true (by omega)
        clear g11
        go_wp2_with fail
        all_goals
          go_meet
          exact ⟨rfl, rfl⟩
    have k11 : decide (rc < 0) = false := decide_eq_false (by omega)
    have HG11 : Hid (0 ≤ rc) := g11
    clear g11
    by_cases g12 : rc ≤ 1099511627776
    rotate_left
    · as_aux_lemma =>
        obtain rfl : G = false := notB hG.out fun h => g12 h.2.2.2.2.2.2.2.2.2.2.2.2.1
        have k12 : decide (1099511627776 < rc) = true := decide_eq_true (by omega)
        clear g12
        go_wp2_with fail
        all_goals
          go_meet
          exact ⟨rfl, rfl⟩
    have k12 : decide (1099511627776 < rc) = false := decide_eq_false (by omega)
    have HG12 : Hid (rc ≤ 1099511627776) := g12
    clear g12
    by_cases g13 : 0 ≤ lg
    rotate_left
    · as_aux_lemma =>
        obtain rfl : G = false := notB hG.out fun h => g13 h.2.2.2.2.2.2.2.2.2.2.2.2.2.1
        have k13 : decide (lg < 0) = true := decide_eq_true (by omega)
        clear g13
        go_wp2_with fail
        all_goals
          go_meet
          exact ⟨rfl, rfl⟩
    have k13 : decide (lg < 0) = false := decide_eq_false (by omega)
    have HG13 : Hid (0 ≤ lg) := g13
    clear g13
    by_cases g14 : lg ≤ 1073741824
    rotate_left
    · as_aux_lemma =>
        obtain rfl : G = false := notB hG.out fun h => g14 h.2.2.2.2.2.2.2.2.2.2.2.2.2.2.1
        have k14 : decide (1073741824 < lg) = true := decide_eq_true (by omega)
        clear g14
        go_wp2_with fail
        all_goals
          go_meet
          exact ⟨rfl, rfl⟩
    have k14 : decide (1073741824 < lg) = false := decide_eq_false (by omega)
    have HG14 : Hid (lg ≤ 1073741824) := g14
    clear g14
    cases NB
    · cases C
      · as_aux_lemma =>
          obtain rfl : G = false := notB hG.out fun h => by have := h.2.2.2.2.2.2.2.2.2.2.2.2.2.2.2; simp at this
          go_wp2_with fail
          go_meet
          exact ⟨rfl, rfl⟩
      · as_aux_lemma =>
          obtain rfl : G = true := hG.out.2 ⟨HG0.out, HG1.out, HG2.out, HG3.out, HG4.out, HG5.out, HG6.out, HG7.out, HG8.out, HG9.out, HG10.out, HG11.out, HG12.out, HG13.out, HG14.out, .inr rfl⟩
          go_wp2_with fail
          go_meet
          exact ⟨rfl, rfl⟩
    · as_aux_lemma =>
        obtain rfl : G = true := hG.out.2 ⟨HG0.out, HG1.out, HG2.out, HG3.out, HG4.out, HG5.out, HG6.out, HG7.out, HG8.out, HG9.out, HG10.out, HG11.out, HG12.out, HG13.out, HG14.out, .inl rfl⟩
        go_wp2_with fail
        go_meet
        exact ⟨rfl, rfl⟩
  obtain ⟨rfl, rfl⟩ := hcut
  cases G
  · obtain rfl : r = false := notB hr.out fun h => by have := HRG.out h; cases this
    obtain rfl := hE.out
    go_wp2_with fail
    go_ret
    exact ⟨rfl, HB0.out⟩
  obtain ⟨g0, g1, g2, g3, g4, g5, g6, g7, g8, g9, g10, g11, g12, g13, g14, gd⟩ := hGt.out rfl
  have HD : Hid ((d0, d1) = (0, 0) ∨ dotP (d0, d1)) := by
    show _ ∨ _
    rw [hNB.out, hC.out, decide_eq_true_iff] at gd
    rw [Prod.mk.injEq]
    exact gd
  have HALL := Lib.hid (show 1 ≤ k ∧ k ≤ 8 ∧ 1 ≤ f ∧ f ≤ 1099511627776 ∧ 0 ≤ s ∧ s ≤ 1099511627776 ∧ 0 ≤ p ∧ p ≤ 15 ∧ 0 ≤ fl ∧ fl ≤ 1 ∧ mark.size ≤ 8000 ∧ 0 ≤ rc ∧ rc ≤ 1099511627776 ∧ 0 ≤ lg ∧ lg ≤ 1073741824 from ⟨g0, g1, g2, g3, g4, g5, g6, g7, g8, g9, g10, g11, g12, g13, g14⟩)
  clear g0 g1 g2 g3 g4 g5 g6 g7 g8 g9 g10 g11 g12 g13 g14 gd hG hGf hGt HRG
  obtain ⟨B1, hB1, hB1f, hB1t⟩ := boolOf (BagP live bs cl)
  obtain ⟨B2, hB2, hB2f, hB2t⟩ := boolOf (TagsP tags)
  obtain ⟨B3, hB3, hB3f, hB3t⟩ := boolOf (ViewP view)
  go_wp2_with fail
  refine (refbagcheck_any am ab ac nl kl nb kb nc kc live bs cl HL.out.l0 HL.out.m0 HL.out.l1 HL.out.m1 HL.out.l2 HL.out.m2 B1 hB1 (errno B1) rfl _ HL.out.s0 HL.out.s1 HL.out.s2).mono ?_; rintro e w2 ⟨rfl, hB2'⟩
  replace Kx := Lib.hid (Kx.out.below hB2' Kx.out.lt)
  replace HB0 := Lib.hid (bNext HB0.out hB2')
  replace HL := Lib.hid (HL.out.below hB2')
  clear hB2' c0 c1 c2 c3 c4 c5 c6 c7 c8 c9 c10 c11 c12 c13 c14
  have c9 : w2.cell? ⟨x, 9, none⟩ = some (.slice ag ng kg) := Kx.out.cell 9
  cases B1
  · obtain rfl : r = false := notB hr.out fun h => hB1f.out rfl h.bag
    obtain rfl := hE.out
    simp only [errno]
    go_wp2_with fail
    go_ret
    exact ⟨rfl, HB0.out⟩
  simp only [errno]
  go_wp2_with fail
  refine (reftagcheck_any ag ng kg tags HL.out.l3 HL.out.m3 B2 hB2 (errno B2) rfl _ HL.out.s3).mono ?_; rintro e w3 ⟨rfl, hB2'⟩
  replace Kx := Lib.hid (Kx.out.below hB2' Kx.out.lt)
  replace HB0 := Lib.hid (bNext HB0.out hB2')
  replace HL := Lib.hid (HL.out.below hB2')
  clear hB2' c9
  have c10 : w3.cell? ⟨x, 10, none⟩ = some (.slice av nv kv) := Kx.out.cell 10
  cases B2
  · obtain rfl : r = false := notB hr.out fun h => hB2f.out rfl h.tags
    obtain rfl := hE.out
    simp only [errno]
    go_wp2_with fail
    go_ret
    exact ⟨rfl, HB0.out⟩
  simp only [errno]
  go_wp2_with fail
  refine (refviewcheck_any av nv kv view HL.out.l4 HL.out.m4 B3 hB3 (errno B3) rfl _ HL.out.s4).mono ?_; rintro e w4 ⟨rfl, hB2'⟩
  replace HB0 := Lib.hid (bNext HB0.out hB2')
  clear hB2' c10
  cases B3
  · obtain rfl : r = false := notB hr.out fun h => hB3f.out rfl h.view
    obtain rfl := hE.out
    simp only [errno]
    go_wp2_with fail
    go_ret
    exact ⟨rfl, HB0.out⟩
  obtain rfl : r = true := hr.out.2 (by
    obtain ⟨g0, g1, g2, g3, g4, g5, g6, g7, g8, g9, g10, g11, g12, g13, g14⟩ := HALL.out
    exact ⟨⟨g0, g1⟩, ⟨g2, g3⟩, ⟨g4, g5⟩, ⟨g6, g7⟩, ⟨g8, g9⟩, HD.out, ⟨g11, g12⟩, ⟨g13, g14⟩, g10, hB1t.out (by first | exact rfl | exact trivial), hB2t.out (by first | exact rfl | exact trivial), hB3t.out (by first | exact rfl | exact trivial)⟩)
  obtain rfl := hE.out
  simp only [errno]
  go_wp2_with fail
  go_ret
  exact ⟨rfl, HB0.out⟩
end Go.Proofs.YtfpjdmplepepjaaGreat
