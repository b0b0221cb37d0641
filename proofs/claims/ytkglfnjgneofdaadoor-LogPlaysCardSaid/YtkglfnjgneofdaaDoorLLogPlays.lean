/- LogPlays: for every text and every row of calls the law returns true (the table of four doublings lying in its variable as the program's text lays it). -/
import Derived.Test.YtkglfnjgneofdaaDoorPlays
import Derived.Test.YtkglfnjgneofdaaDoorCards
import Derived.Test.YtkglfnjgneofdaaDoorTie
import Derived.Deep.CutBlock
namespace Go.Proofs.YtkglfnjgneofdaaDoor
open Go.RowKit

theorem rnew3_any (n : Int) (w : World) (h : 1 ≤ n) (h2 : n ≤ 67108864) :
    Calls Tryd.prog 26 #[.int .i64 n] w fun e w' => ∃ b, e = .returned (.pointer (some ⟨b, 0, none⟩)) ∧ w.heap.size ≤ b ∧ IsRf w' b (Dk.new n) ∧ Below w.heap.size w w' :=
  (rnew_any n w h h2).mono fun _ _ ⟨he, hw⟩ => ⟨w.heap.size, he, Nat.le_refl _, by rw [hw]; exact Blk.new _ _ _, by rw [hw]; exact bOld _⟩

theorem open_any (u : ByteArray) (h : u.size ≤ 60) : (Dk.mk ⟨#[]⟩ u 300 1 true false 0).open.2 = 0 := by
  have hN := allN_le u
  by_cases hlt : allN u < u.size
  · have e1 : (Dk.mk ⟨#[]⟩ u 300 1 true false 0).open1 = (⟨u.extract 0 (allN u), ⟨#[]⟩, 300, 2, true, false, 0⟩, 0) := by
      unfold Dk.open1
      simp only [nil_append]
      rw [if_pos hlt]
      exact swap_free _ _ rfl rfl (by simp only [ByteArray.size_extract]; omega)
    rw [Dk.open, e1]
    simp only
    rw [if_pos trivial, sync_free _ rfl rfl (by show (0 : Int) ≤ 300; decide)]
  · have e1 : (Dk.mk ⟨#[]⟩ u 300 1 true false 0).open1 = (⟨⟨#[]⟩, u, 300, 1, true, false, 0⟩, 0) := by
      unfold Dk.open1
      simp only [nil_append]
      rw [if_neg hlt]
    rw [Dk.open, e1]
    simp only
    rw [if_pos trivial, sync_free _ rfl rfl (by show (0 : Int) ≤ 300; decide)]

set_option maxRecDepth 100000 in
set_option maxHeartbeats 8000000 in
theorem logPlays_walk (s : ByteArray) (ao : Option Addr) (len cap : Nat) (A B : Nat → Int) (C : Nat → SlT) (w : World) (ht : Tab w) (hat : RowsT w ao len A B C) :
    Calls Tryd.prog 8 #[.string s, .slice ao len cap] w fun e w' => e = .returned (.bool true) ∧ Below w.heap.size w w' := by
  have HT : Hid (Tab w) := ht
  have HAT := Lib.hid hat
  clear ht hat
  have hc := cutB_le s 60
  obtain ⟨u, hu⟩ := nm (cutB s 60)
  rw [← hu.out] at hc
  have hap : (Dk.new 300).append u = (⟨⟨#[]⟩, u, 300, 1, true, false, 0⟩, 0) := by
    rw [append_free _ _ rfl rfl (by show ¬ (300 : Int) < _; simp only [Dk.new, nil_size]; omega)]
    simp only [Dk.new, nil_append]
    rfl
  have HAP := Lib.hid hap
  clear hap
  go_enter Tryd.func8, Tryd.ntmps8
  go_wp2_with fail
  refine (awake_any _ HT.out).mono ?_; rintro e w1 ⟨rfl, hB⟩
  go_wp2_with fail
  refine (dnew2_any 300 _ (by decide) (by decide)).mono ?_; rintro e w2 ⟨b, rfl, hb, hd, hB1⟩
  have hbl := hd.lt
  replace hb := Nat.le_trans hB.size hb
  replace hB := bNext hB hB1; clear hB1
  go_wp2_with fail
  refine (rnew3_any 300 _ (by decide) (by decide)).mono ?_; rintro e w3 ⟨e, rfl, he, hrf, hB1⟩
  have hbe : b ≠ e := by omega
  have hew := Nat.le_trans hB.size he
  replace hd : IsDk w3 b (Dk.new 300) := Blk.below hd hB1 hbl
  replace hB := bNext hB hB1; clear hB1 he hbl
  go_wp2_with fail
  refine (short_any s 60 _ (by decide)).mono ?_; rintro _ w4 ⟨rfl, rfl⟩
  rw [← hu.out]
  go_wp2_with fail
  refine (dappend_any b _ u _ hd (by simp only [Dk.new, nil_size]; omega) (by decide) (by decide)).mono ?_; rintro _ w4 ⟨rfl, hd4, hk⟩
  rw [HAP.out] at hd4
  have hrf4 : IsRf w4 e (Dk.new 300) := hk.blk hrf (Ne.symm hbe)
  replace hB := bKept hB hk hb
  clear hk hd hrf
  go_wp2_with fail
  refine (rappend_any e _ u _ hrf4 (by simp only [Dk.new, nil_size]; omega) (by decide) (by decide)).mono ?_; rintro _ w5 ⟨rfl, hrf5, hk⟩
  rw [HAP.out] at hrf5
  have hd5 := hk.blk hd4 hbe
  replace hB := bKept hB hk hew
  clear hk hd4 hrf4
  have ho0 := open_any u hc
  have hOk0 : Ok ⟨0, 0, false⟩ ⟨⟨#[]⟩, u, 300, 1, true, false, 0⟩ 0 := ⟨rfl, by simp only [nil_size]; omega, by simp only; omega, by simp only; omega, by simp only; omega, by simp only; omega⟩
  have hXl := allB_len u
  have hNl := allN_le u
  have hOk1 := hOk0.open (allN u) (by omega) (allB u).length (by omega)
  obtain ⟨⟨d1, z⟩, hd1⟩ := nm (Dk.mk ⟨#[]⟩ u 300 1 true false 0).open
  have hO : (Dk.mk ⟨#[]⟩ u 300 1 true false 0).open = (d1, 0) := by
    rw [← hd1.out] at ho0 ⊢
    simp only at ho0
    rw [ho0]
  rw [hO] at hOk1
  have HO := Lib.hid hO
  clear hO hd1 ho0
  obtain ⟨X, hX⟩ := nm (allB u)
  obtain ⟨N, hN⟩ := nm (allN u)
  have HX : Hid (allB u = X ∧ allN u = N) := ⟨hX.out.symm, hN.out.symm⟩
  rw [← hX.out, ← hN.out] at hOk1
  rw [← hX.out] at hXl
  clear hX hN
  go_wp2_with fail
  refine (lopen_ok b _ _ X N w _ hb hB hd5 (hOk0.fit (by omega)) HT.out HO.out (by rw [nil_append]; exact HX.out.1) (by rw [nil_append]; exact HX.out.2)).mono ?_; rintro _ w6 ⟨g, ao1, cap1, rfl, hL, -, hs1, hn1, hg, hk⟩
  have hel := hrf5.lt
  have hge : g ≠ e := by omega
  have hrf6 := hk.blk hrf5 (Ne.symm hbe)
  clear hk hB hd5 hrf5
  go_wp2_with fail
  refine (ropen_any e _ _ hrf6 (hOk0.fit (by omega))).mono ?_
  rintro _ w7 ⟨⟨hrf7, hk⟩, h3 | ⟨_, c, ao2, cap2, rfl, hc7, hrg, -, hs2, hn2⟩⟩
  · rw [HO.out] at h3; exact absurd rfl h3.1
  rw [HO.out] at hrf7
  simp only [nil_append] at hrg hs2 ⊢
  rw [HX.out.1, HX.out.2] at hrg
  rw [HX.out.1] at hs2 ⊢
  have hQ : Quad w w7 g b c e ⟨X.length, N, false⟩ d1 := by
    have hgl := hL.il.lt
    have hbl := hL.id.lt
    have hel6 := hrf6.lt
    exact ⟨hL.apart (hk.right c) (by omega) hge (by omega) hbe (Nat.le_trans hL.old.size hc7) hew, Nat.le_trans hL.old.size hc7, hew, hrg, hrf7, by omega, by omega, hge, by omega, hbe⟩
  have hs1' := hs1.above hn1 hk.size (fun k h1 h2 => hk.block k h1 (by omega))
  clear hs1 hn1 hn2 hk hL hrf6 hrf7 hrg hc7 hg hb hel hge hbe hew
  go_wp2_with fail
  refine (sametexts_any ao1 ao2 cap1 cap2 X X _ (by omega) hs1' hs2).mono ?_; rintro _ w8 ⟨rfl, q1, rfl⟩
  (first | rw [show decide (X = X) = true from decide_eq_true rfl] | rw [show decide True = true from rfl])
  replace hQ := hQ.drewN q1
  clear hs1' hs2
  obtain ⟨l0, hl0⟩ := nm (Lg.mk X.length N false)
  rw [← hl0.out] at hQ hOk1
  clear hl0 hXl hNl hOk0
  go_wp2_with fail
  go_loopw [8, 11, 15] (fun x y i wr => ∃ (k g c : Nat) (l : Lg) (d : Dk), k ≤ 40 ∧ k ≤ len ∧ x = .pointer (some ⟨g, 0, none⟩) ∧ y = .pointer (some ⟨c, 0, none⟩) ∧ i = .int .i64 (k : Int) ∧ Ok l d (k + 1) ∧ Quad w wr g b c e l d) (fun _ _ i _ => 40 - (intOf i).toNat)
  case atStart => exact ⟨0, g, c, l0, d1, by omega, by omega, rfl, rfl, rfl, hOk1, hQ⟩
  case round =>
    clear hQ hOk1
    obtain ⟨k, g, c, l, d, hk1, hk2, rfl, rfl, rfl, hOk, hQ⟩ := hrel
    by_cases hlt : k < len ∧ k < 40
    rotate_left
    · go_wp2_with fail
      all_goals
        go_ret
        exact ⟨rfl, hQ.ld.old⟩
    obtain ⟨hlt1, hlt2⟩ := hlt
    obtain ⟨bs, off, rfl, hbs, cA, cB, cC, hBk, hTl, hTc, hTs⟩ := HAT.out k hlt1
    obtain ⟨a, ha⟩ := nm (A k)
    obtain ⟨n, hn⟩ := nm (B k)
    obtain ⟨⟨ta, tl, tc, tss⟩, htt⟩ := nm (C k)
    rw [← ha.out] at cA
    rw [← hn.out] at cB hBk
    rw [← htt.out] at cC hTl hTc hTs
    replace cC : w.cell? ⟨bs, off + k * 3 + 2, none⟩ = some (.slice ta tl tc) := cC
    replace hTl : tss.length = tl := hTl
    replace hTs : SlAt w ta (tss.map Value.string) := hTs
    clear hTc htt
    have cA1 : wr.cell? ⟨bs, off + k * 3, none⟩ = some (.int .i64 a) := (hQ.ld.old.cell (p := ⟨bs, _, none⟩) hbs).trans cA
    have cB1 : wr.cell? ⟨bs, off + k * 3 + 1, none⟩ = some (.int .i64 n) := (hQ.ld.old.cell (p := ⟨bs, _, none⟩) hbs).trans cB
    have cC1 : wr.cell? ⟨bs, off + k * 3 + 2, none⟩ = some (.slice ta tl tc) := (hQ.ld.old.cell (p := ⟨bs, _, none⟩) hbs).trans cC
    have HTS := Lib.hid hTs
    clear hTs cA cB cC
    have po : OpAt (wr.alloc (.cells #[.int .i64 a, .int .i64 n, .slice ta tl tc] 54)) wr.heap.size a n ⟨ta, tl, tc, tss⟩ := Blk.new _ _ _
    have hQ0 := hQ.alloc (.cells #[.int .i64 a, .int .i64 n, .slice ta tl tc] 54)
    have hog : wr.heap.size ≠ g ∧ wr.heap.size ≠ b ∧ wr.heap.size ≠ c ∧ wr.heap.size ≠ e := by
      have h1 := hQ.ld.il.lt
      have h2 := hQ.ld.id.lt
      have h3 := hQ.rg.lt
      have h4 := hQ.rf.lt
      omega
    obtain ⟨K, hK, hm⟩ := and_mask a 7 (by decide)
    have hm2 : bits BinOp.and IntKind.i64 a 7 = (K : Int) := hm
    clear hm
    go_upto_block 2 with fail
    clear cA1 cB1 cC1
    obtain ⟨o, hoo⟩ := nm wr.heap.size
    obtain ⟨wO, hwO⟩ := nm (wr.alloc (.cells #[.int .i64 a, .int .i64 n, .slice ta tl tc] 54))
    rw [← hoo.out, ← hwO.out]
    rw [← hoo.out] at hog po
    rw [← hwO.out] at po hQ0
    clear hoo hwO hQ
    obtain ⟨hog1, hog2, hog3, hog4⟩ := hog
    obtain ⟨p0, p1, p2⟩ := po.cells
    replace p2 : wO.cell? ⟨o, 2, none⟩ = some (.slice ta tl tc) := p2
    go_cut [8, 11, 17] (fun x y ok wx => ∃ (g c : Nat) (l1 : Lg) (d1 : Dk), x = .pointer (some ⟨g, 0, none⟩) ∧ y = .pointer (some ⟨c, 0, none⟩) ∧ ok = .bool true ∧ Ok l1 d1 (k + 1 + 1) ∧ Quad w wx g b c e l1 d1)
    case first =>
      have hK8 : K < 3 ∨ K = 3 ∨ K = 4 ∨ K = 5 ∨ K = 6 ∨ K = 7 := by omega
      have hTlen := opTexts_len n tss
      have hTle := opTexts_le n tss
      obtain ⟨T, hT⟩ := nm (opTexts n tss)
      have hOa := hOk.add T (by rw [hT.out]; exact hTlen)
      have hOb := hOk.begin T (by rw [hT.out]; exact hTlen)
      have hfit := hOk.fit (by omega)
      have hn1 := hOk.n
      have hsz1 := hOk.sz
      rw [← hT.out] at hTlen hTle
      rcases hK8 with hK3 | rfl | rfl | rfl | rfl | rfl
      · have k3 : ((K : Int) == 3) = false := by rw [beq_eq_false_iff_ne]; omega
        have k4 : ((K : Int) == 4) = false := by rw [beq_eq_false_iff_ne]; omega
        have k5 : ((K : Int) == 5) = false := by rw [beq_eq_false_iff_ne]; omega
        have k6 : ((K : Int) == 6) = false := by rw [beq_eq_false_iff_ne]; omega
        have k7 : ((K : Int) == 7) = false := by rw [beq_eq_false_iff_ne]; omega
        go_wp2_with fail
        go_region_held3 (fun w' => w'.cell? ⟨o, 0, none⟩ = some (.int .i64 a) ∧ w'.cell? ⟨o, 1, none⟩ = some (.int .i64 n) ∧ w'.cell? ⟨o, 2, none⟩ = some (.slice ta tl tc)) (first | exact ⟨by assumption, by assumption, by assumption⟩ | go_keep)
          (first
          | (go_at_call 19
             refine (ladd_any g b l d ao3 cap3 T w2 hQ2.ld.il hQ2.ld.id hQ2.ld.ne (by omega) (fun r hr => by have := hTle r hr; omega) hfit (by omega) (by omega) (HT.out.below hQ2.ld.old) hs3).mono ?_
             rintro _ w3 ⟨rfl, h1, h2, hk⟩
             have hH := hQ2.half h1 h2 hk
             have po4 : OpAt w3 o a n ⟨ta, tl, tc, tss⟩ := hk.blk po3 hog1 hog2
             obtain ⟨g3, g4, g5⟩ := po4.cells
             replace g5 : w3.cell? ⟨o, 2, none⟩ = some (.slice ta tl tc) := g5)
          | (go_at_call 34
             refine (radd_any c e l d ao4 cap4 T w4 hH4.rg hH4.rf hH4.ce (by omega) (fun r hr => by have := hTle r hr; omega) hfit (by omega) (by omega) hs4).mono ?_
             rintro _ w5 ⟨rfl, h3, h4, hk5⟩
             have hQ5 := hH4.whole h3 h4 hk5
             have po6 : OpAt w5 o a n ⟨ta, tl, tc, tss⟩ := hk5.blk po5 hog3 hog4
             obtain ⟨g9, g10, g11⟩ := po6.cells
             replace g11 : w5.cell? ⟨o, 2, none⟩ = some (.slice ta tl tc) := g11)
          | (go_at_call 30
             refine (texts_is o a n ⟨ta, tl, tc, tss⟩ wO.drew rfl hQ0.ld.old.drew (show OpAt wO.drew o a n ⟨ta, tl, tc, tss⟩ from po) hTl HTS.out).mono ?_
             rintro _ w2 ⟨ao3, cap3, rfl, ⟨hc3, hs3, hB3, po3⟩, g0, g1, g2⟩
             replace g2 : w2.cell? ⟨o, 2, none⟩ = some (.slice ta tl tc) := g2
             simp only [← hT.out] at hc3 hs3 ⊢
             have hQ2 := (hQ0.below ((Below.refl _ _).drew)).below hB3)
          | (go_at_call 30
             refine (texts_is o a n ⟨ta, tl, tc, tss⟩ w3 rfl hH.ld.old po4 hTl HTS.out).mono ?_
             rintro _ w4 ⟨ao4, cap4, rfl, ⟨hc4, hs4, hB4, po5⟩, g6, g7, g8⟩
             replace g8 : w4.cell? ⟨o, 2, none⟩ = some (.slice ta tl tc) := g8
             simp only [← hT.out] at hc4 hs4 ⊢
             have hH4 := hH.below hB4))
        all_goals
          go_wp2_with fail
          go_meet
          exact ⟨g, c, _, _, rfl, rfl, by simp, hOa, hQ5⟩
      · go_wp2_with fail
        refine (lsync_any g b l d _ hQ0.ld.il hQ0.ld.id hQ0.ld.ne hfit).mono ?_; rintro _ w2 ⟨rfl, h1, h2, hk⟩
        have hH := hQ0.half h1 h2 hk
        go_wp2_with fail
        refine (rlsync_any c e l d _ hH.rg hH.rf hH.ce hfit).mono ?_; rintro _ w3 ⟨rfl, h3, h4, hk2⟩
        have hQ3 := hH.whole h3 h4 hk2
        go_wp2_with fail
        go_meet
        exact ⟨g, c, _, _, rfl, rfl, by simp, hOk.sync, hQ3⟩
      · go_wp2_with fail
        go_region_held3 (fun w' => w'.cell? ⟨o, 0, none⟩ = some (.int .i64 a) ∧ w'.cell? ⟨o, 1, none⟩ = some (.int .i64 n) ∧ w'.cell? ⟨o, 2, none⟩ = some (.slice ta tl tc)) (first | exact ⟨by assumption, by assumption, by assumption⟩ | go_keep)
          (first
          | (go_at_call 25
             refine (lbegin_any g b l d ao3 cap3 T w2 hQ2.ld.il hQ2.ld.id hQ2.ld.ne (by omega) (fun r hr => by have := hTle r hr; omega) hfit (HT.out.below hQ2.ld.old) hs3).mono ?_
             rintro _ w3 ⟨rfl, h1, h2, hk⟩
             have hH := hQ2.half h1 h2 hk
             have po4 : OpAt w3 o a n ⟨ta, tl, tc, tss⟩ := hk.blk po3 hog1 hog2
             obtain ⟨g3, g4, g5⟩ := po4.cells
             replace g5 : w3.cell? ⟨o, 2, none⟩ = some (.slice ta tl tc) := g5)
          | (go_at_call 31
             refine (rbegin_any c e l d ao4 cap4 T w4 hH4.rg hH4.rf hH4.ce (by omega) (fun r hr => by have := hTle r hr; omega) hfit hs4).mono ?_
             rintro _ w5 ⟨rfl, h3, h4, hk5⟩
             have hQ5 := hH4.whole h3 h4 hk5
             have po6 : OpAt w5 o a n ⟨ta, tl, tc, tss⟩ := hk5.blk po5 hog3 hog4
             obtain ⟨g9, g10, g11⟩ := po6.cells
             replace g11 : w5.cell? ⟨o, 2, none⟩ = some (.slice ta tl tc) := g11)
          | (go_at_call 30
             refine (texts_is o a n ⟨ta, tl, tc, tss⟩ wO.drew rfl hQ0.ld.old.drew (show OpAt wO.drew o a n ⟨ta, tl, tc, tss⟩ from po) hTl HTS.out).mono ?_
             rintro _ w2 ⟨ao3, cap3, rfl, ⟨hc3, hs3, hB3, po3⟩, g0, g1, g2⟩
             replace g2 : w2.cell? ⟨o, 2, none⟩ = some (.slice ta tl tc) := g2
             simp only [← hT.out] at hc3 hs3 ⊢
             have hQ2 := (hQ0.below ((Below.refl _ _).drew)).below hB3)
          | (go_at_call 30
             refine (texts_is o a n ⟨ta, tl, tc, tss⟩ w3 rfl hH.ld.old po4 hTl HTS.out).mono ?_
             rintro _ w4 ⟨ao4, cap4, rfl, ⟨hc4, hs4, hB4, po5⟩, g6, g7, g8⟩
             replace g8 : w4.cell? ⟨o, 2, none⟩ = some (.slice ta tl tc) := g8
             simp only [← hT.out] at hc4 hs4 ⊢
             have hH4 := hH.below hB4))
        all_goals
          go_wp2_with fail
          go_meet
          exact ⟨g, c, _, _, rfl, rfl, by simp, hOb, hQ5⟩
      · obtain ⟨M, hM, hm⟩ := and_mask n 7 (by decide)
        have hm3 : bits BinOp.and IntKind.i64 n 7 = (M : Int) := hm
        clear hm
        go_wp2_with fail
        refine (darm_any b _ _ _ hQ0.ld.id).mono ?_; rintro _ w2 ⟨rfl, h2, hk⟩
        have hH := hQ0.half (hk.blk hQ0.ld.il hQ0.ld.ne) h2 (hk.right g)
        have po2 : OpAt w2 o a n ⟨ta, tl, tc, tss⟩ := hk.blk po hog2
        have p3 : w2.cell? ⟨o, 1, none⟩ = some (.int .i64 n) := po2.cells.2.1
        go_wp2_with fail
        refine (rarm_any e _ _ _ hH.rf).mono ?_; rintro _ w3 ⟨rfl, h4, hk2⟩
        have hQ3 := hH.whole (hk2.blk hH.rg hH.ce) h4 (hk2.right c)
        go_wp2_with fail
        go_meet
        exact ⟨g, c, _, _, rfl, rfl, rfl, hOk.arm M hM, hQ3⟩
      · have hds := hOk.size
        have hdr := hOk.room
        go_wp2_with fail
        refine (dcrash_any b _ _ _ hQ0.ld.id (by omega)).mono ?_; rintro _ w2 ⟨rfl, h2, hk⟩
        have hH := hQ0.half (hk.blk hQ0.ld.il hQ0.ld.ne) h2 (hk.right g)
        have po2 : OpAt w2 o a n ⟨ta, tl, tc, tss⟩ := hk.blk po hog2
        have p3 : w2.cell? ⟨o, 1, none⟩ = some (.int .i64 n) := po2.cells.2.1
        go_wp2_with fail
        refine (rcrash_any e _ _ _ hH.rf (by omega) (by omega)).mono ?_; rintro _ w3 ⟨rfl, h4, hk2⟩
        have hQv := hH.whole (hk2.blk hH.rg hH.ce) h4 (hk2.right c)
        have hOkv := hOk.crash n
        obtain ⟨dv, hdv⟩ := nm (d.crash n)
        rw [← hdv.out] at hQv hOkv
        go_wp2_with fail
        refine (lopen_any b dv _ hQv.ld.id (hOkv.fit (by omega)) (HT.out.below hQv.ld.old)).mono ?_
        rintro _ w6 ⟨⟨hd6, hk6⟩, ⟨hz, rfl⟩ | ⟨hz, g', ao3, cap3, rfl, hg', hl6, hc3, hs3, hn3⟩⟩
        · have hrf6 := hk6.blk hQv.rf (Ne.symm hQv.be)
          go_wp2_with fail
          refine (ropen_any e dv _ hrf6 (hOkv.fit (by omega))).mono ?_
          rintro _ w7 ⟨⟨hrf7, hk7⟩, ⟨_, rfl⟩ | ⟨h3, _⟩⟩
          rotate_left
          · exact absurd h3 hz
          have hB7 : Below w.heap.size w w7 := bKept (bKept hQv.ld.old hk6 hQv.ld.lb) hk7 hQv.le
          obtain ⟨E, hE⟩ := nm dv.open.2
          rw [← hE.out]
          go_wp2_with fail
          refine (sametexts_any none none 0 0 [] [] _ (by simp) (fun k hk => by simp at hk) (fun k hk => by simp at hk)).mono ?_; rintro _ w8 ⟨rfl, q, rfl⟩
          (first | rw [show decide (([] : List ByteArray) = []) = true from decide_eq_true rfl] | rw [show decide True = true from rfl])
          go_wp2_with fail
          go_ret
          exact ⟨rfl, below_drewN hB7 q⟩
        · have hrf6 := hk6.blk hQv.rf (Ne.symm hQv.be)
          have hbl := hQv.ld.id.lt
          have hel := hQv.rf.lt
          go_wp2_with fail
          refine (ropen_any e dv _ hrf6 (hOkv.fit (by omega))).mono ?_
          rintro _ w7 ⟨⟨hrf7, hk7⟩, ⟨h3, _⟩ | ⟨_, c', ao4, cap4, rfl, hc', hrg7, hc4, hs4, hn4⟩⟩
          · exact absurd hz h3
          have hgl : g' < w6.heap.size := Blk.lt hl6
          have hwv := hQv.ld.old.size
          have hbe := hQv.be
          have hsz7 := hk6.size
          have hQ7 : Quad w w7 g' b c' e ⟨(allB (dv.safe ++ dv.tail)).length, allN (dv.safe ++ dv.tail), false⟩ dv.open.1 :=
            ⟨⟨by omega, by omega, hQv.ld.lb, hk7.blk hl6 (by omega), hk7.blk hd6 hbe, bKept (bKept hQv.ld.old hk6 hQv.ld.lb) hk7 hQv.le⟩, by omega, hQv.le, hrg7, hrf7, by omega, by omega, by omega, by omega, hbe⟩
          have hs3' := hs3.above hn3 hk7.size (fun k h1 h2 => hk7.block k h1 (by omega))
          have hXl := allB_len (dv.safe ++ dv.tail)
          have hNl := allN_le (dv.safe ++ dv.tail)
          have hdsz := hOkv.size
          rw [app_size] at hXl hNl
          have hOk7 := hOkv.open (allN (dv.safe ++ dv.tail)) (by omega) (allB (dv.safe ++ dv.tail)).length (by omega)
          obtain ⟨X, hX⟩ := nm (allB (dv.safe ++ dv.tail))
          rw [← hX.out] at hs3' hs4 hXl hQ7 hOk7 ⊢
          go_wp2_with fail
          refine (sametexts_any ao3 ao4 cap3 cap4 X X _ (by omega) hs3' hs4).mono ?_; rintro _ w8 ⟨rfl, q, rfl⟩
          (first | rw [show decide (X = X) = true from decide_eq_true rfl] | rw [show decide True = true from rfl])
          go_wp2_with fail
          go_meet
          exact ⟨g', c', _, _, rfl, rfl, rfl, hOk7, hQ7.drewN q⟩
      · have hQv := hQ0
        have hOkv := hOk
        obtain ⟨dv, hdv⟩ := nm d
        rw [← hdv.out] at hQv hOkv
        go_wp2_with fail
        refine (lopen_any b dv _ hQv.ld.id (hOkv.fit (by omega)) (HT.out.below hQv.ld.old)).mono ?_
        rintro _ w6 ⟨⟨hd6, hk6⟩, ⟨hz, rfl⟩ | ⟨hz, g', ao3, cap3, rfl, hg', hl6, hc3, hs3, hn3⟩⟩
        · have hrf6 := hk6.blk hQv.rf (Ne.symm hQv.be)
          go_wp2_with fail
          refine (ropen_any e dv _ hrf6 (hOkv.fit (by omega))).mono ?_
          rintro _ w7 ⟨⟨hrf7, hk7⟩, ⟨_, rfl⟩ | ⟨h3, _⟩⟩
          rotate_left
          · exact absurd h3 hz
          have hB7 : Below w.heap.size w w7 := bKept (bKept hQv.ld.old hk6 hQv.ld.lb) hk7 hQv.le
          obtain ⟨E, hE⟩ := nm dv.open.2
          rw [← hE.out]
          go_wp2_with fail
          refine (sametexts_any none none 0 0 [] [] _ (by simp) (fun k hk => by simp at hk) (fun k hk => by simp at hk)).mono ?_; rintro _ w8 ⟨rfl, q, rfl⟩
          (first | rw [show decide (([] : List ByteArray) = []) = true from decide_eq_true rfl] | rw [show decide True = true from rfl])
          go_wp2_with fail
          go_ret
          exact ⟨rfl, below_drewN hB7 q⟩
        · have hrf6 := hk6.blk hQv.rf (Ne.symm hQv.be)
          have hbl := hQv.ld.id.lt
          have hel := hQv.rf.lt
          go_wp2_with fail
          refine (ropen_any e dv _ hrf6 (hOkv.fit (by omega))).mono ?_
          rintro _ w7 ⟨⟨hrf7, hk7⟩, ⟨h3, _⟩ | ⟨_, c', ao4, cap4, rfl, hc', hrg7, hc4, hs4, hn4⟩⟩
          · exact absurd hz h3
          have hgl : g' < w6.heap.size := Blk.lt hl6
          have hwv := hQv.ld.old.size
          have hbe := hQv.be
          have hsz7 := hk6.size
          have hQ7 : Quad w w7 g' b c' e ⟨(allB (dv.safe ++ dv.tail)).length, allN (dv.safe ++ dv.tail), false⟩ dv.open.1 :=
            ⟨⟨by omega, by omega, hQv.ld.lb, hk7.blk hl6 (by omega), hk7.blk hd6 hbe, bKept (bKept hQv.ld.old hk6 hQv.ld.lb) hk7 hQv.le⟩, by omega, hQv.le, hrg7, hrf7, by omega, by omega, by omega, by omega, hbe⟩
          have hs3' := hs3.above hn3 hk7.size (fun k h1 h2 => hk7.block k h1 (by omega))
          have hXl := allB_len (dv.safe ++ dv.tail)
          have hNl := allN_le (dv.safe ++ dv.tail)
          have hdsz := hOkv.size
          rw [app_size] at hXl hNl
          have hOk7 := hOkv.open (allN (dv.safe ++ dv.tail)) (by omega) (allB (dv.safe ++ dv.tail)).length (by omega)
          obtain ⟨X, hX⟩ := nm (allB (dv.safe ++ dv.tail))
          rw [← hX.out] at hs3' hs4 hXl hQ7 hOk7 ⊢
          go_wp2_with fail
          refine (sametexts_any ao3 ao4 cap3 cap4 X X _ (by omega) hs3' hs4).mono ?_; rintro _ w8 ⟨rfl, q, rfl⟩
          (first | rw [show decide (X = X) = true from decide_eq_true rfl] | rw [show decide True = true from rfl])
          go_wp2_with fail
          go_meet
          exact ⟨g', c', _, _, rfl, rfl, rfl, hOk7, hQ7.drewN q⟩
    clear hQ0 hOk po p0 p1 p2 hm2
    obtain ⟨g, c, l1, d1, rfl, rfl, rfl, hOk, hQ⟩ := hcut
    have r0 : wc.cell? ⟨e, 0, none⟩ = some (.string d1.safe) := hQ.rf.cell 0
    have r1 : wc.cell? ⟨e, 1, none⟩ = some (.string d1.tail) := hQ.rf.cell 1
    have r2 : wc.cell? ⟨c, 1, none⟩ = some (.int .i64 l1.n) := hQ.rg.cell 1
    have r3 : wc.cell? ⟨c, 2, none⟩ = some (.int .i64 l1.size) := hQ.rg.cell 2
    have hsz := hOk.size
    have hcat : ¬ (9223372036854775807 < d1.safe.size + d1.tail.size) := by omega
    go_upto_region 42 with fail
    go_quiet ((first
      | (go_at_call 21; exact Calls.quiet_of_same (llen_any g b _ _ hQ.ld.il))
      | (go_at_call 18; exact Calls.quiet_of_same (lsize_any g b _ _ hQ.ld.il))
      | (go_at_call 17; exact Calls.quiet_of (dbytes_any b _ _ hQ.ld.id (by omega)))
      | (go_at_call 23; exact Calls.quiet_of_same (dsafe_any2 b _ _ hQ.ld.id))))
    have hQ9 := hQ.drewN nq
    go_wp2_with fail
    go_roundw
    case rel => exact ⟨k + 1, g, c, l1, d1, by omega, by omega, rfl, rfl, by go_num, hOk, hQ9⟩
    case measure => simp [intOf]; omega

namespace LLogPlays
open Go.ChangeShapes Go.WideShapes Go.ChangeAt
open Go.ChangeMaps (open_string shut_string)

set_option maxRecDepth 100000 in
theorem contract (H : Type) (enc : TypeId × Value → H) (W : World) (base : Nat) (args : Array Value) (ds gs : List (DataW H)) (before : List MemPlace)
    (hval : ∀ (j : Nat) t v, Tryd.f8.params[j]? = some t → args[j]? = some v → Value.okWide Tryd.prog W .any base t v)
    (hW : DataW.Whole enc Tryd.prog Tryd.f8.params.toList Rows.logPlaysSpec.vars false W args.toList ds gs before)
    (hL : laidMetH Tryd.prog Rows.logPlaysRow.laid W)
    (_hsz : (DataW.weightsEach Tryd.prog (Tryd.f8.params.toList ++ (OpenSpec.ofChange Rows.logPlaysSpec).bare.plain.varTypes Tryd.prog) (ds ++ gs)).all (fun x => decide (x ≤ reachBytes)) = true) :
    Calls Tryd.prog 8 args W fun e W' => ∃ v, e = .returned v ∧ Rows.logPlaysSpec.post enc Tryd.prog Tryd.f8 false true false false W args v W' := by
  have hW' := hW
  obtain ⟨p, q, hA0, hV, rfl, hfz, hnd⟩ := hW
  have hA : DataW.TrodAll enc Tryd.prog W 0 (fun _ => true) true Tryd.f8.params.toList args.toList ds p := hA0
  rw [Tryd.params8] at hA hval
  obtain ⟨v0, vs0, d0, ds0, p0, q0, hargs, rfl, rfl, h0, r0⟩ := trodAll_cons hA
  obtain ⟨v1, vs1, d1, ds1, p1, q1, rfl, rfl, rfl, h1, r1⟩ := trodAll_cons r0
  obtain ⟨rfl, rfl, rfl⟩ := trodAll_nil r1
  obtain rfl : args = #[v0, v1] := by cases args; simp_all
  obtain ⟨rfl, rfl⟩ := trodVars_none hV
  obtain ⟨x0, rfl, rfl, rfl, k0⟩ := open_string Tryd.underlying9 (hval 0 9 v0 rfl rfl) h0
  obtain ⟨ao1, len1, cap1, A1, B1, C1, rfl, _, _, hat1⟩ := open_rowsT Tryd.underlying47 Tryd.underlying54 (show Tryd.prog.cellsOf 54 = 3 by kernel_rfl) ⟨rfl, rfl⟩ ⟨rfl, rfl⟩ ⟨rfl, rfl⟩ Tryd.underlying3 Tryd.underlying24 Tryd.underlying9 (show Tryd.prog.cellsOf 3 = 1 by kernel_rfl) (show Tryd.prog.cellsOf 24 = 1 by kernel_rfl) (show Tryd.prog.cellsOf 9 = 1 by kernel_rfl) h1 (okWide_slice Tryd.underlying47 (hval 1 47 v1 rfl rfl))
  clear hA0
  refine (logPlays_walk x0 ao1 len1 cap1 A1 B1 C1 W (tab_of hL) hat1).mono fun e W' ⟨he, hb⟩ => ?_
  subst he
  exact ⟨_, rfl, law_post laidOut Tryd.underlying4 rfl (by kernel_rfl) rfl rfl rfl rfl hW' hb⟩

theorem reads (os : Os) {H : Type} (enc : TypeId × Value → H) : ∃ places, DataW.whole enc Tryd.prog ((laidWorld os).forCall (fun _ _ => 0) ⟨#[], #[.string .empty, .slice none 0 0], []⟩).memory Tryd.f8.params.toList Rows.logPlaysSpec.vars false (#[.string .empty, .slice none 0 0] : Array Value).toList 8 = some ([.lit (.string []), .nil], [], places) :=
  ⟨[], by kernel_rfl⟩
theorem laid_met (os : Os) : laidMet Tryd.prog Rows.logPlaysRow.laid ((laidWorld os).forCall (fun _ _ => 0) ⟨#[], #[.string .empty, .slice none 0 0], []⟩).memory :=
  laidMet_of_run' 8 (by kernel_rfl) (by kernel_rfl)

set_option maxRecDepth 100000 in
theorem lifted (os : Os) (started : os.Started) (H : Type) (enc : TypeId × Value → H) (F : Stop.Interp) :
    ReturnsInHanded {} Tryd.checked os 8 .any ((OpenSpec.ofChange Rows.logPlaysSpec).preRow enc Tryd.prog Tryd.f8 Rows.logPlaysRow.domain false Rows.logPlaysRow.laid) (((OpenSpec.ofChange Rows.logPlaysSpec).at F).post enc Tryd.prog Tryd.f8 false true false false) := by
  obtain ⟨places, hx⟩ := reads os enc
  refine returnsInHanded_of_row (C := Tryd.checked) (s := OpenSpec.ofChange Rows.logPlaysSpec) own started (by kernel_rfl) Tryd.func8
    (witness_row_at (enc := enc) (C := Tryd.checked) false (laidWorld os) #[.string .empty, .slice none 0 0] rfl (by kernel_rfl) (by kernel_rfl) (by kernel_rfl)
      (OpenSpec.preRow_of_cond 8 hx (by kernel_rfl) (fun k hk => by cases hk) (by kernel_rfl) (laid_met os))) ?_
  intro W base args ds gs before hval hW _ _ hsz hL _ _
  exact contract H enc W base args ds gs before hval hW hL hsz

theorem said : Rows.LogPlaysSaid :=
  OpenClaim.holds_of_cond 8 Tryd.f8 rfl rfl rfl rfl rfl rfl rfl ⟨rfl, rfl, rfl, rfl, rfl⟩ rfl rfl rfl rfl rfl (by kernel_rfl) Tryd.func8 (by kernel_rfl)
    (of_decide_eq_true (by kernel_rfl)) (by unfold Func.isWrapper; first | (rw [if_pos (by decide +kernel)]; kernel_rfl) | (rw [if_neg (by decide +kernel)]; exact ⟨rfl, rfl⟩))
    (fun os started H enc _ F => by rw [OpenClaim.pre_eq_preRow]; exact lifted os started H enc F)

theorem plain (f : FuncId) (fn : Func) (hf : Tryd.pinned.checked.prog.funcNamed "caravan/caravanlaw14.LogPlays" = some f) (hfn : Tryd.pinned.checked.prog.funcs[f]? = some fn) :
    false = Tryd.pinned.checked.prog.looks [] ∧ ∀ (j : Nat) t, fn.params[j]? = some t → Tryd.pinned.checked.prog.wantsStandIn t = false := by
  obtain rfl : f = 8 := Option.some.inj ((show Tryd.prog.funcNamed "caravan/caravanlaw14.LogPlays" = some 8 by kernel_rfl).symm.trans hf) |>.symm
  obtain rfl : fn = Tryd.f8 := (Option.some.inj (Tryd.func8.symm.trans hfn)).symm
  refine ⟨by kernel_rfl, fun j t ht => ?_⟩
  have hm : t ∈ Tryd.f8.params.toList := Array.mem_toList_iff.2 (Array.mem_of_getElem? ht)
  have hall : (Tryd.f8.params.toList.all fun t => Tryd.prog.wantsStandIn t == false) = true := by kernel_rfl
  have := List.all_eq_true.1 hall t hm
  exact (show Tryd.prog.wantsStandIn t = false by simpa using this)

theorem card : Rows.LogPlaysCardSaid :=
  Claim7.holds_tied_plain_at .later [] _ _ _ _ said (fun _ h => by cases h) (by kernel_rfl) (fun _ h => by cases h) logPlays_row_tie rfl ⟨rfl, rfl⟩ (by kernel_rfl) rfl plain (by kernel_rfl)
end LLogPlays
end Go.Proofs.YtkglfnjgneofdaaDoor
