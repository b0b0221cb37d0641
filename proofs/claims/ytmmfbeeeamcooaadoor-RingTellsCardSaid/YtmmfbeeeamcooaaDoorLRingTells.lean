/- RingTells: for every spots or nodes, every queue's name, every part and number the law returns true (the table of four doublings lying in its variable as the program's text lays it). -/
import Derived.Test.YtmmfbeeeamcooaaDoorRingTell
import Derived.Test.YtmmfbeeeamcooaaDoorRingRefNew
import Derived.Test.YtmmfbeeeamcooaaDoorRingPart
import Derived.Test.YtmmfbeeeamcooaaDoorRingSame
import Derived.Test.YtmmfbeeeamcooaaDoorOpenInts
import Derived.Test.YtmmfbeeeamcooaaDoorSumLaid
import Derived.Deep.AppendLies
import Derived.Deep.RegionHeld3
import Derived.Lib.SmallJoins
import Derived.Test.YtmmfbeeeamcooaaDoorCards
import Derived.Test.YtmmfbeeeamcooaaDoorTie
namespace Go.Proofs.YtmmfbeeeamcooaaDoor
open Go.RowKit Go.Shelf Go.Lib Go.Sort

theorem wf64 {n : Int} (h : -9223372036854775808 ≤ n ∧ n ≤ 9223372036854775807) : (Lit.int .i64 n).wf = true := by
  show (decide (-9223372036854775808 ≤ n) && decide (n ≤ 9223372036854775807)) = true
  simp [h.1, h.2]
theorem le64 {n : Int} (h : (Lit.int .i64 n).wf = true) : n ≤ 9223372036854775807 := by
  have h' : (decide (-9223372036854775808 ≤ n) && decide (n ≤ 9223372036854775807)) = true := h
  simp at h'; exact h'.2
def low16 (p : Int × Int) : Int × Int := (bits .and .i64 p.1 65535, p.2)

theorem sameI_true (a1 a2 : Option Addr) (c1 c2 : Nat) (xs : List Int) (n : Nat) (hn : Hid (xs.length = n)) (hm : n ≤ 1000000) (w : World) (h1 : SlAt w a1 (xs.map (Value.int .i64))) (h2 : SlAt w a2 (xs.map (Value.int .i64))) :
    Calls Tryd.prog 10 #[.slice a1 n c1, .slice a2 n c2] w fun e w' => e = .returned (.bool true) ∧ ∃ n, w' = w.drewN n := by
  have h := sameI_any a1 a2 c1 c2 xs xs w (by rw [hn.out]; omega) h1 h2
  rw [hn.out, decide_eq_true rfl] at h
  exact h

set_option maxRecDepth 100000 in
set_option maxHeartbeats 8000000 in
theorem ringTells_walk (ao : Option Addr) (zs0 : List Int) (len cap : Nat) (hl : zs0.length = len) (hlc : len ≤ cap) (hwf0 : ∀ n ∈ zs0, (Lit.int .i64 n).wf = true)
    (ap : Option Addr) (l : List (Int × Int)) (n2 cap2 : Nat) (hl2 : l.length = n2) (hlc2 : n2 ≤ cap2) (hcm2 : cap2 ≤ maxLen) (hwf2 : ∀ p ∈ l, (Lit.int .i64 p.2).wf = true)
    (part z : Int) (hz : z ≤ 9223372036854775807) (s : ByteArray) (raw : Bool) (w : World) (ht : Tab w) (hat : SlAt w ao (zs0.map (Value.int .i64))) (hap : SlP w ap l) :
    Calls Tryd.prog 4 #[.slice ao len cap, .slice ap n2 cap2, .agg #[.int .i64 part, .int .i64 z, .string s, .bool raw]] w fun e w' => e = .returned (.bool true) ∧ Below w.heap.size w w' := by
  obtain ⟨N, hN⟩ := nm (min len 8)
  have hN8 : N ≤ 8 := by rw [hN.out]; omega
  have HL0 := Lib.hid hlc
  have HN2 := Lib.hid hl2
  have hcm : n2 ≤ maxLen := Nat.le_trans hlc2 hcm2
  obtain ⟨zs, hzs⟩ := nm (zs0.take 8)
  have hzl : Hid (zs.length = N) := by show _ = _; rw [hzs.out, List.length_take, hl, hN.out]; omega
  have HAT : Hid (SlAt w ao (zs.map (Value.int .i64))) := by show SlAt _ _ _; rw [hzs.out, List.map_take]; exact hat.take 8
  obtain ⟨R0, hR0⟩ := nm (ringL zs)
  obtain ⟨M0, hM0⟩ := nm R0.length
  have hM04 : M0 ≤ 32 := by rw [hM0.out, hR0.out]; have := ringL_length zs; rw [hzl.out] at this; omega
  obtain ⟨A, hA⟩ := nm ((l.take 20).map low16)
  obtain ⟨R, hR⟩ := nm (if raw = true then A else R0)
  obtain ⟨M, hM⟩ := nm R.length
  have hM32 : M ≤ 32 := by
    rw [hM.out, hR.out]; split
    · rw [hA.out, List.length_map, List.length_take]; omega
    · rw [← hM0.out]; exact hM04
  have HWF : Hid (∀ p ∈ R, (Lit.int .i64 p.2).wf = true) := by
    intro p hp; rw [hR.out] at hp
    split at hp
    · rw [hA.out] at hp
      obtain ⟨q, hq, rfl⟩ := List.mem_map.1 hp
      exact hwf2 q (List.mem_of_mem_take hq)
    · rw [hR0.out] at hp
      have h := ringL_node hp
      rw [hzs.out] at h
      exact hwf0 _ (List.mem_of_mem_take h)
  obtain ⟨O, hO⟩ := nm (orderL R part)
  obtain ⟨K, hK⟩ := nm O.length
  have hK32 : K ≤ 32 := by rw [hK.out, hO.out]; have := orderL_length R part; rw [← hM.out] at this; omega
  obtain ⟨J, hJ⟩ := nm (min z.toNat O.length)
  have hJK : J ≤ K := by rw [hJ.out, ← hK.out]; omega
  obtain ⟨Q, hQ⟩ := nm (O.take J)
  have hQl : Hid (Q.length = J) := by show _ = _; rw [hQ.out, List.length_take, ← hK.out]; omega
  have hcut := cutB_cases s 60
  obtain ⟨S, hS⟩ := nm (cutB s 60)
  have hS60 : S.size ≤ 60 := by rw [hS.out]; exact cutB_le _ _
  rw [← hS.out] at hcut
  have HCUT := Lib.hid hcut
  obtain ⟨P, hP⟩ := nm (Pl.crc (bl S) % 16)
  obtain ⟨mj, hmj⟩ := nm (max z 0 / 2 + 1)
  obtain ⟨pl, hpl⟩ := nm (placeI part)
  have HPL : Hid (∀ w, Calls Tryd.prog 11 #[.int .i64 part] w fun e w' => e = .returned (.int .i64 pl) ∧ w = w') := by
    intro w; rw [hpl.out]; exact place_any part w
  have HRPL : Hid (∀ w, Calls Tryd.prog 19 #[.int .i64 part] w fun e w' => e = .returned (.int .i64 pl) ∧ w = w') := by
    intro w; rw [hpl.out]; exact refplace_any part w
  obtain ⟨b5, hb5⟩ := nm w.heap.size
  obtain ⟨w0, hw0⟩ := nm (w.alloc (.cells #[.int .i64 part, .int .i64 z, .string s, .bool raw] 33))
  have hB00 : Below w.heap.size w w0 := by rw [hw0.out]; exact bOld _
  have HB00 := Lib.hid hB00
  have hblk : Blk w0 b5 #[.int .i64 part, .int .i64 z, .string s, .bool raw] 33 := by rw [hw0.out, hb5.out]; exact Blk.new w _ _
  have HP : Hid (∀ wx, Below w0.heap.size w0 wx → wx.cell? ⟨b5, 0, none⟩ = some (.int .i64 part) ∧ wx.cell? ⟨b5, 1, none⟩ = some (.int .i64 z) ∧ wx.cell? ⟨b5, 2, none⟩ = some (.string s) ∧ wx.cell? ⟨b5, 3, none⟩ = some (.bool raw)) := by
    intro wx hx
    have h := Blk.below hblk hx hblk.lt
    exact ⟨h.cell 0, h.cell 1, h.cell 2, h.cell 3⟩
  have HTAB : Hid (∀ wx, Below w0.heap.size w0 wx → Tab wx) := fun wx hx => ht.below (bNext hB00 hx)
  have HAT0 : Hid (∀ wx, Below w0.heap.size w0 wx → SlAt wx ao (zs.map (Value.int .i64))) := fun wx hx => HAT.out.below (bNext hB00 hx)
  have HAP0 : Hid (∀ wx, Below w0.heap.size w0 wx → SlP wx ap l) := fun wx hx => hap.below (bNext hB00 hx)
  clear hl hl2 hlc hlc2 hcm2 hat hap ht hblk hB00 hcut HAT hwf0 hwf2
  go_enter Tryd.func4, Tryd.ntmps4
  go_wp2_with fail
  rw [← hw0.out, ← hb5.out]
  refine (awake_any _).mono ?_; rintro e w1 ⟨rfl, hB1⟩
  have HB1 := Lib.hid hB1
  clear hB1
  go_wp2_with fail
  refine (few_any ao len cap HL0.out _).mono ?_; rintro e w2 ⟨rfl, rfl⟩
  rw [← hN.out]
  go_wp2_with fail
  refine (refnew_any ao zs N cap hzl (by omega) R0 M0 (hidSymm hR0) (hidSymm hM0) _ (HAT0.out _ HB1.out)).mono ?_; rintro e w3 ⟨ar, capr, rfl, hsr, hB3⟩
  have HB3 := Lib.hid (bNext HB1.out hB3)
  have HSR := Lib.hid hsr
  clear hB3 hsr
  obtain ⟨p0, p1, p2, p3⟩ := HP.out _ HB3.out
  go_upto_if 20 with fail
  go_cut [8] (fun v wx => (∃ ar cr, v = .slice ar M cr ∧ SlP wx ar R) ∧ Below w0.heap.size w0 wx)
  case first =>
    cases raw
    · have e : R0 = R := by rw [hR.out]; simp
      subst e
      obtain rfl : M0 = M := by rw [hM.out, hM0.out]
      go_wp2_with fail
      go_meet
      exact ⟨⟨_, _, rfl, HSR.out⟩, HB3.out⟩
    · have e : A = R := by rw [hR.out]; simp
      subst e
      obtain ⟨i0, hi, hz0, hz1, hz2⟩ := info_parts infoD
      clear HSR HP HTAB HAT0 HPL HRPL HWF p0 p1 p2
      go_wp2_with fail
      go_loopw [8, 9] (fun v i wr => ∃ k : Nat, k ≤ n2 ∧ k ≤ 20 ∧ i = .int .i64 (k : Int) ∧ OwnP wr w3.heap.size 35 v ((l.take k).map low16) ∧ Below w3.heap.size w3 wr) (fun _ i _ => 20 - (intOf i).toNat)
      case atStart => exact ⟨0, by omega, by omega, rfl, OwnP.nil _ _ _, Below.refl _ _⟩
      case round =>
        obtain ⟨k, hk, hk20, rfl, hown, hB⟩ := hrel
        by_cases hlt : k < n2 ∧ k < 20
        · obtain ⟨hlt, hlt20⟩ := hlt
          obtain ⟨b, off, u, v, rfl, hbl, c0, c1, hpk⟩ := (HAP0.out _ HB3.out).get k (by rw [HN2.out]; exact hlt)
          have d0 : wr.cell? ⟨b, off + k * 2, none⟩ = some (.int .i64 u) := (hB.cell (p := ⟨b, off + k * 2, none⟩) hbl).trans c0
          have d1 : wr.cell? ⟨b, off + k * 2 + 1, none⟩ = some (.int .i64 v) := (hB.cell (p := ⟨b, off + k * 2 + 1, none⟩) hbl).trans c1
          clear c0 c1
          obtain ⟨y, hy⟩ := nm (bits .and .i64 u 65535)
          have hNL : Hid ((l.take (k + 1)).map low16 = (l.take k).map low16 ++ [(y, v)]) := by
            show _ = _
            rw [take_snocP hpk.out, List.map_append, hy.out]; rfl
          obtain ⟨L, hL⟩ := nm ((l.take k).map low16)
          have hLl : L.length ≤ k := by rw [hL.out, List.length_map, List.length_take]; omega
          rw [← hL.out] at hown hNL
          have hz1' : bits .and .i64 u 65535 = y := hy.out.symm
          go_wp2_with fail
          have hks := hB.size
          have hne : ∀ kk, kk < w3.heap.size → Value.ownBlock _ ≠ some kk := fun kk hk e => absurd (World.ownsRow.lt hown kk e).1 (Nat.not_le.2 hk)
          have hneb := hne b hbl
          have hblr : b < wr.heap.size := by omega
          have hki0 : (0 : Int) ≤ (k : Int) := by omega
          have hki1 : (k : Int) < (n2 : Int) := by omega
          go_region_held3 (fun w' => w'.cell? ⟨b, off + k * 2, none⟩ = some (.int .i64 u) ∧ w'.cell? ⟨b, off + k * 2 + 1, none⟩ = some (.int .i64 v))
            (first
              | go_keep
              | (go_split_ands
                 refine ⟨?_, ?_⟩
                 · (rw [hgrow.cell_far _ (by simp; omega) (Ne.symm hneb)]; assumption)
                 · (rw [hgrow.cell_far _ (by simp; omega) (Ne.symm hneb)]; assumption)))
            ((refine step_append_lies _ (by rfl) _ _ _ (by rfl) w3.heap.size 35 i0 _ 2 16 Tryd.underlying24 hi hz0 hz1 hz2 rfl (by decide) _ L.length (flatD L) (by rfl) ((World.ownsRow.alloc hown _).drew)
                ⟨wr.heap.size, 0, none⟩ 1 1 [.int .i64 y, .int .i64 v] (by rfl) (by rfl) (World.news_of_block (cs := #[.int .i64 y, .int .i64 v]) (t := 35) (fr := (0, 0)) (heap_alloc_new wr _)) (by simp [Value.oneCell'])
                (by decide) (by unfold maxLen; omega) (by omega) (by simp; omega) (wr.heap.size + 1) (by simp) ?_; intro gg cap2 w2 hown2 hgrow hat hlt2))
          have hB2 : Below w3.heap.size w3 w2 := (below_drewN (bNew hB _) 1).grown hgrow (by simp; omega) (fun kk h => (World.ownsRow.lt hown kk h).1)
          replace hown2 : OwnP w2 w3.heap.size 35 (.slice (some ⟨gg, 0, none⟩) (L.length + 1) cap2) ((l.take (k + 1)).map low16) := by
            rw [hNL.out]
            show w2.ownsRow _ _ _ _ _ _
            rw [List.length_append, flatD_append]
            exact hown2
          clear hown hgrow hB d0 d1 hz1' hne hneb
          go_wp2_with fail
          go_roundw
          case rel => exact ⟨k + 1, by omega, by omega, by go_num, hown2, hB2⟩
          case measure => simp [intOf]; omega
        · have e : (l.take k).map low16 = A := by
            rw [hA.out]
            rcases Nat.lt_or_ge k 20 with h | h
            · rw [List.take_of_length_le (by rw [HN2.out]; omega), List.take_of_length_le (by rw [HN2.out]; omega)]
            · rw [show k = 20 from by omega]
          rw [e] at hown
          clear e
          obtain ⟨am, cm, rfl, hcm, hcmm, hslm, _⟩ := hown.sl
          rw [← hM.out]
          go_wp2_with fail
          all_goals
            go_meet
            exact ⟨⟨_, _, rfl, hslm⟩, bNext HB3.out hB⟩
  obtain ⟨⟨ar2, cr2, rfl, hsr2⟩, hB4⟩ := hcut
  have HSR2 := Lib.hid hsr2
  have HB4 := Lib.hid hB4
  clear HSR HB3 HB1 p0 p1 p2 p3 hsr2 hB4 HAT0 HAP0
  obtain ⟨p0, p1, p2, p3⟩ := HP.out _ HB4.out
  go_upto_if 50 with fail
  go_cut [10] (fun s10 wx => s10 = .string S ∧ wx = wc)
  case first =>
    rcases HCUT.out with ⟨h1, h2⟩ | ⟨h1, h2⟩
    · have H2 := Lib.hid h2
      have hd : decide (60 < s.size) = true := decide_eq_true h1
      clear h2
      go_wp2_with fail
      go_meet
      exact ⟨by rw [← H2.out], rfl⟩
    · have H2 := Lib.hid h2
      have hd : decide (60 < s.size) = false := decide_eq_false h1
      clear h2
      go_wp2_with fail
      go_meet
      exact ⟨by rw [← H2.out], rfl⟩
  obtain ⟨rfl, hwc⟩ := hcut
  obtain rfl := hwc.symm
  go_wp2_with fail
  refine (refowners_any ar2 R M cr2 (hidSymm hM) (by omega) part z O J (hidSymm hO) (hidSymm hJ) _ HSR2.out).mono ?_; rintro e w5 ⟨a5, c5, rfl, hc5, hs5, hB5⟩
  rw [← hQ.out] at hs5
  have HB5 := Lib.hid (bNext HB4.out hB5)
  have HSR5 := Lib.hid (HSR2.out.below hB5)
  have HS5 := Lib.hid hs5
  clear hB5 hs5 p0 p1 p2 p3
  obtain ⟨p0, p1, p2, p3⟩ := HP.out _ HB5.out
  go_upto_if 63 with fail
  go_cut [12] (fun v wx => (∃ id : Int, v = .int .i64 id) ∧ wx = w5)
  case first =>
    clear HPL HRPL HTAB HWF
    rcases Nat.eq_zero_or_pos J with hJ0 | hJ0
    · obtain rfl := hJ0
      go_wp2_with fail
      go_meet
      exact ⟨⟨_, rfl⟩, rfl⟩
    · obtain ⟨t, rfl⟩ : ∃ t, J = t + 1 := ⟨J - 1, by omega⟩
      obtain ⟨b, off, rfl, hbl, d0⟩ := SlAt.int' HS5.out t (by rw [hQl.out]; omega)
      have hti : (0 : Int) < (t : Int) + 1 := by omega
      go_wp2_with fail
      go_meet
      exact ⟨⟨_, rfl⟩, rfl⟩
  obtain ⟨⟨id, rfl⟩, hwc⟩ := hcut
  obtain rfl := hwc.symm
  have hBd : Below w5.heap.size w5 w5.drew := below_drewN (Below.refl _ _) 1
  clear p1 p2 p3
  go_wp2_with fail
  go_region_held3 (fun w' => w'.cell? ⟨b5, 0, none⟩ = some (.int .i64 part)) (first | assumption | go_keep)
    (first
      | (go_at_call 14; (refine (order_any ar2 R M cr2 (hidSymm hM) (by omega) HWF part O K (hidSymm hO) (hidSymm hK) _ (HSR5.out.below hBd)).mono ?_); rintro e wa ⟨aa, ca, rfl, hca, hsa, hBa⟩; have hBa2 := bNext hBd hBa; have ga := (HP.out _ (bNext HB5.out hBa2)).1)
      | (go_at_call 15; (refine (reforder_any ar2 R M cr2 (hidSymm hM) (by omega) part O K (hidSymm hO) (hidSymm hK) _ (HSR5.out.below hBa2)).mono ?_); rintro e wb ⟨ab, cb, rfl, hcb, hsb, hBb⟩; have hBb2 := bNext hBa2 hBb; have gb := (HP.out _ (bNext HB5.out hBb2)).1)
      | (go_at_call 10; (refine (sameI_true aa ab ca cb O K (hidSymm hK) (by omega) _ (hsa.below hBb) hsb).mono ?_); rintro e wc ⟨rfl, q6, rfl⟩))
  obtain ⟨w6, hw6⟩ := nm (wb.drewN q6)
  have hB56 : Below w5.heap.size w5 w6 := by rw [hw6.out]; exact below_drewN hBb2 q6
  rw [← hw6.out]
  have HB6 := Lib.hid (bNext HB5.out hB56)
  have HSR6 := Lib.hid (HSR5.out.below hB56)
  have HS6 := Lib.hid (HS5.out.below hB56)
  clear hBd hBa hBa2 hBb hBb2 ga gb hsa hsb hw6 hB56 p0
  obtain ⟨p0, p1, _, _⟩ := HP.out _ HB6.out
  go_wp2_with fail
  refine (owners_any ar2 R M cr2 (hidSymm hM) (by omega) HWF part z hz O J (hidSymm hO) (hidSymm hJ) _ HSR6.out).mono ?_; rintro e w7 ⟨a7, c7, rfl, hc7, hs7, hB7⟩
  rw [← hQ.out] at hs7
  have HB7 := Lib.hid (bNext HB6.out hB7)
  have HSR7 := Lib.hid (HSR6.out.below hB7)
  have HS7 := Lib.hid (HS6.out.below hB7)
  have HSA := Lib.hid hs7
  clear hB7 hs7
  go_wp2_with fail
  refine (sameI_true a7 a5 c7 c5 Q J hQl (by omega) _ HSA.out HS7.out).mono ?_; rintro e w8 ⟨rfl, q8, rfl⟩
  obtain ⟨w8, hw8⟩ := nm (w7.drewN q8)
  have hB78 : Below w7.heap.size w7 w8 := by rw [hw8.out]; exact below_drewN (Below.refl _ _) q8
  rw [← hw8.out]
  have HB8 := Lib.hid (bNext HB7.out hB78)
  have HSR8 := Lib.hid (HSR7.out.below hB78)
  have HS8 := Lib.hid (HS7.out.below hB78)
  clear hw8 hB78 HSA HSR7 HS7 HSR6 HS6 HSR5 HS5 HSR2 HB4 HB5 HB6 HB7 p0 p1
  obtain ⟨p0, p1, _, _⟩ := HP.out _ HB8.out
  have hBd : Below w8.heap.size w8 w8.drew := below_drewN (Below.refl _ _) 1
  obtain ⟨r1, hr1⟩ := nm (decide (id ∈ Q))
  obtain ⟨r2, hr2⟩ := nm (decide (part ∈ Q))
  have ho1 : Hid (r1 = decide (id ∈ O.take (min z.toNat O.length))) := by show _ = _; rw [hr1.out, hQ.out, hJ.out]
  have ho2 : Hid (r2 = decide (part ∈ O.take (min z.toNat O.length))) := by show _ = _; rw [hr2.out, hQ.out, hJ.out]
  go_wp2_with fail
  go_region_held3 (fun w' => w'.cell? ⟨b5, 0, none⟩ = some (.int .i64 part) ∧ w'.cell? ⟨b5, 1, none⟩ = some (.int .i64 z)) (first | assumption | go_keep)
    (first
      | (go_at_call 16; with_reducible (refine (owns_any ar2 R M cr2 (hidSymm hM) (by omega) HWF part z id hz O (hidSymm hO) r1 ho1 _ (HSR8.out.below hBd)).mono ?_); rintro e wa ⟨rfl, hBa⟩; have hBa2 := bNext hBd hBa; obtain ⟨ga0, ga1, _, _⟩ := HP.out _ (bNext HB8.out hBa2))
      | (go_at_call 17; with_reducible (refine (refhas_any a5 Q J c5 hQl (by omega) id r1 hr1 _ (HS8.out.below hBa2)).mono ?_); rintro e wa1 ⟨rfl, rfl⟩)
      | (go_at_call 16; with_reducible (refine (owns_any ar2 R M cr2 (hidSymm hM) (by omega) HWF part z part hz O (hidSymm hO) r2 ho2 _ (HSR8.out.below hBa2)).mono ?_); rintro e wb ⟨rfl, hBb⟩; have hBb2 := bNext hBa2 hBb; obtain ⟨gb0, gb1, _, _⟩ := HP.out _ (bNext HB8.out hBb2); have hTb := HTAB.out _ (bNext HB8.out hBb2))
      | (go_at_call 17; with_reducible (refine (refhas_any a5 Q J c5 hQl (by omega) part r2 hr2 _ (HS8.out.below hBb2)).mono ?_); rintro e wb1 ⟨rfl, rfl⟩)
      | (go_at_call 8; (refine (part_any S P hP (by omega) _ hTb).mono ?_); rintro e wb2 ⟨rfl, rfl⟩)
      | (go_at_call 18; (refine (refpart_any S P hP (by omega) _).mono ?_); rintro e wb3 ⟨rfl, rfl⟩)
      | (go_at_call 11; (refine (HPL.out _).mono ?_); rintro e wb4 ⟨rfl, rfl⟩)
      | (go_at_call 19; (refine (HRPL.out _).mono ?_); rintro e wb5 ⟨rfl, rfl⟩)
      | (go_at_call 20; (refine (majority_any z mj hmj hz _).mono ?_); rintro e wb6 ⟨rfl, rfl⟩)
      | (go_at_call 21; (refine (refmajority_any z mj hmj hz _).mono ?_); rintro e wb7 ⟨rfl, rfl⟩))
  go_wp2_with fail
  go_ret
  exact ⟨rfl, bNext HB00.out (bNext HB8.out hBb2)⟩
namespace LRingTells
open Go.ChangeShapes Go.WideShapes Go.ChangeAt
open Go.ChangeMaps (open_string shut_string)

set_option maxRecDepth 100000 in
theorem contract (H : Type) (enc : TypeId × Value → H) (W : World) (base : Nat) (args : Array Value) (ds gs : List (DataW H)) (before : List MemPlace)
    (hval : ∀ (j : Nat) t v, Tryd.f4.params[j]? = some t → args[j]? = some v → Value.okWide Tryd.prog W .any base t v)
    (hW : DataW.Whole enc Tryd.prog Tryd.f4.params.toList Rows.ringTellsSpec.vars false W args.toList ds gs before)
    (hL : laidMetH Tryd.prog Rows.ringTellsRow.laid W)
    (_hsz : (DataW.weightsEach Tryd.prog (Tryd.f4.params.toList ++ (OpenSpec.ofChange Rows.ringTellsSpec).bare.plain.varTypes Tryd.prog) (ds ++ gs)).all (fun x => decide (x ≤ reachBytes)) = true) :
    Calls Tryd.prog 4 args W fun e W' => ∃ v, e = .returned v ∧ Rows.ringTellsSpec.post enc Tryd.prog Tryd.f4 false true false false W args v W' := by
  have hW' := hW
  obtain ⟨p, q, hA0, hV, rfl, hfz, hnd⟩ := hW
  have hA : DataW.TrodAll enc Tryd.prog W 0 (fun _ => true) true Tryd.f4.params.toList args.toList ds p := hA0
  rw [Tryd.params4] at hA hval
  obtain ⟨v0, vs0, d0, ds0, p0, q0, hargs, rfl, rfl, h0, r0⟩ := trodAll_cons hA
  obtain ⟨v1, vs1, d1, ds1, p1, q1, rfl, rfl, rfl, h1, r1⟩ := trodAll_cons r0
  obtain ⟨v2, vs2, d2, ds2, p2, q2, rfl, rfl, rfl, h2, r2⟩ := trodAll_cons r1
  obtain ⟨rfl, rfl, rfl⟩ := trodAll_nil r2
  obtain rfl : args = #[v0, v1, v2] := by cases args; simp_all
  obtain ⟨rfl, rfl⟩ := trodVars_none hV
  obtain ⟨ao0, len0, cap0, ss0, rfl, hl0, hlc0, hcm0, hat0, wf0⟩ := open_ints2 Tryd.underlying22 Tryd.underlying3 (show Tryd.prog.cellsOf 3 = 1 by kernel_rfl) h0 (okWide_slice Tryd.underlying22 (hval 0 22 v0 rfl rfl))
  obtain ⟨ao1, len1, cap1, l1, rfl, hl1, hlc1, hcm1, hat1, hbd1⟩ := open_pairs Tryd.underlying24 Tryd.underlying35 (show Tryd.prog.cellsOf 35 = 2 by kernel_rfl) ⟨rfl, rfl⟩ ⟨rfl, rfl⟩ Tryd.underlying3 (show Tryd.prog.cellsOf 3 = 1 by kernel_rfl) h1 (okWide_slice Tryd.underlying24 (hval 1 24 v1 rfl rfl))
  obtain ⟨c0, c1, c2, c3, y0, y1, y2, y3, m2, rfl, rfl, rfl, hy0, hy1, hy2, hy3⟩ := Joins.open_agg4 Tryd.underlying33 (by kernel_rfl) (show Tryd.prog.cellsOf 33 = 4 by kernel_rfl) (hval 2 33 v2 rfl rfl) h2
  obtain ⟨z2_0, e0, _, wf2_0⟩ := DataW.trod_int Tryd.underlying3 hy0
  obtain ⟨z2_1, e1, _, wf2_1⟩ := DataW.trod_int Tryd.underlying3 hy1
  obtain ⟨z2_2, e2, _, wf2_2⟩ := DataW.trod_string Tryd.underlying9 hy2
  obtain ⟨z2_3, e3, _⟩ := DataW.trod_bool Tryd.underlying4 hy3
  simp at e0 e1 e2 e3
  subst e0 e1 e2 e3
  clear hA0
  refine (ringTells_walk ao0 ss0 len0 cap0 hl0 hlc0 wf0 ao1 l1 len1 cap1 hl1 hlc1 hcm1 (fun p hp => wf64 (hbd1 p hp).2.2) z2_0 z2_1 (le64 wf2_1) z2_2 z2_3 W (tab_of hL) hat0 hat1).mono fun e W' ⟨he, hb⟩ => ?_
  subst he
  exact ⟨_, rfl, law_post laidOut Tryd.underlying4 rfl (by kernel_rfl) rfl rfl rfl rfl hW' hb⟩

theorem reads (os : Os) {H : Type} (enc : TypeId × Value → H) : ∃ places, DataW.whole enc Tryd.prog ((laidWorld os).forCall (fun _ _ => 0) ⟨#[], #[.slice none 0 0, .slice none 0 0, .agg #[.int .i64 0, .int .i64 0, .string .empty, .bool false]], []⟩).memory Tryd.f4.params.toList Rows.ringTellsSpec.vars false (#[.slice none 0 0, .slice none 0 0, .agg #[.int .i64 0, .int .i64 0, .string .empty, .bool false]] : Array Value).toList 8 = some ([.nil, .nil, .agg [.lit (.int .i64 0), .lit (.int .i64 0), .lit (.string []), .lit (.bool false)]], [], places) :=
  ⟨[], by kernel_rfl⟩
theorem laid_met (os : Os) : laidMet Tryd.prog Rows.ringTellsRow.laid ((laidWorld os).forCall (fun _ _ => 0) ⟨#[], #[.slice none 0 0, .slice none 0 0, .agg #[.int .i64 0, .int .i64 0, .string .empty, .bool false]], []⟩).memory :=
  laidMet_of_run' 8 (by kernel_rfl) (by kernel_rfl)

set_option maxRecDepth 100000 in
theorem lifted (os : Os) (started : os.Started) (H : Type) (enc : TypeId × Value → H) (F : Stop.Interp) :
    ReturnsInHanded {} Tryd.checked os 4 .any ((OpenSpec.ofChange Rows.ringTellsSpec).preRow enc Tryd.prog Tryd.f4 Rows.ringTellsRow.domain false Rows.ringTellsRow.laid) (((OpenSpec.ofChange Rows.ringTellsSpec).at F).post enc Tryd.prog Tryd.f4 false true false false) := by
  obtain ⟨places, hx⟩ := reads os enc
  refine returnsInHanded_of_row (C := Tryd.checked) (s := OpenSpec.ofChange Rows.ringTellsSpec) own started (by kernel_rfl) Tryd.func4
    (witness_row_at (enc := enc) (C := Tryd.checked) false (laidWorld os) #[.slice none 0 0, .slice none 0 0, .agg #[.int .i64 0, .int .i64 0, .string .empty, .bool false]] rfl (by kernel_rfl) (by kernel_rfl) (by kernel_rfl)
      (OpenSpec.preRow_of_cond 8 hx (by kernel_rfl) (fun k hk => by cases hk) (by kernel_rfl) (laid_met os))) ?_
  intro W base args ds gs before hval hW _ _ hsz hL _ _
  exact contract H enc W base args ds gs before hval hW hL hsz

theorem said : Rows.RingTellsSaid :=
  OpenClaim.holds_of_cond 4 Tryd.f4 rfl rfl rfl rfl rfl rfl rfl ⟨rfl, rfl, rfl, rfl, rfl⟩ rfl rfl rfl rfl rfl (by kernel_rfl) Tryd.func4 (by kernel_rfl)
    (of_decide_eq_true (by kernel_rfl)) (by unfold Func.isWrapper; first | (rw [if_pos (by decide +kernel)]; kernel_rfl) | (rw [if_neg (by decide +kernel)]; exact ⟨rfl, rfl⟩))
    (fun os started H enc _ F => by rw [OpenClaim.pre_eq_preRow]; exact lifted os started H enc F)

theorem plain (f : FuncId) (fn : Func) (hf : Tryd.pinned.checked.prog.funcNamed "caravan/caravanlaw08.RingTells" = some f) (hfn : Tryd.pinned.checked.prog.funcs[f]? = some fn) :
    false = Tryd.pinned.checked.prog.looks [] ∧ ∀ (j : Nat) t, fn.params[j]? = some t → Tryd.pinned.checked.prog.wantsStandIn t = false := by
  obtain rfl : f = 4 := Option.some.inj ((show Tryd.prog.funcNamed "caravan/caravanlaw08.RingTells" = some 4 by kernel_rfl).symm.trans hf) |>.symm
  obtain rfl : fn = Tryd.f4 := (Option.some.inj (Tryd.func4.symm.trans hfn)).symm
  refine ⟨by kernel_rfl, fun j t ht => ?_⟩
  have hm : t ∈ Tryd.f4.params.toList := Array.mem_toList_iff.2 (Array.mem_of_getElem? ht)
  have hall : (Tryd.f4.params.toList.all fun t => Tryd.prog.wantsStandIn t == false) = true := by kernel_rfl
  have := List.all_eq_true.1 hall t hm
  exact (show Tryd.prog.wantsStandIn t = false by simpa using this)

theorem card : Rows.RingTellsCardSaid :=
  Claim7.holds_tied_plain_at .later [] _ _ _ _ said (fun _ h => by cases h) (by kernel_rfl) (fun _ h => by cases h) ringTells_row_tie rfl ⟨rfl, rfl⟩ (by kernel_rfl) rfl plain (by kernel_rfl)
end LRingTells
end Go.Proofs.YtmmfbeeeamcooaaDoor
