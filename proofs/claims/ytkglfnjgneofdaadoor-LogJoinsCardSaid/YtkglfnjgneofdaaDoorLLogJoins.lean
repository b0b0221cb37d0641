/- LogJoins: for every row of records the law returns true (the table of four doublings lying in its variable as the program's text lays it). -/
import Derived.Test.YtkglfnjgneofdaaDoorLogC
import Derived.Test.YtkglfnjgneofdaaDoorCards
import Derived.Test.YtkglfnjgneofdaaDoorTie
namespace Go.Proofs.YtkglfnjgneofdaaDoor
open Go.RowKit

theorem open_new : (Dk.new 1000).open = (⟨⟨#[]⟩, ⟨#[]⟩, 1000, 1, true, false, 0⟩, 0) := by kernel_rfl

set_option maxRecDepth 100000 in
set_option maxHeartbeats 8000000 in
theorem logJoins_walk (ao : Option Addr) (len cap : Nat) (ss : List ByteArray) (hl : ss.length = len) (w : World) (ht : Tab w) (hat : SlAt w ao (ss.map Value.string)) :
    Calls Tryd.prog 5 #[.slice ao len cap] w fun e w' => e = .returned (.bool true) ∧ Below w.heap.size w w' := by
  have HT : Hid (Tab w) := ht
  have HAT := Lib.hid hat
  have HL := Lib.hid hl
  clear ht hat hl
  obtain ⟨rs, hrs⟩ := nm (cut20 10 ss)
  have hr20 : ∀ r ∈ rs, r.size ≤ 20 := by rw [hrs.out]; exact cut20_le 10 ss
  have hrl : rs.length = min 10 len := by rw [hrs.out, cut20_len, HL.out]
  have HR := Lib.hid hr20
  have HRL := Lib.hid hrl
  clear hr20 hrl
  have hf0 : (Dk.new 1000).Fit := ⟨by decide, by decide, by decide⟩
  obtain ⟨i0, hi, hz0, hz1, hz2⟩ := info_parts infoStr
  go_enter Tryd.func5, Tryd.ntmps5
  go_wp2_with fail
  refine (awake_any _ HT.out).mono ?_; rintro e w1 ⟨rfl, hB⟩
  go_wp2_with fail
  refine (dnew2_any 1000 _ (by decide) (by decide)).mono ?_; rintro e w2 ⟨b1, rfl, hb1, hd1, hB1⟩
  replace hb1 := Nat.le_trans hB.size hb1
  replace hB := bNext hB hB1; clear hB1
  have hbl1 := hd1.lt
  go_wp2_with fail
  refine (dnew2_any 1000 _ (by decide) (by decide)).mono ?_; rintro e w3 ⟨b2, rfl, hb2, hd2, hB1⟩
  have hne12 : b1 ≠ b2 := by omega
  have hd1' : IsDk w3 b1 (Dk.new 1000) := Blk.below hd1 hB1 hbl1
  replace hb2 := Nat.le_trans hB.size hb2
  replace hB := bNext hB hB1; clear hB1 hd1
  go_wp2_with fail
  refine (lopen_ok b1 _ _ [] 0 w _ hb1 hB hd1' hf0 HT.out open_new (by kernel_rfl) (by kernel_rfl)).mono ?_; rintro e w4 ⟨g1, ao1, cap1, rfl, hL1, -, -, -, hg1, hk⟩
  have hd2' : IsDk w4 b2 (Dk.new 1000) := hk.blk hd2 (Ne.symm hne12)
  have hbl2 := hd2.lt
  have hgb2 : g1 ≠ b2 := by omega
  clear hd2 hk hB hd1'
  go_wp2_with fail
  refine (lopen_ok b2 _ _ [] 0 w _ hb2 hL1.old hd2' hf0 HT.out open_new (by kernel_rfl) (by kernel_rfl)).mono ?_; rintro e w5 ⟨g2, ao2, cap2, rfl, hL2, -, -, -, hg2, hk⟩
  have hgl1 := hL1.il.lt
  have hgg : g1 ≠ g2 := by omega
  have hbg : b1 ≠ g2 := by have := hL1.id.lt; omega
  replace hL1 : LD w w5 g1 b1 ⟨0, 0, false⟩ ⟨⟨#[]⟩, ⟨#[]⟩, 1000, 1, true, false, 0⟩ := hL1.apart (hk.right g2) hgg hgb2 hbg hne12 hL2.lg hb2
  replace hL2 : LD w w5 g2 b2 ⟨0, 0, false⟩ ⟨⟨#[]⟩, ⟨#[]⟩, 1000, 1, true, false, 0⟩ := hL2
  clear hk hd2' hf0 hbl1 hbl2 hgl1
  have hlt1 := hL1.il.lt
  have hlt2 := hL1.id.lt
  have hlt3 := hL2.il.lt
  have hlt4 := hL2.id.lt
  obtain ⟨B, hBB⟩ := nm w5.heap.size
  rw [← hBB.out] at hlt1 hlt2 hlt3 hlt4
  have hwB : w.heap.size ≤ B := by rw [hBB.out]; exact hL1.old.size
  have hB5 : B ≤ w5.heap.size := by rw [hBB.out]; exact Nat.le_refl _
  go_wp2_with fail
  go_loopw [12, 13] (fun v i wr => ∃ (k : Nat), k ≤ 10 ∧ k ≤ len ∧ i = .int .i64 (k : Int) ∧ wr.ownsRow B 9 1 v k ((rs.take k).map Value.string) ∧ B ≤ wr.heap.size ∧
    LD w wr g1 b1 ⟨k, (recB (rs.take k)).size, false⟩ ⟨⟨#[]⟩, recB (rs.take k), 1000, 1 + k, true, false, 0⟩ ∧ LD w wr g2 b2 ⟨0, 0, false⟩ ⟨⟨#[]⟩, ⟨#[]⟩, 1000, 1, true, false, 0⟩) (fun _ i _ => 10 - (intOf i).toNat)
  case atStart => exact ⟨0, by omega, by omega, rfl, ⟨by simp, .inl ⟨rfl, rfl⟩⟩, hB5, hL1, hL2⟩
  case round =>
    clear hL1 hL2 hB5
    obtain ⟨k, hk1, hk2, rfl, hown, hB5, hL1, hL2⟩ := hrel
    have hrtl : (rs.take k).length = k := by rw [List.length_take, HRL.out]; omega
    have hR1 : (recB (rs.take k)).size ≤ 23 * k := by
      have := recB_size (rs.take k) (fun r hr => HR.out r (List.mem_of_mem_take hr))
      rwa [hrtl] at this
    by_cases hlt : k < len ∧ k < 10
    · obtain ⟨hlt1', hlt2'⟩ := hlt
      obtain ⟨b0, off, rfl, hb0, hcell⟩ := SlAt.str HAT.out k (by rw [HL.out]; exact hlt1')
      obtain ⟨x, hx⟩ := nm (ss[k]'(by rw [HL.out]; exact hlt1'))
      rw [← hx.out] at hcell
      have hcx : wr.cell? ⟨b0, off + k, none⟩ = some (.string x) := (hL1.old.cell (p := ⟨b0, off + k, none⟩) hb0).trans hcell
      clear hcell
      obtain ⟨y, hy⟩ := nm (cutB x 20)
      have hys : y.size ≤ 20 := by rw [hy.out]; exact cutB_le x 20
      have hnx : rs.take (k + 1) = rs.take k ++ [y] := by
        have hkl : k < rs.length := by rw [HRL.out]; omega
        rw [List.take_succ_eq_append_getElem hkl]
        congr 2
        rw [hy.out, hx.out]
        simp only [hrs.out]
        exact cut20_get 10 ss k (by rw [← hrs.out]; exact hkl) (by rw [HL.out]; exact hlt1')
      have hrec : recB (rs.take (k + 1)) = recB (rs.take k) ++ recB [y] := by rw [hnx, recB_append]
      have hy1 : (recB [y]).size ≤ 23 := recB_size [y] (fun r hr => by rw [List.mem_singleton.1 hr]; exact hys)
      have hadd : (Lg.mk k (recB (rs.take k)).size false).add ⟨⟨#[]⟩, recB (rs.take k), 1000, 1 + k, true, false, 0⟩ [y] = (⟨(k + 1 : Nat), (recB (rs.take (k + 1))).size, false⟩, ⟨⟨#[]⟩, recB (rs.take (k + 1)), 1000, 1 + (k + 1 : Nat), true, false, 0⟩, 0) := by
        rw [add_fine _ _ _ _ _ _ _ [y] (fun r hr => by rw [List.mem_singleton.1 hr]; omega) (by simp) (by rw [nil_size]; omega), hrec, app_size]
        simp only [List.length_singleton, Int.natCast_add]
        congr 2
      have HADD := Lib.hid hadd
      have HNX := Lib.hid hnx
      clear hadd hnx hrec
      obtain ⟨Lk, hLk⟩ := nm ((rs.take k).map Value.string)
      rw [← hLk.out] at hown
      go_wp2_with fail
      refine (short_any x 20 _ (by decide)).mono ?_; rintro e w6 ⟨rfl, rfl⟩
      rw [← hy.out]
      go_wp2_with fail
      have hLa := hL1.alloc (.cells #[.string y] 9)
      refine (ladd_any g1 b1 _ _ _ 1 [y] _ hLa.il hLa.id hLa.ne (by simp) (fun r hr => by rw [List.mem_singleton.1 hr]; omega) (fit_of (by rw [nil_size]; omega) (by omega) (by omega)) (by simp only; omega) (by simp only; omega) (HT.out.below hLa.old) (SlAt.newRow _ _ _)).mono ?_
      rintro e w7 ⟨rfl, h1, h2, hk⟩
      rw [HADD.out] at h1 h2 ⊢
      have hL1' := hLa.next h1 h2 hk
      have hL2' := (hL2.alloc (.cells #[.string y] 9)).apart hk (Ne.symm hgg) (Ne.symm hbg) (Ne.symm hgb2) (Ne.symm hne12) hL1.lg hL1.lb
      have hown' := own_kept2 (hown.alloc (.cells #[.string y] 9)) hk hlt1 hlt2
      have hB7 : B ≤ w7.heap.size := Nat.le_trans hB5 (Nat.le_trans (by simp) hk.size)
      clear hLa h1 h2 hk hown hL1 hL2 hcx hB5
      go_wp2_with (at_builtin; refine wpList_append_lies _ rfl _ _ 24 rfl B 9 i0 (.string .empty) 1 16 Tryd.underlying24 hi hz0 hz1 hz2 rfl (by decide) _ k _ rfl (hown'.alloc _) ⟨w7.heap.size, 0, none⟩ 1 1 [.string y] rfl rfl (World.news_of_block (heap_alloc_new w7 _)) (by simp [Value.oneCell']) (by decide) (by unfold maxLen; omega) (by omega) (Nat.le_trans hB7 (by simp)) _ rfl ?_)
      intro g cap2 w8 hown2 hgrow _ _
      have hL1'' := hL1'.grown hgrow (fun k hk => (hown'.lt k hk).1) hlt1 hlt2 hwB
      have hL2'' := hL2'.grown hgrow (fun k hk => (hown'.lt k hk).1) hlt3 hlt4 hwB
      have hB8 : B ≤ w8.heap.size := Nat.le_trans hB7 (Nat.le_trans (by simp) hgrow.size)
      have hown3 : w8.ownsRow B 9 1 (.slice (some ⟨g, 0, none⟩) (k + 1) cap2) (k + 1) ((rs.take (k + 1)).map Value.string) := by
        rw [HNX.out, List.map_append, ← hLk.out]; exact hown2
      clear hown' hown2 hgrow hL1' hL2'
      go_wp2_with fail
      go_roundw
      case rel => exact ⟨k + 1, by omega, by omega, by go_num, hown3, hB8, hL1'', hL2''⟩
      case measure => simp [intOf]; omega
    · have hall : rs.take k = rs := List.take_of_length_le (by rw [HRL.out]; omega)
      rw [hall] at hown hrtl hR1 hL1
      obtain ⟨ao3, cap3, rfl, hcap3, hsl, hnew⟩ := SlAt.ownN (xs := rs.map Value.string) (by rw [List.length_map, hrtl]; exact hown)
      rw [List.length_map] at hcap3
      have hkz : k = rs.length := hrtl.symm
      clear hown hrtl
      subst hkz
      rw [List.length_map]
      have hr8 : ∀ r ∈ rs, r.size ≤ 8000 := fun r hr => by have := HR.out r hr; omega
      obtain ⟨S, hS⟩ := nm (recB rs)
      rw [← hS.out] at hR1 hL1
      have hadd : (Lg.mk 0 0 false).add ⟨⟨#[]⟩, ⟨#[]⟩, 1000, 1, true, false, 0⟩ rs = (⟨rs.length, S.size, false⟩, (if rs = [] then ⟨⟨#[]⟩, ⟨#[]⟩, 1000, 1, true, false, 0⟩ else ⟨⟨#[]⟩, S, 1000, 2, true, false, 0⟩), 0) := by
        by_cases h0 : rs = []
        · rw [if_pos h0, hS.out, h0]; rfl
        · rw [add_fine _ _ _ _ _ _ _ rs hr8 h0 (by rw [nil_size, ← hS.out]; omega), if_neg h0, ← hS.out, nil_append]
          simp
      obtain ⟨D, hD⟩ := nm (if rs = [] then (⟨⟨#[]⟩, ⟨#[]⟩, 1000, 1, true, false, 0⟩ : Dk) else ⟨⟨#[]⟩, S, 1000, 2, true, false, 0⟩)
      rw [← hD.out] at hadd
      have hDs : D.safe ++ D.tail = S ∧ D.on = true ∧ D.armed = false ∧ D.room = 1000 ∧ D.Fit := by
        rw [hD.out]
        split
        · rename_i h0; rw [hS.out, h0]; exact ⟨rfl, rfl, rfl, rfl, ⟨by decide, by decide, by decide⟩⟩
        · exact ⟨nil_append S, rfl, rfl, rfl, fit_of (by rw [nil_size]; omega) (by decide) (by decide)⟩
      have HADD := Lib.hid hadd
      have O1 := Lib.hid (open_frames ⟨⟨#[]⟩, S, 1000, 1 + rs.length, true, false, 0⟩ rs hr8 (by rw [hS.out]; exact nil_append _) rfl rfl (by show (0 : Int) ≤ 1000; decide))
      have O2 := Lib.hid (open_frames D rs hr8 (by rw [hDs.1, hS.out]) hDs.2.1 hDs.2.2.1 (by rw [hDs.2.2.2.1]; decide))
      have F1 : (Dk.mk ⟨#[]⟩ S 1000 (1 + rs.length) true false 0).Fit := fit_of (by rw [nil_size]; omega) (by omega) (by omega)
      have F2 := hDs.2.2.2.2
      have hD1 := hDs.1
      have HR8 := Lib.hid hr8
      clear hadd hDs hS hD hall hr8
      go_wp2_with fail
      all_goals
        refine (ladd_any g2 b2 _ _ ao3 cap3 rs _ hL2.il hL2.id hL2.ne (by omega) (fun r hr => by have := HR8.out r hr; omega) (fit_of (by decide) (by decide) (by decide)) (by decide) (by decide) (HT.out.below hL2.old) hsl).mono ?_
        rintro e w7 ⟨rfl, h1, h2, hk⟩
        rw [HADD.out] at h1 h2 ⊢
        replace hsl := hsl.above hnew hk.size (fun k h1 h2 => hk.block k h1 (by omega) (by omega))
        replace hL1 := hL1.apart hk hgg hgb2 hbg hne12 hL2.lg hL2.lb
        replace hL2 := hL2.next h1 h2 hk
        have hB7 : B ≤ w7.heap.size := Nat.le_trans hB5 hk.size
        clear h1 h2 hk
        go_wp2_with fail
        refine (lopen_ok b1 _ _ rs _ w _ hL1.lb hL1.old hL1.id F1 HT.out O1.out.1 O1.out.2.1 O1.out.2.2).mono ?_; rintro e w8 ⟨g3, ao4, cap4, rfl, hL3, hc4, hs4, hn4, hg3, hk⟩
        replace hsl := hsl.above hnew hk.size (fun k h1 h2 => hk.block k h1 (by omega))
        replace hL2 := hL2.apart (hk.right g1) (Ne.symm hgg) (Ne.symm hbg) (Ne.symm hgb2) (Ne.symm hne12) hL1.lg hL1.lb
        replace hL1 := hL1.disk hL3.id hk
        clear hk hL3
        go_wp2_with fail
        refine (lopen_ok b2 _ _ rs _ w _ hL2.lb hL2.old hL2.id F2 HT.out O2.out.1 O2.out.2.1 O2.out.2.2).mono ?_; rintro e w9 ⟨g4, ao5, cap5, rfl, hL4, hc5, hs5, hn5, hg4, hk⟩
        replace hsl := hsl.above hnew hk.size (fun k h1 h2 => hk.block k h1 (by omega))
        replace hs4 := hs4.above hn4 hk.size (fun k h1 h2 => hk.block k h1 (by omega))
        replace hL1 := hL1.apart (hk.right g2) hgg hgb2 hbg hne12 hL2.lg hL2.lb
        replace hL2 := hL2.disk hL4.id hk
        clear hk hL4
        go_wp2_with fail
        refine (sametexts_any ao4 ao3 cap4 cap3 rs rs _ (by omega) hs4 hsl).mono ?_; rintro e w10 ⟨rfl, q1, rfl⟩
        replace hsl : SlAt (w9.drewN q1) ao3 (rs.map Value.string) := hsl.below (below_drewN (Below.refl _ _) q1)
        replace hs5 : SlAt (w9.drewN q1) ao5 (rs.map Value.string) := hs5.below (below_drewN (Below.refl _ _) q1)
        replace hL1 := hL1.drewN q1
        replace hL2 := hL2.drewN q1
        go_wp2_with fail
        refine (sametexts_any ao5 ao3 cap5 cap3 rs rs _ (by omega) hs5 hsl).mono ?_; rintro e w11 ⟨rfl, q2, rfl⟩
        rw [show decide (rs = rs) = true from decide_eq_true rfl]
        replace hL1 := hL1.drewN q2
        replace hL2 := hL2.drewN q2
        clear hsl hs4 hs5
        go_wp2_with fail
        rw [World.drewN_drewN] at hL1 hL2
        refine (dbytes_is b1 _ S _ hL1.id (by rw [nil_append, append_nil]) (by omega)).mono ?_; rintro e w12 ⟨rfl, q3, rfl⟩
        replace hL1 := hL1.drewN q3
        replace hL2 := hL2.drewN q3
        rw [World.drewN_drewN] at hL1 hL2
        go_wp2_with fail
        refine (dbytes_is b2 _ S _ hL2.id (by rw [append_nil]; exact hD1) (by omega)).mono ?_; rintro e w12 ⟨rfl, q4, rfl⟩
        replace hL1 := hL1.drewN q4
        replace hL2 := hL2.drewN q4
        rw [World.drewN_drewN] at hL1 hL2
        go_wp2_with fail
        refine (lsize_any g1 b1 _ _ hL1.il).mono ?_; rintro e w12 ⟨rfl, rfl⟩
        go_wp2_with fail
        refine (dbytes_is b1 _ S _ hL1.id (by rw [nil_append, append_nil]) (by omega)).mono ?_; rintro e w12 ⟨rfl, q5, rfl⟩
        replace hL2 := hL2.drewN q5
        rw [World.drewN_drewN] at hL2
        go_wp2_with fail
        refine (llen_any g2 b2 _ _ hL2.il).mono ?_; rintro e w12 ⟨rfl, rfl⟩
        go_wp2_with fail
        go_ret
        exact ⟨rfl, hL2.old⟩

namespace LLogJoins
open Go.ChangeShapes Go.WideShapes Go.ChangeAt
open Go.ChangeMaps (open_string shut_string)

set_option maxRecDepth 100000 in
theorem contract (H : Type) (enc : TypeId × Value → H) (W : World) (base : Nat) (args : Array Value) (ds gs : List (DataW H)) (before : List MemPlace)
    (hval : ∀ (j : Nat) t v, Tryd.f5.params[j]? = some t → args[j]? = some v → Value.okWide Tryd.prog W .any base t v)
    (hW : DataW.Whole enc Tryd.prog Tryd.f5.params.toList Rows.logJoinsSpec.vars false W args.toList ds gs before)
    (hL : laidMetH Tryd.prog Rows.logJoinsRow.laid W)
    (_hsz : (DataW.weightsEach Tryd.prog (Tryd.f5.params.toList ++ (OpenSpec.ofChange Rows.logJoinsSpec).bare.plain.varTypes Tryd.prog) (ds ++ gs)).all (fun x => decide (x ≤ reachBytes)) = true) :
    Calls Tryd.prog 5 args W fun e W' => ∃ v, e = .returned v ∧ Rows.logJoinsSpec.post enc Tryd.prog Tryd.f5 false true false false W args v W' := by
  have hW' := hW
  obtain ⟨p, q, hA0, hV, rfl, hfz, hnd⟩ := hW
  have hA : DataW.TrodAll enc Tryd.prog W 0 (fun _ => true) true Tryd.f5.params.toList args.toList ds p := hA0
  rw [Tryd.params5] at hA hval
  obtain ⟨v0, vs0, d0, ds0, p0, q0, hargs, rfl, rfl, h0, r0⟩ := trodAll_cons hA
  obtain ⟨rfl, rfl, rfl⟩ := trodAll_nil r0
  obtain rfl : args = #[v0] := by cases args; simp_all
  obtain ⟨rfl, rfl⟩ := trodVars_none hV
  obtain ⟨ao0, len0, cap0, ss0, rfl, hl0, _, _, hat0⟩ := open_strs Tryd.underlying24 Tryd.underlying9 (show Tryd.prog.cellsOf 9 = 1 by kernel_rfl) h0 (okWide_slice Tryd.underlying24 (hval 0 24 v0 rfl rfl))
  clear hA0
  refine (logJoins_walk ao0 len0 cap0 ss0 hl0 W (tab_of hL) hat0).mono fun e W' ⟨he, hb⟩ => ?_
  subst he
  exact ⟨_, rfl, law_post laidOut Tryd.underlying4 rfl (by kernel_rfl) rfl rfl rfl rfl hW' hb⟩

theorem reads (os : Os) {H : Type} (enc : TypeId × Value → H) : ∃ places, DataW.whole enc Tryd.prog ((laidWorld os).forCall (fun _ _ => 0) ⟨#[], #[.slice none 0 0], []⟩).memory Tryd.f5.params.toList Rows.logJoinsSpec.vars false (#[.slice none 0 0] : Array Value).toList 8 = some ([.nil], [], places) :=
  ⟨[], by kernel_rfl⟩
theorem laid_met (os : Os) : laidMet Tryd.prog Rows.logJoinsRow.laid ((laidWorld os).forCall (fun _ _ => 0) ⟨#[], #[.slice none 0 0], []⟩).memory :=
  laidMet_of_run' 8 (by kernel_rfl) (by kernel_rfl)

set_option maxRecDepth 100000 in
theorem lifted (os : Os) (started : os.Started) (H : Type) (enc : TypeId × Value → H) (F : Stop.Interp) :
    ReturnsInHanded {} Tryd.checked os 5 .any ((OpenSpec.ofChange Rows.logJoinsSpec).preRow enc Tryd.prog Tryd.f5 Rows.logJoinsRow.domain false Rows.logJoinsRow.laid) (((OpenSpec.ofChange Rows.logJoinsSpec).at F).post enc Tryd.prog Tryd.f5 false true false false) := by
  obtain ⟨places, hx⟩ := reads os enc
  refine returnsInHanded_of_row (C := Tryd.checked) (s := OpenSpec.ofChange Rows.logJoinsSpec) own started (by kernel_rfl) Tryd.func5
    (witness_row_at (enc := enc) (C := Tryd.checked) false (laidWorld os) #[.slice none 0 0] rfl (by kernel_rfl) (by kernel_rfl) (by kernel_rfl)
      (OpenSpec.preRow_of_cond 8 hx (by kernel_rfl) (fun k hk => by cases hk) (by kernel_rfl) (laid_met os))) ?_
  intro W base args ds gs before hval hW _ _ hsz hL _ _
  exact contract H enc W base args ds gs before hval hW hL hsz

theorem said : Rows.LogJoinsSaid :=
  OpenClaim.holds_of_cond 5 Tryd.f5 rfl rfl rfl rfl rfl rfl rfl ⟨rfl, rfl, rfl, rfl, rfl⟩ rfl rfl rfl rfl rfl (by kernel_rfl) Tryd.func5 (by kernel_rfl)
    (of_decide_eq_true (by kernel_rfl)) (by unfold Func.isWrapper; first | (rw [if_pos (by decide +kernel)]; kernel_rfl) | (rw [if_neg (by decide +kernel)]; exact ⟨rfl, rfl⟩))
    (fun os started H enc _ F => by rw [OpenClaim.pre_eq_preRow]; exact lifted os started H enc F)

theorem plain (f : FuncId) (fn : Func) (hf : Tryd.pinned.checked.prog.funcNamed "caravan/caravanlaw14.LogJoins" = some f) (hfn : Tryd.pinned.checked.prog.funcs[f]? = some fn) :
    false = Tryd.pinned.checked.prog.looks [] ∧ ∀ (j : Nat) t, fn.params[j]? = some t → Tryd.pinned.checked.prog.wantsStandIn t = false := by
  obtain rfl : f = 5 := Option.some.inj ((show Tryd.prog.funcNamed "caravan/caravanlaw14.LogJoins" = some 5 by kernel_rfl).symm.trans hf) |>.symm
  obtain rfl : fn = Tryd.f5 := (Option.some.inj (Tryd.func5.symm.trans hfn)).symm
  refine ⟨by kernel_rfl, fun j t ht => ?_⟩
  have hm : t ∈ Tryd.f5.params.toList := Array.mem_toList_iff.2 (Array.mem_of_getElem? ht)
  have hall : (Tryd.f5.params.toList.all fun t => Tryd.prog.wantsStandIn t == false) = true := by kernel_rfl
  have := List.all_eq_true.1 hall t hm
  exact (show Tryd.prog.wantsStandIn t = false by simpa using this)

theorem card : Rows.LogJoinsCardSaid :=
  Claim7.holds_tied_plain_at .later [] _ _ _ _ said (fun _ h => by cases h) (by kernel_rfl) (fun _ h => by cases h) logJoins_row_tie rfl ⟨rfl, rfl⟩ (by kernel_rfl) rfl plain (by kernel_rfl)
end LLogJoins
end Go.Proofs.YtkglfnjgneofdaaDoor
