/- LogWhole: for every row of records, wherever there is a sync, whatever is kept, the law returns true (the table of four doublings lying in its variable as the program's text lays it). -/
import Derived.Test.YtkglfnjgneofdaaDoorLogC
import Derived.Test.YtkglfnjgneofdaaDoorCards
import Derived.Test.YtkglfnjgneofdaaDoorTie
import Derived.Deep.CutBlock
namespace Go.Proofs.YtkglfnjgneofdaaDoor
open Go.RowKit

theorem open_new : (Dk.new 1000).open = (⟨⟨#[]⟩, ⟨#[]⟩, 1000, 1, true, false, 0⟩, 0) := by kernel_rfl

theorem take_none (p f : Nat) : allF f (([] : List UInt8).take p) = ([], 0) := by
  have h : (cutL []).2.2 = 12 := by decide +kernel
  cases f with
  | zero => rfl
  | succ f =>
    rw [List.take_nil, allF, if_neg (by rw [h]; decide)]
/-- Of a beginning of some frames the whole ones are told. -/
theorem allF_cut : ∀ (l : List (List UInt8)) (f p : Nat), ((joinF l).take p).length < f → (∀ b ∈ l, b.length ≤ 8000) →
    ∃ q, q ≤ l.length ∧ allF f ((joinF l).take p) = (l.take q, (joinF (l.take q)).length) ∧ (joinF (l.take q)).length ≤ p ∧ (q < l.length → p < (joinF (l.take (q + 1))).length)
  | [], f, p, _, _ => ⟨0, Nat.le_refl _, take_none p f, Nat.zero_le _, fun h => absurd h (Nat.lt_irrefl _)⟩
  | b :: l, 0, p, h, _ => absurd h (Nat.not_lt_zero _)
  | b :: l, f + 1, p, h, hb => by
    have hfl := frame_length b
    by_cases hp : (frameL b).length ≤ p
    · have ht : (joinF (b :: l)).take p = frameL b ++ (joinF l).take (p - (frameL b).length) := by rw [joinF_cons, List.take_append, List.take_of_length_le hp]
      rw [ht, List.length_append] at h
      obtain ⟨q, h1, h2, h3, h4⟩ := allF_cut l f (p - (frameL b).length) (by omega) (fun x hx => hb x (by simp [hx]))
      have hc := cut_back b ((joinF l).take (p - (frameL b).length)) (hb b (by simp))
      refine ⟨q + 1, by simpa using h1, ?_, ?_, fun hq => ?_⟩
      · rw [ht, allF, hc]
        simp only
        rw [if_pos trivial, List.drop_left' rfl, h2, List.take_succ_cons, joinF_cons, List.length_append]
      · rw [List.take_succ_cons, joinF_cons, List.length_append]; omega
      · have := h4 (by simpa using hq)
        rw [List.take_succ_cons, joinF_cons, List.length_append]; omega
    · have hc := cut_short b p (hb b (by simp)) (by omega)
      refine ⟨0, Nat.zero_le _, ?_, Nat.zero_le _, fun _ => ?_⟩
      · rw [joinF_cons, List.take_append_of_le_length (by omega), allF, hc]
        simp only
        rw [if_neg (by decide)]
        rfl
      · rw [Nat.zero_add, List.take_succ_cons, joinF_cons, List.length_append]; omega

theorem joinF_append (a b : List (List UInt8)) : joinF (a ++ b) = joinF a ++ joinF b := by simp [joinF]
theorem joinF_take (l : List (List UInt8)) (q : Nat) : joinF l = joinF (l.take q) ++ joinF (l.drop q) := by rw [← joinF_append, List.take_append_drop]
theorem joinF_mono (l : List (List UInt8)) (i j : Nat) (h : i ≤ j) : (joinF (l.take i)).length ≤ (joinF (l.take j)).length := by
  rw [joinF_take (l.take j) i, List.take_take, Nat.min_eq_left h, List.length_append]
  omega

theorem crash_keep (safe tail : ByteArray) (st : Int) (keep : Int) : (Dk.mk safe tail 1000 st true false 0).crash keep = ⟨safe ++ tail.extract 0 (min keep.toNat tail.size), ⟨#[]⟩, 1000, st, true, false, 0⟩ := by
  unfold Dk.crash Dk.again
  rw [if_pos (by show (0 : Int) < 1000; decide)]

/-- What is there behind a crash, opened. -/
theorem open_cut (rs : List ByteArray) (h : ∀ r ∈ rs, r.size ≤ 20) (hl : rs.length ≤ 12) (j : Nat) (hj : j ≤ rs.length) (st : Int) (keep : Int) :
    ∃ (q : Nat) (P : ByteArray) (st2 : Int), j ≤ q ∧ q ≤ rs.length ∧ (2000 ≤ keep → q = rs.length) ∧ P.size ≤ 300 ∧ (st + 1 ≤ st2 ∧ st2 ≤ st + 2) ∧
      (Dk.mk (recB (rs.take j)) (recB (rs.drop j)) 1000 st true false 0).crash keep = ⟨P, ⟨#[]⟩, 1000, st, true, false, 0⟩ ∧
      (Dk.mk P ⟨#[]⟩ 1000 st true false 0).open = (⟨recB (rs.take q), ⟨#[]⟩, 1000, st2, true, false, 0⟩, 0) ∧ allB (P ++ ⟨#[]⟩) = rs.take q ∧ allN (P ++ ⟨#[]⟩) = (recB (rs.take q)).size := by
  rw [crash_keep]
  obtain ⟨c, hc⟩ := nm (min keep.toNat (recB (rs.drop j)).size)
  rw [← hc.out]
  have hsz := recB_size rs h
  have hST : recB rs = recB (rs.take j) ++ recB (rs.drop j) := by rw [← recB_append, List.take_append_drop]
  have hszS : (recB rs).size = (recB (rs.take j)).size + (recB (rs.drop j)).size := by rw [hST, app_size]
  have hcT : c ≤ (recB (rs.drop j)).size := by rw [hc.out]; omega
  obtain ⟨P, hP⟩ := nm (recB (rs.take j) ++ (recB (rs.drop j)).extract 0 c)
  rw [← hP.out]
  obtain ⟨p, hp⟩ := nm ((recB (rs.take j)).size + c)
  have hbP : bl P = (joinF (rs.map bl)).take p := by
    have e : joinF (rs.map bl) = bl (recB (rs.take j)) ++ bl (recB (rs.drop j)) := by rw [← bl_append, ← hST, recB, bl_ofL]
    rw [hP.out, bl_append, bl_extract, List.drop_zero, Nat.sub_zero, e, List.take_append, List.take_of_length_le (l := bl (recB (rs.take j))) (by rw [bl_length, hp.out]; omega), bl_length, hp.out, Nat.add_sub_cancel_left]
  have hp2 := hp.out
  have hPs : P.size = p := by
    rw [hP.out, app_size, ByteArray.size_extract, hp.out]; omega
  obtain ⟨q, h1, h2, h3, h4⟩ := allF_cut (rs.map bl) ((bl P).length + 1) p (by rw [← hbP]; omega) (fun b hb => by
    obtain ⟨r, hr, rfl⟩ := List.mem_map.1 hb
    rw [bl_length]; have := h r hr; omega)
  rw [List.length_map] at h1 h4
  rw [← hbP] at h2
  have hTq : (rs.map bl).take q = (rs.take q).map bl := (List.map_take ..).symm
  have hN : (joinF ((rs.map bl).take q)).length = (recB (rs.take q)).size := by rw [hTq, recB, ofL_size]
  have hA : allL (bl P) = ((rs.take q).map bl, (recB (rs.take q)).size) := by rw [allL, h2, hN, hTq]
  have hAB : allB P = rs.take q := by
    rw [allB, hA]
    simp only [List.map_map]
    exact (List.map_congr_left (fun r _ => ofL_bl r)).trans (List.map_id _)
  have hAN : allN P = (recB (rs.take q)).size := by rw [allN, hA]
  have hS : ∀ i, (recB (rs.take i)).size = (joinF ((rs.map bl).take i)).length := fun i => by rw [recB, ofL_size, List.map_take]
  have hjq : j ≤ q := by
    rcases Nat.lt_or_ge q j with hlt | hge
    · have h5 := h4 (by omega)
      have h6 := joinF_mono (rs.map bl) (q + 1) j (by omega)
      rw [← hS j] at h6
      omega
    · exact hge
  have hk : 2000 ≤ keep → q = rs.length := fun hk => by
    rcases Nat.lt_or_ge q rs.length with hlt | hge
    · have h5 := h4 hlt
      have h6 := joinF_mono (rs.map bl) (q + 1) rs.length (by omega)
      rw [← hS rs.length, List.take_length] at h6
      have : c = (recB (rs.drop j)).size := by rw [hc.out]; omega
      omega
    · omega
  have hpre : P.extract 0 (recB (rs.take q)).size = recB (rs.take q) := by
    refine bl_inj ?_
    rw [bl_extract, List.drop_zero, Nat.sub_zero, hbP, List.take_take, Nat.min_eq_left (by rw [← hN]; exact h3), joinF_take (rs.map bl) q, List.take_append_of_le_length (by rw [hN]; exact Nat.le_refl _), List.take_of_length_le (by rw [hN]; exact Nat.le_refl _), hTq, recB, bl_ofL]
  have hNp : (recB (rs.take q)).size ≤ P.size := by rw [hPs, ← hN]; exact h3
  have hP3 : P.size ≤ 300 := by omega
  obtain ⟨R, hR⟩ := nm (recB (rs.take q))
  rw [← hR.out] at hAN hpre hNp
  by_cases hlt : R.size < P.size
  · refine ⟨q, P, st + 1 + 1, hjq, h1, hk, hP3, by omega, rfl, ?_, by rw [append_nil]; exact hAB, by rw [append_nil, ← hR.out]; exact hAN⟩
    have e1 : (Dk.mk P ⟨#[]⟩ 1000 st true false 0).open1 = (⟨R, ⟨#[]⟩, 1000, st + 1, true, false, 0⟩, 0) := by
      unfold Dk.open1
      simp only [append_nil]
      rw [hAN, if_pos hlt, hpre]
      exact swap_free _ _ rfl rfl (by simp only; omega)
    rw [← hR.out, Dk.open, e1]
    simp only
    rw [if_pos trivial, sync_free _ rfl rfl (by show (0 : Int) ≤ 1000; decide)]
    simp only [append_nil]
  · have hPR : P = R := by
      rw [← hpre, extract_all P R.size (by omega)]
    refine ⟨q, P, st + 1, hjq, h1, hk, hP3, by omega, rfl, ?_, by rw [append_nil]; exact hAB, by rw [append_nil, ← hR.out]; exact hAN⟩
    have e1 : (Dk.mk P ⟨#[]⟩ 1000 st true false 0).open1 = (⟨P, ⟨#[]⟩, 1000, st, true, false, 0⟩, 0) := by
      unfold Dk.open1
      simp only [append_nil]
      rw [hAN, if_neg hlt]
    rw [← hR.out, Dk.open, e1]
    simp only
    rw [if_pos trivial, sync_free _ rfl rfl (by show (0 : Int) ≤ 1000; decide), ← hPR]
    simp only [append_nil]

theorem sync_fine (n sz : Int) (safe tail : ByteArray) (room st left : Int) (h : 0 ≤ room) :
    (Lg.mk n sz false).sync ⟨safe, tail, room, st, true, false, left⟩ = (⟨n, sz, false⟩, ⟨safe ++ tail, ⟨#[]⟩, room, st + 1, true, false, left⟩, 0) := by
  rw [Lg.sync, if_neg (by simp), sync_free _ rfl rfl h]
  rfl
theorem SlAt.bool {w : World} {ao : Option Addr} {bs : List Bool} (h : SlAt w ao (bs.map Value.bool)) (k : Nat) (hk : k < bs.length) :
    ∃ b off, ao = some ⟨b, off, none⟩ ∧ b < w.heap.size ∧ w.cell? ⟨b, off + k, none⟩ = some (.bool bs[k]) := by
  obtain ⟨b, off, h1, h2, h3⟩ := h k (by simpa using hk)
  refine ⟨b, off, h1, h2, ?_⟩
  rw [h3 k (by simpa using hk)]
  simp [hk]

theorem own_form {w : World} {base : Nat} {t : TypeId} {ao : Option Addr} {n cap : Nat} {xs : List Value} (h : w.ownsRow base t 1 (.slice ao n cap) xs.length xs) : (ao = none ∧ n = 0) ∨ ∃ g, ao = some ⟨g, 0, none⟩ := by
  rcases h.2 with ⟨hv, _⟩ | ⟨g, cap, cur, hv, _⟩
  · cases hv; exact .inl ⟨rfl, rfl⟩
  · cases hv; exact .inr ⟨g, rfl⟩

set_option maxRecDepth 100000 in
set_option maxHeartbeats 8000000 in
theorem logWhole_walk (ao : Option Addr) (len cap : Nat) (ss : List ByteArray) (hl : ss.length = len) (ao2 : Option Addr) (len2 cap2 : Nat) (bs : List Bool) (hl2 : bs.length = len2) (keep : Int) (w : World) (ht : Tab w)
    (hat : SlAt w ao (ss.map Value.string)) (hat2 : SlAt w ao2 (bs.map Value.bool)) :
    Calls Tryd.prog 4 #[.slice ao len cap, .slice ao2 len2 cap2, .int .i64 keep] w fun e w' => e = .returned (.bool true) ∧ Below w.heap.size w w' := by
  have HT : Hid (Tab w) := ht
  have HAT := Lib.hid hat
  have HL := Lib.hid hl
  have HAT2 := Lib.hid hat2
  have HL2 := Lib.hid hl2
  clear ht hat hl hat2 hl2
  obtain ⟨rs, hrs⟩ := nm (cut20 12 ss)
  have HR : Hid (∀ r ∈ rs, r.size ≤ 20) := by rw [hrs.out]; exact cut20_le 12 ss
  have HRL : Hid (rs.length = min 12 len) := by rw [hrs.out, cut20_len, HL.out]; exact rfl
  have hf0 : (Dk.new 1000).Fit := ⟨by decide, by decide, by decide⟩
  obtain ⟨i0, hi, hz0, hz1, hz2⟩ := info_parts infoStr
  go_enter Tryd.func4, Tryd.ntmps4
  go_wp2_with fail
  refine (awake_any _ HT.out).mono ?_; rintro e w1 ⟨rfl, hB⟩
  go_wp2_with fail
  refine (dnew2_any 1000 _ (by decide) (by decide)).mono ?_; rintro e w2 ⟨b, rfl, hb, hd, hB1⟩
  replace hb := Nat.le_trans hB.size hb
  replace hB := bNext hB hB1; clear hB1
  go_wp2_with fail
  refine (lopen_ok b _ _ [] 0 w _ hb hB hd hf0 HT.out open_new (by kernel_rfl) (by kernel_rfl)).mono ?_; rintro e w4 ⟨g, ao9, cap9, rfl, hL, -, -, -, -, -⟩
  clear hB hd hb hf0
  have hlt1 := hL.il.lt
  have hlt2 := hL.id.lt
  obtain ⟨B, hBB⟩ := nm w4.heap.size
  rw [← hBB.out] at hlt1 hlt2
  have hwB : w.heap.size ≤ B := by rw [hBB.out]; exact hL.old.size
  have hB5 : B ≤ w4.heap.size := by rw [hBB.out]; exact Nat.le_refl _
  clear hBB
  go_upto_block 0 with fail
  go_cut [12, 13] (fun v sf wx => ∃ (j : Nat) (st : Int) (aq : Option Addr) (cq : Nat), v = .slice aq rs.length cq ∧ sf = .int .i64 (j : Int) ∧ j ≤ rs.length ∧ (1 ≤ st ∧ st ≤ 30) ∧ rs.length ≤ cq ∧ SlAt wx aq (rs.map Value.string) ∧ (∀ a, aq = some a → B ≤ a.block) ∧ ((aq = none ∧ rs.length = 0) ∨ ∃ g, aq = some ⟨g, 0, none⟩) ∧
    LD w wx g b ⟨rs.length, (recB rs).size, false⟩ ⟨recB (rs.take j), recB (rs.drop j), 1000, st, true, false, 0⟩)
  case first =>
    go_wp2_with fail
    go_loopw [12, 13, 14] (fun v sf i wr => ∃ (k j : Nat) (st : Int), k ≤ 12 ∧ k ≤ len ∧ j ≤ k ∧ sf = .int .i64 (j : Int) ∧ i = .int .i64 (k : Int) ∧ (1 ≤ st ∧ st ≤ 1 + 2 * k) ∧ wr.ownsRow B 9 1 v k ((rs.take k).map Value.string) ∧ B ≤ wr.heap.size ∧
      LD w wr g b ⟨k, (recB (rs.take k)).size, false⟩ ⟨recB ((rs.take k).take j), recB ((rs.take k).drop j), 1000, st, true, false, 0⟩) (fun _ _ i _ => 12 - (intOf i).toNat)
    case atStart => exact ⟨0, 0, 1, by omega, by omega, by omega, rfl, rfl, by omega, ⟨by simp, .inl ⟨rfl, rfl⟩⟩, hB5, hL⟩
    case round =>
      clear hL hB5
      obtain ⟨k, j, st, hk1, hk2, hjk, rfl, rfl, hst, hown, hB5, hL⟩ := hrel
      by_cases hlt : k < len ∧ k < 12
      · obtain ⟨hlt1', hlt2'⟩ := hlt
        obtain ⟨b0, off, rfl, hb0, hcell⟩ := SlAt.str HAT.out k (by rw [HL.out]; exact hlt1')
        obtain ⟨x, hx⟩ := nm (ss[k]'(by rw [HL.out]; exact hlt1'))
        rw [← hx.out] at hcell
        have hcx : wr.cell? ⟨b0, off + k, none⟩ = some (.string x) := (hL.old.cell (p := ⟨b0, off + k, none⟩) hb0).trans hcell
        clear hcell
        obtain ⟨y, hy⟩ := nm (cutB x 20)
        have hys : y.size ≤ 20 := by rw [hy.out]; exact cutB_le x 20
        have hrtl : (rs.take k).length = k := by rw [List.length_take, HRL.out]; omega
        have hnx : rs.take (k + 1) = rs.take k ++ [y] := by
          have hkl : k < rs.length := by rw [HRL.out]; omega
          rw [List.take_succ_eq_append_getElem hkl]
          congr 2
          rw [hy.out, hx.out]
          simp only [hrs.out]
          exact cut20_get 12 ss k (by rw [← hrs.out]; exact hkl) (by rw [HL.out]; exact hlt1')
        have hy1 : (recB [y]).size ≤ 23 := recB_size [y] (fun r hr => by rw [List.mem_singleton.1 hr]; exact hys)
        have hR1 : (recB (rs.take k)).size ≤ 23 * k := by
          have := recB_size (rs.take k) (fun r hr => HR.out r (List.mem_of_mem_take hr))
          rwa [hrtl] at this
        have hsum : (recB ((rs.take k).take j)).size + (recB ((rs.take k).drop j)).size = (recB (rs.take k)).size := by
          rw [← app_size, ← recB_append, List.take_append_drop]
        have ht1 : (rs.take (k + 1)).take j = (rs.take k).take j := by rw [hnx, List.take_append_of_le_length (by omega)]
        have ht2 : (rs.take (k + 1)).drop j = (rs.take k).drop j ++ [y] := by rw [hnx, List.drop_append_of_le_length (by omega)]
        have hadd : (Lg.mk k (recB (rs.take k)).size false).add ⟨recB ((rs.take k).take j), recB ((rs.take k).drop j), 1000, st, true, false, 0⟩ [y] = (⟨(k + 1 : Nat), (recB (rs.take (k + 1))).size, false⟩, ⟨recB ((rs.take (k + 1)).take j), recB ((rs.take (k + 1)).drop j), 1000, st + 1, true, false, 0⟩, 0) := by
          rw [add_fine _ _ _ _ _ _ _ [y] (fun r hr => by rw [List.mem_singleton.1 hr]; omega) (by simp) (by omega), ht1, ht2, recB_append, hnx, recB_append, app_size]
          simp only [List.length_singleton, Int.natCast_add]
        have hsy : (Lg.mk (k + 1 : Nat) (recB (rs.take (k + 1))).size false).sync ⟨recB ((rs.take (k + 1)).take j), recB ((rs.take (k + 1)).drop j), 1000, st + 1, true, false, 0⟩ = (⟨(k + 1 : Nat), (recB (rs.take (k + 1))).size, false⟩, ⟨recB ((rs.take (k + 1)).take (k + 1)), recB ((rs.take (k + 1)).drop (k + 1)), 1000, st + 1 + 1, true, false, 0⟩, 0) := by
          have hl1 : (rs.take (k + 1)).length = k + 1 := by rw [hnx, List.length_append, hrtl]; rfl
          rw [sync_fine _ _ _ _ _ _ _ (by decide), ← recB_append, List.take_append_drop, List.take_of_length_le (l := rs.take (k + 1)) (by omega), List.drop_of_length_le (by omega)]
          rfl
        have hsz2 : (recB ((rs.take (k + 1)).take j)).size + (recB ((rs.take (k + 1)).drop j)).size ≤ 300 := by
          rw [ht1, ht2, recB_append, app_size]; omega
        have HADD := Lib.hid hadd
        have HSY := Lib.hid hsy
        have HNX := Lib.hid hnx
        clear hadd hnx hsy ht1 ht2
        obtain ⟨Lk, hLk⟩ := nm ((rs.take k).map Value.string)
        rw [← hLk.out] at hown
        go_wp2_with fail
        refine (short_any x 20 _ (by decide)).mono ?_; rintro e w6 ⟨rfl, rfl⟩
        rw [← hy.out]
        go_wp2_with fail
        have hLa := hL.alloc (.cells #[.string y] 9)
        refine (ladd_any g b _ _ _ 1 [y] _ hLa.il hLa.id hLa.ne (by simp) (fun r hr => by rw [List.mem_singleton.1 hr]; omega) (fit_of (by omega) (by omega) (by omega)) (by simp only; omega) (by simp only; omega) (HT.out.below hLa.old) (SlAt.newRow _ _ _)).mono ?_
        rintro e w7 ⟨rfl, h1, h2, hk⟩
        rw [HADD.out] at h1 h2 ⊢
        have hL' := hLa.next h1 h2 hk
        have hown' := own_kept2 (hown.alloc (.cells #[.string y] 9)) hk hlt1 hlt2
        have hB7 : B ≤ w7.heap.size := Nat.le_trans hB5 (Nat.le_trans (by simp) hk.size)
        clear hLa h1 h2 hk hown hL hcx hB5
        go_wp2_with (at_builtin; refine wpList_append_lies _ rfl _ _ 24 rfl B 9 i0 (.string .empty) 1 16 Tryd.underlying24 hi hz0 hz1 hz2 rfl (by decide) _ k _ rfl (hown'.alloc _) ⟨w7.heap.size, 0, none⟩ 1 1 [.string y] rfl rfl (World.news_of_block (heap_alloc_new w7 _)) (by simp [Value.oneCell']) (by decide) (by unfold maxLen; omega) (by omega) (Nat.le_trans hB7 (by simp)) _ rfl ?_)
        intro g8 cap8 w8 hown2 hgrow _ _
        have hL8 := hL'.grown hgrow (fun k hk => (hown'.lt k hk).1) hlt1 hlt2 hwB
        have hB8 : B ≤ w8.heap.size := Nat.le_trans hB7 (Nat.le_trans (by simp) hgrow.size)
        have hown3 : w8.ownsRow B 9 1 (.slice (some ⟨g8, 0, none⟩) (k + 1) cap8) (k + 1) ((rs.take (k + 1)).map Value.string) := by
          rw [HNX.out, List.map_append, ← hLk.out]; exact hown2
        clear hown' hown2 hgrow hL'
        by_cases hk2' : k < len2
        · obtain ⟨bb, off2, rfl, hbb, hcb⟩ := SlAt.bool HAT2.out k (by rw [HL2.out]; exact hk2')
          obtain ⟨z, hz⟩ := nm (bs[k]'(by rw [HL2.out]; exact hk2'))
          rw [← hz.out] at hcb
          have hcz : w8.cell? ⟨bb, off2 + k, none⟩ = some (.bool z) := (hL8.old.cell (p := ⟨bb, off2 + k, none⟩) hbb).trans hcb
          clear hcb hz
          cases z
          · go_wp2_with fail
            go_roundw
            case rel => exact ⟨k + 1, j, st + 1, by omega, by omega, by omega, rfl, by go_num, by omega, hown3, hB8, hL8⟩
            case measure => simp [intOf]; omega
          · go_wp2_with fail
            refine (lsync_any g b _ _ _ hL8.il hL8.id hL8.ne (fit_of (by omega) (by omega) (by decide))).mono ?_
            rintro e w9 ⟨rfl, h1, h2, hk⟩
            rw [HSY.out] at h1 h2 ⊢
            have hL9 := hL8.next h1 h2 hk
            have hown4 := own_kept2 hown3 hk hlt1 hlt2
            have hB9 : B ≤ w9.heap.size := Nat.le_trans hB8 hk.size
            clear h1 h2 hk hown3 hL8 hcz
            go_wp2_with fail
            go_roundw
            case rel => exact ⟨k + 1, k + 1, st + 1 + 1, by omega, by omega, by omega, by go_num, by go_num, by omega, hown4, hB9, hL9⟩
            case measure => simp [intOf]; omega
        · go_wp2_with fail
          go_roundw
          case rel => exact ⟨k + 1, j, st + 1, by omega, by omega, by omega, rfl, by go_num, by omega, hown3, hB8, hL8⟩
          case measure => simp [intOf]; omega
      · have hall : rs.take k = rs := List.take_of_length_le (by rw [HRL.out]; omega)
        have hkl : k = rs.length := by rw [HRL.out]; omega
        rw [hall] at hown hL
        obtain ⟨aq, cq, rfl, hcq, hsl, hnw⟩ := SlAt.ownN (xs := rs.map Value.string) (by rw [List.length_map, ← hkl]; exact hown)
        have hform := own_form (xs := rs.map Value.string) (by rw [List.length_map, ← hkl]; exact hown)
        rw [List.length_map] at hcq hform ⊢
        have hL' : LD w wr g b ⟨rs.length, (recB rs).size, false⟩ ⟨recB (rs.take j), recB (rs.drop j), 1000, st, true, false, 0⟩ := by rw [← hkl]; exact hL
        have hj' : j ≤ rs.length := by omega
        clear hown hall hL hkl
        go_wp2_with fail
        all_goals
          go_meet
          exact ⟨j, st, aq, cq, rfl, rfl, hj', by omega, hcq, hsl, hnw, hform, hL'⟩
  obtain ⟨j, st, aq, cq, rfl, rfl, hj, hst, hcq, hsl, hnw, hform, hL9⟩ := hcut
  clear hL hB5
  have hl12 : rs.length ≤ 12 := by rw [HRL.out]; omega
  obtain ⟨q, P, st2, hjq, hq, hkeep, hP3, hst2, hcr, hop, hAB, hAN⟩ := open_cut rs HR.out hl12 j hj st keep
  have hjs : (recB (rs.take j)).size + (recB (rs.drop j)).size ≤ 300 := by
    rw [← app_size, ← recB_append, List.take_append_drop]
    have := recB_size rs HR.out
    omega
  obtain ⟨A, hA⟩ := nm (rs.take q)
  have hAl : A.length = q := by rw [hA.out, List.length_take]; omega
  have hA20 : ∀ r ∈ A, r.size ≤ 20 := by rw [hA.out]; intro r hr; exact HR.out r (List.mem_of_mem_take hr)
  rw [← hA.out] at hop hAB hAN
  have HOP := Lib.hid hop
  have HAB := Lib.hid hAB
  have HAN := Lib.hid hAN
  have HCR := Lib.hid hcr
  clear hop hAB hAN hcr
  have hAsz := recB_size A hA20
  have O2 := Lib.hid (open_frames ⟨recB A, ⟨#[]⟩, 1000, st2, true, false, 0⟩ A (fun r hr => by have := hA20 r hr; omega) (append_nil _) rfl rfl (by show (0 : Int) ≤ 1000; decide))
  obtain ⟨R, hR⟩ := nm (recB A)
  rw [← hR.out] at HOP HAN O2 hAsz
  have hslA : SlAt wc aq (A.map Value.string) := by rw [hA.out, List.map_take]; exact hsl.take q
  clear hsl hA20
  go_wp2_with fail
  refine (llen_any g b _ _ hL9.il).mono ?_; rintro e w10 ⟨rfl, rfl⟩
  go_wp2_with fail
  refine (dcrash_any b _ keep _ hL9.id (by simp only; omega)).mono ?_; rintro e w11 ⟨rfl, h2, hk⟩
  rw [HCR.out] at h2
  have hL11 := hL9.disk h2 hk
  have hslA11 := hslA.above hnw hk.size (fun k h1 h2 => hk.block k h1 (by omega))
  clear h2 hk hL9 hslA
  go_wp2_with fail
  refine (lopen_ok b _ _ A _ w _ hL11.lb hL11.old hL11.id (fit_of (by rw [nil_size]; omega) (by omega) (by decide)) HT.out HOP.out HAB.out HAN.out).mono ?_; rintro e w12 ⟨g2, ao3, cap3, rfl, hL12, hc3, hs3, hn3, hg3, hk⟩
  have hslA12 := hslA11.above hnw hk.size (fun k h1 h2 => hk.block k h1 (by omega))
  have hB11 : b < w11.heap.size := hL11.id.lt
  clear hk hL11 hslA11
  rw [hAl]
  have hq0 : (0 : Int) ≤ (q : Int) := by omega
  have hq1 : (q : Int) ≤ (rs.length : Int) := by omega
  have hq2 : (q : Int) ≤ (cq : Int) := by omega
  have hS1 := Lib.hid (sametexts_any ao3 aq cap3 cq A A w12 (by omega) hs3 hslA12)
  have hkk : keep < 2000 ∨ (2000 ≤ keep ∧ q = rs.length) := by
    by_cases h : keep < 2000
    · exact .inl h
    · exact .inr ⟨by omega, hkeep (by omega)⟩
  rw [hAl] at hS1
  rcases hform with ⟨rfl, h0⟩ | ⟨gq, rfl⟩
  all_goals
    go_wp2_with fail
    refine hS1.out.mono ?_; rintro e w13 ⟨rfl, q1, rfl⟩
    (first | rw [show decide (A = A) = true from decide_eq_true rfl] | rw [show decide True = true from rfl])
    replace hL12 := hL12.drewN q1
    have hs4 : SlAt (w12.drewN q1) ao3 (A.map Value.string) := hs3.below (below_drewN (Below.refl _ _) q1)
    clear hs3 hslA12
    go_wp2_with fail
    refine (lopen_ok b _ _ A _ w _ hL12.lb hL12.old hL12.id (fit_of (by rw [nil_size]; omega) (by omega) (by decide)) HT.out O2.out.1 O2.out.2.1 O2.out.2.2).mono ?_; rintro e w14 ⟨g3, ao4, cap4, rfl, hL14, hc4, hs5, hn5, hg4, hk⟩
    have hs6 := hs4.above hn3 hk.size (fun k h1 h2 => hk.block k h1 (by omega))
    have hLm := hL12.disk hL14.id hk
    clear hk hs4 hL12
    rw [hAl]
    have hS2 := Lib.hid (sametexts_any ao3 ao4 cap3 cap4 A A w14 (by omega) hs6 hs5)
    rw [hAl] at hS2
    go_wp2_with fail
    refine hS2.out.mono ?_; rintro e w15 ⟨rfl, q2, rfl⟩
    (first | rw [show decide (A = A) = true from decide_eq_true rfl] | rw [show decide True = true from rfl])
    replace hLm := hLm.drewN q2
    simp only [append_nil] at hLm
    go_wp2_with fail
    refine (dsafe_any2 b _ _ hLm.id).mono ?_; rintro e w16 ⟨rfl, rfl⟩
    go_wp2_with fail
    refine (dbytes_is b _ R _ hLm.id (append_nil _) (by omega)).mono ?_; rintro e w16 ⟨rfl, q3, rfl⟩
    replace hLm := hLm.drewN q3
    rw [World.drewN_drewN] at hLm
    go_wp2_with fail
    refine (llen_any g2 b _ _ hLm.il).mono ?_; rintro e w16 ⟨rfl, rfl⟩
    rw [hAl]
    rcases hkk with hkk | ⟨hkk, hkq⟩
    · go_wp2_with fail
      go_ret
      exact ⟨rfl, hLm.old⟩
    · have hkq2 : ((q : Int) == (rs.length : Int)) = true := by rw [hkq]; simp
      go_wp2_with fail
      go_ret
      exact ⟨rfl, hLm.old⟩

namespace LLogWhole
open Go.ChangeShapes Go.WideShapes Go.ChangeAt
open Go.ChangeMaps (open_string shut_string)

set_option maxRecDepth 100000 in
theorem contract (H : Type) (enc : TypeId × Value → H) (W : World) (base : Nat) (args : Array Value) (ds gs : List (DataW H)) (before : List MemPlace)
    (hval : ∀ (j : Nat) t v, Tryd.f4.params[j]? = some t → args[j]? = some v → Value.okWide Tryd.prog W .any base t v)
    (hW : DataW.Whole enc Tryd.prog Tryd.f4.params.toList Rows.logWholeSpec.vars false W args.toList ds gs before)
    (hL : laidMetH Tryd.prog Rows.logWholeRow.laid W)
    (_hsz : (DataW.weightsEach Tryd.prog (Tryd.f4.params.toList ++ (OpenSpec.ofChange Rows.logWholeSpec).bare.plain.varTypes Tryd.prog) (ds ++ gs)).all (fun x => decide (x ≤ reachBytes)) = true) :
    Calls Tryd.prog 4 args W fun e W' => ∃ v, e = .returned v ∧ Rows.logWholeSpec.post enc Tryd.prog Tryd.f4 false true false false W args v W' := by
  have hW' := hW
  obtain ⟨p, q, hA0, hV, rfl, hfz, hnd⟩ := hW
  have hA : DataW.TrodAll enc Tryd.prog W 0 (fun _ => true) true Tryd.f4.params.toList args.toList ds p := hA0
  rw [Tryd.params4] at hA hval
  obtain ⟨v0, vs0, d0, ds0, p0, q0, hargs, rfl, rfl, h0, r0⟩ := trodAll_cons hA
  obtain ⟨v1, vs1, d1, ds1, p1, q1, rfl, rfl, rfl, h1, r1⟩ := trodAll_cons r0
  obtain ⟨v2, vs2, d2, ds2, p2, q2, rfl, rfl, rfl, h2, r2⟩ := trodAll_cons r1
  obtain ⟨rfl, rfl, rfl⟩ := trodAll_nil r2
  obtain rfl : args = #[v0, v1, v2] := by cases args; simp_all
  obtain ⟨rfl, rfl⟩ := trodVars_none hV
  obtain ⟨ao0, len0, cap0, ss0, rfl, hl0, _, _, hat0⟩ := open_strs Tryd.underlying24 Tryd.underlying9 (show Tryd.prog.cellsOf 9 = 1 by kernel_rfl) h0 (okWide_slice Tryd.underlying24 (hval 0 24 v0 rfl rfl))
  obtain ⟨ao1, len1, cap1, ss1, rfl, hl1, _, _, hat1⟩ := open_bools2 Tryd.underlying38 Tryd.underlying4 (show Tryd.prog.cellsOf 4 = 1 by kernel_rfl) h1 (okWide_slice Tryd.underlying38 (hval 1 38 v1 rfl rfl))
  obtain ⟨x2, rfl, rfl, rfl, k2⟩ := open_int Tryd.underlying3 (hval 2 3 v2 rfl rfl) h2
  clear hA0
  refine (logWhole_walk ao0 len0 cap0 ss0 hl0 ao1 len1 cap1 ss1 hl1 x2 W (tab_of hL) hat0 hat1).mono fun e W' ⟨he, hb⟩ => ?_
  subst he
  exact ⟨_, rfl, law_post laidOut Tryd.underlying4 rfl (by kernel_rfl) rfl rfl rfl rfl hW' hb⟩

theorem reads (os : Os) {H : Type} (enc : TypeId × Value → H) : ∃ places, DataW.whole enc Tryd.prog ((laidWorld os).forCall (fun _ _ => 0) ⟨#[], #[.slice none 0 0, .slice none 0 0, .int .i64 0], []⟩).memory Tryd.f4.params.toList Rows.logWholeSpec.vars false (#[.slice none 0 0, .slice none 0 0, .int .i64 0] : Array Value).toList 8 = some ([.nil, .nil, .lit (.int .i64 0)], [], places) :=
  ⟨[], by kernel_rfl⟩
theorem laid_met (os : Os) : laidMet Tryd.prog Rows.logWholeRow.laid ((laidWorld os).forCall (fun _ _ => 0) ⟨#[], #[.slice none 0 0, .slice none 0 0, .int .i64 0], []⟩).memory :=
  laidMet_of_run' 8 (by kernel_rfl) (by kernel_rfl)

set_option maxRecDepth 100000 in
theorem lifted (os : Os) (started : os.Started) (H : Type) (enc : TypeId × Value → H) (F : Stop.Interp) :
    ReturnsInHanded {} Tryd.checked os 4 .any ((OpenSpec.ofChange Rows.logWholeSpec).preRow enc Tryd.prog Tryd.f4 Rows.logWholeRow.domain false Rows.logWholeRow.laid) (((OpenSpec.ofChange Rows.logWholeSpec).at F).post enc Tryd.prog Tryd.f4 false true false false) := by
  obtain ⟨places, hx⟩ := reads os enc
  refine returnsInHanded_of_row (C := Tryd.checked) (s := OpenSpec.ofChange Rows.logWholeSpec) own started (by kernel_rfl) Tryd.func4
    (witness_row_at (enc := enc) (C := Tryd.checked) false (laidWorld os) #[.slice none 0 0, .slice none 0 0, .int .i64 0] rfl (by kernel_rfl) (by kernel_rfl) (by kernel_rfl)
      (OpenSpec.preRow_of_cond 8 hx (by kernel_rfl) (fun k hk => by cases hk) (by kernel_rfl) (laid_met os))) ?_
  intro W base args ds gs before hval hW _ _ hsz hL _ _
  exact contract H enc W base args ds gs before hval hW hL hsz

theorem said : Rows.LogWholeSaid :=
  OpenClaim.holds_of_cond 4 Tryd.f4 rfl rfl rfl rfl rfl rfl rfl ⟨rfl, rfl, rfl, rfl, rfl⟩ rfl rfl rfl rfl rfl (by kernel_rfl) Tryd.func4 (by kernel_rfl)
    (of_decide_eq_true (by kernel_rfl)) (by unfold Func.isWrapper; first | (rw [if_pos (by decide +kernel)]; kernel_rfl) | (rw [if_neg (by decide +kernel)]; exact ⟨rfl, rfl⟩))
    (fun os started H enc _ F => by rw [OpenClaim.pre_eq_preRow]; exact lifted os started H enc F)

theorem plain (f : FuncId) (fn : Func) (hf : Tryd.pinned.checked.prog.funcNamed "caravan/caravanlaw14.LogWhole" = some f) (hfn : Tryd.pinned.checked.prog.funcs[f]? = some fn) :
    false = Tryd.pinned.checked.prog.looks [] ∧ ∀ (j : Nat) t, fn.params[j]? = some t → Tryd.pinned.checked.prog.wantsStandIn t = false := by
  obtain rfl : f = 4 := Option.some.inj ((show Tryd.prog.funcNamed "caravan/caravanlaw14.LogWhole" = some 4 by kernel_rfl).symm.trans hf) |>.symm
  obtain rfl : fn = Tryd.f4 := (Option.some.inj (Tryd.func4.symm.trans hfn)).symm
  refine ⟨by kernel_rfl, fun j t ht => ?_⟩
  have hm : t ∈ Tryd.f4.params.toList := Array.mem_toList_iff.2 (Array.mem_of_getElem? ht)
  have hall : (Tryd.f4.params.toList.all fun t => Tryd.prog.wantsStandIn t == false) = true := by kernel_rfl
  have := List.all_eq_true.1 hall t hm
  exact (show Tryd.prog.wantsStandIn t = false by simpa using this)

theorem card : Rows.LogWholeCardSaid :=
  Claim7.holds_tied_plain_at .later [] _ _ _ _ said (fun _ h => by cases h) (by kernel_rfl) (fun _ h => by cases h) logWhole_row_tie rfl ⟨rfl, rfl⟩ (by kernel_rfl) rfl plain (by kernel_rfl)
end LLogWhole
end Go.Proofs.YtkglfnjgneofdaaDoor
