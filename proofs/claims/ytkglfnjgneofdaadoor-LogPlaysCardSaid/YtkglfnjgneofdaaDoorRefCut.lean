/- The walks of the document's Cut and All. -/
import Derived.Test.YtkglfnjgneofdaaDoorAll
import Derived.Test.YtkglfnjgneofdaaDoorReaderRefB
namespace Go.Proofs.YtkglfnjgneofdaaDoor
open Go.RowKit

theorem ref_wrap (s : ByteArray) (w : World) (hs : s.size ≤ 1000000000000) :
    Calls Tryd.prog 55 #[.string s] w fun e w' => e = .returned (.string (ofL (frameL (bl s)))) ∧ Below w.heap.size w w' := refframe_any s w hs

set_option maxRecDepth 100000 in
set_option maxHeartbeats 4000000 in
theorem refcut_any (s : ByteArray) (w : World) (hs : s.size ≤ 1000000) :
    Calls Tryd.prog 36 #[.string s] w fun e w' => e = .returned (.tuple #[.string (ofL (cutL (bl s)).1), .int .i64 ((cutL (bl s)).2.1 : Nat), .int .i64 (cutL (bl s)).2.2]) ∧ Below w.heap.size w w' := by
  have hk : Below w.heap.size w (w.alloc (.cells (Rd.cells ⟨s, false⟩) 77)) := (Below.refl _ _).alloc (Nat.le_refl _) _
  have hb0 : IsRr (w.alloc (.cells (Rd.cells ⟨s, false⟩) 77)) w.heap.size ⟨s, false⟩ := Blk.new _ _ _
  rcases int_cut s with ⟨h1, h2⟩ | ⟨n, t, h1, hn, hst, h2⟩
  · rw [h2]
    clear h2
    obtain ⟨⟨⟨t, torn⟩, n⟩, hn⟩ := nm ((Rd.mk s false).int 8000)
    rw [← hn.out] at h1
    simp only at h1
    subst h1
    have N : Hid ((Rd.mk s false).int 8000 = (⟨t, true⟩, n)) := hn.out.symm
    clear hn
    rcases Nat.lt_or_ge s.size 1 with h | h
    · obtain rfl := size_zero (s := s) (by omega)
      rw [show begL (bl ⟨#[]⟩) = true from rfl]
      go_enter Tryd.func36, Tryd.ntmps36
      go_wp2_with fail
      refine (refrint_any _ _ 8000 _ hb0 (by simp only; omega) (by decide)).mono ?_; rintro e w2 ⟨rfl, h1, hk2⟩
      rw [N.out] at h1 ⊢
      have hB2 : Below w.heap.size w w2 := hk.trans (hk2.below (Nat.le_refl _) (by simp))
      have c1 : w2.cell? ⟨w.heap.size, 1, none⟩ = some (.bool true) := h1.cell 1
      go_wp2_with fail
      go_ret3
      exact ⟨rfl, hB2⟩
    have hni : s.toList.isEmpty = false := by
      rw [toList_bl, List.isEmpty_eq_false_iff]
      intro h2
      rw [← bl_length, h2] at h
      exact absurd h (by decide)
    by_cases h1 : s.size = 1
    · have hlt : 0 < s.size := by omega
      have h256 := s[0].toNat_lt
      have hB : begL (bl s) = decide (128 < s[0].toNat ∧ (s[0].toNat - 128) * 128 ≤ 8000) := by rw [bl_one s h1]; rfl
      by_cases h2 : 128 < s[0].toNat
      · by_cases h3 : (s[0].toNat - 128) * 128 ≤ 8000
        · rw [decide_eq_true ⟨h2, h3⟩] at hB
          rw [hB]
          have hd : decide (((s[0].toNat : Int) - 128) * 128 ≤ 8000) = true := decide_eq_true (by omega)
          clear hB
          go_enter Tryd.func36, Tryd.ntmps36
          go_wp2_with fail
          refine (refrint_any _ _ 8000 _ hb0 (by simp only; omega) (by decide)).mono ?_; rintro e w2 ⟨rfl, h1, hk2⟩
          rw [N.out] at h1 ⊢
          have hB2 : Below w.heap.size w w2 := hk.trans (hk2.below (Nat.le_refl _) (by simp))
          have c1 : w2.cell? ⟨w.heap.size, 1, none⟩ = some (.bool true) := h1.cell 1
          go_wp2_with fail
          go_ret3
          exact ⟨rfl, hB2⟩
        · rw [decide_eq_false (by omega)] at hB
          rw [hB]
          have hd : decide (((s[0].toNat : Int) - 128) * 128 ≤ 8000) = false := decide_eq_false (by omega)
          clear hB
          go_enter Tryd.func36, Tryd.ntmps36
          go_wp2_with fail
          refine (refrint_any _ _ 8000 _ hb0 (by simp only; omega) (by decide)).mono ?_; rintro e w2 ⟨rfl, h1, hk2⟩
          rw [N.out] at h1 ⊢
          have hB2 : Below w.heap.size w w2 := hk.trans (hk2.below (Nat.le_refl _) (by simp))
          have c1 : w2.cell? ⟨w.heap.size, 1, none⟩ = some (.bool true) := h1.cell 1
          go_wp2_with fail
          go_ret3
          exact ⟨rfl, hB2⟩
      · rw [decide_eq_false (by omega)] at hB
        rw [hB]
        clear hB
        go_enter Tryd.func36, Tryd.ntmps36
        go_wp2_with fail
        refine (refrint_any _ _ 8000 _ hb0 (by simp only; omega) (by decide)).mono ?_; rintro e w2 ⟨rfl, h1, hk2⟩
        rw [N.out] at h1 ⊢
        have hB2 : Below w.heap.size w w2 := hk.trans (hk2.below (Nat.le_refl _) (by simp))
        have c1 : w2.cell? ⟨w.heap.size, 1, none⟩ = some (.bool true) := h1.cell 1
        go_wp2_with fail
        go_ret3
        exact ⟨rfl, hB2⟩
    · have hB : begL (bl s) = false := by
        rcases e : bl s with _ | ⟨a, _ | ⟨b, t⟩⟩
        · rw [← bl_length, e] at h; exact absurd h (by decide)
        · rw [← bl_length, e] at h1; exact absurd rfl h1
        · rfl
      rw [hB]
      clear hB
      go_enter Tryd.func36, Tryd.ntmps36
      go_wp2_with fail
      refine (refrint_any _ _ 8000 _ hb0 (by simp only; omega) (by decide)).mono ?_; rintro e w2 ⟨rfl, h1, hk2⟩
      rw [N.out] at h1 ⊢
      have hB2 : Below w.heap.size w w2 := hk.trans (hk2.below (Nat.le_refl _) (by simp))
      have c1 : w2.cell? ⟨w.heap.size, 1, none⟩ = some (.bool true) := h1.cell 1
      go_wp2_with fail
      go_ret3
      exact ⟨rfl, hB2⟩
  · have hsz : s.size = Pl.nd n + t.size := by rw [← bl_length, hst, List.length_append, Pl.num_length, bl_length]
    clear hst
    have N := Lib.hid h1
    clear h1
    by_cases hlt : t.size < n + 2
    · rw [if_pos hlt] at h2
      rw [h2]
      clear h2
      go_enter Tryd.func36, Tryd.ntmps36
      go_wp2_with fail
      refine (refrint_any _ _ 8000 _ hb0 (by simp only; omega) (by decide)).mono ?_; rintro e w2 ⟨rfl, h1, hk2⟩
      rw [N.out] at h1 ⊢
      have hB2 : Below w.heap.size w w2 := hk.trans (hk2.below (Nat.le_refl _) (by simp))
      have c0 : w2.cell? ⟨w.heap.size, 0, none⟩ = some (.string t) := h1.cell 0
      have c1 : w2.cell? ⟨w.heap.size, 1, none⟩ = some (.bool false) := h1.cell 1
      go_wp2_with fail
      go_ret3
      exact ⟨rfl, hB2⟩
    · rw [if_neg hlt] at h2
      have hex : t.extract 0 n = ofL ((bl t).take n) := bl_inj (by rw [bl_extract, bl_ofL]; simp)
      obtain ⟨b, hb⟩ := nm (ofL ((bl t).take n))
      have hbb : bl b = (bl t).take n := by rw [hb.out, bl_ofL]
      have hbl : (bl b).length = n := by rw [hbb, List.length_take, bl_length]; omega
      rw [← hbb] at h2
      rw [← hb.out] at hex
      clear hb hbb
      have hfl := frame_length (bl b)
      rw [hbl] at hfl
      obtain ⟨f, hf⟩ := nm (ofL (frameL (bl b)))
      have hfb : frameL (bl b) = bl f := by rw [hf.out, bl_ofL]
      rw [hfb, bl_length] at hfl h2
      have hfs : f.size ≤ s.size := by omega
      have hexs : (s.extract 0 f.size).toList = (bl s).take f.size := by rw [toList_bl, bl_extract]; simp
      have hbs : b.size ≤ 8000 := by rw [← bl_length, hbl]; exact hn
      by_cases hq : (bl s).take f.size = bl f
      · rw [if_pos hq] at h2
        rw [h2]
        clear h2
        have hcmp : ((s.extract 0 f.size).toList == f.toList) = true := by rw [hexs, hq, toList_bl]; simp
        clear hexs hq hfb hbl hfl hsz
        go_enter Tryd.func36, Tryd.ntmps36
        go_wp2_with fail
        refine (refrint_any _ _ 8000 _ hb0 (by simp only; omega) (by decide)).mono ?_; rintro e w2 ⟨rfl, h1, hk2⟩
        rw [N.out] at h1 ⊢
        have hB2 : Below w.heap.size w w2 := hk.trans (hk2.below (Nat.le_refl _) (by simp))
        have c0 : w2.cell? ⟨w.heap.size, 0, none⟩ = some (.string t) := h1.cell 0
        have c1 : w2.cell? ⟨w.heap.size, 1, none⟩ = some (.bool false) := h1.cell 1
        go_wp2_with fail
        refine (ref_wrap b w2 (by omega)).mono ?_; rintro e w3 ⟨rfl, hB3⟩
        rw [← hf.out]
        go_wp2_with fail
        go_ret3
        exact ⟨rfl, bNext hB2 hB3⟩
      · rw [if_neg hq] at h2
        rw [h2]
        clear h2
        have hcmp : ((s.extract 0 f.size).toList == f.toList) = false := by rw [hexs, toList_bl]; simpa using hq
        clear hexs hq hfb hbl hfl hsz
        go_enter Tryd.func36, Tryd.ntmps36
        go_wp2_with fail
        refine (refrint_any _ _ 8000 _ hb0 (by simp only; omega) (by decide)).mono ?_; rintro e w2 ⟨rfl, h1, hk2⟩
        rw [N.out] at h1 ⊢
        have hB2 : Below w.heap.size w w2 := hk.trans (hk2.below (Nat.le_refl _) (by simp))
        have c0 : w2.cell? ⟨w.heap.size, 0, none⟩ = some (.string t) := h1.cell 0
        have c1 : w2.cell? ⟨w.heap.size, 1, none⟩ = some (.bool false) := h1.cell 1
        go_wp2_with fail
        refine (ref_wrap b w2 (by omega)).mono ?_; rintro e w3 ⟨rfl, hB3⟩
        rw [← hf.out]
        go_wp2_with fail
        go_ret3
        exact ⟨rfl, bNext hB2 hB3⟩

theorem refcut_is0 {b : List UInt8} {n : Nat} {x : Int} (s : ByteArray) (w : World) (hs : s.size ≤ 1000000) (h : cutL (bl s) = (b, n, x)) :
    Calls Tryd.prog 36 #[.string s] w fun e w' => e = .returned (.tuple #[.string (ofL b), .int .i64 (n : Nat), .int .i64 x]) ∧ Below w.heap.size w w' := by
  refine (refcut_any s w hs).mono ?_
  rintro e w' ⟨rfl, hB⟩
  rw [h]
  exact ⟨rfl, hB⟩

set_option maxRecDepth 100000 in
set_option maxHeartbeats 4000000 in
theorem refall_any (s : ByteArray) (w : World) (hs : s.size ≤ 1000000) :
    Calls Tryd.prog 12 #[.string s] w fun e w' => ∃ ao cap, e = .returned (.tuple #[.slice ao (allB s).length cap, .int .i64 ((allL (bl s)).2 : Nat)]) ∧ (allB s).length ≤ cap ∧
      SlAt w' ao ((allB s).map Value.string) ∧ Below w.heap.size w w' ∧ ∀ a, ao = some a → w.heap.size ≤ a.block := by
  obtain ⟨X, hX⟩ := nm (allB s)
  obtain ⟨N, hN⟩ := nm (allL (bl s)).2
  rw [← hX.out, ← hN.out]
  have hx0 : X = [] ++ ((allF (s.size + 1 - 0) ((bl s).drop 0)).1.map ofL) := by rw [hX.out, allB, allL, bl_length]; rfl
  have hn0 : N = 0 + (allF (s.size + 1 - 0) ((bl s).drop 0)).2 := by rw [hN.out, allL, bl_length, Nat.zero_add]; rfl
  have H0 : Hid (X = [] ++ ((allF (s.size + 1 - 0) ((bl s).drop 0)).1.map ofL) ∧ N = 0 + (allF (s.size + 1 - 0) ((bl s).drop 0)).2) := ⟨hx0, hn0⟩
  clear hx0 hn0 hX hN
  obtain ⟨i0, hi, hz0, hz1, hz2⟩ := info_parts infoStr
  go_enter Tryd.func12, Tryd.ntmps12
  go_wp2_with fail
  go_loopw [4, 5] (fun v i wr => ∃ (k n : Nat) (zs : List ByteArray), k ≤ n ∧ n ≤ s.size ∧ zs.length = k ∧ i = .int .i64 (n : Int) ∧ wr.ownsRow w.heap.size 9 1 v zs.length (zs.map Value.string) ∧ Below w.heap.size w wr ∧
    Hid (X = zs ++ ((allF (s.size + 1 - k) ((bl s).drop n)).1.map ofL) ∧ N = n + (allF (s.size + 1 - k) ((bl s).drop n)).2)) (fun _ i _ => s.size - (intOf i).toNat)
  case atStart => exact ⟨0, 0, [], Nat.le_refl _, Nat.zero_le _, rfl, rfl, ⟨rfl, .inl ⟨rfl, rfl⟩⟩, Below.refl _ _, H0⟩
  case round =>
    clear H0
    obtain ⟨k, n, zs, hkn, hns, hz, rfl, hown, hB, hI⟩ := hrel
    obtain ⟨⟨b, m, x⟩, hc⟩ := nm (cutL ((bl s).drop n))
    have hok := cut_ok ((bl s).drop n)
    have hst : allF (s.size + 1 - k) ((bl s).drop n) = if x = 0 then (b :: (allF (s.size + 1 - (k + 1)) ((bl s).drop (n + m))).1, m + (allF (s.size + 1 - (k + 1)) ((bl s).drop (n + m))).2) else ([], 0) := by
      rw [show s.size + 1 - k = (s.size + 1 - (k + 1)) + 1 from by omega, allF, ← hc.out, List.drop_drop]
    rw [← hc.out] at hok
    simp only [List.length_drop, bl_length] at hok
    have hC : Hid (cutL (bl (s.extract n s.size)) = (b, m, x)) := by
      show _ = _
      rw [bl_extract, List.take_of_length_le (by rw [List.length_drop, bl_length]; exact Nat.le_refl _)]
      exact hc.out.symm
    clear hc
    have hsz : (s.extract n s.size).size ≤ 1000000 := by rw [ByteArray.size_extract]; omega
    by_cases hx : x = 0
    · obtain ⟨hm1, hm2⟩ := hok hx
      rw [if_pos hx] at hst
      subst hx
      have HI : Hid (X = (zs ++ [ofL b]) ++ ((allF (s.size + 1 - (k + 1)) ((bl s).drop (n + m))).1.map ofL) ∧ N = (n + m) + (allF (s.size + 1 - (k + 1)) ((bl s).drop (n + m))).2) := by
        obtain ⟨h1, h2⟩ := hI.out
        rw [hst] at h1 h2
        refine ⟨by rw [h1]; simp, by rw [h2]; simp only; omega⟩
      clear hst hI hok
      obtain ⟨B, hBb⟩ := nm (ofL b)
      rw [← hBb.out] at HI
      obtain ⟨Lk, hLk⟩ := nm (zs.map Value.string)
      rw [← hLk.out] at hown
      go_wp2_with fail
      refine (refcut_is0 _ _ hsz hC.out).mono ?_; rintro e w2 ⟨rfl, hB2⟩
      rw [← hBb.out]
      replace hown := own_below hown hB2
      replace hB := bNext hB hB2
      clear hB2
      have hks := hB.size
      go_wp2_with (at_builtin; refine wpList_append_lies _ rfl _ _ 24 rfl w.heap.size 9 i0 (.string .empty) 1 16 Tryd.underlying24 hi hz0 hz1 hz2 rfl (by decide) _ zs.length _ rfl (hown.alloc _) ⟨w2.heap.size, 0, none⟩ 1 1 [.string B] rfl rfl (World.news_of_block (heap_alloc_new w2 _)) (by simp [Value.oneCell']) (by decide) (by unfold maxLen; omega) (by omega) (Nat.le_trans hks (by simp)) _ rfl ?_)
      intro g cap2 w3 hown2 hgrow _ _
      have hB3 : Below w.heap.size w w3 := (hB.alloc hB.size _).grown hgrow (Nat.le_trans hB.size (by simp)) (fun k hk => (hown.lt k hk).1)
      have hown3 : w3.ownsRow w.heap.size 9 1 (.slice (some ⟨g, 0, none⟩) (k + 1) cap2) (zs ++ [B]).length ((zs ++ [B]).map Value.string) := by
        rw [List.length_append, List.map_append, ← hLk.out, List.length_singleton, hz]; exact hown2
      clear hown hown2 hgrow hB
      go_wp2_with fail
      go_roundw
      case rel => exact ⟨k + 1, n + m, zs ++ [B], by omega, by omega, by simp [hz], by go_num, hown3, hB3, HI⟩
      case measure => simp [intOf]; omega
    · rw [if_neg hx] at hst
      have HE : Hid (X = zs ∧ N = n) := by
        obtain ⟨h1, h2⟩ := hI.out
        rw [hst] at h1 h2
        exact ⟨by rw [h1]; simp, by rw [h2]; rfl⟩
      clear hst hI hok
      go_wp2_with fail
      refine (refcut_is0 _ _ hsz hC.out).mono ?_; rintro e w2 ⟨rfl, hB2⟩
      replace hown := own_below hown hB2
      replace hB := bNext hB hB2
      have hxb : (x == 0) = false := by simpa using hx
      obtain ⟨ao, cap, rfl, hcap, hsl, hnw⟩ := SlAt.ownN (xs := zs.map Value.string) (by rw [List.length_map]; exact hown)
      rw [List.length_map] at hcap
      go_wp2_with fail
      go_ret2
      obtain ⟨rfl, rfl⟩ := HE.out
      exact ⟨ao, cap, by rw [hz]; rfl, hcap, hsl, hB, hnw⟩
end Go.Proofs.YtkglfnjgneofdaaDoor
