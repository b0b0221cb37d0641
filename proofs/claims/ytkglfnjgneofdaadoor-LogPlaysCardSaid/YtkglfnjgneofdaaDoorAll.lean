/- fold.All: what is cut off, frame by frame. -/
import Derived.Test.YtkglfnjgneofdaaDoorCutIs
import Derived.Test.YtkglfnjgneofdaaDoorOwnV
import Derived.WalkMore
namespace Go.Proofs.YtkglfnjgneofdaaDoor
open Go.RowKit

/-- The frames with which bytes begin; how many bytes these are. -/
def allF : Nat → List UInt8 → List (List UInt8) × Nat
  | 0, _ => ([], 0)
  | f + 1, s => if (cutL s).2.2 = 0 then ((cutL s).1 :: (allF f (s.drop (cutL s).2.1)).1, (cutL s).2.1 + (allF f (s.drop (cutL s).2.1)).2) else ([], 0)
def allL (s : List UInt8) : List (List UInt8) × Nat := allF (s.length + 1) s

theorem cut_ok (s : List UInt8) (h : (cutL s).2.2 = 0) : 1 ≤ (cutL s).2.1 ∧ (cutL s).2.1 ≤ s.length := by
  unfold cutL at h ⊢
  split at h
  · simp only at h; split at h <;> cases h
  · rename_i n l hr
    split at h
    · simp only at h; split at h <;> cases h
    · rename_i h8
      rw [if_neg h8]
      split at h
      · cases h
      · rename_i hl
        rw [if_neg hl]
        split at h
        · rename_i he
          rw [if_pos he]
          simp only
          have h1 := congrArg List.length he
          rw [List.length_take] at h1
          have h2 := frame_length (l.take n)
          omega
        · cases h

/-- The texts that All cuts off. -/
def allB (s : ByteArray) : List ByteArray := (allL (bl s)).1.map ofL

set_option maxRecDepth 100000 in
set_option maxHeartbeats 4000000 in
theorem all_anyN (s : ByteArray) (w : World) (hs : s.size ≤ 1000000) (ht : Tab w) :
    Calls Tryd.prog 35 #[.string s] w fun e w' => ∃ ao cap, e = .returned (.tuple #[.slice ao (allB s).length cap, .int .i64 ((allL (bl s)).2 : Nat)]) ∧ (allB s).length ≤ cap ∧
      SlAt w' ao ((allB s).map Value.string) ∧ Below w.heap.size w w' ∧ ∀ a, ao = some a → w.heap.size ≤ a.block := by
  have HT : Hid (Tab w) := ht
  clear ht
  obtain ⟨X, hX⟩ := nm (allB s)
  obtain ⟨N, hN⟩ := nm (allL (bl s)).2
  rw [← hX.out, ← hN.out]
  have hx0 : X = [] ++ ((allF (s.size + 1 - 0) ((bl s).drop 0)).1.map ofL) := by rw [hX.out, allB, allL, bl_length]; rfl
  have hn0 : N = 0 + (allF (s.size + 1 - 0) ((bl s).drop 0)).2 := by rw [hN.out, allL, bl_length, Nat.zero_add]; rfl
  have H0 : Hid (X = [] ++ ((allF (s.size + 1 - 0) ((bl s).drop 0)).1.map ofL) ∧ N = 0 + (allF (s.size + 1 - 0) ((bl s).drop 0)).2) := ⟨hx0, hn0⟩
  clear hx0 hn0 hX hN
  obtain ⟨i0, hi, hz0, hz1, hz2⟩ := info_parts infoStr
  go_enter Tryd.func35, Tryd.ntmps35
  go_wp2_with fail
  go_step3
  go_wp2_with fail
  go_step3
  go_wp2_with fail
  go_loopw [2, 3] (fun v i wr => ∃ (k n : Nat) (zs : List ByteArray), k ≤ n ∧ n ≤ s.size ∧ zs.length = k ∧ i = .int .i64 (n : Int) ∧ wr.ownsRow w.heap.size 9 1 v zs.length (zs.map Value.string) ∧ Below w.heap.size w wr ∧
    Hid (X = zs ++ ((allF (s.size + 1 - k) ((bl s).drop n)).1.map ofL) ∧ N = n + (allF (s.size + 1 - k) ((bl s).drop n)).2)) (fun _ i _ => s.size - (intOf i).toNat)
  case atStart => exact ⟨0, 0, [], Nat.le_refl _, Nat.zero_le _, rfl, rfl, ⟨rfl, .inl ⟨rfl, rfl⟩⟩, Below.refl _ _, H0⟩
  case round =>
    clear H0
    obtain ⟨k, n, zs, hkn, hns, hz, rfl, hown, hB, hI⟩ := hrel
    obtain ⟨⟨b, m, x⟩, hc⟩ := nm (cutL ((bl s).drop n))
    have hok := cut_ok ((bl s).drop n)
    have hst : allF (s.size + 1 - k) ((bl s).drop n) = if x = 0 then (b :: (allF (s.size + 1 - (k + 1)) ((bl s).drop (n + m))).1, m + (allF (s.size + 1 - (k + 1)) ((bl s).drop (n + m))).2) else ([], 0) := by
      rw [show s.size + 1 - k = (s.size + 1 - (k + 1)) + 1 from by omega, allF, ← hc.out, List.drop_drop]
    rw [← hc.out] at hok
    simp only [List.length_drop, bl_length] at hok
    have hC : Hid (cutL (bl (s.extract n s.size)) = (b, m, x)) := by
      show _ = _
      rw [bl_extract, List.take_of_length_le (by rw [List.length_drop, bl_length]; exact Nat.le_refl _)]
      exact hc.out.symm
    clear hc
    have hsz : (s.extract n s.size).size ≤ 1000000 := by rw [ByteArray.size_extract]; omega
    by_cases hx : x = 0
    · obtain ⟨hm1, hm2⟩ := hok hx
      rw [if_pos hx] at hst
      subst hx
      have HI : Hid (X = (zs ++ [ofL b]) ++ ((allF (s.size + 1 - (k + 1)) ((bl s).drop (n + m))).1.map ofL) ∧ N = (n + m) + (allF (s.size + 1 - (k + 1)) ((bl s).drop (n + m))).2) := by
        obtain ⟨h1, h2⟩ := hI.out
        rw [hst] at h1 h2
        refine ⟨by rw [h1]; simp, by rw [h2]; simp only; omega⟩
      clear hst hI hok
      obtain ⟨B, hBb⟩ := nm (ofL b)
      rw [← hBb.out] at HI
      obtain ⟨Lk, hLk⟩ := nm (zs.map Value.string)
      rw [← hLk.out] at hown
      go_wp2_with fail
      refine (cut_is0 _ _ hsz (HT.out.below hB) hC.out).mono ?_; rintro e w2 ⟨rfl, hB2⟩
      rw [← hBb.out]
      replace hown := own_below hown hB2
      replace hB := bNext hB hB2
      clear hB2
      have hks := hB.size
      go_wp2_with (at_builtin; refine wpList_append_lies _ rfl _ _ 24 rfl w.heap.size 9 i0 (.string .empty) 1 16 Tryd.underlying24 hi hz0 hz1 hz2 rfl (by decide) _ zs.length _ rfl (hown.alloc _) ⟨w2.heap.size, 0, none⟩ 1 1 [.string B] rfl rfl (World.news_of_block (heap_alloc_new w2 _)) (by simp [Value.oneCell']) (by decide) (by unfold maxLen; omega) (by omega) (Nat.le_trans hks (by simp)) _ rfl ?_)
      intro g cap2 w3 hown2 hgrow _ _
      have hB3 : Below w.heap.size w w3 := (hB.alloc hB.size _).grown hgrow (Nat.le_trans hB.size (by simp)) (fun k hk => (hown.lt k hk).1)
      have hown3 : w3.ownsRow w.heap.size 9 1 (.slice (some ⟨g, 0, none⟩) (k + 1) cap2) (zs ++ [B]).length ((zs ++ [B]).map Value.string) := by
        rw [List.length_append, List.map_append, ← hLk.out, List.length_singleton, hz]; exact hown2
      clear hown hown2 hgrow hB
      go_wp2_with fail
      go_roundw
      case rel => exact ⟨k + 1, n + m, zs ++ [B], by omega, by omega, by simp [hz], by go_num, hown3, hB3, HI⟩
      case measure => simp [intOf]; omega
    · rw [if_neg hx] at hst
      have HE : Hid (X = zs ∧ N = n) := by
        obtain ⟨h1, h2⟩ := hI.out
        rw [hst] at h1 h2
        exact ⟨by rw [h1]; simp, by rw [h2]; rfl⟩
      clear hst hI hok
      go_wp2_with fail
      refine (cut_is0 _ _ hsz (HT.out.below hB) hC.out).mono ?_; rintro e w2 ⟨rfl, hB2⟩
      replace hown := own_below hown hB2
      replace hB := bNext hB hB2
      have hxb : (x == 0) = false := by simpa using hx
      obtain ⟨ao, cap, rfl, hcap, hsl, hnw⟩ := SlAt.ownN (xs := zs.map Value.string) (by rw [List.length_map]; exact hown)
      rw [List.length_map] at hcap
      go_wp2_with fail
      (first | go_ret2 | (rw [Exit.noGoto_ret]; go_ret2))
      obtain ⟨rfl, rfl⟩ := HE.out
      exact ⟨ao, cap, by rw [hz]; rfl, hcap, hsl, hB, hnw⟩
theorem all_any (s : ByteArray) (w : World) (hs : s.size ≤ 1000000) (ht : Tab w) :
    Calls Tryd.prog 35 #[.string s] w fun e w' => ∃ ao cap, e = .returned (.tuple #[.slice ao (allB s).length cap, .int .i64 ((allL (bl s)).2 : Nat)]) ∧ (allB s).length ≤ cap ∧
      SlAt w' ao ((allB s).map Value.string) ∧ Below w.heap.size w w' :=
  (all_anyN s w hs ht).mono fun _ _ ⟨ao, cap, h1, h2, h3, h4, _⟩ => ⟨ao, cap, h1, h2, h3, h4⟩
end Go.Proofs.YtkglfnjgneofdaaDoor
