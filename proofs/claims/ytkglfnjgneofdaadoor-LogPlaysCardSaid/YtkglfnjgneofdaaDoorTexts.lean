/- (Op).texts: the texts of a call. -/
import Derived.Test.YtkglfnjgneofdaaDoorLogC
import Derived.Deep.CutBlock
namespace Go.Proofs.YtkglfnjgneofdaaDoor
open Go.RowKit

theorem mk_is (n : Nat) (x : Int) (hx : x = (n : Int)) (hn : n ≤ 281474976710656) (w : World) : (Instr.makeSlice 74 (.int .i64 x) (.int .i64 x)).run Tryd.prog w = .ok (.slice (some ⟨w.heap.size, 0, none⟩) n n) (w.alloc (.cells (madeCells #[.int .u8 0] n) 5)) := by
  subst hx; exact make_bytes n hn w

/-- A text that is too long. -/
def long : ByteArray := ofL (List.replicate 8001 0)
theorem long_size : long.size = 8001 := by rw [long, ofL_size, List.length_replicate]
/-- The texts of a call. -/
def opTexts (n : Int) (ss : List ByteArray) : List ByteArray := if n = 77 then cut20 3 ss ++ [long] else cut20 3 ss
theorem opTexts_len (n : Int) (ss : List ByteArray) : (opTexts n ss).length ≤ 4 := by
  have := cut20_len 3 ss
  unfold opTexts
  split
  · rw [List.length_append]; simp; omega
  · omega
theorem opTexts_le (n : Int) (ss : List ByteArray) : ∀ r ∈ opTexts n ss, r.size ≤ 8001 := by
  intro r hr
  unfold opTexts at hr
  split at hr
  · rcases List.mem_append.1 hr with h | h
    · have := cut20_le 3 ss r h; omega
    · rw [List.mem_singleton.1 h, long_size]; omega
  · have := cut20_le 3 ss r hr; omega

set_option maxRecDepth 100000 in
set_option maxHeartbeats 4000000 in
theorem texts_any (a n : Int) (ao : Option Addr) (len cap : Nat) (ss : List ByteArray) (hl : ss.length = len) (w : World) (hat : SlAt w ao (ss.map Value.string)) :
    Calls Tryd.prog 30 #[.agg #[.int .i64 a, .int .i64 n, .slice ao len cap]] w fun e w' => ∃ ao' cap', e = .returned (.slice ao' (opTexts n ss).length cap') ∧ (opTexts n ss).length ≤ cap' ∧
      SlAt w' ao' ((opTexts n ss).map Value.string) ∧ Below w.heap.size w w' := by
  have HAT := Lib.hid hat
  have HL := Lib.hid hl
  clear hat hl
  obtain ⟨rs, hrs⟩ := nm (cut20 3 ss)
  have HRL : Hid (rs.length = min 3 len) := by rw [hrs.out, cut20_len, HL.out]; exact rfl
  have hB0 : Below w.heap.size w (w.alloc (.cells #[.int .i64 a, .int .i64 n, .slice ao len cap] 54)) := bOld _
  have hbx0 : Blk (w.alloc (.cells #[.int .i64 a, .int .i64 n, .slice ao len cap] 54)) w.heap.size #[.int .i64 a, .int .i64 n, .slice ao len cap] 54 := Blk.new _ _ _
  obtain ⟨i0, hi, hz0, hz1, hz2⟩ := info_parts infoStr
  obtain ⟨wS, hwS⟩ := nm (w.alloc (.cells #[.int .i64 a, .int .i64 n, .slice ao len cap] 54))
  have hB : Below w.heap.size w wS := by rw [hwS.out]; exact hB0
  have hbx : Blk wS w.heap.size #[.int .i64 a, .int .i64 n, .slice ao len cap] 54 := by rw [hwS.out]; exact hbx0
  obtain ⟨p, hp⟩ := nm w.heap.size
  rw [← hp.out] at hbx
  have hBX := Lib.hid hbx
  have HB := Lib.hid hB
  clear hB0 hbx0 hB hbx
  have cL : ∀ w' : World, Below wS.heap.size wS w' → w'.cell? ⟨p, 2, none⟩ = some (.slice ao len cap) ∧ w'.cell? ⟨p, 1, none⟩ = some (.int .i64 n) := fun w' h => ⟨(Blk.below hBX.out h (Blk.lt hBX.out)).cell 2, (Blk.below hBX.out h (Blk.lt hBX.out)).cell 1⟩
  have CL := Lib.hid cL
  clear cL
  obtain ⟨T, hT⟩ := nm (opTexts n ss)
  rw [← hT.out]
  go_enter Tryd.func30, Tryd.ntmps30
  go_upto_block 0 with fail
  rw [← hp.out, ← hwS.out]
  have hB1 : Below wS.heap.size wS wS := Below.refl _ _
  go_cut [3] (fun v wx => wx.ownsRow wS.heap.size 9 1 v rs.length (rs.map Value.string) ∧ Below wS.heap.size wS wx)
  case first =>
    go_wp2_with fail
    go_loopw [3, 4] (fun v i wr => ∃ (k : Nat), k ≤ 3 ∧ k ≤ len ∧ i = .int .i64 (k : Int) ∧ wr.ownsRow wS.heap.size 9 1 v k ((rs.take k).map Value.string) ∧ Below wS.heap.size wS wr) (fun _ i _ => 3 - (intOf i).toNat)
    case atStart => exact ⟨0, by omega, by omega, rfl, ⟨by simp, .inl ⟨rfl, rfl⟩⟩, hB1⟩
    case round =>
      clear hB1
      obtain ⟨k, hk1, hk2, rfl, hown, hB⟩ := hrel
      obtain ⟨cl, cn⟩ := CL.out _ hB
      by_cases hlt : k < len ∧ k < 3
      · obtain ⟨hlt1, hlt2⟩ := hlt
        obtain ⟨b0, off, rfl, hb0, hcell⟩ := SlAt.str HAT.out k (by rw [HL.out]; exact hlt1)
        obtain ⟨x, hx⟩ := nm (ss[k]'(by rw [HL.out]; exact hlt1))
        rw [← hx.out] at hcell
        have hcx : wr.cell? ⟨b0, off + k, none⟩ = some (.string x) := ((bNext HB.out hB).cell (p := ⟨b0, off + k, none⟩) hb0).trans hcell
        clear hcell
        obtain ⟨y, hy⟩ := nm (cutB x 20)
        have hnx : rs.take (k + 1) = rs.take k ++ [y] := by
          have hkl : k < rs.length := by rw [HRL.out]; omega
          rw [List.take_succ_eq_append_getElem hkl]
          congr 2
          rw [hy.out, hx.out]
          simp only [hrs.out]
          exact cut20_get 3 ss k (by rw [← hrs.out]; exact hkl) (by rw [HL.out]; exact hlt1)
        have HNX := Lib.hid hnx
        clear hnx
        obtain ⟨Lk, hLk⟩ := nm ((rs.take k).map Value.string)
        rw [← hLk.out] at hown
        have hks := hB.size
        go_wp2_with fail
        refine (short_any x 20 _ (by decide)).mono ?_; rintro e w6 ⟨rfl, rfl⟩
        rw [← hy.out]
        go_wp2_with (at_builtin; refine wpList_append_lies _ rfl _ _ 24 rfl wS.heap.size 9 i0 (.string .empty) 1 16 Tryd.underlying24 hi hz0 hz1 hz2 rfl (by decide) _ k _ rfl (hown.alloc _) ⟨wr.heap.size, 0, none⟩ 1 1 [.string y] rfl rfl (World.news_of_block (heap_alloc_new wr _)) (by simp [Value.oneCell']) (by decide) (by unfold maxLen; omega) (by omega) (Nat.le_trans hks (by simp)) _ rfl ?_)
        intro g cap2 w8 hown2 hgrow _ _
        have hB2 : Below wS.heap.size wS w8 := (hB.alloc hB.size _).grown hgrow (Nat.le_trans hB.size (by simp)) (fun k hk => (hown.lt k hk).1)
        have hown3 : w8.ownsRow wS.heap.size 9 1 (.slice (some ⟨g, 0, none⟩) (k + 1) cap2) (k + 1) ((rs.take (k + 1)).map Value.string) := by
          rw [HNX.out, List.map_append, ← hLk.out]; exact hown2
        clear hown hown2 hgrow hB
        go_wp2_with fail
        go_roundw
        case rel => exact ⟨k + 1, by omega, by omega, by go_num, hown3, hB2⟩
        case measure => simp [intOf]; omega
      · have hall : rs.take k = rs := List.take_of_length_le (by rw [HRL.out]; omega)
        have hkl : k = rs.length := by rw [HRL.out]; omega
        rw [hall] at hown
        have hown' := hown
        rw [hkl] at hown'
        clear hown hall hkl
        go_wp2_with fail
        all_goals
          go_meet
          exact ⟨hown', hB⟩
  obtain ⟨hown, hB⟩ := hcut
  have hr3 : rs.length ≤ 3 := by rw [HRL.out]; omega
  obtain ⟨cl, cn⟩ := CL.out _ hB
  have hks := hB.size
  by_cases hn : n = 77
  · have hT2 : T = rs ++ [long] := by rw [hT.out, opTexts, if_pos hn, hrs.out]
    clear hT
    subst hn
    have hmk := mk_is 8001 8001 rfl (by decide)
    have hcv : ∀ w : World, _ := fun w => conv_new (P := Tryd.prog) w 74 5 9 5 Tryd.underlying74 Tryd.underlying5 Tryd.underlying9 8001 8001 (List.replicate 8001 0) _ (by simp) (zeroCells 8001)
    rw [show ofL (List.replicate 8001 0) = long from rfl] at hcv
    obtain ⟨L, hL⟩ := nm long
    rw [← hL.out] at hcv hT2
    have HT2 := Lib.hid hT2
    clear hT2
    have hown2 := (hown.alloc (.cells (madeCells #[.int .u8 0] 8001) 5)).alloc (.cells #[.string L] 9)
    have hnew : ((wc.alloc (.cells (madeCells #[.int .u8 0] 8001) 5)).alloc (.cells #[.string L] 9)).heap[wc.heap.size + 1]? = some (.cells #[.string L] 9 (0, 0)) := by
      have := heap_alloc_new (wc.alloc (.cells (madeCells #[.int .u8 0] 8001) 5)) (.cells #[.string L] 9)
      simpa using this
    go_wp2_with (at_builtin; refine wpList_append_lies _ rfl _ _ 24 rfl wS.heap.size 9 i0 (.string .empty) 1 16 Tryd.underlying24 hi hz0 hz1 hz2 rfl (by decide) _ rs.length _ rfl hown2 ⟨wc.heap.size + 1, 0, none⟩ 1 1 [.string L] rfl rfl (World.news_of_block hnew) (by simp [Value.oneCell']) (by decide) (by unfold maxLen; omega) (by omega) (Nat.le_trans hks (by simp; omega)) _ rfl ?_)
    intro g cap2 w8 hown3 hgrow _ _
    have hB2 : Below wS.heap.size wS w8 := ((hB.alloc hB.size _).alloc (Nat.le_trans hB.size (by simp)) _).grown hgrow (Nat.le_trans hB.size (by simp; omega)) (fun k hk => (hown2.lt k hk).1)
    have hown4 : w8.ownsRow wS.heap.size 9 1 (.slice (some ⟨g, 0, none⟩) (rs.length + 1) cap2) ((rs ++ [L]).map Value.string).length ((rs ++ [L]).map Value.string) := by
      rw [List.length_map, List.length_append, List.map_append]; exact hown3
    obtain ⟨aq, cq, hv, hcq, hsl⟩ := SlAt.ownV hown4
    rw [List.length_map] at hv hcq
    clear hown2 hown3 hown4 hgrow hmk hcv
    go_wp2_with fail
    go_ret
    rw [HT2.out]
    exact ⟨aq, cq, congrArg Ending.returned hv, hcq, hsl, bNext HB.out hB2⟩
  · have hT2 : T = rs := by rw [hT.out, opTexts, if_neg hn, hrs.out]
    clear hT
    have hnb : (n == 77) = false := by simpa using hn
    obtain ⟨aq, cq, hv, hcq, hsl⟩ := SlAt.ownV (xs := rs.map Value.string) (by rw [List.length_map]; exact hown)
    rw [List.length_map] at hv hcq
    go_wp2_with fail
    go_ret
    rw [hT2]
    exact ⟨aq, cq, congrArg Ending.returned hv, hcq, hsl, bNext HB.out hB⟩
end Go.Proofs.YtkglfnjgneofdaaDoor
