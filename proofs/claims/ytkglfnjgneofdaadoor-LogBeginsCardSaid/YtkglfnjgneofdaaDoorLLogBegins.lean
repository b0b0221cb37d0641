/- LogBegins: for every two rows of records, and wherever power goes, the law returns true (the table of four doublings lying in its variable as the program's text lays it). -/
import Derived.Test.YtkglfnjgneofdaaDoorLogC
import Derived.Test.YtkglfnjgneofdaaDoorCards
import Derived.Test.YtkglfnjgneofdaaDoorTie
import Derived.Deep.CutBlock
namespace Go.Proofs.YtkglfnjgneofdaaDoor
open Go.RowKit

theorem open_new : (Dk.new 1000).open = (⟨⟨#[]⟩, ⟨#[]⟩, 1000, 1, true, false, 0⟩, 0) := by kernel_rfl

/-- What Add and Sync leave. -/
theorem added (rs : List ByteArray) (h : ∀ r ∈ rs, r.size ≤ 20) (hl : rs.length ≤ 6) : ∃ st : Int, (1 ≤ st ∧ st ≤ 2) ∧ (Lg.mk 0 0 false).add ⟨⟨#[]⟩, ⟨#[]⟩, 1000, 1, true, false, 0⟩ rs = (⟨rs.length, (recB rs).size, false⟩, ⟨⟨#[]⟩, recB rs, 1000, st, true, false, 0⟩, 0) := by
  by_cases h0 : rs = []
  · subst h0; exact ⟨1, by decide, rfl⟩
  · refine ⟨2, by decide, ?_⟩
    have := recB_size rs h
    rw [add_fine _ _ _ _ _ _ _ rs (fun r hr => by have := h r hr; omega) h0 (by rw [nil_size]; omega), nil_append]
    simp
theorem begin_lost (n sz : Int) (safe : ByteArray) (st : Int) (rs : List ByteArray) (h : ∀ r ∈ rs, r.size ≤ 20) (hl : rs.length ≤ 6) :
    (Lg.mk n sz false).begin ⟨safe, ⟨#[]⟩, 1000, st, true, true, 0⟩ rs = (⟨n, sz, true⟩, ⟨safe, ⟨#[]⟩, 1000, st, false, true, 0⟩, 14) := by
  obtain ⟨h1, h2⟩ := frames_fine rs (fun r hr => by have := h r hr; omega)
  have := recB_size rs h
  have ha : (Dk.mk safe ⟨#[]⟩ 1000 st true true 0).swap (recB rs) = (⟨safe, ⟨#[]⟩, 1000, st, false, true, 0⟩, 14) := swap_lost _ _ rfl rfl (by simp only; omega) rfl
  rw [Lg.begin, if_neg (by simp), Lg.beginP, h1, h2, ha, if_neg (by simp), if_neg (by show ¬ ((14 : Int) = 0); decide)]
  rfl
theorem begin_fine (n sz : Int) (safe : ByteArray) (st : Int) (rs : List ByteArray) (h : ∀ r ∈ rs, r.size ≤ 20) (hl : rs.length ≤ 6) :
    (Lg.mk n sz false).begin ⟨safe, ⟨#[]⟩, 1000, st, true, true, 1⟩ rs = (⟨rs.length, (recB rs).size, false⟩, ⟨recB rs, ⟨#[]⟩, 1000, st + 1, true, true, 0⟩, 0) := by
  obtain ⟨h1, h2⟩ := frames_fine rs (fun r hr => by have := h r hr; omega)
  have h3 := recB_size rs h
  have ha : (Dk.mk safe ⟨#[]⟩ 1000 st true true 1).swap (recB rs) = (⟨recB rs, ⟨#[]⟩, 1000, st + 1, true, true, 0⟩, 0) := by
    have h4 : ¬ (1000 : Int) < ((recB rs).size : Int) := by omega
    simp [Dk.swap, Dk.step, h4]
  rw [Lg.begin, if_neg (by simp), Lg.beginP, h1, h2, ha, if_neg (by simp), if_pos rfl]
  rfl

theorem sync_fine (n sz : Int) (safe tail : ByteArray) (room st left : Int) (h : 0 ≤ room) :
    (Lg.mk n sz false).sync ⟨safe, tail, room, st, true, false, left⟩ = (⟨n, sz, false⟩, ⟨safe ++ tail, ⟨#[]⟩, room, st + 1, true, false, left⟩, 0) := by
  rw [Lg.sync, if_neg (by simp), sync_free _ rfl rfl h]
  rfl
theorem sync_broken (n sz : Int) (d : Dk) : (Lg.mk n sz true).sync d = (⟨n, sz, true⟩, d, 13) := rfl
theorem sync_cut (n sz : Int) (safe : ByteArray) (room st : Int) (h : 0 ≤ room) :
    (Lg.mk n sz false).sync ⟨safe, ⟨#[]⟩, room, st, true, true, 0⟩ = (⟨n, sz, true⟩, ⟨safe, ⟨#[]⟩, room, st, false, true, 0⟩, 14) := by
  rw [Lg.sync, if_neg (by simp), sync_lost _ rfl rfl h rfl]
  rfl
theorem crash_none (safe : ByteArray) (st left : Int) (on armed : Bool) : (Dk.mk safe ⟨#[]⟩ 1000 st on armed left).crash 0 = ⟨safe, ⟨#[]⟩, 1000, st, true, false, left⟩ := by
  unfold Dk.crash Dk.again
  rw [if_pos (by show (0 : Int) < 1000; decide), nil_extract, append_nil]

set_option maxRecDepth 100000 in
set_option maxHeartbeats 8000000 in
theorem logBegins_walk (ao1 : Option Addr) (len1 cap1 : Nat) (ss1 : List ByteArray) (hl1 : ss1.length = len1) (ao2 : Option Addr) (len2 cap2 : Nat) (ss2 : List ByteArray) (hl2 : ss2.length = len2) (left : Int) (w : World) (ht : Tab w)
    (hat1 : SlAt w ao1 (ss1.map Value.string)) (hat2 : SlAt w ao2 (ss2.map Value.string)) :
    Calls Tryd.prog 6 #[.slice ao1 len1 cap1, .slice ao2 len2 cap2, .int .i64 left] w fun e w' => e = .returned (.bool true) ∧ Below w.heap.size w w' := by
  have HT : Hid (Tab w) := ht
  have HAT1 := Lib.hid hat1
  have HL1 := Lib.hid hl1
  have HAT2 := Lib.hid hat2
  have HL2 := Lib.hid hl2
  clear ht hat1 hl1 hat2 hl2
  obtain ⟨rs1, hrs1⟩ := nm (cut20 6 ss1)
  obtain ⟨rs2, hrs2⟩ := nm (cut20 6 ss2)
  have HR1 : Hid (∀ r ∈ rs1, r.size ≤ 20) := by rw [hrs1.out]; exact cut20_le 6 ss1
  have HRL1 : Hid (rs1.length = min 6 len1) := by rw [hrs1.out, cut20_len, HL1.out]; exact rfl
  have HR2 : Hid (∀ r ∈ rs2, r.size ≤ 20) := by rw [hrs2.out]; exact cut20_le 6 ss2
  have HRL2 : Hid (rs2.length = min 6 len2) := by rw [hrs2.out, cut20_len, HL2.out]; exact rfl
  have hf0 : (Dk.new 1000).Fit := ⟨by decide, by decide, by decide⟩
  obtain ⟨K, hK, hm⟩ := and_mask left 1 (by decide)
  have hK01 : K = 0 ∨ K = 1 := by omega
  have hm2 : bits BinOp.and IntKind.i64 left 1 = (K : Int) := hm
  clear hm
  obtain ⟨i0, hi, hz0, hz1, hz2⟩ := info_parts infoStr
  go_enter Tryd.func6, Tryd.ntmps6
  go_wp2_with fail
  refine (awake_any _ HT.out).mono ?_; rintro e w1 ⟨rfl, hB⟩
  go_wp2_with fail
  refine (dnew2_any 1000 _ (by decide) (by decide)).mono ?_; rintro e w2 ⟨b, rfl, hb, hd, hB1⟩
  replace hb := Nat.le_trans hB.size hb
  replace hB := bNext hB hB1; clear hB1
  go_wp2_with fail
  refine (lopen_ok b _ _ [] 0 w _ hb hB hd hf0 HT.out open_new (by kernel_rfl) (by kernel_rfl)).mono ?_; rintro e w4 ⟨g, ao, cap, rfl, hL, -, -, -, -, -⟩
  clear hB hd hb hf0
  obtain ⟨wS1, hwS1⟩ := nm w4
  have LD1 : Hid (LD w wS1 g b ⟨0, 0, false⟩ ⟨⟨#[]⟩, ⟨#[]⟩, 1000, 1, true, false, 0⟩) := by rw [hwS1.out]; exact hL
  clear hL
  go_upto_block 0 with fail
  go_cut [12] (fun v wx => ∃ aq cq, v = .slice aq rs1.length cq ∧ rs1.length ≤ cq ∧ SlAt wx aq (rs1.map Value.string) ∧ (∀ a, aq = some a → wS1.heap.size ≤ a.block) ∧ Below wS1.heap.size wS1 wx)
  case first =>
    go_wp2_with fail
    go_loopw [12, 13] (fun v i wr => ∃ (k : Nat), k ≤ 6 ∧ k ≤ len1 ∧ i = .int .i64 (k : Int) ∧ wr.ownsRow wS1.heap.size 9 1 v k ((rs1.take k).map Value.string) ∧ Below wS1.heap.size wS1 wr) (fun _ i _ => 6 - (intOf i).toNat)
    case atStart => exact ⟨0, by omega, by omega, rfl, ⟨by simp, .inl ⟨rfl, rfl⟩⟩, by rw [hwS1.out]; exact Below.refl _ _⟩
    case round =>
      clear hwS1
      obtain ⟨k, hk1, hk2, rfl, hown, hB⟩ := hrel
      by_cases hlt : k < len1 ∧ k < 6
      · obtain ⟨hlt1, hlt2⟩ := hlt
        obtain ⟨b0, off, rfl, hb0, hcell⟩ := SlAt.str HAT1.out k (by rw [HL1.out]; exact hlt1)
        obtain ⟨x, hx⟩ := nm (ss1[k]'(by rw [HL1.out]; exact hlt1))
        rw [← hx.out] at hcell
        have hcx : wr.cell? ⟨b0, off + k, none⟩ = some (.string x) := ((bNext LD1.out.old hB).cell (p := ⟨b0, off + k, none⟩) hb0).trans hcell
        clear hcell
        obtain ⟨y, hy⟩ := nm (cutB x 20)
        have hnx : rs1.take (k + 1) = rs1.take k ++ [y] := by
          have hkl : k < rs1.length := by rw [HRL1.out]; omega
          rw [List.take_succ_eq_append_getElem hkl]
          congr 2
          rw [hy.out, hx.out]
          simp only [hrs1.out]
          exact cut20_get 6 ss1 k (by rw [← hrs1.out]; exact hkl) (by rw [HL1.out]; exact hlt1)
        have HNX := Lib.hid hnx
        clear hnx
        obtain ⟨Lk, hLk⟩ := nm ((rs1.take k).map Value.string)
        rw [← hLk.out] at hown
        have hks := hB.size
        go_wp2_with fail
        refine (short_any x 20 _ (by decide)).mono ?_; rintro e w6 ⟨rfl, rfl⟩
        rw [← hy.out]
        go_wp2_with (at_builtin; refine wpList_append_lies _ rfl _ _ 24 rfl wS1.heap.size 9 i0 (.string .empty) 1 16 Tryd.underlying24 hi hz0 hz1 hz2 rfl (by decide) _ k _ rfl (hown.alloc _) ⟨wr.heap.size, 0, none⟩ 1 1 [.string y] rfl rfl (World.news_of_block (heap_alloc_new wr _)) (by simp [Value.oneCell']) (by decide) (by unfold maxLen; omega) (by omega) (Nat.le_trans hks (by simp)) _ rfl ?_)
        intro g cap2 w8 hown2 hgrow _ _
        have hB2 : Below wS1.heap.size wS1 w8 := (hB.alloc hB.size _).grown hgrow (Nat.le_trans hB.size (by simp)) (fun k hk => (hown.lt k hk).1)
        have hown3 : w8.ownsRow wS1.heap.size 9 1 (.slice (some ⟨g, 0, none⟩) (k + 1) cap2) (k + 1) ((rs1.take (k + 1)).map Value.string) := by
          rw [HNX.out, List.map_append, ← hLk.out]; exact hown2
        clear hown hown2 hgrow hB
        go_wp2_with fail
        go_roundw
        case rel => exact ⟨k + 1, by omega, by omega, by go_num, hown3, hB2⟩
        case measure => simp [intOf]; omega
      · have hall : rs1.take k = rs1 := List.take_of_length_le (by rw [HRL1.out]; omega)
        have hkl : k = rs1.length := by rw [HRL1.out]; omega
        rw [hall] at hown
        obtain ⟨aq, cq, rfl, hcq, hsl, hnw⟩ := SlAt.ownN (xs := rs1.map Value.string) (by rw [List.length_map, ← hkl]; exact hown)
        rw [List.length_map] at hcq ⊢
        clear hown hall
        go_wp2_with fail
        all_goals
          go_meet
          exact ⟨aq, cq, rfl, hcq, hsl, hnw, hB⟩
  obtain ⟨aq1, cq1, rfl, hcq1, hsl1, hnw1, hB1⟩ := hcut
  have hL : LD w wc g b ⟨0, 0, false⟩ ⟨⟨#[]⟩, ⟨#[]⟩, 1000, 1, true, false, 0⟩ := LD1.out.below hB1
  clear hB1
  obtain ⟨wS2, hwS2⟩ := nm wc
  have LD2 : Hid (LD w wS2 g b ⟨0, 0, false⟩ ⟨⟨#[]⟩, ⟨#[]⟩, 1000, 1, true, false, 0⟩) := by rw [hwS2.out]; exact hL
  have HSM : Hid (SlAt wS2 aq1 (rs1.map Value.string)) := by rw [hwS2.out]; exact hsl1
  clear hL hsl1
  go_upto_block 2 with fail
  go_cut [14] (fun v wx => ∃ aq cq, v = .slice aq rs2.length cq ∧ rs2.length ≤ cq ∧ SlAt wx aq (rs2.map Value.string) ∧ (∀ a, aq = some a → wS2.heap.size ≤ a.block) ∧ Below wS2.heap.size wS2 wx)
  case first =>
    go_wp2_with fail
    go_loopw [14, 15] (fun v i wr => ∃ (k : Nat), k ≤ 6 ∧ k ≤ len2 ∧ i = .int .i64 (k : Int) ∧ wr.ownsRow wS2.heap.size 9 1 v k ((rs2.take k).map Value.string) ∧ Below wS2.heap.size wS2 wr) (fun _ i _ => 6 - (intOf i).toNat)
    case atStart => exact ⟨0, by omega, by omega, rfl, ⟨by simp, .inl ⟨rfl, rfl⟩⟩, by rw [hwS2.out]; exact Below.refl _ _⟩
    case round =>
      clear hwS2
      obtain ⟨k, hk1, hk2, rfl, hown, hB⟩ := hrel
      by_cases hlt : k < len2 ∧ k < 6
      · obtain ⟨hlt1, hlt2⟩ := hlt
        obtain ⟨b0, off, rfl, hb0, hcell⟩ := SlAt.str HAT2.out k (by rw [HL2.out]; exact hlt1)
        obtain ⟨x, hx⟩ := nm (ss2[k]'(by rw [HL2.out]; exact hlt1))
        rw [← hx.out] at hcell
        have hcx : wr.cell? ⟨b0, off + k, none⟩ = some (.string x) := ((bNext LD2.out.old hB).cell (p := ⟨b0, off + k, none⟩) hb0).trans hcell
        clear hcell
        obtain ⟨y, hy⟩ := nm (cutB x 20)
        have hnx : rs2.take (k + 1) = rs2.take k ++ [y] := by
          have hkl : k < rs2.length := by rw [HRL2.out]; omega
          rw [List.take_succ_eq_append_getElem hkl]
          congr 2
          rw [hy.out, hx.out]
          simp only [hrs2.out]
          exact cut20_get 6 ss2 k (by rw [← hrs2.out]; exact hkl) (by rw [HL2.out]; exact hlt1)
        have HNX := Lib.hid hnx
        clear hnx
        obtain ⟨Lk, hLk⟩ := nm ((rs2.take k).map Value.string)
        rw [← hLk.out] at hown
        have hks := hB.size
        go_wp2_with fail
        refine (short_any x 20 _ (by decide)).mono ?_; rintro e w6 ⟨rfl, rfl⟩
        rw [← hy.out]
        go_wp2_with (at_builtin; refine wpList_append_lies _ rfl _ _ 24 rfl wS2.heap.size 9 i0 (.string .empty) 1 16 Tryd.underlying24 hi hz0 hz1 hz2 rfl (by decide) _ k _ rfl (hown.alloc _) ⟨wr.heap.size, 0, none⟩ 1 1 [.string y] rfl rfl (World.news_of_block (heap_alloc_new wr _)) (by simp [Value.oneCell']) (by decide) (by unfold maxLen; omega) (by omega) (Nat.le_trans hks (by simp)) _ rfl ?_)
        intro g cap2 w8 hown2 hgrow _ _
        have hB2 : Below wS2.heap.size wS2 w8 := (hB.alloc hB.size _).grown hgrow (Nat.le_trans hB.size (by simp)) (fun k hk => (hown.lt k hk).1)
        have hown3 : w8.ownsRow wS2.heap.size 9 1 (.slice (some ⟨g, 0, none⟩) (k + 1) cap2) (k + 1) ((rs2.take (k + 1)).map Value.string) := by
          rw [HNX.out, List.map_append, ← hLk.out]; exact hown2
        clear hown hown2 hgrow hB
        go_wp2_with fail
        go_roundw
        case rel => exact ⟨k + 1, by omega, by omega, by go_num, hown3, hB2⟩
        case measure => simp [intOf]; omega
      · have hall : rs2.take k = rs2 := List.take_of_length_le (by rw [HRL2.out]; omega)
        have hkl : k = rs2.length := by rw [HRL2.out]; omega
        rw [hall] at hown
        obtain ⟨aq, cq, rfl, hcq, hsl, hnw⟩ := SlAt.ownN (xs := rs2.map Value.string) (by rw [List.length_map, ← hkl]; exact hown)
        rw [List.length_map] at hcq ⊢
        clear hown hall
        go_wp2_with fail
        all_goals
          go_meet
          exact ⟨aq, cq, rfl, hcq, hsl, hnw, hB⟩
  obtain ⟨aq2, cq2, rfl, hcq2, hsl2, hnw2, hB2⟩ := hcut
  replace hsl1 : SlAt wc aq1 (rs1.map Value.string) := HSM.out.below hB2
  have hL : LD w wc g b ⟨0, 0, false⟩ ⟨⟨#[]⟩, ⟨#[]⟩, 1000, 1, true, false, 0⟩ := LD2.out.below hB2
  clear hB2
  have hl61 : rs1.length ≤ 6 := by rw [HRL1.out]; omega
  have hl62 : rs2.length ≤ 6 := by rw [HRL2.out]; omega
  obtain ⟨st, hst, hadd⟩ := added rs1 HR1.out hl61
  have HADD := Lib.hid hadd
  clear hadd
  have hrz1 := recB_size rs1 HR1.out
  have hrz2 := recB_size rs2 HR2.out
  have B1 := LD1.out.il.lt
  have B2 := LD1.out.id.lt
  have B3 := LD2.out.il.lt
  have B4 := LD2.out.id.lt
  obtain ⟨S1, hS1⟩ := nm (recB rs1)
  obtain ⟨S2, hS2⟩ := nm (recB rs2)
  rw [← hS1.out] at HADD hrz1
  rw [← hS2.out] at hrz2
  go_wp2_with fail
  refine (ladd_any g b _ _ aq1 cq1 rs1 _ hL.il hL.id hL.ne (by omega) (fun r hr => by have := HR1.out r hr; omega) (fit_of (by decide) (by decide) (by decide)) (by decide) (by decide) (HT.out.below hL.old) hsl1).mono ?_
  rintro e w7 ⟨rfl, h1, h2, hk⟩
  rw [HADD.out] at h1 h2 ⊢
  replace hL := hL.next h1 h2 hk
  replace hsl1 := hsl1.above hnw1 hk.size (fun k h1 h2 => hk.block k h1 (by omega) (by omega))
  replace hsl2 := hsl2.above hnw2 hk.size (fun k h1 h2 => hk.block k h1 (by omega) (by omega))
  clear h1 h2 hk
  go_wp2_with fail
  refine (lsync_any g b _ _ _ hL.il hL.id hL.ne (fit_of (by rw [nil_size]; omega) (by omega) (by decide))).mono ?_
  rintro e w8 ⟨rfl, h1, h2, hk⟩
  rw [sync_fine _ _ _ _ _ _ _ (by decide), nil_append] at h1 h2 ⊢
  replace hL := hL.next h1 h2 hk
  replace hsl1 := hsl1.above hnw1 hk.size (fun k h1 h2 => hk.block k h1 (by omega) (by omega))
  replace hsl2 := hsl2.above hnw2 hk.size (fun k h1 h2 => hk.block k h1 (by omega) (by omega))
  clear h1 h2 hk
  rcases hK01 with rfl | rfl
  · go_wp2_with fail
    refine (darm_any b _ _ _ hL.id).mono ?_; rintro e w9 ⟨rfl, h2, hk⟩
    replace hL : LD w w9 g b ⟨rs1.length, S1.size, false⟩ ⟨S1, ⟨#[]⟩, 1000, st + 1, true, true, 0⟩ := hL.disk h2 hk
    replace hsl1 := hsl1.above hnw1 hk.size (fun k h1 h2 => hk.block k h1 (by omega))
    replace hsl2 := hsl2.above hnw2 hk.size (fun k h1 h2 => hk.block k h1 (by omega))
    clear h2 hk
    go_wp2_with fail
    refine (lbegin_any g b _ _ aq2 cq2 rs2 _ hL.il hL.id hL.ne (by omega) (fun r hr => by have := HR2.out r hr; omega) (fit_of (by rw [nil_size]; omega) (by omega) (by decide)) (HT.out.below hL.old) hsl2).mono ?_
    rintro e w10 ⟨rfl, h1, h2, hk⟩
    rw [begin_lost _ _ _ _ rs2 HR2.out hl62] at h1 h2 ⊢
    replace hL := hL.next h1 h2 hk
    replace hsl1 := hsl1.above hnw1 hk.size (fun k h1 h2 => hk.block k h1 (by omega) (by omega))
    clear h1 h2 hk hsl2
    go_wp2_with fail
    refine (lsync_any g b _ _ _ hL.il hL.id hL.ne (fit_of (by rw [nil_size]; omega) (by omega) (by decide))).mono ?_
    rintro e w11 ⟨rfl, h1, h2, hk⟩
    rw [sync_broken] at h1 h2 ⊢
    replace hL := hL.next h1 h2 hk
    replace hsl1 := hsl1.above hnw1 hk.size (fun k h1 h2 => hk.block k h1 (by omega) (by omega))
    clear h1 h2 hk
    go_wp2_with fail
    refine (dcrash_any b _ 0 _ hL.id (by simp only [nil_size]; omega)).mono ?_; rintro e w12 ⟨rfl, h2, hk⟩
    rw [crash_none] at h2
    replace hL := hL.disk h2 hk
    replace hsl1 := hsl1.above hnw1 hk.size (fun k h1 h2 => hk.block k h1 (by omega))
    clear h2 hk
    have O1 := Lib.hid (open_frames ⟨S1, ⟨#[]⟩, 1000, st + 1, true, false, 0⟩ rs1 (fun r hr => by have := HR1.out r hr; omega) (by rw [append_nil, hS1.out]) rfl rfl (by show (0 : Int) ≤ 1000; decide))
    go_wp2_with fail
    refine (lopen_ok b _ _ rs1 _ w _ hL.lb hL.old hL.id (fit_of (by rw [nil_size]; omega) (by omega) (by decide)) HT.out O1.out.1 O1.out.2.1 O1.out.2.2).mono ?_; rintro e w13 ⟨g3, ao4, cap4, rfl, hL3, hc4, hs4, hn4, hg3, hk⟩
    replace hsl1 := hsl1.above hnw1 hk.size (fun k h1 h2 => hk.block k h1 (by omega))
    clear hk
    go_wp2_with fail
    refine (sametexts_any ao4 aq1 cap4 cq1 rs1 rs1 _ (by omega) hs4 hsl1).mono ?_; rintro e w14 ⟨rfl, q1, rfl⟩
    rw [show decide (rs1 = rs1) = true from decide_eq_true rfl]
    go_wp2_with fail
    go_ret
    exact ⟨rfl, below_drewN hL3.old q1⟩
  · go_wp2_with fail
    refine (darm_any b _ _ _ hL.id).mono ?_; rintro e w9 ⟨rfl, h2, hk⟩
    replace hL : LD w w9 g b ⟨rs1.length, S1.size, false⟩ ⟨S1, ⟨#[]⟩, 1000, st + 1, true, true, 1⟩ := hL.disk h2 hk
    replace hsl2 := hsl2.above hnw2 hk.size (fun k h1 h2 => hk.block k h1 (by omega))
    clear h2 hk hsl1
    go_wp2_with fail
    refine (lbegin_any g b _ _ aq2 cq2 rs2 _ hL.il hL.id hL.ne (by omega) (fun r hr => by have := HR2.out r hr; omega) (fit_of (by rw [nil_size]; omega) (by omega) (by decide)) (HT.out.below hL.old) hsl2).mono ?_
    rintro e w10 ⟨rfl, h1, h2, hk⟩
    rw [begin_fine _ _ _ _ rs2 HR2.out hl62, ← hS2.out] at h1 h2 ⊢
    replace hL := hL.next h1 h2 hk
    replace hsl2 := hsl2.above hnw2 hk.size (fun k h1 h2 => hk.block k h1 (by omega) (by omega))
    clear h1 h2 hk
    go_wp2_with fail
    refine (lsync_any g b _ _ _ hL.il hL.id hL.ne (fit_of (by rw [nil_size]; omega) (by omega) (by decide))).mono ?_
    rintro e w11 ⟨rfl, h1, h2, hk⟩
    rw [sync_cut _ _ _ _ _ (by decide)] at h1 h2 ⊢
    replace hL := hL.next h1 h2 hk
    replace hsl2 := hsl2.above hnw2 hk.size (fun k h1 h2 => hk.block k h1 (by omega) (by omega))
    clear h1 h2 hk
    go_wp2_with fail
    refine (dcrash_any b _ 0 _ hL.id (by simp only [nil_size]; omega)).mono ?_; rintro e w12 ⟨rfl, h2, hk⟩
    rw [crash_none] at h2
    replace hL := hL.disk h2 hk
    replace hsl2 := hsl2.above hnw2 hk.size (fun k h1 h2 => hk.block k h1 (by omega))
    clear h2 hk
    have O1 := Lib.hid (open_frames ⟨S2, ⟨#[]⟩, 1000, st + 1 + 1, true, false, 0⟩ rs2 (fun r hr => by have := HR2.out r hr; omega) (by rw [append_nil, hS2.out]) rfl rfl (by show (0 : Int) ≤ 1000; decide))
    go_wp2_with fail
    refine (lopen_ok b _ _ rs2 _ w _ hL.lb hL.old hL.id (fit_of (by rw [nil_size]; omega) (by omega) (by decide)) HT.out O1.out.1 O1.out.2.1 O1.out.2.2).mono ?_; rintro e w13 ⟨g3, ao4, cap4, rfl, hL3, hc4, hs4, hn4, hg3, hk⟩
    replace hsl2 := hsl2.above hnw2 hk.size (fun k h1 h2 => hk.block k h1 (by omega))
    clear hk
    go_wp2_with fail
    refine (sametexts_any ao4 aq2 cap4 cq2 rs2 rs2 _ (by omega) hs4 hsl2).mono ?_; rintro e w14 ⟨rfl, q1, rfl⟩
    rw [show decide (rs2 = rs2) = true from decide_eq_true rfl]
    go_wp2_with fail
    go_ret
    exact ⟨rfl, below_drewN hL3.old q1⟩

namespace LLogBegins
open Go.ChangeShapes Go.WideShapes Go.ChangeAt
open Go.ChangeMaps (open_string shut_string)

set_option maxRecDepth 100000 in
theorem contract (H : Type) (enc : TypeId × Value → H) (W : World) (base : Nat) (args : Array Value) (ds gs : List (DataW H)) (before : List MemPlace)
    (hval : ∀ (j : Nat) t v, Tryd.f6.params[j]? = some t → args[j]? = some v → Value.okWide Tryd.prog W .any base t v)
    (hW : DataW.Whole enc Tryd.prog Tryd.f6.params.toList Rows.logBeginsSpec.vars false W args.toList ds gs before)
    (hL : laidMetH Tryd.prog Rows.logBeginsRow.laid W)
    (_hsz : (DataW.weightsEach Tryd.prog (Tryd.f6.params.toList ++ (OpenSpec.ofChange Rows.logBeginsSpec).bare.plain.varTypes Tryd.prog) (ds ++ gs)).all (fun x => decide (x ≤ reachBytes)) = true) :
    Calls Tryd.prog 6 args W fun e W' => ∃ v, e = .returned v ∧ Rows.logBeginsSpec.post enc Tryd.prog Tryd.f6 false true false false W args v W' := by
  have hW' := hW
  obtain ⟨p, q, hA0, hV, rfl, hfz, hnd⟩ := hW
  have hA : DataW.TrodAll enc Tryd.prog W 0 (fun _ => true) true Tryd.f6.params.toList args.toList ds p := hA0
  rw [Tryd.params6] at hA hval
  obtain ⟨v0, vs0, d0, ds0, p0, q0, hargs, rfl, rfl, h0, r0⟩ := trodAll_cons hA
  obtain ⟨v1, vs1, d1, ds1, p1, q1, rfl, rfl, rfl, h1, r1⟩ := trodAll_cons r0
  obtain ⟨v2, vs2, d2, ds2, p2, q2, rfl, rfl, rfl, h2, r2⟩ := trodAll_cons r1
  obtain ⟨rfl, rfl, rfl⟩ := trodAll_nil r2
  obtain rfl : args = #[v0, v1, v2] := by cases args; simp_all
  obtain ⟨rfl, rfl⟩ := trodVars_none hV
  obtain ⟨ao0, len0, cap0, ss0, rfl, hl0, _, _, hat0⟩ := open_strs Tryd.underlying24 Tryd.underlying9 (show Tryd.prog.cellsOf 9 = 1 by kernel_rfl) h0 (okWide_slice Tryd.underlying24 (hval 0 24 v0 rfl rfl))
  obtain ⟨ao1, len1, cap1, ss1, rfl, hl1, _, _, hat1⟩ := open_strs Tryd.underlying24 Tryd.underlying9 (show Tryd.prog.cellsOf 9 = 1 by kernel_rfl) h1 (okWide_slice Tryd.underlying24 (hval 1 24 v1 rfl rfl))
  obtain ⟨x2, rfl, rfl, rfl, k2⟩ := open_int Tryd.underlying3 (hval 2 3 v2 rfl rfl) h2
  clear hA0
  refine (logBegins_walk ao0 len0 cap0 ss0 hl0 ao1 len1 cap1 ss1 hl1 x2 W (tab_of hL) hat0 hat1).mono fun e W' ⟨he, hb⟩ => ?_
  subst he
  exact ⟨_, rfl, law_post laidOut Tryd.underlying4 rfl (by kernel_rfl) rfl rfl rfl rfl hW' hb⟩

theorem reads (os : Os) {H : Type} (enc : TypeId × Value → H) : ∃ places, DataW.whole enc Tryd.prog ((laidWorld os).forCall (fun _ _ => 0) ⟨#[], #[.slice none 0 0, .slice none 0 0, .int .i64 0], []⟩).memory Tryd.f6.params.toList Rows.logBeginsSpec.vars false (#[.slice none 0 0, .slice none 0 0, .int .i64 0] : Array Value).toList 8 = some ([.nil, .nil, .lit (.int .i64 0)], [], places) :=
  ⟨[], by kernel_rfl⟩
theorem laid_met (os : Os) : laidMet Tryd.prog Rows.logBeginsRow.laid ((laidWorld os).forCall (fun _ _ => 0) ⟨#[], #[.slice none 0 0, .slice none 0 0, .int .i64 0], []⟩).memory :=
  laidMet_of_run' 8 (by kernel_rfl) (by kernel_rfl)

set_option maxRecDepth 100000 in
theorem lifted (os : Os) (started : os.Started) (H : Type) (enc : TypeId × Value → H) (F : Stop.Interp) :
    ReturnsInHanded {} Tryd.checked os 6 .any ((OpenSpec.ofChange Rows.logBeginsSpec).preRow enc Tryd.prog Tryd.f6 Rows.logBeginsRow.domain false Rows.logBeginsRow.laid) (((OpenSpec.ofChange Rows.logBeginsSpec).at F).post enc Tryd.prog Tryd.f6 false true false false) := by
  obtain ⟨places, hx⟩ := reads os enc
  refine returnsInHanded_of_row (C := Tryd.checked) (s := OpenSpec.ofChange Rows.logBeginsSpec) own started (by kernel_rfl) Tryd.func6
    (witness_row_at (enc := enc) (C := Tryd.checked) false (laidWorld os) #[.slice none 0 0, .slice none 0 0, .int .i64 0] rfl (by kernel_rfl) (by kernel_rfl) (by kernel_rfl)
      (OpenSpec.preRow_of_cond 8 hx (by kernel_rfl) (fun k hk => by cases hk) (by kernel_rfl) (laid_met os))) ?_
  intro W base args ds gs before hval hW _ _ hsz hL _ _
  exact contract H enc W base args ds gs before hval hW hL hsz

theorem said : Rows.LogBeginsSaid :=
  OpenClaim.holds_of_cond 6 Tryd.f6 rfl rfl rfl rfl rfl rfl rfl ⟨rfl, rfl, rfl, rfl, rfl⟩ rfl rfl rfl rfl rfl (by kernel_rfl) Tryd.func6 (by kernel_rfl)
    (of_decide_eq_true (by kernel_rfl)) (by unfold Func.isWrapper; first | (rw [if_pos (by decide +kernel)]; kernel_rfl) | (rw [if_neg (by decide +kernel)]; exact ⟨rfl, rfl⟩))
    (fun os started H enc _ F => by rw [OpenClaim.pre_eq_preRow]; exact lifted os started H enc F)

theorem plain (f : FuncId) (fn : Func) (hf : Tryd.pinned.checked.prog.funcNamed "caravan/caravanlaw14.LogBegins" = some f) (hfn : Tryd.pinned.checked.prog.funcs[f]? = some fn) :
    false = Tryd.pinned.checked.prog.looks [] ∧ ∀ (j : Nat) t, fn.params[j]? = some t → Tryd.pinned.checked.prog.wantsStandIn t = false := by
  obtain rfl : f = 6 := Option.some.inj ((show Tryd.prog.funcNamed "caravan/caravanlaw14.LogBegins" = some 6 by kernel_rfl).symm.trans hf) |>.symm
  obtain rfl : fn = Tryd.f6 := (Option.some.inj (Tryd.func6.symm.trans hfn)).symm
  refine ⟨by kernel_rfl, fun j t ht => ?_⟩
  have hm : t ∈ Tryd.f6.params.toList := Array.mem_toList_iff.2 (Array.mem_of_getElem? ht)
  have hall : (Tryd.f6.params.toList.all fun t => Tryd.prog.wantsStandIn t == false) = true := by kernel_rfl
  have := List.all_eq_true.1 hall t hm
  exact (show Tryd.prog.wantsStandIn t = false by simpa using this)

theorem card : Rows.LogBeginsCardSaid :=
  Claim7.holds_tied_plain_at .later [] _ _ _ _ said (fun _ h => by cases h) (by kernel_rfl) (fun _ h => by cases h) logBegins_row_tie rfl ⟨rfl, rfl⟩ (by kernel_rfl) rfl plain (by kernel_rfl)
end LLogBegins
end Go.Proofs.YtkglfnjgneofdaaDoor
