/- Rows of tags are read: the program's. (and what stands on it: 11 texts in one) -/
import Derived.ChangeKeysEq
import Derived.Deep.RegionHeld3
import Derived.OwnWalk
import Derived.WalkMore
import Derived.IntWalk
import Derived.Test.YtfpjdmplepepjaaGreatK5
import Derived.Test.YtfpjdmplepepjaaGreatK4
import Derived.Test.YtfpjdmplepepjaaGreatK3
import Derived.Test.YtfpjdmplepepjaaGreatK1
import Derived.Test.YtfpjdmplepepjaaGreatK2
/-! WReadTag: Rows of tags are read: the program's. -/
namespace Go.Proofs.YtfpjdmplepepjaaGreat
open Go.RowKit

def tagR (p : Tag2) : Prop := Tx 100 p.1 ∧ In 1048576 p.2
theorem tells_tagR : Tells tagR tagL := (tells_tx (by decide)).seq (tells_in (by decide))
theorem tagsR (y : List Tag2) : (((y.length : Int) ≤ 100 ∧ ∀ z ∈ y, tagR z) ∧ TagsP y) ↔ TagsP y := by
  refine ⟨fun h => h.2, fun h => ⟨⟨by have := h.many; omega, fun z hz => ?_⟩, h⟩⟩
  obtain ⟨⟨h1, h2⟩, h3, h4⟩ := h.each.all (Nat.le_refl _) z hz
  exact ⟨show (z.1.size : Int) ≤ 100 by omega, by omega, h4⟩
/-- What is told. -/
def TagTells (b : Nat) (r : Rd) (w : World) (e : Ending) (w' : World) : Prop :=
  ∃ ao n cap xs r', e = .returned (.slice ao n cap) ∧ xs.length = n ∧ SlE eTag 2 w' ao xs ∧ (∀ a, ao = some a → w.heap.size ≤ a.block) ∧ IsRd w' b r' ∧ Red TagsP (rowL tagL) r r' xs ∧ r'.left.size ≤ 1000000 ∧ Kept b w w'

set_option maxRecDepth 100000 in
set_option maxHeartbeats 4000000 in
theorem rtag_any (b : Nat) (r : Rd) (w : World) (hr : IsRd w b r) (hs : r.left.size ≤ 1000000) :
    Calls Tryz.prog 16 #[.pointer (some ⟨b, 0, none⟩)] w (TagTells b r w) := by
  have hbl := hr.lt
  obtain ⟨i1, i2, i3⟩ := r.int_lt 100
  have hq0 := red_int r 100 (by decide)
  obtain ⟨q, hq⟩ := nm (r.int 100).1
  obtain ⟨n, hn⟩ := nm (r.int 100).2
  rw [← hq.out] at i2 hq0
  rw [← hn.out] at i1 i3 hq0
  have hnm : n ≤ 100 := by omega
  have HQ := Lib.hid hq0
  clear hq0 i1 i3
  go_enter Tryz.func16, Tryz.ntmps16
  go_wp2_with fail
  refine (rint_any b r 100 _ hr (by omega) (by decide)).mono ?_; rintro e w1 ⟨rfl, h1, k1⟩
  rw [← hq.out] at h1
  rw [← hn.out]
  go_wp2_with fail
  go_loopw [3, 7] (fun u i wr => ∃ (k : Nat) (ri : Rd) (zs : List Tag2) (v : Value), v = u ∧ k ≤ n ∧ i = .int .i64 (k : Int) ∧ zs.length = k ∧ IsRd wr b ri ∧ OwnE eTag 2 wr w.heap.size 75 v zs ∧ Kept b w wr ∧ ri.left.size ≤ 1000000 ∧ Hid (RedN tagR tagL n q k ri zs)) (fun _ i _ => n - (intOf i).toNat)
  case atStart => exact ⟨0, q, [], _, rfl, by omega, rfl, rfl, h1, OwnE.nil _ _ _, k1, by omega, RedN.zero q⟩
  case round =>
    clear h1 k1
    obtain ⟨k, ri, zs, v, rfl, hkn, rfl, hz, hrd, hown, hk, hsz, hI⟩ := hrel
    by_cases hlt : k < n
    · have r0 := red_text ri 100 (by decide)
      have z0 := ri.text_sz 100
      obtain ⟨q0, hq0⟩ := nm (ri.text 100).1
      obtain ⟨a0, ha0⟩ := nm (ri.text 100).2
      rw [← hq0.out, ← ha0.out] at r0
      rw [← hq0.out] at z0
      have r1 := red_int q0 1048576 (by decide)
      have z1 := q0.int_sz 1048576
      obtain ⟨q1, hq1⟩ := nm (q0.int 1048576).1
      obtain ⟨a1, ha1⟩ := nm (((q0.int 1048576).2 : Nat) : Int)
      rw [← hq1.out, ← ha1.out] at r1
      rw [← hq1.out] at z1
      have HN : Hid (RedN tagR tagL n q (k + 1) q1 (zs ++ [(a0, a1)])) := hI.out.next tells_tagR hlt (r0.seq (r1) (tells_tx (by decide)))
      clear hI r0 r1
      go_wp2_with fail
      refine (rtext_any b ri 100 _ hrd (by omega) (by decide)).mono ?_; rintro e w2 ⟨rfl, h2, hk2⟩
      rw [← hq0.out] at h2
      rw [← ha0.out]
      have hown2 := hown.kept hk2 hbl
      have k2 := hk.trans hk2
      obtain ⟨d, hd⟩ := nm w2.heap.size
      have hbd : b < d := by rw [hd.out]; exact h2.lt
      have hwd : w.heap.size ≤ d := by rw [hd.out]; exact k2.size
      obtain ⟨w3, hw3⟩ := nm (w2.alloc (.cells #[.string a0, .int .i64 0] 75))
      have Kd : Hid (Blk w3 d #[.string a0, .int .i64 0] 75) := by show Blk _ _ _ _; rw [hw3.out, hd.out]; exact Blk.new _ _ _
      have HR : Hid (IsRd w3 b q0) := by show IsRd _ _ _; rw [hw3.out]; exact Blk.alloc h2 _
      have HO : Hid (OwnE eTag 2 w3 w.heap.size 75 v zs) := by show OwnE _ _ _ _ _ _ _; rw [hw3.out]; exact hown2.alloc _
      have HK : Hid (Kept b w w3) := by show Kept _ _ _; rw [hw3.out]; exact k2.alloc _
      have HD : Hid (∀ g, v.ownBlock = some g → g < d) := by show ∀ g, _; rw [hd.out]; exact fun g hg => (World.ownsRow.lt hown2 g hg).2
      clear hown hk hk2 hown2 k2 h2 hrd
      go_upto_region 5 with fail
      rw [← hw3.out, ← hd.out]
      go_wp2_with fail
      refine (rint_any b q0 1048576 _ HR.out (by omega) (by decide)).mono ?_; rintro e w4 ⟨rfl, h4, hk4⟩
      rw [← hq1.out] at h4
      rw [← ha1.out]
      replace Kd := Lib.hid (hk4.blk Kd.out (by omega))
      replace HO := Lib.hid (HO.out.kept hk4 hbl)
      replace HK := Lib.hid (HK.out.trans hk4)
      have d1 : w4.cell? ⟨d, 1, none⟩ = some (.int .i64 0) := Kd.out.cell 1
      have e1 : w4.frozen? ⟨d, 1, none⟩ = false := Kd.out.free 1
      obtain ⟨w5, hw5⟩ := nm (w4.setCell ⟨d, 1, none⟩ (.int .i64 a1))
      replace Kd : Hid (Blk w5 d #[.string a0, .int .i64 a1] 75) := by show Blk _ _ _ _; rw [hw5.out]; exact Kd.out.set 1 _
      replace HR : Hid (IsRd w5 b q1) := by show IsRd _ _ _; rw [hw5.out]; exact Blk.setOther h4 (by simp only; omega) _
      replace HO : Hid (OwnE eTag 2 w5 w.heap.size 75 v zs) := by show OwnE _ _ _ _ _ _ _; rw [hw5.out]; exact HO.out.setAt HD.out
      replace HK : Hid (Kept b w w5) := by show Kept _ _ _; rw [hw5.out]; exact HK.out.setNew hwd _
      clear hk4 h4
      go_upto_region 6 with fail
      rw [← hw5.out]
      clear d1 e1 hw5
      have s5 := HK.out.size
      have y0 : w5.cell? ⟨d, 0, none⟩ = some (.string a0) := Kd.out.cell 0
      have y1 : w5.cell? ⟨d, 1, none⟩ = some (.int .i64 a1) := Kd.out.cell 1
      go_wp2_with (at_builtin; refine app_E encTag Tryz.underlying30 infoTag rfl (by decide) rfl _ _ rfl w.heap.size _ zs rfl (HO.out.alloc _) (some ⟨w5.heap.size, 0, none⟩) 1 1 [(a0, a1)] rfl rfl (fun h => by cases h) (SlE.ofBlk encTag (Blk.new w5 _ _)) (by omega) (Nat.le_trans s5 (by simp)) ?_)
      intro v' w6 hown6 hgrow
      have h6 : IsRd w6 b q1 := OwnE.blk (HO.out.alloc _) (Blk.alloc HR.out _) hbl hgrow
      have k6 : Kept b w w6 := OwnE.grownK (HO.out.alloc _) (HK.out.alloc _) (Nat.le_refl _) hgrow
      have hsz6 : q1.left.size ≤ 1000000 := by omega
      clear hgrow y0 y1 Kd HR HO HK HD
      go_wp2_with fail
      go_roundw
      case rel => exact ⟨k + 1, q1, zs ++ [(a0, a1)], _, rfl, by omega, by go_num, by simp [hz], h6, hown6, k6, hsz6, HN⟩
      case measure => simp [intOf]; omega
    · obtain rfl : k = n := by omega
      have HALL := Lib.hid (hI.out.red HQ.out (by decide))
      clear hI HQ
      obtain ⟨ao, cap, rfl, _, _, hsl, _, hab⟩ := hown.sl encTag
      have bad : ∀ w' r', r'.torn = true → r'.left.size ≤ 1000000 → (ri.torn = true ∨ ¬ TagsP zs) → IsRd w' b r' → Kept b w w' → TagTells b r w (.returned (.slice none 0 0)) w' := by
        intro w' r' h1 h2 h3 h4 h5
        refine ⟨none, 0, 0, [], r', rfl, rfl, SlE.nil _ _ _ _, fun a h => (by cases h), h4, ?_, h2, h5⟩
        exact (Red.fail (C := TagsP) HALL.out ((tells_row tells_tagR).sub fun _ h => ⟨by have := h.1; omega, h.2⟩) h3 h1).iff tagsR
      have BAD := Lib.hid bad
      have HSL := Lib.hid hsl
      have HZ := Lib.hid hz
      have HAB := Lib.hid hab
      clear bad hown hsl hab
      rw [hz]
      clear hz
      obtain ⟨t1, t2⟩ := ri.int_neg
      obtain ⟨T, hT⟩ := nm ri.torn
      obtain ⟨B, hB, hBf, hBt⟩ := boolOf (TagsP zs)
      obtain ⟨E, hE⟩ := nm (errno B)
      cases T
      rotate_left
      · go_wp2_with fail
        refine (fine_is' true b ri hT _ hrd).mono ?_; rintro e w5 ⟨rfl, rfl⟩
        go_wp2_with fail
        refine (rint_any b ri (-1) _ hrd (by omega) (by decide)).mono ?_; rintro e w6 ⟨rfl, h6, hk6⟩
        go_wp2_with fail
        go_ret
        exact BAD.out _ _ t1 (by omega) (.inl hT.out.symm) h6 (hk.trans hk6)
      go_wp2_with fail
      refine (fine_is' false b ri hT _ hrd).mono ?_; rintro e w5 ⟨rfl, rfl⟩
      go_wp2_with fail
      refine (tagcheck_any ao k cap zs HZ (by omega) B hB E hE _ HSL.out).mono ?_; rintro e w6 ⟨rfl, hB6⟩
      have h6 : IsRd w6 b ri := Blk.below hrd hB6 hrd.lt
      have k6 := hk.trans (Kept.ofBelow hB6)
      have HSL6 := Lib.hid (HSL.out.below hB6)
      clear hB6 HSL hrd hk
      have hE2 := hE.out
      cases B
      · obtain rfl : E = 1 := hE2
        go_wp2_with fail
        refine (rint_any b ri (-1) _ h6 (by omega) (by decide)).mono ?_; rintro e w7 ⟨rfl, h7, hk7⟩
        go_wp2_with fail
        go_ret
        exact BAD.out _ _ t1 (by omega) (.inr (hBf.out (by first | exact rfl | exact trivial))) h7 (k6.trans hk7)
      · obtain rfl : E = 0 := hE2
        go_wp2_with fail
        go_ret
        exact ⟨ao, k, cap, zs, ri, rfl, HZ.out, HSL6.out, HAB.out, h6, (Red.pass (C := TagsP) HALL.out fun _ => hBt.out (by first | exact rfl | exact trivial)).iff tagsR, hsz, k6⟩
end Go.Proofs.YtfpjdmplepepjaaGreat

/-! WReadVw: Rows of peers are read: the program's. -/
namespace Go.Proofs.YtfpjdmplepepjaaGreat
open Go.RowKit

theorem encPeer : EncOk ePeer 3 := ⟨by decide, fun _ => rfl, fun x u hu => by simp [ePeer] at hu; rcases hu with rfl | rfl | rfl <;> rfl⟩
theorem infoPeer : (Tryz.prog.info? 77).map (fun i => (i.zero, i.size, i.bytes)) = some (some (.agg #[.int .i64 0, .int .i64 0, .int .i64 0]), 3, 24) := by kernel_rfl
def peerR (p : Peer3) : Prop := In 1099511627776 p.1 ∧ In 1073741824 p.2.1 ∧ In 2 p.2.2
theorem tells_peerR : Tells peerR peerL := (tells_in (by decide)).seq ((tells_in (by decide)).seq (tells_in (by decide)))
theorem viewR (y : List Peer3) : (((y.length : Int) ≤ 64 ∧ ∀ z ∈ y, peerR z) ∧ ViewP y) ↔ ViewP y := by
  refine ⟨fun h => h.2, fun h => ⟨⟨by have := h.many; omega, fun z hz => ?_⟩, h⟩⟩
  obtain ⟨⟨h1, h2⟩, ⟨h3, h4⟩, h5, h6⟩ := h.each.all (Nat.le_refl _) z hz
  exact ⟨⟨by omega, h2⟩, ⟨h3, h4⟩, h5, h6⟩
/-- What is told. -/
def VwTells (b : Nat) (r : Rd) (w : World) (e : Ending) (w' : World) : Prop :=
  ∃ ao n cap xs r', e = .returned (.slice ao n cap) ∧ xs.length = n ∧ SlE ePeer 3 w' ao xs ∧ (∀ a, ao = some a → w.heap.size ≤ a.block) ∧ IsRd w' b r' ∧ Red ViewP (rowL peerL) r r' xs ∧ r'.left.size ≤ 1000000 ∧ Kept b w w'

set_option maxRecDepth 100000 in
set_option maxHeartbeats 4000000 in
theorem rvw_any (b : Nat) (r : Rd) (w : World) (hr : IsRd w b r) (hs : r.left.size ≤ 1000000) :
    Calls Tryz.prog 17 #[.pointer (some ⟨b, 0, none⟩)] w (VwTells b r w) := by
  have hbl := hr.lt
  obtain ⟨i1, i2, i3⟩ := r.int_lt 64
  have hq0 := red_int r 64 (by decide)
  obtain ⟨q, hq⟩ := nm (r.int 64).1
  obtain ⟨n, hn⟩ := nm (r.int 64).2
  rw [← hq.out] at i2 hq0
  rw [← hn.out] at i1 i3 hq0
  have hnm : n ≤ 64 := by omega
  have HQ := Lib.hid hq0
  clear hq0 i1 i3
  go_enter Tryz.func17, Tryz.ntmps17
  go_wp2_with fail
  refine (rint_any b r 64 _ hr (by omega) (by decide)).mono ?_; rintro e w1 ⟨rfl, h1, k1⟩
  rw [← hq.out] at h1
  rw [← hn.out]
  go_wp2_with fail
  go_loopw [3, 7] (fun u i wr => ∃ (k : Nat) (ri : Rd) (zs : List Peer3) (v : Value), v = u ∧ k ≤ n ∧ i = .int .i64 (k : Int) ∧ zs.length = k ∧ IsRd wr b ri ∧ OwnE ePeer 3 wr w.heap.size 77 v zs ∧ Kept b w wr ∧ ri.left.size ≤ 1000000 ∧ Hid (RedN peerR peerL n q k ri zs)) (fun _ i _ => n - (intOf i).toNat)
  case atStart => exact ⟨0, q, [], _, rfl, by omega, rfl, rfl, h1, OwnE.nil _ _ _, k1, by omega, RedN.zero q⟩
  case round =>
    clear h1 k1
    obtain ⟨k, ri, zs, v, rfl, hkn, rfl, hz, hrd, hown, hk, hsz, hI⟩ := hrel
    by_cases hlt : k < n
    · have r0 := red_int ri 1099511627776 (by decide)
      have z0 := ri.int_sz 1099511627776
      obtain ⟨q0, hq0⟩ := nm (ri.int 1099511627776).1
      obtain ⟨a0, ha0⟩ := nm (((ri.int 1099511627776).2 : Nat) : Int)
      rw [← hq0.out, ← ha0.out] at r0
      rw [← hq0.out] at z0
      have r1 := red_int q0 1073741824 (by decide)
      have z1 := q0.int_sz 1073741824
      obtain ⟨q1, hq1⟩ := nm (q0.int 1073741824).1
      obtain ⟨a1, ha1⟩ := nm (((q0.int 1073741824).2 : Nat) : Int)
      rw [← hq1.out, ← ha1.out] at r1
      rw [← hq1.out] at z1
      have r2 := red_int q1 2 (by decide)
      have z2 := q1.int_sz 2
      obtain ⟨q2, hq2⟩ := nm (q1.int 2).1
      obtain ⟨a2, ha2⟩ := nm (((q1.int 2).2 : Nat) : Int)
      rw [← hq2.out, ← ha2.out] at r2
      rw [← hq2.out] at z2
      have HN : Hid (RedN peerR peerL n q (k + 1) q2 (zs ++ [(a0, a1, a2)])) := hI.out.next tells_peerR hlt (r0.seq (r1.seq (r2) (tells_in (by decide))) (tells_in (by decide)))
      clear hI r0 r1 r2
      go_wp2_with fail
      refine (rint_any b ri 1099511627776 _ hrd (by omega) (by decide)).mono ?_; rintro e w2 ⟨rfl, h2, hk2⟩
      rw [← hq0.out] at h2
      rw [← ha0.out]
      have hown2 := hown.kept hk2 hbl
      have k2 := hk.trans hk2
      obtain ⟨d, hd⟩ := nm w2.heap.size
      have hbd : b < d := by rw [hd.out]; exact h2.lt
      have hwd : w.heap.size ≤ d := by rw [hd.out]; exact k2.size
      obtain ⟨w3, hw3⟩ := nm (w2.alloc (.cells #[.int .i64 a0, .int .i64 0, .int .i64 0] 77))
      have Kd : Hid (Blk w3 d #[.int .i64 a0, .int .i64 0, .int .i64 0] 77) := by show Blk _ _ _ _; rw [hw3.out, hd.out]; exact Blk.new _ _ _
      have HR : Hid (IsRd w3 b q0) := by show IsRd _ _ _; rw [hw3.out]; exact Blk.alloc h2 _
      have HO : Hid (OwnE ePeer 3 w3 w.heap.size 77 v zs) := by show OwnE _ _ _ _ _ _ _; rw [hw3.out]; exact hown2.alloc _
      have HK : Hid (Kept b w w3) := by show Kept _ _ _; rw [hw3.out]; exact k2.alloc _
      have HD : Hid (∀ g, v.ownBlock = some g → g < d) := by show ∀ g, _; rw [hd.out]; exact fun g hg => (World.ownsRow.lt hown2 g hg).2
      clear hown hk hk2 hown2 k2 h2 hrd
      go_upto_region 5 with fail
      rw [← hw3.out, ← hd.out]
      go_wp2_with fail
      refine (rint_any b q0 1073741824 _ HR.out (by omega) (by decide)).mono ?_; rintro e w4 ⟨rfl, h4, hk4⟩
      rw [← hq1.out] at h4
      rw [← ha1.out]
      replace Kd := Lib.hid (hk4.blk Kd.out (by omega))
      replace HO := Lib.hid (HO.out.kept hk4 hbl)
      replace HK := Lib.hid (HK.out.trans hk4)
      have d1 : w4.cell? ⟨d, 1, none⟩ = some (.int .i64 0) := Kd.out.cell 1
      have e1 : w4.frozen? ⟨d, 1, none⟩ = false := Kd.out.free 1
      obtain ⟨w5, hw5⟩ := nm (w4.setCell ⟨d, 1, none⟩ (.int .i64 a1))
      replace Kd : Hid (Blk w5 d #[.int .i64 a0, .int .i64 a1, .int .i64 0] 77) := by show Blk _ _ _ _; rw [hw5.out]; exact Kd.out.set 1 _
      replace HR : Hid (IsRd w5 b q1) := by show IsRd _ _ _; rw [hw5.out]; exact Blk.setOther h4 (by simp only; omega) _
      replace HO : Hid (OwnE ePeer 3 w5 w.heap.size 77 v zs) := by show OwnE _ _ _ _ _ _ _; rw [hw5.out]; exact HO.out.setAt HD.out
      replace HK : Hid (Kept b w w5) := by show Kept _ _ _; rw [hw5.out]; exact HK.out.setNew hwd _
      clear hk4 h4
      go_upto_region 6 with fail
      rw [← hw5.out]
      clear d1 e1 hw5
      go_wp2_with fail
      refine (rint_any b q1 2 _ HR.out (by omega) (by decide)).mono ?_; rintro e w4 ⟨rfl, h4, hk4⟩
      rw [← hq2.out] at h4
      rw [← ha2.out]
      replace Kd := Lib.hid (hk4.blk Kd.out (by omega))
      replace HO := Lib.hid (HO.out.kept hk4 hbl)
      replace HK := Lib.hid (HK.out.trans hk4)
      have d2 : w4.cell? ⟨d, 2, none⟩ = some (.int .i64 0) := Kd.out.cell 2
      have e2 : w4.frozen? ⟨d, 2, none⟩ = false := Kd.out.free 2
      obtain ⟨w5, hw5⟩ := nm (w4.setCell ⟨d, 2, none⟩ (.int .i64 a2))
      replace Kd : Hid (Blk w5 d #[.int .i64 a0, .int .i64 a1, .int .i64 a2] 77) := by show Blk _ _ _ _; rw [hw5.out]; exact Kd.out.set 2 _
      replace HR : Hid (IsRd w5 b q2) := by show IsRd _ _ _; rw [hw5.out]; exact Blk.setOther h4 (by simp only; omega) _
      replace HO : Hid (OwnE ePeer 3 w5 w.heap.size 77 v zs) := by show OwnE _ _ _ _ _ _ _; rw [hw5.out]; exact HO.out.setAt HD.out
      replace HK : Hid (Kept b w w5) := by show Kept _ _ _; rw [hw5.out]; exact HK.out.setNew hwd _
      clear hk4 h4
      go_upto_region 7 with fail
      rw [← hw5.out]
      clear d2 e2 hw5
      have s5 := HK.out.size
      have y0 : w5.cell? ⟨d, 0, none⟩ = some (.int .i64 a0) := Kd.out.cell 0
      have y1 : w5.cell? ⟨d, 1, none⟩ = some (.int .i64 a1) := Kd.out.cell 1
      have y2 : w5.cell? ⟨d, 2, none⟩ = some (.int .i64 a2) := Kd.out.cell 2
      go_wp2_with (at_builtin; refine app_E encPeer Tryz.underlying31 infoPeer rfl (by decide) rfl _ _ rfl w.heap.size _ zs rfl (HO.out.alloc _) (some ⟨w5.heap.size, 0, none⟩) 1 1 [(a0, a1, a2)] rfl rfl (fun h => by cases h) (SlE.ofBlk encPeer (Blk.new w5 _ _)) (by omega) (Nat.le_trans s5 (by simp)) ?_)
      intro v' w6 hown6 hgrow
      have h6 : IsRd w6 b q2 := OwnE.blk (HO.out.alloc _) (Blk.alloc HR.out _) hbl hgrow
      have k6 : Kept b w w6 := OwnE.grownK (HO.out.alloc _) (HK.out.alloc _) (Nat.le_refl _) hgrow
      have hsz6 : q2.left.size ≤ 1000000 := by omega
      clear hgrow y0 y1 y2 Kd HR HO HK HD
      go_wp2_with fail
      go_roundw
      case rel => exact ⟨k + 1, q2, zs ++ [(a0, a1, a2)], _, rfl, by omega, by go_num, by simp [hz], h6, hown6, k6, hsz6, HN⟩
      case measure => simp [intOf]; omega
    · obtain rfl : k = n := by omega
      have HALL := Lib.hid (hI.out.red HQ.out (by decide))
      clear hI HQ
      obtain ⟨ao, cap, rfl, _, _, hsl, _, hab⟩ := hown.sl encPeer
      have bad : ∀ w' r', r'.torn = true → r'.left.size ≤ 1000000 → (ri.torn = true ∨ ¬ ViewP zs) → IsRd w' b r' → Kept b w w' → VwTells b r w (.returned (.slice none 0 0)) w' := by
        intro w' r' h1 h2 h3 h4 h5
        refine ⟨none, 0, 0, [], r', rfl, rfl, SlE.nil _ _ _ _, fun a h => (by cases h), h4, ?_, h2, h5⟩
        exact (Red.fail (C := ViewP) HALL.out ((tells_row tells_peerR).sub fun _ h => ⟨by have := h.1; omega, h.2⟩) h3 h1).iff viewR
      have BAD := Lib.hid bad
      have HSL := Lib.hid hsl
      have HZ := Lib.hid hz
      have HAB := Lib.hid hab
      clear bad hown hsl hab
      rw [hz]
      clear hz
      obtain ⟨t1, t2⟩ := ri.int_neg
      obtain ⟨T, hT⟩ := nm ri.torn
      obtain ⟨B, hB, hBf, hBt⟩ := boolOf (ViewP zs)
      obtain ⟨E, hE⟩ := nm (errno B)
      cases T
      rotate_left
      · go_wp2_with fail
        refine (fine_is' true b ri hT _ hrd).mono ?_; rintro e w5 ⟨rfl, rfl⟩
        go_wp2_with fail
        refine (rint_any b ri (-1) _ hrd (by omega) (by decide)).mono ?_; rintro e w6 ⟨rfl, h6, hk6⟩
        go_wp2_with fail
        go_ret
        exact BAD.out _ _ t1 (by omega) (.inl hT.out.symm) h6 (hk.trans hk6)
      go_wp2_with fail
      refine (fine_is' false b ri hT _ hrd).mono ?_; rintro e w5 ⟨rfl, rfl⟩
      go_wp2_with fail
      refine (viewcheck_any ao k cap zs HZ (by omega) B hB E hE _ HSL.out).mono ?_; rintro e w6 ⟨rfl, hB6⟩
      have h6 : IsRd w6 b ri := Blk.below hrd hB6 hrd.lt
      have k6 := hk.trans (Kept.ofBelow hB6)
      have HSL6 := Lib.hid (HSL.out.below hB6)
      clear hB6 HSL hrd hk
      have hE2 := hE.out
      cases B
      · obtain rfl : E = 1 := hE2
        go_wp2_with fail
        refine (rint_any b ri (-1) _ h6 (by omega) (by decide)).mono ?_; rintro e w7 ⟨rfl, h7, hk7⟩
        go_wp2_with fail
        go_ret
        exact BAD.out _ _ t1 (by omega) (.inr (hBf.out (by first | exact rfl | exact trivial))) h7 (k6.trans hk7)
      · obtain rfl : E = 0 := hE2
        go_wp2_with fail
        go_ret
        exact ⟨ao, k, cap, zs, ri, rfl, HZ.out, HSL6.out, HAB.out, h6, (Red.pass (C := ViewP) HALL.out fun _ => hBt.out (by first | exact rfl | exact trivial)).iff viewR, hsz, k6⟩
end Go.Proofs.YtfpjdmplepepjaaGreat

/-! WReadL: What stands there whole: what is said. No program in sight. -/
namespace Go.Proofs.YtfpjdmplepepjaaGreat
open Go.RowKit

theorem Rd.items_red (most : Int) (hm : most ≤ 9223372036854775807) : ∀ (n : Nat) (r : Rd), (∀ q l, Rd.items most n r = (q, some l) → RedN (In most) numZ n r n q l) ∧ (∀ q, Rd.items most n r = (q, none) → q.torn = true ∧ ∀ (ys : List Int) (t : List UInt8), r.torn = false → ys.length = n → (∀ y ∈ ys, In most y) → bl r.left ≠ ys.flatMap numZ ++ t)
  | 0, r => by
    refine ⟨fun q l h => ?_, fun q h => by cases h⟩
    cases h
    exact RedN.zero r
  | n + 1, r => by
    have hd := red_int r most hm
    obtain ⟨i1, i2⟩ := Rd.items_red most hm n (r.int most).1
    have far : (∀ (ys : List Int) (t : List UInt8), (r.int most).1.torn = false → ys.length = n → (∀ y ∈ ys, In most y) → bl (r.int most).1.left ≠ ys.flatMap numZ ++ t) → ∀ (ys : List Int) (t : List UInt8), r.torn = false → ys.length = n + 1 → (∀ y ∈ ys, In most y) → bl r.left ≠ ys.flatMap numZ ++ t := by
      intro h ys t hr hl hy e
      obtain ⟨y, ys, rfl⟩ : ∃ y zs, ys = y :: zs := by cases ys with | nil => simp at hl | cons y zs => exact ⟨y, zs, rfl⟩
      rw [List.flatMap_cons, List.append_assoc] at e
      rcases hd with ⟨h1, h2, h3, h4⟩ | ⟨h1, h2⟩
      · rw [h4] at e
        obtain ⟨_, e2⟩ := tells_in hm _ _ _ _ h3 (hy y (by simp)) e
        exact h ys t h1 (by simpa using hl) (fun z hz => hy z (by simp [hz])) e2
      · exact h2 y _ hr (hy y (by simp)) e
    rw [Rd.items]
    cases ht : (r.int most).1.torn with
    | true =>
      rw [if_pos rfl]
      refine ⟨fun q l h => (by cases h), fun q h => ?_⟩
      cases h
      exact ⟨ht, far fun ys t h => by rw [ht] at h; cases h⟩
    | false =>
      rw [if_neg (by simp)]
      obtain ⟨⟨q', o⟩, ho⟩ := nm (Rd.items most n (r.int most).1)
      rw [← ho.out] at i1 i2 ⊢
      obtain ⟨h1, h2, h3⟩ := hd.is ht
      cases o with
      | none =>
        refine ⟨fun q l h => (by cases h), fun q h => ?_⟩
        cases h
        obtain ⟨g1, g2⟩ := i2 _ rfl
        exact ⟨g1, far g2⟩
      | some l' =>
        refine ⟨fun q l h => ?_, fun q h => (by cases h)⟩
        cases h
        obtain ⟨g1, g2⟩ := i1 _ _ rfl
        refine ⟨by simp [g1], ?_⟩
        rcases g2 with ⟨k1, k2, k3, k4⟩ | ⟨k1, k2⟩
        · refine .inl ⟨k1, h1, ?_, ?_⟩
          · intro z hz
            rcases List.mem_cons.1 hz with rfl | hz
            · exact h2
            · exact k3 z hz
          · rw [h3, k4, List.flatMap_cons, List.append_assoc]
        · exact .inr ⟨k1, far k2⟩
theorem Rd.items_sz (most : Int) : ∀ (n : Nat) (r : Rd), (Rd.items most n r).1.left.size ≤ r.left.size
  | 0, _ => Nat.le_refl _
  | n + 1, r => by
    have h1 := (r.int_lt most).2.1
    have h2 := Rd.items_sz most n (r.int most).1
    rw [Rd.items]
    split
    · exact h1
    · exact Nat.le_trans h2 h1
theorem Rd.nums_sz (r : Rd) (many most : Int) : (r.nums many most).1.left.size ≤ r.left.size := Nat.le_trans (Rd.items_sz _ _ _) (r.int_lt many).2.1
/-- Nine numbers. -/
def NineR (l : List Int) : Prop := l.length = 9 ∧ ∀ z ∈ l, In 1099511627776 z
theorem tells_nine : Tells NineR (rowL numZ) := (tells_row (tells_in (most := 1099511627776) (by decide))).sub fun _ h => ⟨by have := h.1; omega, h.2⟩
theorem nine_iff (y : List Int) : (((y.length : Int) ≤ 9 ∧ ∀ z ∈ y, In 1099511627776 z) ∧ y.length = 9) ↔ NineR y := ⟨fun h => ⟨h.2, h.1.2⟩, fun h => ⟨⟨by have := h.1; omega, h.2⟩, h.1⟩⟩
theorem nums_red (r : Rd) : ((r.nums 9 1099511627776).2.length = 9 → Red NineR (rowL numZ) r (r.nums 9 1099511627776).1 (r.nums 9 1099511627776).2) ∧ ((r.nums 9 1099511627776).2.length ≠ 9 → ∀ y t, r.torn = false → NineR y → bl r.left ≠ rowL numZ y ++ t) := by
  have h1 := red_int r 9 (by decide)
  obtain ⟨d1, d2⟩ := Rd.items_red 1099511627776 (by decide) (r.int 9).2 (r.int 9).1
  have ht : Tells (fun y : List Int => (y.length : Int) ≤ 9 ∧ ∀ z ∈ y, In 1099511627776 z) (rowL numZ) := (tells_row (tells_in (most := 1099511627776) (by decide))).sub fun _ h => ⟨by have := h.1; omega, h.2⟩
  unfold Rd.nums
  obtain ⟨⟨q, o⟩, ho⟩ := nm (Rd.items 1099511627776 (r.int 9).2 (r.int 9).1)
  rw [← ho.out] at d1 d2 ⊢
  cases o with
  | none =>
    obtain ⟨g1, g2⟩ := d2 _ rfl
    refine ⟨fun h => (by cases h), fun _ => ?_⟩
    have hn : RedN (In 1099511627776) numZ (r.int 9).2 (r.int 9).1 0 q [] := ⟨rfl, .inr ⟨g1, g2⟩⟩
    have hs := hn.stop (z := []) (r' := ⟨q.left, true⟩) h1 (by decide) g1 rfl
    intro y t hr hy
    exact hs.none rfl y t hr ((nine_iff y).2 hy).1
  | some l =>
    have hl := (d1 _ _ rfl).red h1 (by decide)
    simp only [Option.getD_some]
    refine ⟨fun h => (Red.pass (C := fun y : List Int => y.length = 9) hl fun _ => h).iff nine_iff, fun h => ?_⟩
    have hs := (Red.fail (C := fun y : List Int => y.length = 9) (z := []) (r'' := ⟨q.left, true⟩) hl ht (.inr h) rfl).iff nine_iff
    exact hs.none rfl

/-- It says m. -/
def SaidBy (S : ByteArray) (m : WL) : Prop := m.May ∧ S.size ≤ 8000 ∧ bl S = m.bytes ∧ m.bs.length ≤ 1000 ∧ m.cl.length ≤ 1000 ∧ m.live.length ≤ 1000
abbrev WT := List Int × ByteArray × Bag3 × List Tag2 × List Peer3
def PW (x : WT) : Prop := NineR x.1 ∧ Tx 8000 x.2.1 ∧ BagR x.2.2.1 ∧ TagsP x.2.2.2.1 ∧ ViewP x.2.2.2.2
def fW (x : WT) : List UInt8 := rowL numZ x.1 ++ (textZ x.2.1 ++ (bagZ x.2.2.1 ++ (rowL tagL x.2.2.2.1 ++ rowL peerL x.2.2.2.2)))
def WL.t (m : WL) : WT := (m.nums, m.mark, ((m.bs, m.cl), m.live), m.tags, m.view)
theorem WL.t_inj {a b : WL} (h : a.t = b.t) : a = b := by
  cases a; cases b
  simp only [WL.t, WL.nums, Prod.mk.injEq, List.cons.injEq, and_true] at h
  obtain ⟨⟨g1, g2, g3, g4, g5, g6, g7, g8, g9⟩, e2, ⟨⟨e3, e4⟩, e5⟩, e6, e7⟩ := h
  subst e2 e3 e4 e5 e6 e7 g1 g2 g3 g4 g5 g6 g7 g8 g9
  rfl
theorem WL.t_bytes (m : WL) : fW m.t = m.bytes := rfl
theorem tells_bagR : Tells BagR bagZ := by
  rintro ⟨⟨x1, x2⟩, x3⟩ ⟨⟨y1, y2⟩, y3⟩ r t hx hy h
  have hx' := ((bagR_iff _).2 hx).1
  have hy' := ((bagR_iff _).2 hy).1
  exact (tells_ctxR.seq tells_msgsR) _ _ _ _ hx' hy' h
theorem tells_tagsP : Tells TagsP (rowL tagL) := (tells_row tells_tagR).sub fun y h => ⟨by have := h.many; omega, ((tagsR y).2 h).1.2⟩
theorem tells_viewP : Tells ViewP (rowL peerL) := (tells_row tells_peerR).sub fun y h => ⟨by have := h.many; omega, ((viewR y).2 h).1.2⟩
theorem tells_W : Tells PW fW := tells_nine.seq ((tells_tx (by decide)).seq (tells_bagR.seq (tells_tagsP.seq tells_viewP)))
theorem SaidBy.p {S : ByteArray} {m : WL} (h : SaidBy S m) : PW m.t := by
  obtain ⟨hm, _, _, h1, h2, h3⟩ := h
  refine ⟨⟨rfl, fun z hz => ?_⟩, show (m.mark.size : Int) ≤ 8000 by have := hm.mark; omega, ⟨⟨h1, h2, h3⟩, hm.bag⟩, hm.tags, hm.view⟩
  obtain ⟨g1, g2⟩ := hm.kind
  obtain ⟨g3, g4⟩ := hm.frm
  obtain ⟨g5, g6⟩ := hm.seq
  obtain ⟨g7, g8⟩ := hm.part
  obtain ⟨g9, g10⟩ := hm.flag
  obtain ⟨g11, g12⟩ := hm.receipt
  obtain ⟨g13, g14⟩ := hm.long
  have hd : In 1099511627776 m.d0 ∧ In 1099511627776 m.d1 := by
    rcases hm.dot with e | e
    · simp only [Prod.mk.injEq] at e
      rw [e.1, e.2]
      exact ⟨⟨by decide, by decide⟩, by decide, by decide⟩
    · have := e.le
      exact ⟨⟨by simp only at this; omega, by simp only at this; omega⟩, by simp only at this; omega, by simp only at this; omega⟩
  simp only [WL.t, WL.nums, List.mem_cons, List.not_mem_nil, or_false] at hz
  rcases hz with rfl | rfl | rfl | rfl | rfl | rfl | rfl | rfl | rfl
  · exact ⟨by omega, by omega⟩
  · exact ⟨by omega, by omega⟩
  · exact ⟨by omega, by omega⟩
  · exact ⟨by omega, by omega⟩
  · exact ⟨by omega, by omega⟩
  · exact hd.1
  · exact hd.2
  · exact ⟨by omega, by omega⟩
  · exact ⟨by omega, by omega⟩
/-- No two are said by the same bytes; what is said cut short says nothing. -/
theorem SaidBy.one {S : ByteArray} {a b : WL} (h : SaidBy S a) (g : SaidBy S b) : a = b := by
  have e : fW a.t ++ [] = fW b.t ++ [] := by rw [WL.t_bytes, WL.t_bytes, ← h.2.2.1, ← g.2.2.1]
  exact WL.t_inj (tells_W _ _ _ _ h.p g.p e).1
theorem SaidBy.cut {S T : ByteArray} {a b : WL} {r : List UInt8} (h : SaidBy S a) (g : SaidBy T b) (e : bl S = bl T ++ r) : r = [] := by
  have e2 : fW b.t ++ r = fW a.t ++ [] := by rw [WL.t_bytes, WL.t_bytes, ← h.2.2.1, ← g.2.2.1, List.append_nil]; exact e.symm
  exact (tells_W _ _ _ _ g.p h.p e2).2
/-- All was read, and what was read may be said. -/
theorem read_said {S : ByteArray} {r : Rd} {m : WL} (h : Red PW fW ⟨S, false⟩ r m.t) (hs : S.size ≤ 8000) (hf : r.fin = 0) (hm : m.May) : SaidBy S m := by
  have hf' : r.torn = false ∧ r.left.size = 0 := by
    unfold Rd.fin at hf
    split at hf
    · cases hf
    · rename_i hc
      refine ⟨?_, ?_⟩
      · cases ht : r.torn with
        | false => rfl
        | true => exact absurd (.inl ht) hc
      · rcases Nat.eq_zero_or_pos r.left.size with h0 | h0
        · exact h0
        · exact absurd (.inr (by omega)) hc
  obtain ⟨_, h2, h3⟩ := h.is hf'.1
  have h4 : bl r.left = [] := by rw [← List.length_eq_zero_iff, bl_length]; exact hf'.2
  rw [h4, List.append_nil] at h3
  exact ⟨hm, hs, h3, h2.2.2.1.1.1, h2.2.2.1.1.2.1, h2.2.2.1.1.2.2⟩
/-- Not all was read, or what was read may not be said. -/
theorem read_not {S : ByteArray} {r : Rd} {m : WL} (h : Red PW fW ⟨S, false⟩ r m.t) (hc : r.fin = 10 ∨ ¬ m.May) : ∀ m', ¬ SaidBy S m' := by
  intro m' hm'
  have e0 : bl S = fW m'.t ++ [] := by rw [WL.t_bytes, hm'.2.2.1, List.append_nil]
  rcases h with ⟨h1, h2, h3, h4⟩ | ⟨h1, h2⟩
  · change bl S = _ at h4
    rw [h4] at e0
    obtain ⟨e1, e2⟩ := tells_W _ _ _ _ h3 hm'.p e0
    rcases hc with hc | hc
    · have h5 : r.left.size = 0 := by rw [← bl_length, e2]; rfl
      unfold Rd.fin at hc
      rw [if_neg (by rw [h1, h5]; simp)] at hc
      cases hc
    · rw [WL.t_inj e1] at hc
      exact hc hm'.1
  · exact h2 m'.t [] rfl hm'.p e0
/-- Fewer numbers, or too long. -/
theorem nine_not {S : ByteArray} (h : ∀ y t, (Rd.mk S false).torn = false → NineR y → bl (Rd.mk S false).left ≠ rowL numZ y ++ t) : ∀ m', ¬ SaidBy S m' := by
  intro m' hm'
  refine h m'.t.1 (textZ m'.mark ++ (bagZ ((m'.bs, m'.cl), m'.live) ++ (rowL tagL m'.tags ++ rowL peerL m'.view))) rfl hm'.p.1 ?_
  show bl S = _
  rw [hm'.2.2.1, ← WL.t_bytes]
  rfl
theorem long_not {S : ByteArray} (h : 8000 < S.size) : ∀ m', ¬ SaidBy S m' := fun m' hm' => by have := hm'.2.1; omega
end Go.Proofs.YtfpjdmplepepjaaGreat

/-! WReadW: Wire's Read, of any bytes: what they say, or nothing. -/
namespace Go.Proofs.YtfpjdmplepepjaaGreat
open Go.RowKit

/-- The rows lie at B or above. -/
structure FreshW (B : Nat) (am ab ac ag av : Option Addr) : Prop where
  f0 : ∀ a, am = some a → B ≤ a.block
  f1 : ∀ a, ab = some a → B ≤ a.block
  f2 : ∀ a, ac = some a → B ≤ a.block
  f3 : ∀ a, ag = some a → B ≤ a.block
  f4 : ∀ a, av = some a → B ≤ a.block
def WL.zero : WL := ⟨0, 0, 0, 0, 0, 0, 0, 0, 0, ⟨#[]⟩, [], [], [], [], []⟩
/-- What reading tells: m, or nothing. -/
def Heard (S : ByteArray) (m : WL) (E : Int) : Prop := E = 0 ∧ SaidBy S m ∨ E = 10 ∧ m = WL.zero ∧ ∀ m', ¬ SaidBy S m'
def ReadTells (S : ByteArray) (w : World) (e : Ending) (w' : World) : Prop :=
  ∃ (k f s p fl d0 d1 rc lg : Int) (mark : ByteArray) (am ab ac ag av : Option Addr) (nl kl nb kb nc kc ng kg nv kv : Nat) (live : List Msg5) (bs cl : List Dot2) (tags : List Tag2) (view : List Peer3) (E : Int), e = .returned (.tuple #[.agg #[.int .i64 k, .int .i64 f, .int .i64 s, .int .i64 p, .int .i64 fl, .string mark, .slice am nl kl, .slice ab nb kb, .slice ac nc kc, .slice ag ng kg, .slice av nv kv, .int .i64 d0, .int .i64 d1, .int .i64 rc, .int .i64 lg], .int .i64 E]) ∧ Lies w' am ab ac ag av nl nb nc ng nv live bs cl tags view ∧ FreshW w.heap.size am ab ac ag av ∧ Heard S (WL.mk k f s p fl d0 d1 rc lg mark live bs cl tags view) E ∧ Below w.heap.size w w'
theorem Lies.none (w : World) : Lies w none none none none none 0 0 0 0 0 [] [] [] [] [] :=
  ⟨rfl, rfl, rfl, rfl, rfl, by decide, by decide, by decide, by decide, by decide, SlE.nil _ _ _ _, SlP.nil _ _, SlP.nil _ _, SlE.nil _ _ _ _, SlE.nil _ _ _ _⟩
theorem FreshW.none (B : Nat) : FreshW B none none none none none :=
  ⟨fun _ h => (by cases h), fun _ h => (by cases h), fun _ h => (by cases h), fun _ h => (by cases h), fun _ h => (by cases h)⟩
theorem ReadTells.bad {S : ByteArray} {w w' : World} (h : ∀ m', ¬ SaidBy S m') (hb : Below w.heap.size w w') : ReadTells S w (.returned (.tuple #[.agg #[.int .i64 0, .int .i64 0, .int .i64 0, .int .i64 0, .int .i64 0, .string ⟨#[]⟩, .slice none 0 0, .slice none 0 0, .slice none 0 0, .slice none 0 0, .slice none 0 0, .int .i64 0, .int .i64 0, .int .i64 0, .int .i64 0], .int .i64 10])) w' :=
  ⟨0, 0, 0, 0, 0, 0, 0, 0, 0, ⟨#[]⟩, none, none, none, none, none, 0, 0, 0, 0, 0, 0, 0, 0, 0, 0, [], [], [], [], [], 10, rfl, Lies.none _, FreshW.none _, .inr ⟨rfl, rfl, h⟩, hb⟩
theorem list9 (l : List Int) (h : l.length = 9) : ∃ a b c d e f g i j, l = [a, b, c, d, e, f, g, i, j] := by
  match l, h with
  | [a, b, c, d, e, f, g, i, j], _ => exact ⟨a, b, c, d, e, f, g, i, j, rfl⟩
theorem Tri.stored {x y z : Nat} {a b : World} {p : Addr} {v : Value} (e : b = a.setCell p v) (hp : p.block = x ∨ p.block = y ∨ p.block = z) : Tri x y z a b := by
  subst e; exact (Tri.refl _ _ _ _).set hp v

set_option maxRecDepth 100000 in
set_option maxHeartbeats 16000000 in
theorem wread_any (S : ByteArray) (w : World) (hS : S.size ≤ 1000000) : Calls Tryz.prog 6 #[.string S] w (ReadTells S w) := by
  obtain ⟨w0, hw0⟩ := nm (w.alloc (.cells #[.int .i64 0, .int .i64 0, .int .i64 0, .int .i64 0, .int .i64 0, .string ⟨#[]⟩, .slice none 0 0, .slice none 0 0, .slice none 0 0, .slice none 0 0, .slice none 0 0, .int .i64 0, .int .i64 0, .int .i64 0, .int .i64 0] 35))
  obtain ⟨x, hx⟩ := nm w.heap.size
  have Kx : Hid (Blk w0 x #[.int .i64 0, .int .i64 0, .int .i64 0, .int .i64 0, .int .i64 0, .string ⟨#[]⟩, .slice none 0 0, .slice none 0 0, .slice none 0 0, .slice none 0 0, .slice none 0 0, .int .i64 0, .int .i64 0, .int .i64 0, .int .i64 0] 35) := by show Blk _ _ _ _; rw [hw0.out, hx.out]; exact Blk.new _ _ _
  have HB : Hid (Below w.heap.size w w0) := by show Below _ _ _; rw [hw0.out]; exact bOld _
  have hxw : Hid (w.heap.size ≤ x) := by show _ ≤ _; rw [hx.out]; exact Nat.le_refl _
  have HW1 : Hid (∀ (m : WL) (r : Rd), Red PW fW ⟨S, false⟩ r m.t → S.size ≤ 8000 → r.fin = 0 → m.May → SaidBy S m) := fun m r => read_said
  have HW2 : Hid (∀ (m : WL) (r : Rd), Red PW fW ⟨S, false⟩ r m.t → (r.fin = 10 ∨ ¬ m.May) → ∀ m', ¬ SaidBy S m') := fun m r => read_not
  have HW3 : Hid ((∀ y t, (Rd.mk S false).torn = false → NineR y → bl (Rd.mk S false).left ≠ rowL numZ y ++ t) → ∀ m', ¬ SaidBy S m') := nine_not
  have HW4 : Hid (8000 < S.size → ∀ m', ¬ SaidBy S m') := long_not
  have HRB : Hid (∀ w', (∀ m', ¬ SaidBy S m') → Below w.heap.size w w' → ReadTells S w (.returned (.tuple #[.agg #[.int .i64 0, .int .i64 0, .int .i64 0, .int .i64 0, .int .i64 0, .string ⟨#[]⟩, .slice none 0 0, .slice none 0 0, .slice none 0 0, .slice none 0 0, .slice none 0 0, .int .i64 0, .int .i64 0, .int .i64 0, .int .i64 0], .int .i64 10])) w') := fun w' h hb => ReadTells.bad h hb
  obtain ⟨b, hb⟩ := nm w0.heap.size
  have hxb : x < b := by rw [hb.out]; exact Kx.out.lt
  have hrd := read_any S w0
  rw [← hb.out] at hrd
  have HRD := Lib.hid hrd
  clear hrd
  by_cases hlen : 8000 < S.size
  · have HNOT := Lib.hid (HW4.out hlen)
    have hdl : decide ((8000 : Int) < (S.size : Int)) = true := decide_eq_true (by omega)
    go_enter Tryz.func6, Tryz.ntmps6
    go_upto_region 1 with fail
    rw [← hw0.out, ← hx.out]
    have hone : (#[.int .i64 0, .int .i64 0, .int .i64 0, .int .i64 0, .int .i64 0, .string ⟨#[]⟩, .slice none 0 0, .slice none 0 0, .slice none 0 0, .slice none 0 0, .slice none 0 0, .int .i64 0, .int .i64 0, .int .i64 0, .int .i64 0] : Array Value).all (·.oneCell') = true := by simp [Value.oneCell']
    go_wp2_with (refine wpList_store_row rfl 35 _ _ rfl x #[.int .i64 0, .int .i64 0, .int .i64 0, .int .i64 0, .int .i64 0, .string ⟨#[]⟩, .slice none 0 0, .slice none 0 0, .slice none 0 0, .slice none 0 0, .slice none 0 0, .int .i64 0, .int .i64 0, .int .i64 0, .int .i64 0] rfl rfl 35 #[.int .i64 0, .int .i64 0, .int .i64 0, .int .i64 0, .int .i64 0, .string ⟨#[]⟩, .slice none 0 0, .slice none 0 0, .slice none 0 0, .slice none 0 0, .slice none 0 0, .int .i64 0, .int .i64 0, .int .i64 0, .int .i64 0] Kx.out infoWire rfl hone ?_)
    obtain ⟨wz, hwz⟩ := nm (w0.setRow x #[.int .i64 0, .int .i64 0, .int .i64 0, .int .i64 0, .int .i64 0, .string ⟨#[]⟩, .slice none 0 0, .slice none 0 0, .slice none 0 0, .slice none 0 0, .slice none 0 0, .int .i64 0, .int .i64 0, .int .i64 0, .int .i64 0])
    rw [← hwz.out]
    have Kz : Blk wz x #[.int .i64 0, .int .i64 0, .int .i64 0, .int .i64 0, .int .i64 0, .string ⟨#[]⟩, .slice none 0 0, .slice none 0 0, .slice none 0 0, .slice none 0 0, .slice none 0 0, .int .i64 0, .int .i64 0, .int .i64 0, .int .i64 0] 35 := by rw [hwz.out]; exact setRow_heap w0 x _ _ _ _ Kx.out
    have HBz : Below w.heap.size w wz := by rw [hwz.out]; exact below_setRow HB.out hxw.out _
    have r0 : wz.cell? ⟨x, 0, none⟩ = some (.int .i64 0) := Kz.cell 0
    have r1 : wz.cell? ⟨x, 1, none⟩ = some (.int .i64 0) := Kz.cell 1
    have r2 : wz.cell? ⟨x, 2, none⟩ = some (.int .i64 0) := Kz.cell 2
    have r3 : wz.cell? ⟨x, 3, none⟩ = some (.int .i64 0) := Kz.cell 3
    have r4 : wz.cell? ⟨x, 4, none⟩ = some (.int .i64 0) := Kz.cell 4
    have r5 : wz.cell? ⟨x, 5, none⟩ = some (.string ⟨#[]⟩) := Kz.cell 5
    have r6 : wz.cell? ⟨x, 6, none⟩ = some (.slice none 0 0) := Kz.cell 6
    have r7 : wz.cell? ⟨x, 7, none⟩ = some (.slice none 0 0) := Kz.cell 7
    have r8 : wz.cell? ⟨x, 8, none⟩ = some (.slice none 0 0) := Kz.cell 8
    have r9 : wz.cell? ⟨x, 9, none⟩ = some (.slice none 0 0) := Kz.cell 9
    have r10 : wz.cell? ⟨x, 10, none⟩ = some (.slice none 0 0) := Kz.cell 10
    have r11 : wz.cell? ⟨x, 11, none⟩ = some (.int .i64 0) := Kz.cell 11
    have r12 : wz.cell? ⟨x, 12, none⟩ = some (.int .i64 0) := Kz.cell 12
    have r13 : wz.cell? ⟨x, 13, none⟩ = some (.int .i64 0) := Kz.cell 13
    have r14 : wz.cell? ⟨x, 14, none⟩ = some (.int .i64 0) := Kz.cell 14
    refine bodyPost_ret (v := .tuple #[.agg #[.int .i64 0, .int .i64 0, .int .i64 0, .int .i64 0, .int .i64 0, .string ⟨#[]⟩, .slice none 0 0, .slice none 0 0, .slice none 0 0, .slice none 0 0, .slice none 0 0, .int .i64 0, .int .i64 0, .int .i64 0, .int .i64 0], .int .i64 10]) (by simp [results, Tryz.results6, go_sem, r0, r1, r2, r3, r4, r5, r6, r7, r8, r9, r10, r11, r12, r13, r14]) rfl ?_
    exact HRB.out _ HNOT.out HBz
  have hdl : decide ((8000 : Int) < (S.size : Int)) = false := decide_eq_false (by omega)
  have HS8 : Hid (S.size ≤ 8000) := by show _ ≤ _; omega
  go_enter Tryz.func6, Tryz.ntmps6
  go_upto_region 1 with fail
  rw [← hw0.out, ← hx.out]
  go_wp2_with fail
  refine HRD.out.mono ?_; rintro e w1 ⟨rfl, hw1⟩
  have HR : Hid (IsRd w1 b ⟨S, false⟩) := by show IsRd _ _ _; rw [hw1, hb.out]; exact Blk.new _ _ _
  replace Kx : Hid (Blk w1 x #[.int .i64 0, .int .i64 0, .int .i64 0, .int .i64 0, .int .i64 0, .string ⟨#[]⟩, .slice none 0 0, .slice none 0 0, .slice none 0 0, .slice none 0 0, .slice none 0 0, .int .i64 0, .int .i64 0, .int .i64 0, .int .i64 0] 35) := by show Blk _ _ _ _; rw [hw1]; exact Kx.out.alloc _
  replace HB : Hid (Below w.heap.size w w1) := by show Below _ _ _; rw [hw1]; exact bNew HB.out _
  have hwb : Hid (w.heap.size ≤ b) := by show _ ≤ _; rw [← hx.out]; omega
  obtain ⟨n1, n2⟩ := nums_red ⟨S, false⟩
  have hz1 := (Rd.mk S false).nums_sz 9 1099511627776
  have hnm := rnums_any b ⟨S, false⟩ 9 1099511627776 w1 HR.out (by simp only; omega) (by decide) (by decide)
  obtain ⟨r1, hr1⟩ := nm ((Rd.mk S false).nums 9 1099511627776).1
  obtain ⟨zs, hzs⟩ := nm ((Rd.mk S false).nums 9 1099511627776).2
  rw [← hr1.out, ← hzs.out] at hnm
  rw [← hzs.out] at n1 n2
  rw [← hr1.out] at n1 hz1
  have HN1 := Lib.hid n1
  have HN2 := Lib.hid n2
  have hs1 : r1.left.size ≤ 1000000 := by simp only at hz1; omega
  have HNM := Lib.hid hnm
  clear hw1 hnm n1 n2 hz1
  go_wp2_with fail
  refine HNM.out.mono ?_; rintro e w2 ⟨ao, cap, rfl, hcap, hsl, h2, hk⟩
  replace HR := Lib.hid h2
  replace Kx := Lib.hid (hk.blk Kx.out (by omega))
  replace HB := Lib.hid (HB.out.trans (hk.below hwb.out HB.out.size))
  by_cases hz9 : zs.length = 9
  rotate_left
  · have HNOT := Lib.hid (HW3.out (HN2.out hz9))
    obtain ⟨L9, hL9⟩ := nm zs.length
    rw [← hL9.out]
    have hne : ((L9 : Int) == 9) = false := by
      have : L9 ≠ 9 := by rw [hL9.out]; exact hz9
      simp; omega
    clear hsl hcap hz9 hk h2
    have hone : (#[.int .i64 0, .int .i64 0, .int .i64 0, .int .i64 0, .int .i64 0, .string ⟨#[]⟩, .slice none 0 0, .slice none 0 0, .slice none 0 0, .slice none 0 0, .slice none 0 0, .int .i64 0, .int .i64 0, .int .i64 0, .int .i64 0] : Array Value).all (·.oneCell') = true := by simp [Value.oneCell']
    go_wp2_with (refine wpList_store_row rfl 35 _ _ rfl x #[.int .i64 0, .int .i64 0, .int .i64 0, .int .i64 0, .int .i64 0, .string ⟨#[]⟩, .slice none 0 0, .slice none 0 0, .slice none 0 0, .slice none 0 0, .slice none 0 0, .int .i64 0, .int .i64 0, .int .i64 0, .int .i64 0] rfl rfl 35 #[.int .i64 0, .int .i64 0, .int .i64 0, .int .i64 0, .int .i64 0, .string ⟨#[]⟩, .slice none 0 0, .slice none 0 0, .slice none 0 0, .slice none 0 0, .slice none 0 0, .int .i64 0, .int .i64 0, .int .i64 0, .int .i64 0] Kx.out infoWire rfl hone ?_)
    obtain ⟨wz, hwz⟩ := nm (w2.setRow x #[.int .i64 0, .int .i64 0, .int .i64 0, .int .i64 0, .int .i64 0, .string ⟨#[]⟩, .slice none 0 0, .slice none 0 0, .slice none 0 0, .slice none 0 0, .slice none 0 0, .int .i64 0, .int .i64 0, .int .i64 0, .int .i64 0])
    rw [← hwz.out]
    have Kz : Blk wz x #[.int .i64 0, .int .i64 0, .int .i64 0, .int .i64 0, .int .i64 0, .string ⟨#[]⟩, .slice none 0 0, .slice none 0 0, .slice none 0 0, .slice none 0 0, .slice none 0 0, .int .i64 0, .int .i64 0, .int .i64 0, .int .i64 0] 35 := by rw [hwz.out]; exact setRow_heap w2 x _ _ _ _ Kx.out
    have HBz : Below w.heap.size w wz := by rw [hwz.out]; exact below_setRow HB.out hxw.out _
    have r0 : wz.cell? ⟨x, 0, none⟩ = some (.int .i64 0) := Kz.cell 0
    have r1 : wz.cell? ⟨x, 1, none⟩ = some (.int .i64 0) := Kz.cell 1
    have r2 : wz.cell? ⟨x, 2, none⟩ = some (.int .i64 0) := Kz.cell 2
    have r3 : wz.cell? ⟨x, 3, none⟩ = some (.int .i64 0) := Kz.cell 3
    have r4 : wz.cell? ⟨x, 4, none⟩ = some (.int .i64 0) := Kz.cell 4
    have r5 : wz.cell? ⟨x, 5, none⟩ = some (.string ⟨#[]⟩) := Kz.cell 5
    have r6 : wz.cell? ⟨x, 6, none⟩ = some (.slice none 0 0) := Kz.cell 6
    have r7 : wz.cell? ⟨x, 7, none⟩ = some (.slice none 0 0) := Kz.cell 7
    have r8 : wz.cell? ⟨x, 8, none⟩ = some (.slice none 0 0) := Kz.cell 8
    have r9 : wz.cell? ⟨x, 9, none⟩ = some (.slice none 0 0) := Kz.cell 9
    have r10 : wz.cell? ⟨x, 10, none⟩ = some (.slice none 0 0) := Kz.cell 10
    have r11 : wz.cell? ⟨x, 11, none⟩ = some (.int .i64 0) := Kz.cell 11
    have r12 : wz.cell? ⟨x, 12, none⟩ = some (.int .i64 0) := Kz.cell 12
    have r13 : wz.cell? ⟨x, 13, none⟩ = some (.int .i64 0) := Kz.cell 13
    have r14 : wz.cell? ⟨x, 14, none⟩ = some (.int .i64 0) := Kz.cell 14
    refine bodyPost_ret (v := .tuple #[.agg #[.int .i64 0, .int .i64 0, .int .i64 0, .int .i64 0, .int .i64 0, .string ⟨#[]⟩, .slice none 0 0, .slice none 0 0, .slice none 0 0, .slice none 0 0, .slice none 0 0, .int .i64 0, .int .i64 0, .int .i64 0, .int .i64 0], .int .i64 10]) (by simp [results, Tryz.results6, go_sem, r0, r1, r2, r3, r4, r5, r6, r7, r8, r9, r10, r11, r12, r13, r14]) rfl ?_
    exact HRB.out _ HNOT.out HBz
  have D1 := Lib.hid (HN1.out hz9)
  obtain ⟨k, f, s, p, fl, d0, d1, rc, lg, hz⟩ := list9 zs hz9
  have HZ := Lib.hid hz
  rw [hz9] at hcap ⊢
  have hs2 : ∃ g off, ao = some ⟨g, off, none⟩ ∧ g < w2.heap.size ∧ ∀ j, j < 9 → w2.cell? ⟨g, off + j, none⟩ = (zs.map (Value.int .i64))[j]? := by
    obtain ⟨g, off, h1, h2, h3⟩ := hsl 0 (by rw [List.length_map, hz9]; decide)
    exact ⟨g, off, h1, h2, fun j hj => h3 j (by rw [List.length_map, hz9]; exact hj)⟩
  obtain ⟨g, off, rfl, hg, hat⟩ := hs2
  rw [hz] at hat
  clear hsl hz hz9
  have c0 : w2.cell? ⟨g, off, none⟩ = some (.int .i64 k) := hat 0 (by decide)
  have c1 : w2.cell? ⟨g, off + 1, none⟩ = some (.int .i64 f) := hat 1 (by decide)
  have c2 : w2.cell? ⟨g, off + 2, none⟩ = some (.int .i64 s) := hat 2 (by decide)
  have c3 : w2.cell? ⟨g, off + 3, none⟩ = some (.int .i64 p) := hat 3 (by decide)
  have c4 : w2.cell? ⟨g, off + 4, none⟩ = some (.int .i64 fl) := hat 4 (by decide)
  have c5 : w2.cell? ⟨g, off + 5, none⟩ = some (.int .i64 d0) := hat 5 (by decide)
  have c6 : w2.cell? ⟨g, off + 6, none⟩ = some (.int .i64 d1) := hat 6 (by decide)
  have c7 : w2.cell? ⟨g, off + 7, none⟩ = some (.int .i64 rc) := hat 7 (by decide)
  have c8 : w2.cell? ⟨g, off + 8, none⟩ = some (.int .i64 lg) := hat 8 (by decide)
  obtain ⟨v, hv⟩ := nm (w2.heap.size + 1)
  obtain ⟨w3, hw3⟩ := nm ((w2.alloc (.cells #[.int .i64 k, .int .i64 f, .int .i64 s, .int .i64 p, .int .i64 fl, .int .i64 d0, .int .i64 d1, .int .i64 rc, .int .i64 lg] 48)).alloc (.cells #[.int .i64 k, .int .i64 f, .int .i64 s, .int .i64 p, .int .i64 fl, .string ⟨#[]⟩, .slice none 0 0, .slice none 0 0, .slice none 0 0, .slice none 0 0, .slice none 0 0, .int .i64 d0, .int .i64 d1, .int .i64 rc, .int .i64 lg] 35))
  have hbv : b < v := by rw [hv.out]; have := h2.lt; omega
  have hxv : x < v := by rw [hv.out]; have := Kx.out.lt; omega
  have Kv : Hid (Blk w3 v #[.int .i64 k, .int .i64 f, .int .i64 s, .int .i64 p, .int .i64 fl, .string ⟨#[]⟩, .slice none 0 0, .slice none 0 0, .slice none 0 0, .slice none 0 0, .slice none 0 0, .int .i64 d0, .int .i64 d1, .int .i64 rc, .int .i64 lg] 35) := by show Blk _ _ _ _; rw [hw3.out]; exact blk_at (by rw [hv.out]; simp)
  replace HR : Hid (IsRd w3 b r1) := by show IsRd _ _ _; rw [hw3.out]; exact Blk.alloc (Blk.alloc h2 _) _
  replace Kx : Hid (Blk w3 x #[.int .i64 0, .int .i64 0, .int .i64 0, .int .i64 0, .int .i64 0, .string ⟨#[]⟩, .slice none 0 0, .slice none 0 0, .slice none 0 0, .slice none 0 0, .slice none 0 0, .int .i64 0, .int .i64 0, .int .i64 0, .int .i64 0] 35) := by show Blk _ _ _ _; rw [hw3.out]; exact (Kx.out.alloc _).alloc _
  replace HB : Hid (Below w.heap.size w w3) := by show Below _ _ _; rw [hw3.out]; exact bNew (bNew HB.out _) _
  have hwv : Hid (w.heap.size ≤ v) := by show _ ≤ _; have := hxw.out; omega
  clear h2 hk hat
  have harr := fun w : World => run_arrayAt (P := Tryz.prog) w 48 3 9 (some ⟨g, off, none⟩) 9 cap Tryz.underlying48 (Nat.le_refl _)
  go_upto_region 9 with fail
  rw [← hw3.out, ← hv.out]
  have q5 := red_text r1 8000 (by decide)
  have z5 := r1.text_sz 8000
  have htx := rtext_any b r1 8000 w3 HR.out (by omega) (by decide)
  obtain ⟨r2, hr2⟩ := nm (r1.text 8000).1
  obtain ⟨mark, hmark⟩ := nm (r1.text 8000).2
  rw [← hr2.out, ← hmark.out] at q5 htx
  rw [← hr2.out] at z5
  have hs2 : r2.left.size ≤ 1000000 := by omega
  have D2 := Lib.hid q5
  have HTX := Lib.hid htx
  clear htx q5 z5 harr c0 c1 c2 c3 c4 c5 c6 c7 c8
  go_wp2_with fail
  refine (HTX.out).mono ?_; rintro e w4 ⟨rfl, hr, hk⟩
  replace HR := Lib.hid hr
  replace Kx := Lib.hid (hk.blk Kx.out (by omega))
  replace Kv := Lib.hid (hk.blk Kv.out (by omega))
  replace HB := Lib.hid (HB.out.trans (hk.below hwb.out HB.out.size))
  clear hr hk
  have c5 : w4.cell? ⟨v, 5, none⟩ = some (.string ⟨#[]⟩) := Kv.out.cell 5
  have f5 : w4.frozen? ⟨v, 5, none⟩ = false := Kv.out.free 5
  obtain ⟨w5, hw5⟩ := nm (w4.setCell ⟨v, 5, none⟩ (.string mark))
  replace Kx : Hid (Blk w5 x #[.int .i64 0, .int .i64 0, .int .i64 0, .int .i64 0, .int .i64 0, .string ⟨#[]⟩, .slice none 0 0, .slice none 0 0, .slice none 0 0, .slice none 0 0, .slice none 0 0, .int .i64 0, .int .i64 0, .int .i64 0, .int .i64 0] 35) := by show Blk _ _ _ _; rw [hw5.out]; exact (Blk.setOther Kx.out (by simp only; omega) _)
  replace HR : Hid (IsRd w5 b r2) := by show IsRd _ _ _; rw [hw5.out]; exact (Blk.setOther HR.out (by simp only; omega) _)
  replace Kv : Hid (Blk w5 v #[.int .i64 k, .int .i64 f, .int .i64 s, .int .i64 p, .int .i64 fl, .string mark, .slice none 0 0, .slice none 0 0, .slice none 0 0, .slice none 0 0, .slice none 0 0, .int .i64 d0, .int .i64 d1, .int .i64 rc, .int .i64 lg] 35) := by show Blk _ _ _ _; rw [hw5.out]; exact (Blk.set Kv.out 5 _)
  replace HB : Hid (Below w.heap.size w w5) := by show Below _ _ _; rw [hw5.out]; exact (Below.setCell HB.out (p := ⟨v, 5, none⟩) hwv.out _)
  go_upto_region 10 with fail
  rw [← hw5.out]
  clear c5 f5 hw5
  go_wp2_with fail
  refine (rbag_any b r2 _ HR.out hs2).mono ?_; rintro e w6 ⟨am, ab, ac, nl, kl, nb, kb, nc, kc, live, bs, cl, r3, rfl, hln, g0, g1, g2, fr0, fr1, fr2, hr, hd3, hs3, hk⟩
  have hv5 : v < w5.heap.size := Kv.out.lt
  have G0 := Lib.hid g0
  have G1 := Lib.hid g1
  have G2 := Lib.hid g2
  have D3 := Lib.hid hd3
  have HLN := Lib.hid hln
  have FR : Hid ((∀ a, am = some a → v < a.block) ∧ (∀ a, ab = some a → v < a.block) ∧ ∀ a, ac = some a → v < a.block) := ⟨fun a ha => by have := fr0 a ha; omega, fun a ha => by have := fr1 a ha; omega, fun a ha => by have := fr2 a ha; omega⟩
  have HT6 : Hid (Tri b v x w6 w6) := Tri.refl _ _ _ _
  clear g0 g1 g2 fr0 fr1 fr2 hd3 hln
  replace HR := Lib.hid hr
  replace Kx := Lib.hid (hk.blk Kx.out (by omega))
  replace Kv := Lib.hid (hk.blk Kv.out (by omega))
  replace HB := Lib.hid (HB.out.trans (hk.below hwb.out HB.out.size))
  clear hr hk
  have c6 : w6.cell? ⟨v, 6, none⟩ = some (.slice none 0 0) := Kv.out.cell 6
  have f6 : w6.frozen? ⟨v, 6, none⟩ = false := Kv.out.free 6
  have c7 : w6.cell? ⟨v, 7, none⟩ = some (.slice none 0 0) := Kv.out.cell 7
  have f7 : w6.frozen? ⟨v, 7, none⟩ = false := Kv.out.free 7
  have c8 : w6.cell? ⟨v, 8, none⟩ = some (.slice none 0 0) := Kv.out.cell 8
  have f8 : w6.frozen? ⟨v, 8, none⟩ = false := Kv.out.free 8
  obtain ⟨w7, hw7⟩ := nm (((w6.setCell ⟨v, 6, none⟩ (.slice am nl kl)).setCell ⟨v, 7, none⟩ (.slice ab nb kb)).setCell ⟨v, 8, none⟩ (.slice ac nc kc))
  replace Kx : Hid (Blk w7 x #[.int .i64 0, .int .i64 0, .int .i64 0, .int .i64 0, .int .i64 0, .string ⟨#[]⟩, .slice none 0 0, .slice none 0 0, .slice none 0 0, .slice none 0 0, .slice none 0 0, .int .i64 0, .int .i64 0, .int .i64 0, .int .i64 0] 35) := by show Blk _ _ _ _; rw [hw7.out]; exact (Blk.setOther (Blk.setOther (Blk.setOther Kx.out (by simp only; omega) _) (by simp only; omega) _) (by simp only; omega) _)
  replace HR : Hid (IsRd w7 b r3) := by show IsRd _ _ _; rw [hw7.out]; exact (Blk.setOther (Blk.setOther (Blk.setOther HR.out (by simp only; omega) _) (by simp only; omega) _) (by simp only; omega) _)
  replace Kv : Hid (Blk w7 v #[.int .i64 k, .int .i64 f, .int .i64 s, .int .i64 p, .int .i64 fl, .string mark, .slice am nl kl, .slice ab nb kb, .slice ac nc kc, .slice none 0 0, .slice none 0 0, .int .i64 d0, .int .i64 d1, .int .i64 rc, .int .i64 lg] 35) := by show Blk _ _ _ _; rw [hw7.out]; exact (Blk.set (Blk.set (Blk.set Kv.out 6 _) 7 _) 8 _)
  replace HB : Hid (Below w.heap.size w w7) := by show Below _ _ _; rw [hw7.out]; exact (Below.setCell (Below.setCell (Below.setCell HB.out (p := ⟨v, 6, none⟩) hwv.out _) (p := ⟨v, 7, none⟩) hwv.out _) (p := ⟨v, 8, none⟩) hwv.out _)
  replace HT6 : Hid (Tri b v x w6 w7) := by show Tri _ _ _ _ _; rw [hw7.out]; exact (Tri.set (Tri.set (Tri.set HT6.out (p := ⟨v, 6, none⟩) (.inr (.inl rfl)) _) (p := ⟨v, 7, none⟩) (.inr (.inl rfl)) _) (p := ⟨v, 8, none⟩) (.inr (.inl rfl)) _)
  go_upto_region 11 with fail
  rw [← hw7.out]
  clear c6 f6 c7 f7 c8 f8 hw7
  go_wp2_with fail
  refine (rtag_any b r3 _ HR.out hs3).mono ?_; rintro e w8 ⟨ag, ng, kg, tags, r4, rfl, hln3, g3, fr3, hr, hd4, hs4, hk⟩
  have hv7 : v < w7.heap.size := Kv.out.lt
  have G3 := Lib.hid g3
  have D4 := Lib.hid hd4
  have HLN3 := Lib.hid hln3
  have FR3 : Hid (∀ a, ag = some a → v < a.block) := fun a ha => by have := fr3 a ha; omega
  have HT8 : Hid (Tri b v x w8 w8) := Tri.refl _ _ _ _
  clear g3 fr3 hd4 hln3
  replace HR := Lib.hid hr
  replace Kx := Lib.hid (hk.blk Kx.out (by omega))
  replace Kv := Lib.hid (hk.blk Kv.out (by omega))
  replace HB := Lib.hid (HB.out.trans (hk.below hwb.out HB.out.size))
  replace HT6 := Lib.hid (HT6.out.trans (Tri.ofKept hk))
  clear hr hk
  have c9 : w8.cell? ⟨v, 9, none⟩ = some (.slice none 0 0) := Kv.out.cell 9
  have f9 : w8.frozen? ⟨v, 9, none⟩ = false := Kv.out.free 9
  obtain ⟨w9, hw9⟩ := nm (w8.setCell ⟨v, 9, none⟩ (.slice ag ng kg))
  replace Kx : Hid (Blk w9 x #[.int .i64 0, .int .i64 0, .int .i64 0, .int .i64 0, .int .i64 0, .string ⟨#[]⟩, .slice none 0 0, .slice none 0 0, .slice none 0 0, .slice none 0 0, .slice none 0 0, .int .i64 0, .int .i64 0, .int .i64 0, .int .i64 0] 35) := by show Blk _ _ _ _; rw [hw9.out]; exact (Blk.setOther Kx.out (by simp only; omega) _)
  replace HR : Hid (IsRd w9 b r4) := by show IsRd _ _ _; rw [hw9.out]; exact (Blk.setOther HR.out (by simp only; omega) _)
  replace Kv : Hid (Blk w9 v #[.int .i64 k, .int .i64 f, .int .i64 s, .int .i64 p, .int .i64 fl, .string mark, .slice am nl kl, .slice ab nb kb, .slice ac nc kc, .slice ag ng kg, .slice none 0 0, .int .i64 d0, .int .i64 d1, .int .i64 rc, .int .i64 lg] 35) := by show Blk _ _ _ _; rw [hw9.out]; exact (Blk.set Kv.out 9 _)
  replace HB : Hid (Below w.heap.size w w9) := by show Below _ _ _; rw [hw9.out]; exact (Below.setCell HB.out (p := ⟨v, 9, none⟩) hwv.out _)
  replace HT6 : Hid (Tri b v x w6 w9) := by show Tri _ _ _ _ _; rw [hw9.out]; exact (Tri.set HT6.out (p := ⟨v, 9, none⟩) (.inr (.inl rfl)) _)
  replace HT8 : Hid (Tri b v x w8 w9) := by show Tri _ _ _ _ _; rw [hw9.out]; exact (Tri.set HT8.out (p := ⟨v, 9, none⟩) (.inr (.inl rfl)) _)
  go_upto_region 12 with fail
  rw [← hw9.out]
  clear c9 f9 hw9
  go_wp2_with fail
  refine (rvw_any b r4 _ HR.out hs4).mono ?_; rintro e wa ⟨av, nv, kv, view, r5, rfl, hln4, g4, fr4, hr, hd5, hs5, hk⟩
  have hv9 : v < w9.heap.size := Kv.out.lt
  have G4 := Lib.hid g4
  have D5 := Lib.hid hd5
  have HLN4 := Lib.hid hln4
  have FR4 : Hid (∀ a, av = some a → v < a.block) := fun a ha => by have := fr4 a ha; omega
  have HTA : Hid (Tri b v x wa wa) := Tri.refl _ _ _ _
  clear g4 fr4 hd5 hln4
  replace HR := Lib.hid hr
  replace Kx := Lib.hid (hk.blk Kx.out (by omega))
  replace Kv := Lib.hid (hk.blk Kv.out (by omega))
  replace HB := Lib.hid (HB.out.trans (hk.below hwb.out HB.out.size))
  replace HT6 := Lib.hid (HT6.out.trans (Tri.ofKept hk))
  replace HT8 := Lib.hid (HT8.out.trans (Tri.ofKept hk))
  clear hr hk
  have c10 : wa.cell? ⟨v, 10, none⟩ = some (.slice none 0 0) := Kv.out.cell 10
  have f10 : wa.frozen? ⟨v, 10, none⟩ = false := Kv.out.free 10
  obtain ⟨wb, hwb⟩ := nm (wa.setCell ⟨v, 10, none⟩ (.slice av nv kv))
  replace Kx : Hid (Blk wb x #[.int .i64 0, .int .i64 0, .int .i64 0, .int .i64 0, .int .i64 0, .string ⟨#[]⟩, .slice none 0 0, .slice none 0 0, .slice none 0 0, .slice none 0 0, .slice none 0 0, .int .i64 0, .int .i64 0, .int .i64 0, .int .i64 0] 35) := by show Blk _ _ _ _; rw [hwb.out]; exact (Blk.setOther Kx.out (by simp only; omega) _)
  replace HR : Hid (IsRd wb b r5) := by show IsRd _ _ _; rw [hwb.out]; exact (Blk.setOther HR.out (by simp only; omega) _)
  replace Kv : Hid (Blk wb v #[.int .i64 k, .int .i64 f, .int .i64 s, .int .i64 p, .int .i64 fl, .string mark, .slice am nl kl, .slice ab nb kb, .slice ac nc kc, .slice ag ng kg, .slice av nv kv, .int .i64 d0, .int .i64 d1, .int .i64 rc, .int .i64 lg] 35) := by show Blk _ _ _ _; rw [hwb.out]; exact (Blk.set Kv.out 10 _)
  replace HB : Hid (Below w.heap.size w wb) := by show Below _ _ _; rw [hwb.out]; exact (Below.setCell HB.out (p := ⟨v, 10, none⟩) hwv.out _)
  replace HT6 : Hid (Tri b v x w6 wb) := by show Tri _ _ _ _ _; rw [hwb.out]; exact (Tri.set HT6.out (p := ⟨v, 10, none⟩) (.inr (.inl rfl)) _)
  replace HT8 : Hid (Tri b v x w8 wb) := by show Tri _ _ _ _ _; rw [hwb.out]; exact (Tri.set HT8.out (p := ⟨v, 10, none⟩) (.inr (.inl rfl)) _)
  replace HTA : Hid (Tri b v x wa wb) := by show Tri _ _ _ _ _; rw [hwb.out]; exact (Tri.set HTA.out (p := ⟨v, 10, none⟩) (.inr (.inl rfl)) _)
  go_upto_region 13 with fail
  rw [← hwb.out]
  clear c10 f10 hwb
  have hred : Red PW fW ⟨S, false⟩ r5 (WL.mk k f s p fl d0 d1 rc lg mark live bs cl tags view).t := by
    have e1 : Red NineR (rowL numZ) ⟨S, false⟩ r1 [k, f, s, p, fl, d0, d1, rc, lg] := by rw [← HZ.out]; exact D1.out
    exact e1.seq (D2.out.seq (D3.out.seq (D4.out.seq D5.out tells_tagsP) tells_bagR) (tells_tx (by decide))) tells_nine
  have RED := Lib.hid hred
  have LIES : Hid (r5.torn = false → ∀ w', Tri b v x wb w' → Lies w' am ab ac ag av nl nb nc ng nv live bs cl tags view) := by
    show _ → ∀ w', _
    intro ht w' h
    obtain ⟨_, hp, _⟩ := RED.out.is ht
    obtain ⟨f0, f1, f2⟩ := FR.out
    have f3 := FR3.out
    have f4 := FR4.out
    obtain ⟨l0, l1, l2⟩ := HLN.out
    have l3 := HLN3.out
    have l4 := HLN4.out
    obtain ⟨⟨b1, b2, b3⟩, _⟩ := hp.2.2.1
    have b4 := hp.2.2.2.1.many
    have b5 := hp.2.2.2.2.many
    simp only [WL.t] at b1 b2 b3 b4 b5
    have t6 := HT6.out.trans h
    have t8 := HT8.out.trans h
    have ta := HTA.out.trans h
    exact ⟨l0, l1, l2, l3, l4, by omega, by omega, by omega, by omega, by omega, G0.out.tri (fun a ha => by have := f0 a ha; exact ⟨by omega, by omega, by omega⟩) t6, G1.out.tri (fun a ha => by have := f1 a ha; exact ⟨by omega, by omega, by omega⟩) t6, G2.out.tri (fun a ha => by have := f2 a ha; exact ⟨by omega, by omega, by omega⟩) t6, G3.out.tri (fun a ha => by have := f3 a ha; exact ⟨by omega, by omega, by omega⟩) t8, G4.out.tri (fun a ha => by have := f4 a ha; exact ⟨by omega, by omega, by omega⟩) ta⟩
  have FRS : Hid (FreshW w.heap.size am ab ac ag av) := by
    show FreshW _ _ _ _ _ _
    obtain ⟨f0, f1, f2⟩ := FR.out
    have hh := hwv.out
    exact ⟨fun a ha => by have := f0 a ha; omega, fun a ha => by have := f1 a ha; omega, fun a ha => by have := f2 a ha; omega, fun a ha => by have := FR3.out a ha; omega, fun a ha => by have := FR4.out a ha; omega⟩
  clear hred D1 D2 D3 D4 D5 G0 G1 G2 G3 G4 HT6 HT8 HTA HLN HLN3 HLN4 FR FR3 FR4
  obtain ⟨F, hF⟩ := nm r5.fin
  have hfc : F = 10 ∨ (F = 0 ∧ r5.torn = false) := by
    rw [hF.out]
    unfold Rd.fin
    split
    · exact .inl rfl
    · rename_i hc
      refine .inr ⟨rfl, ?_⟩
      cases ht : r5.torn with
      | false => rfl
      | true => exact absurd (.inl ht) hc
  have hend := rend_any b r5 wb HR.out
  rw [← hF.out] at hend
  have HEND := Lib.hid hend
  clear hend
  rcases hfc with rfl | ⟨rfl, htt⟩
  · have HNOT := Lib.hid (HW2.out (WL.mk k f s p fl d0 d1 rc lg mark live bs cl tags view) r5 RED.out (.inl hF.out.symm))
    go_wp2_with fail
    refine HEND.out.mono ?_; rintro e wc ⟨rfl, rfl⟩
    have hone : (#[.int .i64 0, .int .i64 0, .int .i64 0, .int .i64 0, .int .i64 0, .string ⟨#[]⟩, .slice none 0 0, .slice none 0 0, .slice none 0 0, .slice none 0 0, .slice none 0 0, .int .i64 0, .int .i64 0, .int .i64 0, .int .i64 0] : Array Value).all (·.oneCell') = true := by simp [Value.oneCell']
    go_wp2_with (refine wpList_store_row rfl 35 _ _ rfl x #[.int .i64 0, .int .i64 0, .int .i64 0, .int .i64 0, .int .i64 0, .string ⟨#[]⟩, .slice none 0 0, .slice none 0 0, .slice none 0 0, .slice none 0 0, .slice none 0 0, .int .i64 0, .int .i64 0, .int .i64 0, .int .i64 0] rfl rfl 35 #[.int .i64 0, .int .i64 0, .int .i64 0, .int .i64 0, .int .i64 0, .string ⟨#[]⟩, .slice none 0 0, .slice none 0 0, .slice none 0 0, .slice none 0 0, .slice none 0 0, .int .i64 0, .int .i64 0, .int .i64 0, .int .i64 0] Kx.out infoWire rfl hone ?_)
    obtain ⟨wz, hwz⟩ := nm (wb.setRow x #[.int .i64 0, .int .i64 0, .int .i64 0, .int .i64 0, .int .i64 0, .string ⟨#[]⟩, .slice none 0 0, .slice none 0 0, .slice none 0 0, .slice none 0 0, .slice none 0 0, .int .i64 0, .int .i64 0, .int .i64 0, .int .i64 0])
    rw [← hwz.out]
    have Kz : Blk wz x #[.int .i64 0, .int .i64 0, .int .i64 0, .int .i64 0, .int .i64 0, .string ⟨#[]⟩, .slice none 0 0, .slice none 0 0, .slice none 0 0, .slice none 0 0, .slice none 0 0, .int .i64 0, .int .i64 0, .int .i64 0, .int .i64 0] 35 := by rw [hwz.out]; exact setRow_heap wb x _ _ _ _ Kx.out
    have HBz : Below w.heap.size w wz := by rw [hwz.out]; exact below_setRow HB.out hxw.out _
    have r0 : wz.cell? ⟨x, 0, none⟩ = some (.int .i64 0) := Kz.cell 0
    have r1 : wz.cell? ⟨x, 1, none⟩ = some (.int .i64 0) := Kz.cell 1
    have r2 : wz.cell? ⟨x, 2, none⟩ = some (.int .i64 0) := Kz.cell 2
    have r3 : wz.cell? ⟨x, 3, none⟩ = some (.int .i64 0) := Kz.cell 3
    have r4 : wz.cell? ⟨x, 4, none⟩ = some (.int .i64 0) := Kz.cell 4
    have r5 : wz.cell? ⟨x, 5, none⟩ = some (.string ⟨#[]⟩) := Kz.cell 5
    have r6 : wz.cell? ⟨x, 6, none⟩ = some (.slice none 0 0) := Kz.cell 6
    have r7 : wz.cell? ⟨x, 7, none⟩ = some (.slice none 0 0) := Kz.cell 7
    have r8 : wz.cell? ⟨x, 8, none⟩ = some (.slice none 0 0) := Kz.cell 8
    have r9 : wz.cell? ⟨x, 9, none⟩ = some (.slice none 0 0) := Kz.cell 9
    have r10 : wz.cell? ⟨x, 10, none⟩ = some (.slice none 0 0) := Kz.cell 10
    have r11 : wz.cell? ⟨x, 11, none⟩ = some (.int .i64 0) := Kz.cell 11
    have r12 : wz.cell? ⟨x, 12, none⟩ = some (.int .i64 0) := Kz.cell 12
    have r13 : wz.cell? ⟨x, 13, none⟩ = some (.int .i64 0) := Kz.cell 13
    have r14 : wz.cell? ⟨x, 14, none⟩ = some (.int .i64 0) := Kz.cell 14
    refine bodyPost_ret (v := .tuple #[.agg #[.int .i64 0, .int .i64 0, .int .i64 0, .int .i64 0, .int .i64 0, .string ⟨#[]⟩, .slice none 0 0, .slice none 0 0, .slice none 0 0, .slice none 0 0, .slice none 0 0, .int .i64 0, .int .i64 0, .int .i64 0, .int .i64 0], .int .i64 10]) (by simp [results, Tryz.results6, go_sem, r0, r1, r2, r3, r4, r5, r6, r7, r8, r9, r10, r11, r12, r13, r14]) rfl ?_
    exact HRB.out _ HNOT.out HBz
  have LIE := Lib.hid (LIES.out htt)
  obtain ⟨B, hB, hBf, hBt⟩ := boolOf (WL.mk k f s p fl d0 d1 rc lg mark live bs cl tags view).May
  obtain ⟨E, hE⟩ := nm (errno B)
  have hck := wcheck_any k f s p fl d0 d1 rc lg mark am ab ac ag av nl kl nb kb nc kc ng kg nv kv live bs cl tags view B hB E hE wb (LIE.out wb (Tri.refl _ _ _ _))
  have HCK := Lib.hid hck
  clear hck LIES
  have c0 : wb.cell? ⟨v, 0, none⟩ = some (.int .i64 k) := Kv.out.cell 0
  have c1 : wb.cell? ⟨v, 1, none⟩ = some (.int .i64 f) := Kv.out.cell 1
  have c2 : wb.cell? ⟨v, 2, none⟩ = some (.int .i64 s) := Kv.out.cell 2
  have c3 : wb.cell? ⟨v, 3, none⟩ = some (.int .i64 p) := Kv.out.cell 3
  have c4 : wb.cell? ⟨v, 4, none⟩ = some (.int .i64 fl) := Kv.out.cell 4
  have c5 : wb.cell? ⟨v, 5, none⟩ = some (.string mark) := Kv.out.cell 5
  have c6 : wb.cell? ⟨v, 6, none⟩ = some (.slice am nl kl) := Kv.out.cell 6
  have c7 : wb.cell? ⟨v, 7, none⟩ = some (.slice ab nb kb) := Kv.out.cell 7
  have c8 : wb.cell? ⟨v, 8, none⟩ = some (.slice ac nc kc) := Kv.out.cell 8
  have c9 : wb.cell? ⟨v, 9, none⟩ = some (.slice ag ng kg) := Kv.out.cell 9
  have c10 : wb.cell? ⟨v, 10, none⟩ = some (.slice av nv kv) := Kv.out.cell 10
  have c11 : wb.cell? ⟨v, 11, none⟩ = some (.int .i64 d0) := Kv.out.cell 11
  have c12 : wb.cell? ⟨v, 12, none⟩ = some (.int .i64 d1) := Kv.out.cell 12
  have c13 : wb.cell? ⟨v, 13, none⟩ = some (.int .i64 rc) := Kv.out.cell 13
  have c14 : wb.cell? ⟨v, 14, none⟩ = some (.int .i64 lg) := Kv.out.cell 14
  go_wp2_with fail
  refine HEND.out.mono ?_; rintro e wc ⟨rfl, rfl⟩
  go_wp2_with fail
  refine HCK.out.mono ?_; rintro e wd ⟨rfl, hBd⟩
  have hxr := Kx.out.lt
  have hvr := Kv.out.lt
  replace Kx := Lib.hid (Kx.out.below hBd hxr)
  replace Kv := Lib.hid (Kv.out.below hBd hvr)
  replace HB := Lib.hid (bNext HB.out hBd)
  have HTD : Hid (Tri b v x wb wd) := Tri.ofBelow hBd
  clear hBd c0 c1 c2 c3 c4 c5 c6 c7 c8 c9 c10 c11 c12 c13 c14 hxr hvr HEND HCK
  have hE2 := hE.out
  cases B
  · obtain rfl : E = 1 := hE2
    have HNOT := Lib.hid (HW2.out (WL.mk k f s p fl d0 d1 rc lg mark live bs cl tags view) r5 RED.out (.inr (hBf.out (by first | exact rfl | exact trivial))))
    have hone : (#[.int .i64 0, .int .i64 0, .int .i64 0, .int .i64 0, .int .i64 0, .string ⟨#[]⟩, .slice none 0 0, .slice none 0 0, .slice none 0 0, .slice none 0 0, .slice none 0 0, .int .i64 0, .int .i64 0, .int .i64 0, .int .i64 0] : Array Value).all (·.oneCell') = true := by simp [Value.oneCell']
    go_wp2_with (refine wpList_store_row rfl 35 _ _ rfl x #[.int .i64 0, .int .i64 0, .int .i64 0, .int .i64 0, .int .i64 0, .string ⟨#[]⟩, .slice none 0 0, .slice none 0 0, .slice none 0 0, .slice none 0 0, .slice none 0 0, .int .i64 0, .int .i64 0, .int .i64 0, .int .i64 0] rfl rfl 35 #[.int .i64 0, .int .i64 0, .int .i64 0, .int .i64 0, .int .i64 0, .string ⟨#[]⟩, .slice none 0 0, .slice none 0 0, .slice none 0 0, .slice none 0 0, .slice none 0 0, .int .i64 0, .int .i64 0, .int .i64 0, .int .i64 0] Kx.out infoWire rfl hone ?_)
    obtain ⟨wz, hwz⟩ := nm (wd.setRow x #[.int .i64 0, .int .i64 0, .int .i64 0, .int .i64 0, .int .i64 0, .string ⟨#[]⟩, .slice none 0 0, .slice none 0 0, .slice none 0 0, .slice none 0 0, .slice none 0 0, .int .i64 0, .int .i64 0, .int .i64 0, .int .i64 0])
    rw [← hwz.out]
    have Kz : Blk wz x #[.int .i64 0, .int .i64 0, .int .i64 0, .int .i64 0, .int .i64 0, .string ⟨#[]⟩, .slice none 0 0, .slice none 0 0, .slice none 0 0, .slice none 0 0, .slice none 0 0, .int .i64 0, .int .i64 0, .int .i64 0, .int .i64 0] 35 := by rw [hwz.out]; exact setRow_heap wd x _ _ _ _ Kx.out
    have HBz : Below w.heap.size w wz := by rw [hwz.out]; exact below_setRow HB.out hxw.out _
    have r0 : wz.cell? ⟨x, 0, none⟩ = some (.int .i64 0) := Kz.cell 0
    have r1 : wz.cell? ⟨x, 1, none⟩ = some (.int .i64 0) := Kz.cell 1
    have r2 : wz.cell? ⟨x, 2, none⟩ = some (.int .i64 0) := Kz.cell 2
    have r3 : wz.cell? ⟨x, 3, none⟩ = some (.int .i64 0) := Kz.cell 3
    have r4 : wz.cell? ⟨x, 4, none⟩ = some (.int .i64 0) := Kz.cell 4
    have r5 : wz.cell? ⟨x, 5, none⟩ = some (.string ⟨#[]⟩) := Kz.cell 5
    have r6 : wz.cell? ⟨x, 6, none⟩ = some (.slice none 0 0) := Kz.cell 6
    have r7 : wz.cell? ⟨x, 7, none⟩ = some (.slice none 0 0) := Kz.cell 7
    have r8 : wz.cell? ⟨x, 8, none⟩ = some (.slice none 0 0) := Kz.cell 8
    have r9 : wz.cell? ⟨x, 9, none⟩ = some (.slice none 0 0) := Kz.cell 9
    have r10 : wz.cell? ⟨x, 10, none⟩ = some (.slice none 0 0) := Kz.cell 10
    have r11 : wz.cell? ⟨x, 11, none⟩ = some (.int .i64 0) := Kz.cell 11
    have r12 : wz.cell? ⟨x, 12, none⟩ = some (.int .i64 0) := Kz.cell 12
    have r13 : wz.cell? ⟨x, 13, none⟩ = some (.int .i64 0) := Kz.cell 13
    have r14 : wz.cell? ⟨x, 14, none⟩ = some (.int .i64 0) := Kz.cell 14
    refine bodyPost_ret (v := .tuple #[.agg #[.int .i64 0, .int .i64 0, .int .i64 0, .int .i64 0, .int .i64 0, .string ⟨#[]⟩, .slice none 0 0, .slice none 0 0, .slice none 0 0, .slice none 0 0, .slice none 0 0, .int .i64 0, .int .i64 0, .int .i64 0, .int .i64 0], .int .i64 10]) (by simp [results, Tryz.results6, go_sem, r0, r1, r2, r3, r4, r5, r6, r7, r8, r9, r10, r11, r12, r13, r14]) rfl ?_
    exact HRB.out _ HNOT.out HBz
  · obtain rfl : E = 0 := hE2
    have HSAID := Lib.hid (HW1.out (WL.mk k f s p fl d0 d1 rc lg mark live bs cl tags view) r5 RED.out HS8.out hF.out.symm (hBt.out (by first | exact rfl | exact trivial)))
    have c0 : wd.cell? ⟨v, 0, none⟩ = some (.int .i64 k) := Kv.out.cell 0
    have c1 : wd.cell? ⟨v, 1, none⟩ = some (.int .i64 f) := Kv.out.cell 1
    have c2 : wd.cell? ⟨v, 2, none⟩ = some (.int .i64 s) := Kv.out.cell 2
    have c3 : wd.cell? ⟨v, 3, none⟩ = some (.int .i64 p) := Kv.out.cell 3
    have c4 : wd.cell? ⟨v, 4, none⟩ = some (.int .i64 fl) := Kv.out.cell 4
    have c5 : wd.cell? ⟨v, 5, none⟩ = some (.string mark) := Kv.out.cell 5
    have c6 : wd.cell? ⟨v, 6, none⟩ = some (.slice am nl kl) := Kv.out.cell 6
    have c7 : wd.cell? ⟨v, 7, none⟩ = some (.slice ab nb kb) := Kv.out.cell 7
    have c8 : wd.cell? ⟨v, 8, none⟩ = some (.slice ac nc kc) := Kv.out.cell 8
    have c9 : wd.cell? ⟨v, 9, none⟩ = some (.slice ag ng kg) := Kv.out.cell 9
    have c10 : wd.cell? ⟨v, 10, none⟩ = some (.slice av nv kv) := Kv.out.cell 10
    have c11 : wd.cell? ⟨v, 11, none⟩ = some (.int .i64 d0) := Kv.out.cell 11
    have c12 : wd.cell? ⟨v, 12, none⟩ = some (.int .i64 d1) := Kv.out.cell 12
    have c13 : wd.cell? ⟨v, 13, none⟩ = some (.int .i64 rc) := Kv.out.cell 13
    have c14 : wd.cell? ⟨v, 14, none⟩ = some (.int .i64 lg) := Kv.out.cell 14
    have hone : (#[.int .i64 k, .int .i64 f, .int .i64 s, .int .i64 p, .int .i64 fl, .string mark, .slice am nl kl, .slice ab nb kb, .slice ac nc kc, .slice ag ng kg, .slice av nv kv, .int .i64 d0, .int .i64 d1, .int .i64 rc, .int .i64 lg] : Array Value).all (·.oneCell') = true := by simp [Value.oneCell']
    go_wp2_with (refine wpList_store_row rfl 35 _ _ rfl x #[.int .i64 k, .int .i64 f, .int .i64 s, .int .i64 p, .int .i64 fl, .string mark, .slice am nl kl, .slice ab nb kb, .slice ac nc kc, .slice ag ng kg, .slice av nv kv, .int .i64 d0, .int .i64 d1, .int .i64 rc, .int .i64 lg] rfl rfl 35 #[.int .i64 0, .int .i64 0, .int .i64 0, .int .i64 0, .int .i64 0, .string ⟨#[]⟩, .slice none 0 0, .slice none 0 0, .slice none 0 0, .slice none 0 0, .slice none 0 0, .int .i64 0, .int .i64 0, .int .i64 0, .int .i64 0] Kx.out infoWire rfl hone ?_)
    obtain ⟨wz, hwz⟩ := nm (wd.setRow x #[.int .i64 k, .int .i64 f, .int .i64 s, .int .i64 p, .int .i64 fl, .string mark, .slice am nl kl, .slice ab nb kb, .slice ac nc kc, .slice ag ng kg, .slice av nv kv, .int .i64 d0, .int .i64 d1, .int .i64 rc, .int .i64 lg])
    rw [← hwz.out]
    have Kz : Blk wz x #[.int .i64 k, .int .i64 f, .int .i64 s, .int .i64 p, .int .i64 fl, .string mark, .slice am nl kl, .slice ab nb kb, .slice ac nc kc, .slice ag ng kg, .slice av nv kv, .int .i64 d0, .int .i64 d1, .int .i64 rc, .int .i64 lg] 35 := by rw [hwz.out]; exact setRow_heap wd x _ _ _ _ Kx.out
    have HBz : Below w.heap.size w wz := by rw [hwz.out]; exact below_setRow HB.out hxw.out _
    have r0 : wz.cell? ⟨x, 0, none⟩ = some (.int .i64 k) := Kz.cell 0
    have r1 : wz.cell? ⟨x, 1, none⟩ = some (.int .i64 f) := Kz.cell 1
    have r2 : wz.cell? ⟨x, 2, none⟩ = some (.int .i64 s) := Kz.cell 2
    have r3 : wz.cell? ⟨x, 3, none⟩ = some (.int .i64 p) := Kz.cell 3
    have r4 : wz.cell? ⟨x, 4, none⟩ = some (.int .i64 fl) := Kz.cell 4
    have r5 : wz.cell? ⟨x, 5, none⟩ = some (.string mark) := Kz.cell 5
    have r6 : wz.cell? ⟨x, 6, none⟩ = some (.slice am nl kl) := Kz.cell 6
    have r7 : wz.cell? ⟨x, 7, none⟩ = some (.slice ab nb kb) := Kz.cell 7
    have r8 : wz.cell? ⟨x, 8, none⟩ = some (.slice ac nc kc) := Kz.cell 8
    have r9 : wz.cell? ⟨x, 9, none⟩ = some (.slice ag ng kg) := Kz.cell 9
    have r10 : wz.cell? ⟨x, 10, none⟩ = some (.slice av nv kv) := Kz.cell 10
    have r11 : wz.cell? ⟨x, 11, none⟩ = some (.int .i64 d0) := Kz.cell 11
    have r12 : wz.cell? ⟨x, 12, none⟩ = some (.int .i64 d1) := Kz.cell 12
    have r13 : wz.cell? ⟨x, 13, none⟩ = some (.int .i64 rc) := Kz.cell 13
    have r14 : wz.cell? ⟨x, 14, none⟩ = some (.int .i64 lg) := Kz.cell 14
    refine bodyPost_ret (v := .tuple #[.agg #[.int .i64 k, .int .i64 f, .int .i64 s, .int .i64 p, .int .i64 fl, .string mark, .slice am nl kl, .slice ab nb kb, .slice ac nc kc, .slice ag ng kg, .slice av nv kv, .int .i64 d0, .int .i64 d1, .int .i64 rc, .int .i64 lg], .int .i64 0]) (by simp [results, Tryz.results6, go_sem, r0, r1, r2, r3, r4, r5, r6, r7, r8, r9, r10, r11, r12, r13, r14]) rfl ?_
    have htz : Tri b v x wd wz := by rw [hwz.out]; exact ⟨by simp [World.setRow], fun i _ _ _ h3 => setRow_other _ _ _ _ h3⟩
    exact ⟨k, f, s, p, fl, d0, d1, rc, lg, mark, am, ab, ac, ag, av, nl, kl, nb, kb, nc, kc, ng, kg, nv, kv, live, bs, cl, tags, view, 0, rfl, LIE.out _ (HTD.out.trans htz), FRS.out, .inl ⟨rfl, HSAID.out⟩, HBz⟩
end Go.Proofs.YtfpjdmplepepjaaGreat

/-! WireEqD: slices.Equal over rows of messages. -/
namespace Go.Proofs.YtfpjdmplepepjaaGreat
open Go.RowKit

theorem guardM (op : BinOp) (a b : Operand) (xs ys : Array Value) (w : World) : Sem.run Tryz.prog (eqGuard op 84 a b (.agg xs) (.agg ys)) w = .ok () w := run_eqGuard_agg w op _ a b xs ys (by kernel_rfl)
set_option maxRecDepth 100000 in
set_option maxHeartbeats 4000000 in
theorem equalM (x1 x2 y1 y2 : Int) (x3 x4 y3 y4 : ByteArray) (x5 y5 : Int) (w : World) : (Op.equalIn 10000 84 (.agg #[.int .i64 x1, .int .i64 x2, .string x3, .string x4, .int .i64 x5]) (.agg #[.int .i64 y1, .int .i64 y2, .string y3, .string y4, .int .i64 y5])).run Tryz.prog w = .ok (decide (x1 = y1) && (decide (x2 = y2) && (decide (x3 = y3) && (decide (x4 = y4) && decide (x5 = y5))))) w := by
  have tl : ∀ a b : ByteArray, (a.toList = b.toList) = (a = b) := fun a b => by
    rw [toList_bl, toList_bl]
    exact propext ⟨bl_inj, fun h => by rw [h]⟩
  rw [run_equalIn_agg w 9999 _ _ _ (by kernel_rfl) (by kernel_rfl)]
  by_cases h1 : x1 = y1 <;> by_cases h2 : x2 = y2 <;> by_cases h3 : x3 = y3 <;> by_cases h4 : x4 = y4 <;> by_cases h5 : x5 = y5 <;>
    simp [go_sem, Tryz.underlying84, Tryz.underlying33, Tryz.underlying9, Tryz.underlying3, h1, h2, h3, h4, h5, tl]
theorem msg_conj (x1 x2 y1 y2 : Int) (x3 x4 y3 y4 : ByteArray) (x5 y5 : Int) (B : Bool) (hB : Hid (B = true ↔ Msg5.mk x1 x2 x3 x4 x5 = Msg5.mk y1 y2 y3 y4 y5)) : (decide (x1 = y1) && (decide (x2 = y2) && (decide (x3 = y3) && (decide (x4 = y4) && decide (x5 = y5))))) = B := by
  rw [Bool.eq_iff_iff, hB.out, Msg5.mk.injEq]
  simp only [Bool.and_eq_true, decide_eq_true_iff]
theorem neqM (x1 x2 y1 y2 : Int) (x3 x4 y3 y4 : ByteArray) (x5 y5 : Int) (B : Bool) (hB : Hid (B = true ↔ Msg5.mk x1 x2 x3 x4 x5 = Msg5.mk y1 y2 y3 y4 y5)) (w : World) : Sem.run Tryz.prog (binOp .neq 84 (.agg #[.int .i64 x1, .int .i64 x2, .string x3, .string x4, .int .i64 x5]) (.agg #[.int .i64 y1, .int .i64 y2, .string y3, .string y4, .int .i64 y5])) w = .ok (.bool (!B)) w := by
  rw [run_neq_struct, equalM, msg_conj x1 x2 y1 y2 x3 x4 y3 y4 x5 y5 B hB]; rfl

set_option maxRecDepth 100000 in
set_option maxHeartbeats 1000000 in
theorem eqmsgs_any (a1 a2 : Option Addr) (c1 c2 n m : Nat) (xs ys : List Msg5) (hx : Hid (xs.length = n)) (hy : Hid (ys.length = m)) (w : World) (hlen : n ≤ 1000000000) (h1 : SlE eMsg 5 w a1 xs) (h2 : SlE eMsg 5 w a2 ys) (r : Bool) (hr : Hid (r = true ↔ xs = ys)) :
    Calls Tryz.prog 72 #[.slice a1 n c1, .slice a2 m c2] w fun e w' => e = .returned (.bool r) ∧ ∃ q, w' = w.drewN q := by
  by_cases hmn : n = m
  rotate_left
  · have hne : r = false := by
      cases r
      · rfl
      · exact absurd (by rw [← hx.out, ← hy.out, hr.out.1 rfl]) hmn
    subst hne
    go_enter Tryz.func72, Tryz.ntmps72
    go_wp2_with fail
    go_ret
    exact ⟨rfl, 0, rfl⟩
  subst hmn
  have H1 := Lib.hid h1
  have H2 := Lib.hid h2
  clear h1 h2
  go_enter Tryz.func72, Tryz.ntmps72
  go_wp2_with fail
  go_loopw [13] (fun i wr => ∃ (k q : Nat), k ≤ n ∧ i = .int .i64 (k : Int) ∧ wr = w.drewN q ∧ Hid (xs.take k = ys.take k)) (fun i _ => n - (intOf i).toNat)
  case atStart => exact ⟨0, 0, by omega, rfl, rfl, Lib.hid (by simp)⟩
  case round =>
    obtain ⟨k, q, hk, rfl, rfl, ht⟩ := hrel
    by_cases hlt : k < n
    · obtain ⟨b1, o1, ⟨x1, x2, x3, x4, x5⟩, rfl, hb1, e1, g1⟩ := H1.out.get k (by rw [hx.out]; exact hlt)
      obtain ⟨b2, o2, ⟨y1, y2, y3, y4, y5⟩, rfl, hb2, e2, g2⟩ := H2.out.get k (by rw [hy.out]; exact hlt)
      have dx0 : w.cell? ⟨b1, o1 + k * 5, none⟩ = some (.int .i64 x1) := g1 0 _ rfl
      have dx1 : w.cell? ⟨b1, o1 + k * 5 + 1, none⟩ = some (.int .i64 x2) := g1 1 _ rfl
      have dx2 : w.cell? ⟨b1, o1 + k * 5 + 2, none⟩ = some (.string x3) := g1 2 _ rfl
      have dx3 : w.cell? ⟨b1, o1 + k * 5 + 3, none⟩ = some (.string x4) := g1 3 _ rfl
      have dx4 : w.cell? ⟨b1, o1 + k * 5 + 4, none⟩ = some (.int .i64 x5) := g1 4 _ rfl
      have dy0 : w.cell? ⟨b2, o2 + k * 5, none⟩ = some (.int .i64 y1) := g2 0 _ rfl
      have dy1 : w.cell? ⟨b2, o2 + k * 5 + 1, none⟩ = some (.int .i64 y2) := g2 1 _ rfl
      have dy2 : w.cell? ⟨b2, o2 + k * 5 + 2, none⟩ = some (.string y3) := g2 2 _ rfl
      have dy3 : w.cell? ⟨b2, o2 + k * 5 + 3, none⟩ = some (.string y4) := g2 3 _ rfl
      have dy4 : w.cell? ⟨b2, o2 + k * 5 + 4, none⟩ = some (.int .i64 y5) := g2 4 _ rfl
      obtain ⟨B, hB, hBf, hBt⟩ : ∃ B : Bool, Hid (B = true ↔ Msg5.mk x1 x2 x3 x4 x5 = Msg5.mk y1 y2 y3 y4 y5) ∧ Hid (B = false → Msg5.mk x1 x2 x3 x4 x5 ≠ Msg5.mk y1 y2 y3 y4 y5) ∧ Hid (B = true → Msg5.mk x1 x2 x3 x4 x5 = Msg5.mk y1 y2 y3 y4 y5) := by
        by_cases h : Msg5.mk x1 x2 x3 x4 x5 = Msg5.mk y1 y2 y3 y4 y5
        · exact ⟨true, show true = true ↔ _ from ⟨fun _ => h, fun _ => rfl⟩, (fun e => by cases e), fun _ => h⟩
        · exact ⟨false, show false = true ↔ _ from ⟨fun e => (by cases e), fun g => absurd g h⟩, fun _ => h, fun e => by cases e⟩
      have heq := fun w => neqM x1 x2 y1 y2 x3 x4 y3 y4 x5 y5 B hB w
      have hgd := fun (a b : Operand) (w : World) => guardM .neq a b #[.int .i64 x1, .int .i64 x2, .string x3, .string x4, .int .i64 x5] #[.int .i64 y1, .int .i64 y2, .string y3, .string y4, .int .i64 y5] w
      clear hB
      clear g1 g2
      cases B
      · obtain rfl : r = false := by
          cases r
          · rfl
          · have e := hr.out.1 rfl
            have h3 := e1.out
            rw [e, e2.out] at h3
            exact absurd (Option.some.inj h3).symm (hBf.out rfl)
        go_wp2_with fail
        go_quiet (fail)
        go_wp2_with fail
        go_ret
        exact ⟨rfl, q + nq, by rw [World.drewN_drewN]⟩
      · have HT : Hid (xs.take (k + 1) = ys.take (k + 1)) := by
          show _ = _
          have e : Msg5.mk x1 x2 x3 x4 x5 = Msg5.mk y1 y2 y3 y4 y5 := hBt.out rfl
          rw [take_snocE e1.out, take_snocE e2.out, ht.out, e]
        clear ht
        go_wp2_with fail
        go_quiet (fail)
        go_wp2_with fail
        go_roundw
        case rel => exact ⟨k + 1, q + nq, by omega, by go_num, rfl, HT⟩
        case measure => simp [intOf]; omega
    · obtain rfl : k = n := by omega
      obtain rfl : r = true := by
        refine hr.out.2 ?_
        have e := ht.out
        rw [List.take_of_length_le (by rw [hx.out]; exact Nat.le_refl _), List.take_of_length_le (by rw [hy.out]; exact Nat.le_refl _)] at e
        exact e
      go_wp2_with fail
      go_ret
      exact ⟨rfl, q, rfl⟩
end Go.Proofs.YtfpjdmplepepjaaGreat

/-! WNine: Wire's nine numbers, as they are told; two of them compared. -/
namespace Go.Proofs.YtfpjdmplepepjaaGreat
open Go.RowKit

theorem infoOne : (Tryz.prog.info? 3).map (·.size) = some 1 := by kernel_rfl
set_option maxRecDepth 100000 in
set_option maxHeartbeats 4000000 in
theorem nineEq (a0 a1 a2 a3 a4 a5 a6 a7 a8 b0 b1 b2 b3 b4 b5 b6 b7 b8 : Int) (w : World) :
    (Op.equalIn 10000 48 (.agg #[.int .i64 a0, .int .i64 a1, .int .i64 a2, .int .i64 a3, .int .i64 a4, .int .i64 a5, .int .i64 a6, .int .i64 a7, .int .i64 a8]) (.agg #[.int .i64 b0, .int .i64 b1, .int .i64 b2, .int .i64 b3, .int .i64 b4, .int .i64 b5, .int .i64 b6, .int .i64 b7, .int .i64 b8])).run Tryz.prog w = .ok (decide (a0 = b0 ∧ a1 = b1 ∧ a2 = b2 ∧ a3 = b3 ∧ a4 = b4 ∧ a5 = b5 ∧ a6 = b6 ∧ a7 = b7 ∧ a8 = b8)) w := by
  obtain ⟨i0, hi, _⟩ := Option.map_eq_some_iff.1 infoOne
  rw [run_equalIn_array w 9999 _ _ Tryz.underlying48 hi, cellsI, show List.range 9 = [0, 1, 2, 3, 4, 5, 6, 7, 8] from rfl]
  have st : ∀ (j : Nat) (is : List Nat) (xs ys : Array Value) (a b : Int), xs[j]? = some (.int .i64 a) → ys[j]? = some (.int .i64 b) → (Op.eqItems 9999 3 1 xs ys (j :: is)).run Tryz.prog w = if a = b then (Op.eqItems 9999 3 1 xs ys is).run Tryz.prog w else .ok false w := by
    intro j is xs ys a b h1 h2
    by_cases h : a = b
    · simp [go_sem, Op.eqItems, Tryz.underlying3, h1, h2, h]
    · simp [go_sem, Op.eqItems, Tryz.underlying3, h1, h2, h]
  rw [st 0 _ _ _ a0 b0 rfl rfl]
  rw [st 1 _ _ _ a1 b1 rfl rfl]
  rw [st 2 _ _ _ a2 b2 rfl rfl]
  rw [st 3 _ _ _ a3 b3 rfl rfl]
  rw [st 4 _ _ _ a4 b4 rfl rfl]
  rw [st 5 _ _ _ a5 b5 rfl rfl]
  rw [st 6 _ _ _ a6 b6 rfl rfl]
  rw [st 7 _ _ _ a7 b7 rfl rfl]
  rw [st 8 _ _ _ a8 b8 rfl rfl]
  have e0 : (Op.eqItems 9999 3 1 #[.int .i64 a0, .int .i64 a1, .int .i64 a2, .int .i64 a3, .int .i64 a4, .int .i64 a5, .int .i64 a6, .int .i64 a7, .int .i64 a8] #[.int .i64 b0, .int .i64 b1, .int .i64 b2, .int .i64 b3, .int .i64 b4, .int .i64 b5, .int .i64 b6, .int .i64 b7, .int .i64 b8] []).run Tryz.prog w = .ok true w := by simp [Op.eqItems]
  have it : ∀ (p q : Prop) [Decidable p] [Decidable q], (if p then (.ok (decide q) w : Result Bool) else .ok false w) = .ok (decide (p ∧ q)) w := by
    intro p q _ _
    by_cases h : p <;> simp [h]
  rw [e0]
  rw [show (.ok true w : Result Bool) = .ok (decide True) w from rfl]
  simp only [it, and_true]
theorem eqlN {a0 a1 a2 a3 a4 a5 a6 a7 a8 b0 b1 b2 b3 b4 b5 b6 b7 b8 : Int} {B : Bool} (hB : Hid (B = true ↔ a0 = b0 ∧ a1 = b1 ∧ a2 = b2 ∧ a3 = b3 ∧ a4 = b4 ∧ a5 = b5 ∧ a6 = b6 ∧ a7 = b7 ∧ a8 = b8)) (w : World) :
    Sem.run Tryz.prog (binOp .eql 48 (.agg #[.int .i64 a0, .int .i64 a1, .int .i64 a2, .int .i64 a3, .int .i64 a4, .int .i64 a5, .int .i64 a6, .int .i64 a7, .int .i64 a8]) (.agg #[.int .i64 b0, .int .i64 b1, .int .i64 b2, .int .i64 b3, .int .i64 b4, .int .i64 b5, .int .i64 b6, .int .i64 b7, .int .i64 b8])) w = .ok (.bool B) w := by
  have e : decide (a0 = b0 ∧ a1 = b1 ∧ a2 = b2 ∧ a3 = b3 ∧ a4 = b4 ∧ a5 = b5 ∧ a6 = b6 ∧ a7 = b7 ∧ a8 = b8) = B := by rw [Bool.eq_iff_iff, hB.out, decide_eq_true_iff]
  rw [run_eql_struct, nineEq, e]; rfl
theorem guardN (op : BinOp) (a b : Operand) (xs ys : Array Value) (w : World) : Sem.run Tryz.prog (eqGuard op 48 a b (.agg xs) (.agg ys)) w = .ok () w := run_eqGuard_agg w op _ a b xs ys (by kernel_rfl)

set_option maxRecDepth 100000 in
set_option maxHeartbeats 8000000 in
theorem nums_is (k f s p fl d0 d1 rc lg : Int) (mark : ByteArray) (am ab ac ag av : Option Addr) (nl kl nb kb nc kc ng kg nv kv : Nat) (w : World) :
    Calls Tryz.prog 29 #[.agg #[.int .i64 k, .int .i64 f, .int .i64 s, .int .i64 p, .int .i64 fl, .string mark, .slice am nl kl, .slice ab nb kb, .slice ac nc kc, .slice ag ng kg, .slice av nv kv, .int .i64 d0, .int .i64 d1, .int .i64 rc, .int .i64 lg]] w fun e w' => e = .returned (.agg #[.int .i64 k, .int .i64 f, .int .i64 s, .int .i64 p, .int .i64 fl, .int .i64 d0, .int .i64 d1, .int .i64 rc, .int .i64 lg]) ∧ Below w.heap.size w w' := by
  go_enter Tryz.func29, Tryz.ntmps29
  go_wp2_with fail
  refine bodyPost_ret (results_cell_row rfl _ _ (w.heap.size + 1) 48 #[.int .i64 k, .int .i64 f, .int .i64 s, .int .i64 p, .int .i64 fl, .int .i64 d0, .int .i64 d1, .int .i64 rc, .int .i64 lg] (0, 0) _ rfl (blk_at (by simp)) Tryz.underlying48 rfl infoNine) rfl ?_
  exact ⟨rfl, bNew (bOld _) _⟩
end Go.Proofs.YtfpjdmplepepjaaGreat

/-! WireEqB: slices.Equal over rows of peers. -/
namespace Go.Proofs.YtfpjdmplepepjaaGreat
open Go.RowKit

theorem guardT (op : BinOp) (a b : Operand) (xs ys : Array Value) (w : World) : Sem.run Tryz.prog (eqGuard op 77 a b (.agg xs) (.agg ys)) w = .ok () w := run_eqGuard_agg w op _ a b xs ys (by kernel_rfl)
theorem equalT (x1 x2 x3 y1 y2 y3 : Int) (w : World) : (Op.equalIn 10000 77 (.agg #[.int .i64 x1, .int .i64 x2, .int .i64 x3]) (.agg #[.int .i64 y1, .int .i64 y2, .int .i64 y3])).run Tryz.prog w = .ok (decide ((x1, x2, x3) = (y1, y2, y3))) w := by
  rw [run_equalIn_agg w 9999 _ _ _ (by kernel_rfl) (by kernel_rfl)]
  by_cases h1 : x1 = y1
  · by_cases h2 : x2 = y2
    · by_cases h3 : x3 = y3
      · simp [go_sem, Tryz.underlying77, Tryz.underlying3, h1, h2, h3]
        done
      · simp [go_sem, Tryz.underlying77, Tryz.underlying3, h1, h2, h3]
        done
    · simp [go_sem, Tryz.underlying77, Tryz.underlying3, h1, h2]
      done
  · simp [go_sem, Tryz.underlying77, Tryz.underlying3, h1]
    done
theorem eqlT (x1 x2 x3 y1 y2 y3 : Int) (b : Bool) (hb : decide ((x1, x2, x3) = (y1, y2, y3)) = b) (w : World) : Sem.run Tryz.prog (binOp .eql 77 (.agg #[.int .i64 x1, .int .i64 x2, .int .i64 x3]) (.agg #[.int .i64 y1, .int .i64 y2, .int .i64 y3])) w = .ok (.bool b) w := by
  rw [run_eql_struct, equalT, hb]; rfl
theorem neqT (x1 x2 x3 y1 y2 y3 : Int) (b : Bool) (hb : decide ((x1, x2, x3) = (y1, y2, y3)) = b) (w : World) : Sem.run Tryz.prog (binOp .neq 77 (.agg #[.int .i64 x1, .int .i64 x2, .int .i64 x3]) (.agg #[.int .i64 y1, .int .i64 y2, .int .i64 y3])) w = .ok (.bool (!b)) w := by
  rw [run_neq_struct, equalT, hb]; rfl
set_option maxRecDepth 100000 in
set_option maxHeartbeats 1000000 in
theorem eqpeers_any (a1 a2 : Option Addr) (c1 c2 n m : Nat) (xs ys : List Peer3) (hx : Hid (xs.length = n)) (hy : Hid (ys.length = m)) (w : World) (hlen : n ≤ 1000000000) (h1 : SlE ePeer 3 w a1 xs) (h2 : SlE ePeer 3 w a2 ys) (r : Bool) (hr : Hid (r = decide (xs = ys))) :
    Calls Tryz.prog 74 #[.slice a1 n c1, .slice a2 m c2] w fun e w' => e = .returned (.bool r) ∧ ∃ q, w' = w.drewN q := by
  by_cases hmn : n = m
  rotate_left
  · have hne : r = false := by rw [hr.out]; exact decide_eq_false (by intro e; apply hmn; rw [← hx.out, ← hy.out, e])
    subst hne
    go_enter Tryz.func74, Tryz.ntmps74
    go_wp2_with fail
    go_ret
    exact ⟨rfl, 0, rfl⟩
  subst hmn
  have H1 := Lib.hid h1
  have H2 := Lib.hid h2
  clear h1 h2
  go_enter Tryz.func74, Tryz.ntmps74
  go_wp2_with fail
  go_loopw [13] (fun i wr => ∃ (k q : Nat), k ≤ n ∧ i = .int .i64 (k : Int) ∧ wr = w.drewN q ∧ Hid (xs.take k = ys.take k)) (fun i _ => n - (intOf i).toNat)
  case atStart => exact ⟨0, 0, by omega, rfl, rfl, Lib.hid (by simp)⟩
  case round =>
    obtain ⟨k, q, hk, rfl, rfl, ht⟩ := hrel
    by_cases hlt : k < n
    · obtain ⟨b1, o1, ⟨x1, x2, x3⟩, rfl, hb1, e1, g1⟩ := H1.out.get k (by rw [hx.out]; exact hlt)
      obtain ⟨b2, o2, ⟨y1, y2, y3⟩, rfl, hb2, e2, g2⟩ := H2.out.get k (by rw [hy.out]; exact hlt)
      have d1 : w.cell? ⟨b1, o1 + k * 3, none⟩ = some (.int .i64 x1) := g1 0 _ rfl
      have d2 : w.cell? ⟨b1, o1 + k * 3 + 1, none⟩ = some (.int .i64 x2) := g1 1 _ rfl
      have d5 : w.cell? ⟨b1, o1 + k * 3 + 2, none⟩ = some (.int .i64 x3) := g1 2 _ rfl
      have d6 : w.cell? ⟨b2, o2 + k * 3 + 2, none⟩ = some (.int .i64 y3) := g2 2 _ rfl
      have d3 : w.cell? ⟨b2, o2 + k * 3, none⟩ = some (.int .i64 y1) := g2 0 _ rfl
      have d4 : w.cell? ⟨b2, o2 + k * 3 + 1, none⟩ = some (.int .i64 y2) := g2 1 _ rfl
      obtain ⟨B, hBB⟩ := nm (decide ((x1, x2, x3) = (y1, y2, y3)))
      have heq := fun w => neqT x1 x2 x3 y1 y2 y3 B hBB.out.symm w
      have hgd := fun (a b : Operand) (w : World) => guardT .neq a b #[.int .i64 x1, .int .i64 x2, .int .i64 x3] #[.int .i64 y1, .int .i64 y2, .int .i64 y3] w
      clear g1 g2
      cases B
      · have HE : Hid (r = false) := by
          show _ = _
          rw [hr.out]
          refine decide_eq_false fun e => ?_
          have h3 := e1.out
          rw [e, e2.out] at h3
          have h4 := Option.some.inj h3
          have := hBB.out
          rw [h4] at this
          simp at this
        go_wp2_with fail
        go_quiet (fail)
        go_wp2_with fail
        go_ret
        rw [HE.out]
        exact ⟨rfl, q + nq, by rw [World.drewN_drewN]⟩
      · have HT : Hid (xs.take (k + 1) = ys.take (k + 1)) := by
          show _ = _
          have e : (x1, x2, x3) = (y1, y2, y3) := by simpa using hBB.out.symm
          rw [take_snocE e1.out, take_snocE e2.out, ht.out, e]
        clear ht
        go_wp2_with fail
        go_quiet (fail)
        go_wp2_with fail
        go_roundw
        case rel => exact ⟨k + 1, q + nq, by omega, by go_num, rfl, HT⟩
        case measure => simp [intOf]; omega
    · obtain rfl : k = n := by omega
      have HE : Hid (r = true) := by
        show _ = _
        rw [hr.out]
        refine decide_eq_true ?_
        have e := ht.out
        rw [List.take_of_length_le (by rw [hx.out]; exact Nat.le_refl _), List.take_of_length_le (by rw [hy.out]; exact Nat.le_refl _)] at e
        exact e
      go_wp2_with fail
      go_ret
      rw [HE.out]
      exact ⟨rfl, q, rfl⟩
end Go.Proofs.YtfpjdmplepepjaaGreat

/-! WSame: Contexts and bags: are two the same? -/
namespace Go.Proofs.YtfpjdmplepepjaaGreat
open Go.RowKit

theorem SlP.rows {w : World} {ao : Option Addr} {ps : List Dot2} (h : SlP w ao ps) : SlE eDot 2 w ao ps := by
  intro k hk
  obtain ⟨b, off, h1, h2, h3⟩ := h k hk
  refine ⟨b, off, h1, h2, fun j p hj c u hu => ?_⟩
  obtain ⟨g0, g1⟩ := h3 j p hj
  match c, hu with
  | 0, hu => obtain rfl := Option.some.inj hu; exact g0
  | 1, hu => obtain rfl := Option.some.inj hu; exact g1
  | c + 2, hu => simp [eDot] at hu

set_option maxRecDepth 100000 in
set_option maxHeartbeats 4000000 in
theorem ctxsame_any (a1 a2 b1 b2 : Option Addr) (n1 k1 n2 k2 m1 j1 m2 j2 : Nat) (bs cl bs' cl' : List Dot2) (h1 : Hid (bs.length = n1)) (h2 : Hid (cl.length = n2)) (h3 : Hid (bs'.length = m1)) (h4 : Hid (cl'.length = m2)) (hm : n1 ≤ 1000000) (hm2 : n2 ≤ 1000000) (r : Bool) (hr : Hid (r = true ↔ bs = bs' ∧ cl = cl')) (w : World) (s1 : SlP w a1 bs) (s2 : SlP w a2 cl) (s3 : SlP w b1 bs') (s4 : SlP w b2 cl') :
    Calls Tryz.prog 71 #[.agg #[.slice a1 n1 k1, .slice a2 n2 k2], .agg #[.slice b1 m1 j1, .slice b2 m2 j2]] w fun e w' => e = .returned (.bool r) ∧ Below w.heap.size w w' := by
  obtain ⟨wa, hwa⟩ := nm (w.alloc (.cells #[.slice a1 n1 k1, .slice a2 n2 k2] 27))
  obtain ⟨w0, hw0⟩ := nm (wa.alloc (.cells #[.slice b1 m1 j1, .slice b2 m2 j2] 27))
  obtain ⟨x, hx⟩ := nm w.heap.size
  obtain ⟨y, hy⟩ := nm wa.heap.size
  have Kx : Hid (Blk w0 x #[.slice a1 n1 k1, .slice a2 n2 k2] 27) := by show Blk _ _ _ _; rw [hw0.out]; exact (blkN hwa.out hx.out).alloc _
  have Ky : Hid (Blk w0 y #[.slice b1 m1 j1, .slice b2 m2 j2] 27) := blkN hw0.out hy.out
  have HB0 : Hid (Below w.heap.size w w0) := by rw [hw0.out, hwa.out]; exact bNew (bOld _) _
  have HS1 : Hid (SlE eDot 2 w0 a1 bs) := (s1.below HB0.out).rows
  have HS2 : Hid (SlE eDot 2 w0 a2 cl) := (s2.below HB0.out).rows
  have HS3 : Hid (SlE eDot 2 w0 b1 bs') := (s3.below HB0.out).rows
  have HS4 : Hid (SlE eDot 2 w0 b2 cl') := (s4.below HB0.out).rows
  have HSZ : Hid (x + 1 = y) := by show _ = _; rw [hy.out, hwa.out, hx.out]; simp
  clear s1 s2 s3 s4
  obtain ⟨A, hA⟩ := nm (decide (bs = bs'))
  obtain ⟨B, hB⟩ := nm (decide (cl = cl'))
  have hR : Hid (r = (A && B)) := by
    show _ = _
    rw [Bool.eq_iff_iff, hr.out, hA.out, hB.out, Bool.and_eq_true, decide_eq_true_iff, decide_eq_true_iff]
  go_enter Tryz.func71, Tryz.ntmps71
  go_upto_region 1 with fail
  rw [← hwa.out, ← hw0.out, ← hx.out]
  rw [HSZ.out]
  have c0 : w0.cell? ⟨x, 0, none⟩ = some (.slice a1 n1 k1) := Kx.out.cell 0
  have c1 : w0.cell? ⟨x, 1, none⟩ = some (.slice a2 n2 k2) := Kx.out.cell 1
  have d0 : w0.cell? ⟨y, 0, none⟩ = some (.slice b1 m1 j1) := Ky.out.cell 0
  have d1 : w0.cell? ⟨y, 1, none⟩ = some (.slice b2 m2 j2) := Ky.out.cell 1
  go_wp2_with fail
  refine (eqdots_any a1 b1 k1 j1 n1 m1 bs bs' h1 h3 _ (by omega) HS1.out HS3.out A hA).mono ?_; rintro e w1 ⟨rfl, q, rfl⟩
  cases A
  · obtain rfl : r = false := by rw [hR.out]; rfl
    go_wp2_with fail
    go_ret
    exact ⟨rfl, bDrewN HB0.out _⟩
  · obtain rfl : r = B := by rw [hR.out]; simp
    go_wp2_with fail
    refine (eqdots_any a2 b2 k2 j2 n2 m2 cl cl' h2 h4 _ (by omega) (HS2.out.below (bDrewN (Below.refl _ _) _)) (HS4.out.below (bDrewN (Below.refl _ _) _)) r hB).mono ?_; rintro e w1 ⟨rfl, q', rfl⟩
    go_wp2_with fail
    go_ret
    exact ⟨rfl, bDrewN HB0.out _⟩

set_option maxRecDepth 100000 in
set_option maxHeartbeats 4000000 in
theorem bagsame_any (am ab ac am' ab' ac' : Option Addr) (nl kl nb kb nc kc nl' kl' nb' kb' nc' kc' : Nat) (live live' : List Msg5) (bs cl bs' cl' : List Dot2) (h0 : Hid (live.length = nl)) (h1 : Hid (bs.length = nb)) (h2 : Hid (cl.length = nc)) (h0' : Hid (live'.length = nl')) (h3 : Hid (bs'.length = nb')) (h4 : Hid (cl'.length = nc')) (hm0 : nl ≤ 1000000) (hm : nb ≤ 1000000) (hm2 : nc ≤ 1000000) (r : Bool) (hr : Hid (r = true ↔ live = live' ∧ bs = bs' ∧ cl = cl')) (w : World) (s0 : SlE eMsg 5 w am live) (s1 : SlP w ab bs) (s2 : SlP w ac cl) (s0' : SlE eMsg 5 w am' live') (s3 : SlP w ab' bs') (s4 : SlP w ac' cl') :
    Calls Tryz.prog 40 #[.agg #[.slice am nl kl, .slice ab nb kb, .slice ac nc kc], .agg #[.slice am' nl' kl', .slice ab' nb' kb', .slice ac' nc' kc']] w fun e w' => e = .returned (.bool r) ∧ Below w.heap.size w w' := by
  obtain ⟨wa, hwa⟩ := nm (w.alloc (.cells #[.slice am nl kl, .slice ab nb kb, .slice ac nc kc] 29))
  obtain ⟨w0, hw0⟩ := nm (wa.alloc (.cells #[.slice am' nl' kl', .slice ab' nb' kb', .slice ac' nc' kc'] 29))
  obtain ⟨x, hx⟩ := nm w.heap.size
  obtain ⟨y, hy⟩ := nm wa.heap.size
  have Kx : Hid (Blk w0 x #[.slice am nl kl, .slice ab nb kb, .slice ac nc kc] 29) := by show Blk _ _ _ _; rw [hw0.out]; exact (blkN hwa.out hx.out).alloc _
  have Ky : Hid (Blk w0 y #[.slice am' nl' kl', .slice ab' nb' kb', .slice ac' nc' kc'] 29) := blkN hw0.out hy.out
  have HB0 : Hid (Below w.heap.size w w0) := by rw [hw0.out, hwa.out]; exact bNew (bOld _) _
  have HS0 : Hid (SlE eMsg 5 w0 am live) := s0.below HB0.out
  have HS0' : Hid (SlE eMsg 5 w0 am' live') := s0'.below HB0.out
  have HS1 : Hid (SlP w0 ab bs) := s1.below HB0.out
  have HS2 : Hid (SlP w0 ac cl) := s2.below HB0.out
  have HS3 : Hid (SlP w0 ab' bs') := s3.below HB0.out
  have HS4 : Hid (SlP w0 ac' cl') := s4.below HB0.out
  have HSZ : Hid (x + 1 = y) := by show _ = _; rw [hy.out, hwa.out, hx.out]; simp
  clear s1 s2 s3 s4 s0 s0'
  obtain ⟨A, hA, hAf, hAt⟩ := boolOf (bs = bs' ∧ cl = cl')
  obtain ⟨B, hB, hBf, hBt⟩ := boolOf (live = live')
  have hR : Hid (r = (A && B)) := by
    show _ = _
    rw [Bool.eq_iff_iff, hr.out, Bool.and_eq_true, hA.out, hB.out]
    exact ⟨fun h => ⟨h.2, h.1⟩, fun h => ⟨h.2, h.1⟩⟩
  go_enter Tryz.func40, Tryz.ntmps40
  go_upto_region 1 with fail
  rw [← hwa.out, ← hw0.out, ← hx.out]
  rw [HSZ.out]
  have c0 : w0.cell? ⟨x, 0, none⟩ = some (.slice am nl kl) := Kx.out.cell 0
  have d0 : w0.cell? ⟨y, 0, none⟩ = some (.slice am' nl' kl') := Ky.out.cell 0
  have c1 : w0.cell? ⟨x, 1, none⟩ = some (.slice ab nb kb) := Kx.out.cell 1
  have d1 : w0.cell? ⟨y, 1, none⟩ = some (.slice ab' nb' kb') := Ky.out.cell 1
  have c2 : w0.cell? ⟨x, 2, none⟩ = some (.slice ac nc kc) := Kx.out.cell 2
  have d2 : w0.cell? ⟨y, 2, none⟩ = some (.slice ac' nc' kc') := Ky.out.cell 2
  go_wp2_with fail
  refine (ctxsame_any ab ac ab' ac' nb kb nc kc nb' kb' nc' kc' bs cl bs' cl' h1 h2 h3 h4 hm hm2 A hA _ HS1.out HS2.out HS3.out HS4.out).mono ?_; rintro e w1 ⟨rfl, hB1⟩
  replace Kx := Lib.hid (Kx.out.below hB1 Kx.out.lt)
  replace Ky := Lib.hid (Ky.out.below hB1 Ky.out.lt)
  replace HB0 := Lib.hid (bNext HB0.out hB1)
  replace HS0 := Lib.hid (HS0.out.below hB1)
  replace HS0' := Lib.hid (HS0'.out.below hB1)
  clear hB1 c0 d0 c1 d1 c2 d2
  have c0 : w1.cell? ⟨x, 0, none⟩ = some (.slice am nl kl) := Kx.out.cell 0
  have d0 : w1.cell? ⟨y, 0, none⟩ = some (.slice am' nl' kl') := Ky.out.cell 0
  cases A
  · obtain rfl : r = false := by rw [hR.out]; rfl
    go_wp2_with fail
    go_ret
    exact ⟨rfl, HB0.out⟩
  · obtain rfl : r = B := by rw [hR.out]; simp
    go_wp2_with fail
    refine (eqmsgs_any am am' kl kl' nl nl' live live' h0 h0' _ (by omega) HS0.out HS0'.out r hB).mono ?_; rintro e w1 ⟨rfl, q', rfl⟩
    go_wp2_with fail
    go_ret
    exact ⟨rfl, bDrewN HB0.out _⟩

set_option maxRecDepth 100000 in
set_option maxHeartbeats 4000000 in
theorem sametags_any (a1 a2 : Option Addr) (c1 c2 n m : Nat) (xs ys : List Tag2) (hx : Hid (xs.length = n)) (hy : Hid (ys.length = m)) (w : World) (hlen : n ≤ 1000000) (h1 : SlE eTag 2 w a1 xs) (h2 : SlE eTag 2 w a2 ys) (r : Bool) (hr : Hid (r = decide (xs = ys))) :
    Calls Tryz.prog 41 #[.slice a1 n c1, .slice a2 m c2] w fun e w' => e = .returned (.bool r) ∧ ∃ q, w' = w.drewN q := by
  have H1 := Lib.hid h1
  have H2 := Lib.hid h2
  clear h1 h2
  go_enter Tryz.func41, Tryz.ntmps41
  go_wp2_with fail
  refine (eqtags_any a1 a2 c1 c2 n m xs ys hx hy _ (by omega) H1.out H2.out r hr).mono ?_; rintro e w1 ⟨rfl, q, rfl⟩
  go_wp2_with fail
  go_ret
  exact ⟨rfl, q, rfl⟩

set_option maxRecDepth 100000 in
set_option maxHeartbeats 4000000 in
theorem sameview_any (a1 a2 : Option Addr) (c1 c2 n m : Nat) (xs ys : List Peer3) (hx : Hid (xs.length = n)) (hy : Hid (ys.length = m)) (w : World) (hlen : n ≤ 1000000) (h1 : SlE ePeer 3 w a1 xs) (h2 : SlE ePeer 3 w a2 ys) (r : Bool) (hr : Hid (r = decide (xs = ys))) :
    Calls Tryz.prog 42 #[.slice a1 n c1, .slice a2 m c2] w fun e w' => e = .returned (.bool r) ∧ ∃ q, w' = w.drewN q := by
  have H1 := Lib.hid h1
  have H2 := Lib.hid h2
  clear h1 h2
  go_enter Tryz.func42, Tryz.ntmps42
  go_wp2_with fail
  refine (eqpeers_any a1 a2 c1 c2 n m xs ys hx hy _ (by omega) H1.out H2.out r hr).mono ?_; rintro e w1 ⟨rfl, q, rfl⟩
  go_wp2_with fail
  go_ret
  exact ⟨rfl, q, rfl⟩
end Go.Proofs.YtfpjdmplepepjaaGreat

/-! WRefSame: The document's Same: rows, contexts, bags. -/
namespace Go.Proofs.YtfpjdmplepepjaaGreat
open Go.RowKit

set_option maxRecDepth 100000 in
set_option maxHeartbeats 4000000 in
theorem refdots_any (a1 a2 : Option Addr) (c1 c2 n m : Nat) (xs ys : List Dot2) (hx : Hid (xs.length = n)) (hy : Hid (ys.length = m)) (w : World) (hlen : n ≤ 1000000000) (h1 : SlE eDot 2 w a1 xs) (h2 : SlE eDot 2 w a2 ys) (r : Bool) (hr : Hid (r = decide (xs = ys))) :
    Calls Tryz.prog 86 #[.slice a1 n c1, .slice a2 m c2] w fun e w' => e = .returned (.bool r) ∧ ∃ q, w' = w.drewN q := by
  by_cases hmn : n = m
  rotate_left
  · have hne : r = false := by rw [hr.out]; exact decide_eq_false (by intro e; apply hmn; rw [← hx.out, ← hy.out, e])
    subst hne
    go_enter Tryz.func86, Tryz.ntmps86
    go_wp2_with fail
    go_ret
    exact ⟨rfl, 0, rfl⟩
  subst hmn
  have H1 := Lib.hid h1
  have H2 := Lib.hid h2
  clear h1 h2
  go_enter Tryz.func86, Tryz.ntmps86
  go_wp2_with fail
  go_loopw [5] (fun i wr => ∃ (k q : Nat), k ≤ n ∧ i = .int .i64 (k : Int) ∧ wr = w.drewN q ∧ Hid (xs.take k = ys.take k)) (fun i _ => n - (intOf i).toNat)
  case atStart => exact ⟨0, 0, by omega, rfl, rfl, Lib.hid (by simp)⟩
  case round =>
    obtain ⟨k, q, hk, rfl, rfl, ht⟩ := hrel
    by_cases hlt : k < n
    · obtain ⟨b1, o1, ⟨x1, x2⟩, rfl, hb1, e1, g1⟩ := H1.out.get k (by rw [hx.out]; exact hlt)
      obtain ⟨b2, o2, ⟨y1, y2⟩, rfl, hb2, e2, g2⟩ := H2.out.get k (by rw [hy.out]; exact hlt)
      have d1 : w.cell? ⟨b1, o1 + k * 2, none⟩ = some (.int .i64 x1) := g1 0 _ rfl
      have d2 : w.cell? ⟨b1, o1 + k * 2 + 1, none⟩ = some (.int .i64 x2) := g1 1 _ rfl
      have d3 : w.cell? ⟨b2, o2 + k * 2, none⟩ = some (.int .i64 y1) := g2 0 _ rfl
      have d4 : w.cell? ⟨b2, o2 + k * 2 + 1, none⟩ = some (.int .i64 y2) := g2 1 _ rfl
      obtain ⟨B, hBB⟩ := nm (decide ((x1, x2) = (y1, y2)))
      have heq := fun w => neqD x1 x2 y1 y2 B hBB.out.symm w
      have hgd := fun (a b : Operand) (w : World) => guardD .neq a b #[.int .i64 x1, .int .i64 x2] #[.int .i64 y1, .int .i64 y2] w
      clear g1 g2
      cases B
      · have HE : Hid (r = false) := by
          show _ = _
          rw [hr.out]
          refine decide_eq_false fun e => ?_
          have h3 := e1.out
          rw [e, e2.out] at h3
          have h4 := Option.some.inj h3
          have := hBB.out
          rw [h4] at this
          simp at this
        go_wp2_with fail
        go_quiet (fail)
        go_wp2_with fail
        go_ret
        rw [HE.out]
        exact ⟨rfl, q + nq, by rw [World.drewN_drewN]⟩
      · have HT : Hid (xs.take (k + 1) = ys.take (k + 1)) := by
          show _ = _
          have e : (x1, x2) = (y1, y2) := by simpa using hBB.out.symm
          rw [take_snocE e1.out, take_snocE e2.out, ht.out, e]
        clear ht
        go_wp2_with fail
        go_quiet (fail)
        go_wp2_with fail
        go_roundw
        case rel => exact ⟨k + 1, q + nq, by omega, by go_num, rfl, HT⟩
        case measure => simp [intOf]; omega
    · obtain rfl : k = n := by omega
      have HE : Hid (r = true) := by
        show _ = _
        rw [hr.out]
        refine decide_eq_true ?_
        have e := ht.out
        rw [List.take_of_length_le (by rw [hx.out]; exact Nat.le_refl _), List.take_of_length_le (by rw [hy.out]; exact Nat.le_refl _)] at e
        exact e
      go_wp2_with fail
      go_ret
      rw [HE.out]
      exact ⟨rfl, q, rfl⟩

set_option maxRecDepth 100000 in
set_option maxHeartbeats 4000000 in
theorem refpeers_any (a1 a2 : Option Addr) (c1 c2 n m : Nat) (xs ys : List Peer3) (hx : Hid (xs.length = n)) (hy : Hid (ys.length = m)) (w : World) (hlen : n ≤ 1000000000) (h1 : SlE ePeer 3 w a1 xs) (h2 : SlE ePeer 3 w a2 ys) (r : Bool) (hr : Hid (r = decide (xs = ys))) :
    Calls Tryz.prog 28 #[.slice a1 n c1, .slice a2 m c2] w fun e w' => e = .returned (.bool r) ∧ ∃ q, w' = w.drewN q := by
  by_cases hmn : n = m
  rotate_left
  · have hne : r = false := by rw [hr.out]; exact decide_eq_false (by intro e; apply hmn; rw [← hx.out, ← hy.out, e])
    subst hne
    go_enter Tryz.func28, Tryz.ntmps28
    go_wp2_with fail
    go_ret
    exact ⟨rfl, 0, rfl⟩
  subst hmn
  have H1 := Lib.hid h1
  have H2 := Lib.hid h2
  clear h1 h2
  go_enter Tryz.func28, Tryz.ntmps28
  go_wp2_with fail
  go_loopw [5] (fun i wr => ∃ (k q : Nat), k ≤ n ∧ i = .int .i64 (k : Int) ∧ wr = w.drewN q ∧ Hid (xs.take k = ys.take k)) (fun i _ => n - (intOf i).toNat)
  case atStart => exact ⟨0, 0, by omega, rfl, rfl, Lib.hid (by simp)⟩
  case round =>
    obtain ⟨k, q, hk, rfl, rfl, ht⟩ := hrel
    by_cases hlt : k < n
    · obtain ⟨b1, o1, ⟨x1, x2, x3⟩, rfl, hb1, e1, g1⟩ := H1.out.get k (by rw [hx.out]; exact hlt)
      obtain ⟨b2, o2, ⟨y1, y2, y3⟩, rfl, hb2, e2, g2⟩ := H2.out.get k (by rw [hy.out]; exact hlt)
      have d1 : w.cell? ⟨b1, o1 + k * 3, none⟩ = some (.int .i64 x1) := g1 0 _ rfl
      have d2 : w.cell? ⟨b1, o1 + k * 3 + 1, none⟩ = some (.int .i64 x2) := g1 1 _ rfl
      have d5 : w.cell? ⟨b1, o1 + k * 3 + 2, none⟩ = some (.int .i64 x3) := g1 2 _ rfl
      have d6 : w.cell? ⟨b2, o2 + k * 3 + 2, none⟩ = some (.int .i64 y3) := g2 2 _ rfl
      have d3 : w.cell? ⟨b2, o2 + k * 3, none⟩ = some (.int .i64 y1) := g2 0 _ rfl
      have d4 : w.cell? ⟨b2, o2 + k * 3 + 1, none⟩ = some (.int .i64 y2) := g2 1 _ rfl
      obtain ⟨B, hBB⟩ := nm (decide ((x1, x2, x3) = (y1, y2, y3)))
      have heq := fun w => neqT x1 x2 x3 y1 y2 y3 B hBB.out.symm w
      have hgd := fun (a b : Operand) (w : World) => guardT .neq a b #[.int .i64 x1, .int .i64 x2, .int .i64 x3] #[.int .i64 y1, .int .i64 y2, .int .i64 y3] w
      clear g1 g2
      cases B
      · have HE : Hid (r = false) := by
          show _ = _
          rw [hr.out]
          refine decide_eq_false fun e => ?_
          have h3 := e1.out
          rw [e, e2.out] at h3
          have h4 := Option.some.inj h3
          have := hBB.out
          rw [h4] at this
          simp at this
        go_wp2_with fail
        go_quiet (fail)
        go_wp2_with fail
        go_ret
        rw [HE.out]
        exact ⟨rfl, q + nq, by rw [World.drewN_drewN]⟩
      · have HT : Hid (xs.take (k + 1) = ys.take (k + 1)) := by
          show _ = _
          have e : (x1, x2, x3) = (y1, y2, y3) := by simpa using hBB.out.symm
          rw [take_snocE e1.out, take_snocE e2.out, ht.out, e]
        clear ht
        go_wp2_with fail
        go_quiet (fail)
        go_wp2_with fail
        go_roundw
        case rel => exact ⟨k + 1, q + nq, by omega, by go_num, rfl, HT⟩
        case measure => simp [intOf]; omega
    · obtain rfl : k = n := by omega
      have HE : Hid (r = true) := by
        show _ = _
        rw [hr.out]
        refine decide_eq_true ?_
        have e := ht.out
        rw [List.take_of_length_le (by rw [hx.out]; exact Nat.le_refl _), List.take_of_length_le (by rw [hy.out]; exact Nat.le_refl _)] at e
        exact e
      go_wp2_with fail
      go_ret
      rw [HE.out]
      exact ⟨rfl, q, rfl⟩

set_option maxRecDepth 100000 in
set_option maxHeartbeats 4000000 in
theorem reftags_any (a1 a2 : Option Addr) (c1 c2 n m : Nat) (xs ys : List Tag2) (hx : Hid (xs.length = n)) (hy : Hid (ys.length = m)) (w : World) (hlen : n ≤ 1000000000) (h1 : SlE eTag 2 w a1 xs) (h2 : SlE eTag 2 w a2 ys) (r : Bool) (hr : Hid (r = decide (xs = ys))) :
    Calls Tryz.prog 27 #[.slice a1 n c1, .slice a2 m c2] w fun e w' => e = .returned (.bool r) ∧ ∃ q, w' = w.drewN q := by
  by_cases hmn : n = m
  rotate_left
  · have hne : r = false := by rw [hr.out]; exact decide_eq_false (by intro e; apply hmn; rw [← hx.out, ← hy.out, e])
    subst hne
    go_enter Tryz.func27, Tryz.ntmps27
    go_wp2_with fail
    go_ret
    exact ⟨rfl, 0, rfl⟩
  subst hmn
  have H1 := Lib.hid h1
  have H2 := Lib.hid h2
  clear h1 h2
  go_enter Tryz.func27, Tryz.ntmps27
  go_wp2_with fail
  go_loopw [5] (fun i wr => ∃ (k q : Nat), k ≤ n ∧ i = .int .i64 (k : Int) ∧ wr = w.drewN q ∧ Hid (xs.take k = ys.take k)) (fun i _ => n - (intOf i).toNat)
  case atStart => exact ⟨0, 0, by omega, rfl, rfl, Lib.hid (by simp)⟩
  case round =>
    obtain ⟨k, q, hk, rfl, rfl, ht⟩ := hrel
    by_cases hlt : k < n
    · obtain ⟨b1, o1, ⟨x1, x2⟩, rfl, hb1, e1, g1⟩ := H1.out.get k (by rw [hx.out]; exact hlt)
      obtain ⟨b2, o2, ⟨y1, y2⟩, rfl, hb2, e2, g2⟩ := H2.out.get k (by rw [hy.out]; exact hlt)
      have d1 : w.cell? ⟨b1, o1 + k * 2, none⟩ = some (.string x1) := g1 0 _ rfl
      have d2 : w.cell? ⟨b1, o1 + k * 2 + 1, none⟩ = some (.int .i64 x2) := g1 1 _ rfl
      have d3 : w.cell? ⟨b2, o2 + k * 2, none⟩ = some (.string y1) := g2 0 _ rfl
      have d4 : w.cell? ⟨b2, o2 + k * 2 + 1, none⟩ = some (.int .i64 y2) := g2 1 _ rfl
      obtain ⟨B, hBB⟩ := nm (decide ((x1, x2) = (y1, y2)))
      have heq := fun w => neqG x1 x2 y1 y2 B hBB.out.symm w
      have hgd := fun (a b : Operand) (w : World) => guardG .neq a b #[.string x1, .int .i64 x2] #[.string y1, .int .i64 y2] w
      clear g1 g2
      cases B
      · have HE : Hid (r = false) := by
          show _ = _
          rw [hr.out]
          refine decide_eq_false fun e => ?_
          have h3 := e1.out
          rw [e, e2.out] at h3
          have h4 := Option.some.inj h3
          have := hBB.out
          rw [h4] at this
          simp at this
        go_wp2_with fail
        go_quiet (fail)
        go_wp2_with fail
        go_ret
        rw [HE.out]
        exact ⟨rfl, q + nq, by rw [World.drewN_drewN]⟩
      · have HT : Hid (xs.take (k + 1) = ys.take (k + 1)) := by
          show _ = _
          have e : (x1, x2) = (y1, y2) := by simpa using hBB.out.symm
          rw [take_snocE e1.out, take_snocE e2.out, ht.out, e]
        clear ht
        go_wp2_with fail
        go_quiet (fail)
        go_wp2_with fail
        go_roundw
        case rel => exact ⟨k + 1, q + nq, by omega, by go_num, rfl, HT⟩
        case measure => simp [intOf]; omega
    · obtain rfl : k = n := by omega
      have HE : Hid (r = true) := by
        show _ = _
        rw [hr.out]
        refine decide_eq_true ?_
        have e := ht.out
        rw [List.take_of_length_le (by rw [hx.out]; exact Nat.le_refl _), List.take_of_length_le (by rw [hy.out]; exact Nat.le_refl _)] at e
        exact e
      go_wp2_with fail
      go_ret
      rw [HE.out]
      exact ⟨rfl, q, rfl⟩

set_option maxRecDepth 100000 in
set_option maxHeartbeats 4000000 in
theorem refmsgs_any (a1 a2 : Option Addr) (c1 c2 n m : Nat) (xs ys : List Msg5) (hx : Hid (xs.length = n)) (hy : Hid (ys.length = m)) (w : World) (hlen : n ≤ 1000000000) (h1 : SlE eMsg 5 w a1 xs) (h2 : SlE eMsg 5 w a2 ys) (r : Bool) (hr : Hid (r = true ↔ xs = ys)) :
    Calls Tryz.prog 56 #[.slice a1 n c1, .slice a2 m c2] w fun e w' => e = .returned (.bool r) ∧ ∃ q, w' = w.drewN q := by
  by_cases hmn : n = m
  rotate_left
  · have hne : r = false := by
      cases r
      · rfl
      · exact absurd (by rw [← hx.out, ← hy.out, hr.out.1 rfl]) hmn
    subst hne
    go_enter Tryz.func56, Tryz.ntmps56
    go_wp2_with fail
    go_ret
    exact ⟨rfl, 0, rfl⟩
  subst hmn
  have H1 := Lib.hid h1
  have H2 := Lib.hid h2
  clear h1 h2
  go_enter Tryz.func56, Tryz.ntmps56
  go_wp2_with fail
  go_loopw [5] (fun i wr => ∃ (k q : Nat), k ≤ n ∧ i = .int .i64 (k : Int) ∧ wr = w.drewN q ∧ Hid (xs.take k = ys.take k)) (fun i _ => n - (intOf i).toNat)
  case atStart => exact ⟨0, 0, by omega, rfl, rfl, Lib.hid (by simp)⟩
  case round =>
    obtain ⟨k, q, hk, rfl, rfl, ht⟩ := hrel
    by_cases hlt : k < n
    · obtain ⟨b1, o1, ⟨x1, x2, x3, x4, x5⟩, rfl, hb1, e1, g1⟩ := H1.out.get k (by rw [hx.out]; exact hlt)
      obtain ⟨b2, o2, ⟨y1, y2, y3, y4, y5⟩, rfl, hb2, e2, g2⟩ := H2.out.get k (by rw [hy.out]; exact hlt)
      have dx0 : w.cell? ⟨b1, o1 + k * 5, none⟩ = some (.int .i64 x1) := g1 0 _ rfl
      have dx1 : w.cell? ⟨b1, o1 + k * 5 + 1, none⟩ = some (.int .i64 x2) := g1 1 _ rfl
      have dx2 : w.cell? ⟨b1, o1 + k * 5 + 2, none⟩ = some (.string x3) := g1 2 _ rfl
      have dx3 : w.cell? ⟨b1, o1 + k * 5 + 3, none⟩ = some (.string x4) := g1 3 _ rfl
      have dx4 : w.cell? ⟨b1, o1 + k * 5 + 4, none⟩ = some (.int .i64 x5) := g1 4 _ rfl
      have dy0 : w.cell? ⟨b2, o2 + k * 5, none⟩ = some (.int .i64 y1) := g2 0 _ rfl
      have dy1 : w.cell? ⟨b2, o2 + k * 5 + 1, none⟩ = some (.int .i64 y2) := g2 1 _ rfl
      have dy2 : w.cell? ⟨b2, o2 + k * 5 + 2, none⟩ = some (.string y3) := g2 2 _ rfl
      have dy3 : w.cell? ⟨b2, o2 + k * 5 + 3, none⟩ = some (.string y4) := g2 3 _ rfl
      have dy4 : w.cell? ⟨b2, o2 + k * 5 + 4, none⟩ = some (.int .i64 y5) := g2 4 _ rfl
      obtain ⟨B, hB, hBf, hBt⟩ : ∃ B : Bool, Hid (B = true ↔ Msg5.mk x1 x2 x3 x4 x5 = Msg5.mk y1 y2 y3 y4 y5) ∧ Hid (B = false → Msg5.mk x1 x2 x3 x4 x5 ≠ Msg5.mk y1 y2 y3 y4 y5) ∧ Hid (B = true → Msg5.mk x1 x2 x3 x4 x5 = Msg5.mk y1 y2 y3 y4 y5) := by
        by_cases h : Msg5.mk x1 x2 x3 x4 x5 = Msg5.mk y1 y2 y3 y4 y5
        · exact ⟨true, show true = true ↔ _ from ⟨fun _ => h, fun _ => rfl⟩, (fun e => by cases e), fun _ => h⟩
        · exact ⟨false, show false = true ↔ _ from ⟨fun e => (by cases e), fun g => absurd g h⟩, fun _ => h, fun e => by cases e⟩
      have heq := fun w => neqM x1 x2 y1 y2 x3 x4 y3 y4 x5 y5 B hB w
      have hgd := fun (a b : Operand) (w : World) => guardM .neq a b #[.int .i64 x1, .int .i64 x2, .string x3, .string x4, .int .i64 x5] #[.int .i64 y1, .int .i64 y2, .string y3, .string y4, .int .i64 y5] w
      clear hB
      clear g1 g2
      cases B
      · obtain rfl : r = false := by
          cases r
          · rfl
          · have e := hr.out.1 rfl
            have h3 := e1.out
            rw [e, e2.out] at h3
            exact absurd (Option.some.inj h3).symm (hBf.out rfl)
        go_wp2_with fail
        go_quiet (fail)
        go_wp2_with fail
        go_ret
        exact ⟨rfl, q + nq, by rw [World.drewN_drewN]⟩
      · have HT : Hid (xs.take (k + 1) = ys.take (k + 1)) := by
          show _ = _
          have e : Msg5.mk x1 x2 x3 x4 x5 = Msg5.mk y1 y2 y3 y4 y5 := hBt.out rfl
          rw [take_snocE e1.out, take_snocE e2.out, ht.out, e]
        clear ht
        go_wp2_with fail
        go_quiet (fail)
        go_wp2_with fail
        go_roundw
        case rel => exact ⟨k + 1, q + nq, by omega, by go_num, rfl, HT⟩
        case measure => simp [intOf]; omega
    · obtain rfl : k = n := by omega
      obtain rfl : r = true := by
        refine hr.out.2 ?_
        have e := ht.out
        rw [List.take_of_length_le (by rw [hx.out]; exact Nat.le_refl _), List.take_of_length_le (by rw [hy.out]; exact Nat.le_refl _)] at e
        exact e
      go_wp2_with fail
      go_ret
      exact ⟨rfl, q, rfl⟩

set_option maxRecDepth 100000 in
set_option maxHeartbeats 4000000 in
theorem refctx_any (a1 a2 b1 b2 : Option Addr) (n1 k1 n2 k2 m1 j1 m2 j2 : Nat) (bs cl bs' cl' : List Dot2) (h1 : Hid (bs.length = n1)) (h2 : Hid (cl.length = n2)) (h3 : Hid (bs'.length = m1)) (h4 : Hid (cl'.length = m2)) (hm : n1 ≤ 1000000) (hm2 : n2 ≤ 1000000) (r : Bool) (hr : Hid (r = true ↔ bs = bs' ∧ cl = cl')) (w : World) (s1 : SlP w a1 bs) (s2 : SlP w a2 cl) (s3 : SlP w b1 bs') (s4 : SlP w b2 cl') :
    Calls Tryz.prog 57 #[.agg #[.slice a1 n1 k1, .slice a2 n2 k2], .agg #[.slice b1 m1 j1, .slice b2 m2 j2]] w fun e w' => e = .returned (.bool r) ∧ Below w.heap.size w w' := by
  obtain ⟨wa, hwa⟩ := nm (w.alloc (.cells #[.slice a1 n1 k1, .slice a2 n2 k2] 27))
  obtain ⟨w0, hw0⟩ := nm (wa.alloc (.cells #[.slice b1 m1 j1, .slice b2 m2 j2] 27))
  obtain ⟨x, hx⟩ := nm w.heap.size
  obtain ⟨y, hy⟩ := nm wa.heap.size
  have Kx : Hid (Blk w0 x #[.slice a1 n1 k1, .slice a2 n2 k2] 27) := by show Blk _ _ _ _; rw [hw0.out]; exact (blkN hwa.out hx.out).alloc _
  have Ky : Hid (Blk w0 y #[.slice b1 m1 j1, .slice b2 m2 j2] 27) := blkN hw0.out hy.out
  have HB0 : Hid (Below w.heap.size w w0) := by rw [hw0.out, hwa.out]; exact bNew (bOld _) _
  have HS1 : Hid (SlE eDot 2 w0 a1 bs) := (s1.below HB0.out).rows
  have HS2 : Hid (SlE eDot 2 w0 a2 cl) := (s2.below HB0.out).rows
  have HS3 : Hid (SlE eDot 2 w0 b1 bs') := (s3.below HB0.out).rows
  have HS4 : Hid (SlE eDot 2 w0 b2 cl') := (s4.below HB0.out).rows
  have HSZ : Hid (x + 1 = y) := by show _ = _; rw [hy.out, hwa.out, hx.out]; simp
  clear s1 s2 s3 s4
  obtain ⟨A, hA⟩ := nm (decide (bs = bs'))
  obtain ⟨B, hB⟩ := nm (decide (cl = cl'))
  have hR : Hid (r = (A && B)) := by
    show _ = _
    rw [Bool.eq_iff_iff, hr.out, hA.out, hB.out, Bool.and_eq_true, decide_eq_true_iff, decide_eq_true_iff]
  go_enter Tryz.func57, Tryz.ntmps57
  go_upto_region 1 with fail
  rw [← hwa.out, ← hw0.out, ← hx.out]
  rw [HSZ.out]
  have c0 : w0.cell? ⟨x, 0, none⟩ = some (.slice a1 n1 k1) := Kx.out.cell 0
  have c1 : w0.cell? ⟨x, 1, none⟩ = some (.slice a2 n2 k2) := Kx.out.cell 1
  have d0 : w0.cell? ⟨y, 0, none⟩ = some (.slice b1 m1 j1) := Ky.out.cell 0
  have d1 : w0.cell? ⟨y, 1, none⟩ = some (.slice b2 m2 j2) := Ky.out.cell 1
  go_wp2_with fail
  refine (refdots_any a1 b1 k1 j1 n1 m1 bs bs' h1 h3 _ (by omega) HS1.out HS3.out A hA).mono ?_; rintro e w1 ⟨rfl, q, rfl⟩
  go_wp2_with fail
  refine (refdots_any a2 b2 k2 j2 n2 m2 cl cl' h2 h4 _ (by omega) (HS2.out.below (bDrewN (Below.refl _ _) _)) (HS4.out.below (bDrewN (Below.refl _ _) _)) B hB).mono ?_; rintro e w1 ⟨rfl, q', rfl⟩
  cases A
  · obtain rfl : r = false := by rw [hR.out]; rfl
    go_wp2_with fail
    go_ret
    exact ⟨rfl, bDrewN HB0.out _⟩
  · obtain rfl : r = B := by rw [hR.out]; simp
    go_wp2_with fail
    go_ret
    exact ⟨rfl, bDrewN HB0.out _⟩

set_option maxRecDepth 100000 in
set_option maxHeartbeats 4000000 in
theorem refbag_any (am ab ac am' ab' ac' : Option Addr) (nl kl nb kb nc kc nl' kl' nb' kb' nc' kc' : Nat) (live live' : List Msg5) (bs cl bs' cl' : List Dot2) (h0 : Hid (live.length = nl)) (h1 : Hid (bs.length = nb)) (h2 : Hid (cl.length = nc)) (h0' : Hid (live'.length = nl')) (h3 : Hid (bs'.length = nb')) (h4 : Hid (cl'.length = nc')) (hm0 : nl ≤ 1000000) (hm : nb ≤ 1000000) (hm2 : nc ≤ 1000000) (r : Bool) (hr : Hid (r = true ↔ live = live' ∧ bs = bs' ∧ cl = cl')) (w : World) (s0 : SlE eMsg 5 w am live) (s1 : SlP w ab bs) (s2 : SlP w ac cl) (s0' : SlE eMsg 5 w am' live') (s3 : SlP w ab' bs') (s4 : SlP w ac' cl') :
    Calls Tryz.prog 26 #[.agg #[.slice am nl kl, .slice ab nb kb, .slice ac nc kc], .agg #[.slice am' nl' kl', .slice ab' nb' kb', .slice ac' nc' kc']] w fun e w' => e = .returned (.bool r) ∧ Below w.heap.size w w' := by
  obtain ⟨wa, hwa⟩ := nm (w.alloc (.cells #[.slice am nl kl, .slice ab nb kb, .slice ac nc kc] 29))
  obtain ⟨w0, hw0⟩ := nm (wa.alloc (.cells #[.slice am' nl' kl', .slice ab' nb' kb', .slice ac' nc' kc'] 29))
  obtain ⟨x, hx⟩ := nm w.heap.size
  obtain ⟨y, hy⟩ := nm wa.heap.size
  have Kx : Hid (Blk w0 x #[.slice am nl kl, .slice ab nb kb, .slice ac nc kc] 29) := by show Blk _ _ _ _; rw [hw0.out]; exact (blkN hwa.out hx.out).alloc _
  have Ky : Hid (Blk w0 y #[.slice am' nl' kl', .slice ab' nb' kb', .slice ac' nc' kc'] 29) := blkN hw0.out hy.out
  have HB0 : Hid (Below w.heap.size w w0) := by rw [hw0.out, hwa.out]; exact bNew (bOld _) _
  have HS0 : Hid (SlE eMsg 5 w0 am live) := s0.below HB0.out
  have HS0' : Hid (SlE eMsg 5 w0 am' live') := s0'.below HB0.out
  have HS1 : Hid (SlP w0 ab bs) := s1.below HB0.out
  have HS2 : Hid (SlP w0 ac cl) := s2.below HB0.out
  have HS3 : Hid (SlP w0 ab' bs') := s3.below HB0.out
  have HS4 : Hid (SlP w0 ac' cl') := s4.below HB0.out
  have HSZ : Hid (x + 1 = y) := by show _ = _; rw [hy.out, hwa.out, hx.out]; simp
  clear s1 s2 s3 s4 s0 s0'
  obtain ⟨A, hA, hAf, hAt⟩ := boolOf (bs = bs' ∧ cl = cl')
  obtain ⟨B, hB, hBf, hBt⟩ := boolOf (live = live')
  have hR : Hid (r = (A && B)) := by
    show _ = _
    rw [Bool.eq_iff_iff, hr.out, Bool.and_eq_true, hA.out, hB.out]
    exact ⟨fun h => ⟨h.2, h.1⟩, fun h => ⟨h.2, h.1⟩⟩
  go_enter Tryz.func26, Tryz.ntmps26
  go_upto_region 1 with fail
  rw [← hwa.out, ← hw0.out, ← hx.out]
  rw [HSZ.out]
  have c0 : w0.cell? ⟨x, 0, none⟩ = some (.slice am nl kl) := Kx.out.cell 0
  have d0 : w0.cell? ⟨y, 0, none⟩ = some (.slice am' nl' kl') := Ky.out.cell 0
  have c1 : w0.cell? ⟨x, 1, none⟩ = some (.slice ab nb kb) := Kx.out.cell 1
  have d1 : w0.cell? ⟨y, 1, none⟩ = some (.slice ab' nb' kb') := Ky.out.cell 1
  have c2 : w0.cell? ⟨x, 2, none⟩ = some (.slice ac nc kc) := Kx.out.cell 2
  have d2 : w0.cell? ⟨y, 2, none⟩ = some (.slice ac' nc' kc') := Ky.out.cell 2
  go_wp2_with fail
  refine (refmsgs_any am am' kl kl' nl nl' live live' h0 h0' _ (by omega) HS0.out HS0'.out B hB).mono ?_; rintro e w1 ⟨rfl, q', rfl⟩
  go_wp2_with fail
  refine (refctx_any ab ac ab' ac' nb kb nc kc nb' kb' nc' kc' bs cl bs' cl' h1 h2 h3 h4 hm hm2 A hA _ (HS1.out.below (bDrewN (Below.refl _ _) _)) (HS2.out.below (bDrewN (Below.refl _ _) _)) (HS3.out.below (bDrewN (Below.refl _ _) _)) (HS4.out.below (bDrewN (Below.refl _ _) _))).mono ?_; rintro e w1 ⟨rfl, hB1⟩
  clear c0 d0 c1 d1 c2 d2
  cases B
  · obtain rfl : r = false := by rw [hR.out]; simp
    go_wp2_with fail
    go_ret
    exact ⟨rfl, bNext (bDrewN HB0.out _) hB1⟩
  · obtain rfl : r = A := by rw [hR.out]; simp
    go_wp2_with fail
    go_ret
    exact ⟨rfl, bNext (bDrewN HB0.out _) hB1⟩
end Go.Proofs.YtfpjdmplepepjaaGreat

/-! WRefSameW: The document's Same of what is said. -/
namespace Go.Proofs.YtfpjdmplepepjaaGreat
open Go.RowKit

set_option maxRecDepth 100000 in
set_option maxHeartbeats 8000000 in
theorem refwsame_any (k f s p fl d0 d1 rc lg : Int) (mark : ByteArray) (am ab ac ag av : Option Addr) (nl kl nb kb nc kc ng kg nv kv : Nat) (live : List Msg5) (bs cl : List Dot2) (tags : List Tag2) (view : List Peer3) (k' f' s' p' fl' d0' d1' rc' lg' : Int) (mark' : ByteArray) (am' ab' ac' ag' av' : Option Addr) (nl' kl' nb' kb' nc' kc' ng' kg' nv' kv' : Nat) (live' : List Msg5) (bs' cl' : List Dot2) (tags' : List Tag2) (view' : List Peer3) (r : Bool) (hr : Hid (r = true ↔ WL.mk k f s p fl d0 d1 rc lg mark live bs cl tags view = WL.mk k' f' s' p' fl' d0' d1' rc' lg' mark' live' bs' cl' tags' view')) (w : World) (hL : Lies w am ab ac ag av nl nb nc ng nv live bs cl tags view) (hL' : Lies w am' ab' ac' ag' av' nl' nb' nc' ng' nv' live' bs' cl' tags' view') :
    Calls Tryz.prog 8 #[.agg #[.int .i64 k, .int .i64 f, .int .i64 s, .int .i64 p, .int .i64 fl, .string mark, .slice am nl kl, .slice ab nb kb, .slice ac nc kc, .slice ag ng kg, .slice av nv kv, .int .i64 d0, .int .i64 d1, .int .i64 rc, .int .i64 lg], .agg #[.int .i64 k', .int .i64 f', .int .i64 s', .int .i64 p', .int .i64 fl', .string mark', .slice am' nl' kl', .slice ab' nb' kb', .slice ac' nc' kc', .slice ag' ng' kg', .slice av' nv' kv', .int .i64 d0', .int .i64 d1', .int .i64 rc', .int .i64 lg']] w fun e w' => e = .returned (.bool r) ∧ Below w.heap.size w w' := by
  obtain ⟨wa, hwa⟩ := nm (w.alloc (.cells #[.int .i64 k, .int .i64 f, .int .i64 s, .int .i64 p, .int .i64 fl, .string mark, .slice am nl kl, .slice ab nb kb, .slice ac nc kc, .slice ag ng kg, .slice av nv kv, .int .i64 d0, .int .i64 d1, .int .i64 rc, .int .i64 lg] 35))
  obtain ⟨w0, hw0⟩ := nm (wa.alloc (.cells #[.int .i64 k', .int .i64 f', .int .i64 s', .int .i64 p', .int .i64 fl', .string mark', .slice am' nl' kl', .slice ab' nb' kb', .slice ac' nc' kc', .slice ag' ng' kg', .slice av' nv' kv', .int .i64 d0', .int .i64 d1', .int .i64 rc', .int .i64 lg'] 35))
  obtain ⟨x, hx⟩ := nm w.heap.size
  obtain ⟨y, hy⟩ := nm wa.heap.size
  have Kx : Hid (Blk w0 x #[.int .i64 k, .int .i64 f, .int .i64 s, .int .i64 p, .int .i64 fl, .string mark, .slice am nl kl, .slice ab nb kb, .slice ac nc kc, .slice ag ng kg, .slice av nv kv, .int .i64 d0, .int .i64 d1, .int .i64 rc, .int .i64 lg] 35) := by show Blk _ _ _ _; rw [hw0.out]; exact (blkN hwa.out hx.out).alloc _
  have Ky : Hid (Blk w0 y #[.int .i64 k', .int .i64 f', .int .i64 s', .int .i64 p', .int .i64 fl', .string mark', .slice am' nl' kl', .slice ab' nb' kb', .slice ac' nc' kc', .slice ag' ng' kg', .slice av' nv' kv', .int .i64 d0', .int .i64 d1', .int .i64 rc', .int .i64 lg'] 35) := blkN hw0.out hy.out
  have HB0 : Hid (Below w.heap.size w w0) := by rw [hw0.out, hwa.out]; exact bNew (bOld _) _
  have HL : Hid (Lies w0 am ab ac ag av nl nb nc ng nv live bs cl tags view) := hL.below HB0.out
  have HL' : Hid (Lies w0 am' ab' ac' ag' av' nl' nb' nc' ng' nv' live' bs' cl' tags' view') := hL'.below HB0.out
  have HSZ : Hid (x + 1 = y) := by show _ = _; rw [hy.out, hwa.out, hx.out]; simp
  clear hL hL'
  obtain ⟨A, hA, hAf, hAt⟩ := boolOf (live = live' ∧ bs = bs' ∧ cl = cl')
  obtain ⟨T, hT⟩ := nm (decide (tags = tags'))
  obtain ⟨V, hV⟩ := nm (decide (view = view'))
  obtain ⟨bK, hbK⟩ := nm (k == k')
  have gK : (k == k') = bK := hbK.out.symm
  obtain ⟨bF, hbF⟩ := nm (f == f')
  have gF : (f == f') = bF := hbF.out.symm
  obtain ⟨bS, hbS⟩ := nm (s == s')
  have gS : (s == s') = bS := hbS.out.symm
  obtain ⟨bP, hbP⟩ := nm (p == p')
  have gP : (p == p') = bP := hbP.out.symm
  obtain ⟨bQ, hbQ⟩ := nm (fl == fl')
  have gQ : (fl == fl') = bQ := hbQ.out.symm
  obtain ⟨bR, hbR⟩ := nm (rc == rc')
  have gR : (rc == rc') = bR := hbR.out.symm
  obtain ⟨bG, hbG⟩ := nm (lg == lg')
  have gG : (lg == lg') = bG := hbG.out.symm
  obtain ⟨bM, hbM⟩ := nm (decide (mark = mark'))
  have gM : (mark.toList == mark'.toList) = bM := by rw [beqG, hbM.out]
  obtain ⟨bD, hbD⟩ := nm (decide ((d0, d1) = (d0', d1')))
  have heq := fun w => eqlD d0 d1 d0' d1' bD hbD.out.symm w
  have hgd := fun (a b : Operand) (w : World) => guardD .eql a b #[.int .i64 d0, .int .i64 d1] #[.int .i64 d0', .int .i64 d1'] w
  have hR : Hid (r = (A && (T && (V && (bK && (bF && (bS && (bP && (bQ && (bM && (bD && (bR && bG)))))))))))) := by
    show _ = _
    rw [Bool.eq_iff_iff, hr.out, WL.mk.injEq]
    simp only [Bool.and_eq_true, hA.out, hT.out, hV.out, hbK.out, hbF.out, hbS.out, hbP.out, hbQ.out, hbM.out, hbD.out, hbR.out, hbG.out, decide_eq_true_iff, beq_iff_eq, Prod.mk.injEq]
    constructor
    · rintro ⟨a1, a2, a3, a4, a5, a6, a7, a8, a9, a10, a11, a12, a13, a14, a15⟩
      exact ⟨⟨a11, a12, a13⟩, a14, a15, a1, a2, a3, a4, a5, a10, ⟨a6, a7⟩, a8, a9⟩
    · rintro ⟨⟨a11, a12, a13⟩, a14, a15, a1, a2, a3, a4, a5, a10, ⟨a6, a7⟩, a8, a9⟩
      exact ⟨a1, a2, a3, a4, a5, a6, a7, a8, a9, a10, a11, a12, a13, a14, a15⟩
  go_enter Tryz.func8, Tryz.ntmps8
  go_upto_region 1 with fail
  rw [← hwa.out, ← hw0.out, ← hx.out]
  rw [HSZ.out]
  have c6 : w0.cell? ⟨x, 6, none⟩ = some (.slice am nl kl) := Kx.out.cell 6
  have e6 : w0.cell? ⟨y, 6, none⟩ = some (.slice am' nl' kl') := Ky.out.cell 6
  have c7 : w0.cell? ⟨x, 7, none⟩ = some (.slice ab nb kb) := Kx.out.cell 7
  have e7 : w0.cell? ⟨y, 7, none⟩ = some (.slice ab' nb' kb') := Ky.out.cell 7
  have c8 : w0.cell? ⟨x, 8, none⟩ = some (.slice ac nc kc) := Kx.out.cell 8
  have e8 : w0.cell? ⟨y, 8, none⟩ = some (.slice ac' nc' kc') := Ky.out.cell 8
  go_wp2_with fail
  refine (refbag_any am ab ac am' ab' ac' nl kl nb kb nc kc nl' kl' nb' kb' nc' kc' live live' bs cl bs' cl' HL.out.l0 HL.out.l1 HL.out.l2 HL'.out.l0 HL'.out.l1 HL'.out.l2 HL.out.m0 HL.out.m1 HL.out.m2 A hA _ HL.out.s0 HL.out.s1 HL.out.s2 HL'.out.s0 HL'.out.s1 HL'.out.s2).mono ?_; rintro e w1 ⟨rfl, hB1⟩
  replace Kx := Lib.hid (Kx.out.below hB1 Kx.out.lt)
  replace Ky := Lib.hid (Ky.out.below hB1 Ky.out.lt)
  replace HB0 := Lib.hid (bNext HB0.out hB1)
  replace HL := Lib.hid (HL.out.below hB1)
  replace HL' := Lib.hid (HL'.out.below hB1)
  clear hB1 c6 c7 c8 e6 e7 e8
  have c0 : w1.cell? ⟨x, 0, none⟩ = some (.int .i64 k) := Kx.out.cell 0
  have e0 : w1.cell? ⟨y, 0, none⟩ = some (.int .i64 k') := Ky.out.cell 0
  have c1 : w1.cell? ⟨x, 1, none⟩ = some (.int .i64 f) := Kx.out.cell 1
  have e1 : w1.cell? ⟨y, 1, none⟩ = some (.int .i64 f') := Ky.out.cell 1
  have c2 : w1.cell? ⟨x, 2, none⟩ = some (.int .i64 s) := Kx.out.cell 2
  have e2 : w1.cell? ⟨y, 2, none⟩ = some (.int .i64 s') := Ky.out.cell 2
  have c3 : w1.cell? ⟨x, 3, none⟩ = some (.int .i64 p) := Kx.out.cell 3
  have e3 : w1.cell? ⟨y, 3, none⟩ = some (.int .i64 p') := Ky.out.cell 3
  have c4 : w1.cell? ⟨x, 4, none⟩ = some (.int .i64 fl) := Kx.out.cell 4
  have e4 : w1.cell? ⟨y, 4, none⟩ = some (.int .i64 fl') := Ky.out.cell 4
  have c5 : w1.cell? ⟨x, 5, none⟩ = some (.string mark) := Kx.out.cell 5
  have e5 : w1.cell? ⟨y, 5, none⟩ = some (.string mark') := Ky.out.cell 5
  have c6 : w1.cell? ⟨x, 6, none⟩ = some (.slice am nl kl) := Kx.out.cell 6
  have e6 : w1.cell? ⟨y, 6, none⟩ = some (.slice am' nl' kl') := Ky.out.cell 6
  have c7 : w1.cell? ⟨x, 7, none⟩ = some (.slice ab nb kb) := Kx.out.cell 7
  have e7 : w1.cell? ⟨y, 7, none⟩ = some (.slice ab' nb' kb') := Ky.out.cell 7
  have c8 : w1.cell? ⟨x, 8, none⟩ = some (.slice ac nc kc) := Kx.out.cell 8
  have e8 : w1.cell? ⟨y, 8, none⟩ = some (.slice ac' nc' kc') := Ky.out.cell 8
  have c9 : w1.cell? ⟨x, 9, none⟩ = some (.slice ag ng kg) := Kx.out.cell 9
  have e9 : w1.cell? ⟨y, 9, none⟩ = some (.slice ag' ng' kg') := Ky.out.cell 9
  have c10 : w1.cell? ⟨x, 10, none⟩ = some (.slice av nv kv) := Kx.out.cell 10
  have e10 : w1.cell? ⟨y, 10, none⟩ = some (.slice av' nv' kv') := Ky.out.cell 10
  have c11 : w1.cell? ⟨x, 11, none⟩ = some (.int .i64 d0) := Kx.out.cell 11
  have e11 : w1.cell? ⟨y, 11, none⟩ = some (.int .i64 d0') := Ky.out.cell 11
  have c12 : w1.cell? ⟨x, 12, none⟩ = some (.int .i64 d1) := Kx.out.cell 12
  have e12 : w1.cell? ⟨y, 12, none⟩ = some (.int .i64 d1') := Ky.out.cell 12
  have c13 : w1.cell? ⟨x, 13, none⟩ = some (.int .i64 rc) := Kx.out.cell 13
  have e13 : w1.cell? ⟨y, 13, none⟩ = some (.int .i64 rc') := Ky.out.cell 13
  have c14 : w1.cell? ⟨x, 14, none⟩ = some (.int .i64 lg) := Kx.out.cell 14
  have e14 : w1.cell? ⟨y, 14, none⟩ = some (.int .i64 lg') := Ky.out.cell 14
  have hQ : ∀ q : Nat, Hid (Below w.heap.size w (w1.drewN q)) := fun q => bDrewN HB0.out q
  go_wp2_with fail
  refine (reftags_any ag ag' kg kg' ng ng' tags tags' HL.out.l3 HL'.out.l3 _ (by have := HL.out.m3; omega) HL.out.s3 HL'.out.s3 T hT).mono ?_; rintro e w2 ⟨rfl, q4, rfl⟩
  go_wp2_with fail
  refine (refpeers_any av av' kv kv' nv nv' view view' HL.out.l4 HL'.out.l4 _ (by have := HL.out.m4; omega) (HL.out.s4.below (bDrewN (Below.refl _ _) _)) (HL'.out.s4.below (bDrewN (Below.refl _ _) _)) V hV).mono ?_; rintro e w3 ⟨rfl, q5, rfl⟩
  cases A
  · obtain rfl : r = false := by rw [hR.out]; simp
    go_wp2_with fail
    go_ret
    exact ⟨rfl, (hQ _).out⟩
  cases T
  · obtain rfl : r = false := by rw [hR.out]; simp
    go_wp2_with fail
    go_ret
    exact ⟨rfl, (hQ _).out⟩
  cases V
  · obtain rfl : r = false := by rw [hR.out]; simp
    go_wp2_with fail
    go_ret
    exact ⟨rfl, (hQ _).out⟩
  cases bK
  · obtain rfl : r = false := by rw [hR.out]; simp
    go_wp2_with fail
    go_ret
    exact ⟨rfl, (hQ _).out⟩
  cases bF
  · obtain rfl : r = false := by rw [hR.out]; simp
    go_wp2_with fail
    go_ret
    exact ⟨rfl, (hQ _).out⟩
  cases bS
  · obtain rfl : r = false := by rw [hR.out]; simp
    go_wp2_with fail
    go_ret
    exact ⟨rfl, (hQ _).out⟩
  cases bP
  · obtain rfl : r = false := by rw [hR.out]; simp
    go_wp2_with fail
    go_ret
    exact ⟨rfl, (hQ _).out⟩
  cases bQ
  · obtain rfl : r = false := by rw [hR.out]; simp
    go_wp2_with fail
    go_ret
    exact ⟨rfl, (hQ _).out⟩
  cases bM
  · obtain rfl : r = false := by rw [hR.out]; simp
    go_wp2_with fail
    go_ret
    exact ⟨rfl, (hQ _).out⟩
  cases bD
  · obtain rfl : r = false := by rw [hR.out]; simp
    go_wp2_with fail
    go_ret
    exact ⟨rfl, (hQ _).out⟩
  cases bR
  · obtain rfl : r = false := by rw [hR.out]; simp
    go_wp2_with fail
    go_ret
    exact ⟨rfl, (hQ _).out⟩
  obtain rfl : r = bG := by rw [hR.out]; simp
  go_wp2_with fail
  go_ret
  exact ⟨rfl, (hQ _).out⟩
end Go.Proofs.YtfpjdmplepepjaaGreat

/-! WRefDot: The document's names: may one be, is one less, is it in a row, do they rise, their bytes. -/
namespace Go.Proofs.YtfpjdmplepepjaaGreat
open Go.RowKit Go.Sort
set_option maxRecDepth 100000 in
set_option maxHeartbeats 400000 in
theorem refless_any (x1 x2 y1 y2 : Int) (r : Bool) (hr : Hid (r = decide (ltP (x1, x2) (y1, y2)))) (w : World) :
    Calls Tryz.prog 83 #[.agg #[.int .i64 x1, .int .i64 x2], .agg #[.int .i64 y1, .int .i64 y2]] w fun e w' => e = .returned (.bool r) ∧ Below w.heap.size w w' := by
  have hr2 := hr.out
  unfold ltP at hr2
  simp only at hr2
  rcases Int.lt_trichotomy x1 y1 with h | h | h
  · have h1 : r = true := by rw [hr2]; exact decide_eq_true (.inl h)
    subst h1
    have hd : decide (x1 < y1) = true := decide_eq_true h
    clear hr2
    go_enter Tryz.func83, Tryz.ntmps83
    go_wp2_with fail
    go_ret
    exact ⟨rfl, bNew (bOld _) _⟩
  · subst h
    have hd : decide (x1 < x1) = false := by simp
    have he : (x1 == x1) = true := by simp
    have h1 : decide (x2 < y2) = r := by rw [hr2]; exact decide_eq_decide.2 ⟨fun h => .inr ⟨rfl, h⟩, fun h => by omega⟩
    clear hr2
    go_enter Tryz.func83, Tryz.ntmps83
    go_wp2_with fail
    go_ret
    exact ⟨rfl, bNew (bOld _) _⟩
  · have h1 : r = false := by rw [hr2]; exact decide_eq_false (by omega)
    subst h1
    have hd : decide (x1 < y1) = false := decide_eq_false (by omega)
    have he : (x1 == y1) = false := by simp; omega
    clear hr2
    go_enter Tryz.func83, Tryz.ntmps83
    go_wp2_with fail
    go_ret
    exact ⟨rfl, bNew (bOld _) _⟩

set_option maxRecDepth 100000 in
set_option maxHeartbeats 1000000 in
theorem refcheck_any (x y : Int) (r : Bool) (hr : Hid (r = okD x y)) (w : World) :
    Calls Tryz.prog 55 #[.agg #[.int .i64 x, .int .i64 y]] w fun e w' => e = .returned (.bool r) ∧ Below w.heap.size w w' := by
  have hr2 := hr.out
  unfold okD at hr2
  obtain ⟨A, hA⟩ := nm (decide (1 ≤ x))
  obtain ⟨B, hB⟩ := nm (decide (x ≤ 1099511627776))
  obtain ⟨C, hC⟩ := nm (decide (1 ≤ y))
  obtain ⟨D, hD⟩ := nm (decide (y ≤ 1099511627776))
  have hR : Hid (r = (A && (B && (C && D)))) := by
    show _ = _
    rw [hr2, hA.out, hB.out, hC.out, hD.out]
    simp only [Bool.decide_and]
  have h1 := hA.out.symm
  have h2 := hB.out.symm
  have h3 := hC.out.symm
  have h4 := hD.out.symm
  clear hr2 hA hB hC hD hr
  cases A <;> cases B <;> cases C
  all_goals
    have hR2 := hR.out
    simp only [Bool.true_and, Bool.and_false, Bool.false_and] at hR2
    subst hR2
    clear hR
    go_enter Tryz.func55, Tryz.ntmps55
    go_wp2_with fail
    go_ret
    exact ⟨rfl, bOld _⟩

set_option maxRecDepth 100000 in
set_option maxHeartbeats 1000000 in
theorem refrises_any (ao : Option Addr) (ps : List (Int × Int)) (n cap : Nat) (hn : Hid (ps.length = n)) (hm : n ≤ 1000000000) (w : World) (hs : SlP w ao ps) (r : Bool) (hr : Hid (r = decide (Asc ps))) :
    Calls Tryz.prog 98 #[.slice ao n cap] w fun e w' => e = .returned (.bool r) ∧ Below w.heap.size w w' := by
  have HS := Lib.hid hs
  clear hs
  go_enter Tryz.func98, Tryz.ntmps98
  go_wp2_with fail
  go_loopw [3] (fun i wr => ∃ k : Nat, 1 ≤ k ∧ (k ≤ n ∨ k = 1) ∧ i = .int .i64 (k : Int) ∧ Below w.heap.size w wr ∧ Hid (Asc (ps.take k))) (fun i _ => n - (intOf i).toNat)
  case atStart =>
    refine ⟨1, by omega, .inr rfl, rfl, Below.refl _ _, ?_⟩
    show Asc _
    cases ps <;> simp [Asc]
  case round =>
    obtain ⟨k, hk1, hk, rfl, hB, hI⟩ := hrel
    by_cases hlt : k < n
    · obtain ⟨b, off, u, v, rfl, hbl, c0, c1, hpk⟩ := HS.out.get k (by rw [hn.out]; exact hlt)
      have d0 : wr.cell? ⟨b, off + k * 2, none⟩ = some (.int .i64 u) := (hB.cell (p := ⟨b, off + k * 2, none⟩) hbl).trans c0
      have d1 : wr.cell? ⟨b, off + k * 2 + 1, none⟩ = some (.int .i64 v) := (hB.cell (p := ⟨b, off + k * 2 + 1, none⟩) hbl).trans c1
      clear c0 c1
      obtain ⟨b', off', u1, v1, e', hbl', c2, c3, hpj⟩ := HS.out.get (k - 1) (by rw [hn.out]; omega)
      cases e'
      have d2 : wr.cell? ⟨b, off + (k - 1) * 2, none⟩ = some (.int .i64 u1) := (hB.cell (p := ⟨b, off + (k - 1) * 2, none⟩) hbl).trans c2
      have d3 : wr.cell? ⟨b, off + (k - 1) * 2 + 1, none⟩ = some (.int .i64 v1) := (hB.cell (p := ⟨b, off + (k - 1) * 2 + 1, none⟩) hbl).trans c3
      clear c2 c3
      obtain ⟨B, hBB⟩ := nm (decide (ltP (u1, v1) (u, v)))
      have hw1 : IntKind.i64.wrap ((k : Int) - 1) = ((k - 1 : Nat) : Int) := by rw [IntWalk.i64_in _ (by omega)]; omega
      have hw2 : k - 1 < n := by omega
      clear hk
      go_wp2_with fail
      refine wp_region_still_tail 9 (by kernel_rfl) (by kernel_rfl) ?_
      simp only [List.take_succ_cons, List.take_zero, List.drop_succ_cons, List.drop_zero]
      change wpStill _ _ (World.drew _) (fun a' => wpList _ _ _ _ a' (World.drew _)) _ _
      repeat still_step
      refine wpStill_nil ?_
      clear d0 d1 d2 d3 hw1
      have htk : ps.take k = ps.take (k - 1) ++ [(u1, v1)] := by
        have := take_snocP hpj.out
        rwa [show k - 1 + 1 = k from by omega] at this
      have HTK := Lib.hid htk
      have HTS := Lib.hid (take_snocP hpk.out)
      clear htk
      go_wp2_with fail
      refine (refless_any u1 v1 u v B hBB _).mono ?_; rintro e w3 ⟨rfl, hB3⟩
      have hB4 : Below w.heap.size w w3 := bNext (below_drewN hB 1) hB3
      cases B
      · have HE : Hid (r = false) := by
          show _ = _
          rw [hr.out]
          refine decide_eq_false fun ha => ?_
          obtain ⟨g1, g2⟩ := get_of hpk.out
          obtain ⟨g3, g4⟩ := get_of hpj.out
          have := asc_mono ha (show k - 1 < k by omega) g1
          rw [g2, g4] at this
          exact absurd this (by simpa using hBB.out.symm)
        go_wp2_with fail
        go_ret
        rw [HE.out]
        exact ⟨rfl, hB4⟩
      · have HI : Hid (Asc (ps.take (k + 1))) := by
          show Asc _
          rw [HTS.out, HTK.out]
          have h1 := hI.out
          rw [HTK.out] at h1
          exact asc_snoc h1 (by simpa using hBB.out.symm)
        go_wp2_with fail
        go_roundw
        case rel => exact ⟨k + 1, by omega, .inl (by omega), by go_num, hB4, HI⟩
        case measure => simp [intOf]; omega
    · have HE : Hid (r = true) := by
        show _ = _
        rw [hr.out]
        refine decide_eq_true ?_
        have := hI.out
        rwa [List.take_of_length_le (by rw [hn.out]; omega)] at this
      clear hk
      go_wp2_with fail
      go_ret
      rw [HE.out]
      exact ⟨rfl, hB⟩

set_option maxRecDepth 100000 in
set_option maxHeartbeats 1000000 in
theorem refdhas_any (ao : Option Addr) (ps : List (Int × Int)) (n cap : Nat) (hn : Hid (ps.length = n)) (hm : n ≤ 1000000000) (x y : Int) (w : World) (hs : SlP w ao ps) (r : Bool) (hr : Hid (r = decide ((x, y) ∈ ps))) :
    Calls Tryz.prog 100 #[.slice ao n cap, .agg #[.int .i64 x, .int .i64 y]] w fun e w' => e = .returned (.bool r) ∧ Below w.heap.size w w' := by
  have HS := Lib.hid hs
  clear hs
  have hb0 : Blk (w.alloc (.cells #[.int .i64 x, .int .i64 y] 33)) w.heap.size #[.int .i64 x, .int .i64 y] 33 := Blk.new _ _ _
  obtain ⟨w1, hw1⟩ := nm (w.alloc (.cells #[.int .i64 x, .int .i64 y] 33))
  rw [← hw1.out] at hb0
  have hB0 : Below w.heap.size w w1 := by rw [hw1.out]; exact bOld _
  obtain ⟨p, hp⟩ := nm w.heap.size
  rw [← hp.out] at hb0
  have b0 : w1.cell? ⟨p, 0, none⟩ = some (.int .i64 x) := hb0.cell 0
  have b1 : w1.cell? ⟨p, 1, none⟩ = some (.int .i64 y) := hb0.cell 1
  have HB0 := Lib.hid hB0
  clear hB0 hb0
  go_enter Tryz.func100, Tryz.ntmps100
  go_wp2_with fail
  rw [← hp.out, ← hw1.out]
  go_loopw [5] (fun i wr => ∃ k q : Nat, k ≤ n ∧ i = .int .i64 (k : Int) ∧ wr = w1.drewN q ∧ Hid (¬ (x, y) ∈ ps.take k)) (fun i _ => n - (intOf i).toNat)
  case atStart => exact ⟨0, 0, by omega, rfl, rfl, by show ¬ _; simp⟩
  case round =>
    obtain ⟨k, q, hk, rfl, rfl, hI⟩ := hrel
    by_cases hlt : k < n
    · obtain ⟨b, off, u, v, rfl, hbl, c0, c1, hpk⟩ := HS.out.get k (by rw [hn.out]; exact hlt)
      have d0 : w1.cell? ⟨b, off + k * 2, none⟩ = some (.int .i64 u) := (HB0.out.cell (p := ⟨b, off + k * 2, none⟩) hbl).trans c0
      have d1 : w1.cell? ⟨b, off + k * 2 + 1, none⟩ = some (.int .i64 v) := (HB0.out.cell (p := ⟨b, off + k * 2 + 1, none⟩) hbl).trans c1
      clear c0 c1
      obtain ⟨B, hBB⟩ := nm (decide ((u, v) = (x, y)))
      have heq := fun w => eqlD u v x y B hBB.out.symm w
      have hgd := fun (a b : Operand) (w : World) => guardD .eql a b #[.int .i64 u, .int .i64 v] #[.int .i64 x, .int .i64 y] w
      have htk : ps.take (k + 1) = ps.take k ++ [(u, v)] := by
        obtain ⟨g1, g2⟩ := get_of hpk.out
        rw [List.take_succ_eq_append_getElem g1]
        have := hpk.out
        rw [List.getElem?_eq_getElem g1] at this
        rw [Option.some.inj this]
      have HT := Lib.hid htk
      clear htk
      cases B
      · have HI : Hid (¬ (x, y) ∈ ps.take (k + 1)) := by
          show ¬ _
          rw [HT.out, List.mem_append]
          rintro (h | h)
          · exact hI.out h
          · have e : (x, y) = (u, v) := by simpa using h
            have := hBB.out
            rw [e] at this
            simp at this
        go_wp2_with fail
        go_quiet (fail)
        go_wp2_with fail
        go_roundw
        case rel => exact ⟨k + 1, q + nq, by omega, by go_num, rfl, HI⟩
        case measure => simp [intOf]; omega
      · have HE : Hid (r = true) := by
          show _ = _
          rw [hr.out]
          refine decide_eq_true ?_
          have e : (u, v) = (x, y) := by simpa using hBB.out.symm
          rw [← e]
          exact List.mem_of_getElem? hpk.out
        go_wp2_with fail
        go_quiet (fail)
        go_wp2_with fail
        go_ret
        rw [HE.out]
        exact ⟨rfl, below_drewN (below_drewN HB0.out _) _⟩
    · obtain rfl : k = n := by omega
      have HE : Hid (r = false) := by
        show _ = _
        rw [hr.out]
        refine decide_eq_false ?_
        have := hI.out
        rwa [List.take_of_length_le (by rw [hn.out]; exact Nat.le_refl _)] at this
      go_wp2_with fail
      go_ret
      rw [HE.out]
      exact ⟨rfl, below_drewN HB0.out q⟩
end Go.Proofs.YtfpjdmplepepjaaGreat

