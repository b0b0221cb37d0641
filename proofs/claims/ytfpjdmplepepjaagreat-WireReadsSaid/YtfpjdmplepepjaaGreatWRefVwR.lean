/- Rows of peers are read: the document's. -/
import Derived.Test.YtfpjdmplepepjaaGreatWRefRd
import Derived.Test.YtfpjdmplepepjaaGreatK8
import Derived.Test.YtfpjdmplepepjaaGreatK6
namespace Go.Proofs.YtfpjdmplepepjaaGreat
open Go.RowKit

/-- What is told. -/
def RefVwTells (b : Nat) (r : Rd) (w : World) (e : Ending) (w' : World) : Prop :=
  ∃ ao n cap xs r', e = .returned (.slice ao n cap) ∧ xs.length = n ∧ SlE ePeer 3 w' ao xs ∧ (∀ a, ao = some a → w.heap.size ≤ a.block) ∧ IsRr w' b r' ∧ Red ViewP (rowL peerL) r r' xs ∧ r'.left.size ≤ 1000000 ∧ Kept b w w'

set_option maxRecDepth 100000 in
set_option maxHeartbeats 4000000 in
theorem refrvw_any (b : Nat) (r : Rd) (w : World) (hr : IsRr w b r) (hs : r.left.size ≤ 1000000) :
    Calls Tryz.prog 23 #[.pointer (some ⟨b, 0, none⟩)] w (RefVwTells b r w) := by
  have hbl := hr.lt
  obtain ⟨i1, i2, i3⟩ := r.int_lt 64
  have hq0 := red_int r 64 (by decide)
  obtain ⟨q, hq⟩ := nm (r.int 64).1
  obtain ⟨n, hn⟩ := nm (r.int 64).2
  rw [← hq.out] at i2 hq0
  rw [← hn.out] at i1 i3 hq0
  have hnm : n ≤ 64 := by omega
  have HQ := Lib.hid hq0
  clear hq0 i1 i3
  have bad : ∀ w' r', r'.torn = true → r'.left.size ≤ 1000000 → (∀ y t, r.torn = false → ViewP y → bl r.left ≠ rowL peerL y ++ t) → IsRr w' b r' → Kept b w w' → RefVwTells b r w (.returned (.slice none 0 0)) w' := by
    intro w' r' h1 h2 h3 h4 h5
    exact ⟨none, 0, 0, [], r', rfl, rfl, SlE.nil _ _ _ _, fun a h => (by cases h), h4, .inr ⟨h1, h3⟩, h2, h5⟩
  have BAD := Lib.hid bad
  clear bad
  go_enter Tryz.func23, Tryz.ntmps23
  go_wp2_with fail
  refine (refrint_any b r 64 _ hr (by omega) (by decide)).mono ?_; rintro e w1 ⟨rfl, h1, k1⟩
  rw [← hq.out] at h1
  rw [← hn.out]
  go_wp2_with fail
  go_loopw [4, 5] (fun u i wr => ∃ (k : Nat) (ri : Rd) (zs : List Peer3) (v : Value), v = u ∧ k ≤ n ∧ i = .int .i64 (k : Int) ∧ zs.length = k ∧ IsRr wr b ri ∧ OwnE ePeer 3 wr w.heap.size 77 v zs ∧ Kept b w wr ∧ ri.left.size ≤ 1000000 ∧ Hid (RedN peerR peerL n q k ri zs)) (fun _ i _ => n - (intOf i).toNat)
  case atStart => exact ⟨0, q, [], _, rfl, by omega, rfl, rfl, h1, OwnE.nil _ _ _, k1, by omega, RedN.zero q⟩
  case round =>
    clear h1 k1
    obtain ⟨k, ri, zs, v, rfl, hkn, rfl, hz, hrd, hown, hk, hsz, hI⟩ := hrel
    obtain ⟨T, hT⟩ := nm ri.torn
    have t0 : wr.cell? ⟨b, 1, none⟩ = some (.bool T) := by rw [hT.out]; exact hrd.cell 1
    have t1 : wr.frozen? ⟨b, 1, none⟩ = false := hrd.free 1
    cases T
    rotate_left
    · have htt : ri.torn = true := hT.out.symm
      have HNO : Hid (∀ y t, r.torn = false → ViewP y → bl r.left ≠ rowL peerL y ++ t) := fun y t h1 h2 => (hI.out.stop (z := []) (r' := ri) HQ.out (by decide) htt htt).none htt y t h1 ((viewR y).2 h2).1
      by_cases hlt : k < n
      · go_wp2_with fail
        go_ret
        exact BAD.out _ ⟨ri.left, true⟩ rfl hsz HNO.out (hrd.setTorn true) (hk.set _ _)
      · go_wp2_with fail
        go_ret
        exact BAD.out _ ⟨ri.left, true⟩ rfl hsz HNO.out (hrd.setTorn true) (hk.set _ _)
    by_cases hlt : k < n
    · have r0 := red_int ri 1099511627776 (by decide)
      have z0 := ri.int_sz 1099511627776
      obtain ⟨q0, hq0⟩ := nm (ri.int 1099511627776).1
      obtain ⟨a0, ha0⟩ := nm (((ri.int 1099511627776).2 : Nat) : Int)
      rw [← hq0.out, ← ha0.out] at r0
      rw [← hq0.out] at z0
      have r1 := red_int q0 1073741824 (by decide)
      have z1 := q0.int_sz 1073741824
      obtain ⟨q1, hq1⟩ := nm (q0.int 1073741824).1
      obtain ⟨a1, ha1⟩ := nm (((q0.int 1073741824).2 : Nat) : Int)
      rw [← hq1.out, ← ha1.out] at r1
      rw [← hq1.out] at z1
      have r2 := red_int q1 2 (by decide)
      have z2 := q1.int_sz 2
      obtain ⟨q2, hq2⟩ := nm (q1.int 2).1
      obtain ⟨a2, ha2⟩ := nm (((q1.int 2).2 : Nat) : Int)
      rw [← hq2.out, ← ha2.out] at r2
      rw [← hq2.out] at z2
      have HN : Hid (RedN peerR peerL n q (k + 1) q2 (zs ++ [(a0, a1, a2)])) := hI.out.next tells_peerR hlt (r0.seq (r1.seq (r2) (tells_in (by decide))) (tells_in (by decide)))
      clear hI r0 r1 r2
      go_wp2_with fail
      refine (refrint_any b ri 1099511627776 _ hrd (by omega) (by decide)).mono ?_; rintro e w2 ⟨rfl, h2, hk2⟩
      rw [← hq0.out] at h2
      rw [← ha0.out]
      have hown2 := hown.kept hk2 hbl
      have k2 := hk.trans hk2
      obtain ⟨d, hd⟩ := nm w2.heap.size
      have hbd : b < d := by rw [hd.out]; exact h2.lt
      have hwd : w.heap.size ≤ d := by rw [hd.out]; exact k2.size
      obtain ⟨w3, hw3⟩ := nm (w2.alloc (.cells #[.int .i64 a0, .int .i64 0, .int .i64 0] 77))
      have Kd : Hid (Blk w3 d #[.int .i64 a0, .int .i64 0, .int .i64 0] 77) := by show Blk _ _ _ _; rw [hw3.out, hd.out]; exact Blk.new _ _ _
      have HR : Hid (IsRr w3 b q0) := by show IsRr _ _ _; rw [hw3.out]; exact Blk.alloc h2 _
      have HO : Hid (OwnE ePeer 3 w3 w.heap.size 77 v zs) := by show OwnE _ _ _ _ _ _ _; rw [hw3.out]; exact hown2.alloc _
      have HK : Hid (Kept b w w3) := by show Kept _ _ _; rw [hw3.out]; exact k2.alloc _
      have HD : Hid (∀ g, v.ownBlock = some g → g < d) := by show ∀ g, _; rw [hd.out]; exact fun g hg => (World.ownsRow.lt hown2 g hg).2
      clear hown hk hk2 hown2 k2 h2 hrd t0 t1
      go_upto_region 7 with fail
      rw [← hw3.out, ← hd.out]
      go_wp2_with fail
      refine (refrint_any b q0 1073741824 _ HR.out (by omega) (by decide)).mono ?_; rintro e w4 ⟨rfl, h4, hk4⟩
      rw [← hq1.out] at h4
      rw [← ha1.out]
      replace Kd := Lib.hid (hk4.blk Kd.out (by omega))
      replace HO := Lib.hid (HO.out.kept hk4 hbl)
      replace HK := Lib.hid (HK.out.trans hk4)
      have d1 : w4.cell? ⟨d, 1, none⟩ = some (.int .i64 0) := Kd.out.cell 1
      have e1 : w4.frozen? ⟨d, 1, none⟩ = false := Kd.out.free 1
      obtain ⟨w5, hw5⟩ := nm (w4.setCell ⟨d, 1, none⟩ (.int .i64 a1))
      replace Kd : Hid (Blk w5 d #[.int .i64 a0, .int .i64 a1, .int .i64 0] 77) := by show Blk _ _ _ _; rw [hw5.out]; exact Kd.out.set 1 _
      replace HR : Hid (IsRr w5 b q1) := by show IsRr _ _ _; rw [hw5.out]; exact Blk.setOther h4 (by simp only; omega) _
      replace HO : Hid (OwnE ePeer 3 w5 w.heap.size 77 v zs) := by show OwnE _ _ _ _ _ _ _; rw [hw5.out]; exact HO.out.setAt HD.out
      replace HK : Hid (Kept b w w5) := by show Kept _ _ _; rw [hw5.out]; exact HK.out.setNew hwd _
      clear hk4 h4
      go_upto_region 8 with fail
      rw [← hw5.out]
      clear d1 e1 hw5
      go_wp2_with fail
      refine (refrint_any b q1 2 _ HR.out (by omega) (by decide)).mono ?_; rintro e w4 ⟨rfl, h4, hk4⟩
      rw [← hq2.out] at h4
      rw [← ha2.out]
      replace Kd := Lib.hid (hk4.blk Kd.out (by omega))
      replace HO := Lib.hid (HO.out.kept hk4 hbl)
      replace HK := Lib.hid (HK.out.trans hk4)
      have d2 : w4.cell? ⟨d, 2, none⟩ = some (.int .i64 0) := Kd.out.cell 2
      have e2 : w4.frozen? ⟨d, 2, none⟩ = false := Kd.out.free 2
      obtain ⟨w5, hw5⟩ := nm (w4.setCell ⟨d, 2, none⟩ (.int .i64 a2))
      replace Kd : Hid (Blk w5 d #[.int .i64 a0, .int .i64 a1, .int .i64 a2] 77) := by show Blk _ _ _ _; rw [hw5.out]; exact Kd.out.set 2 _
      replace HR : Hid (IsRr w5 b q2) := by show IsRr _ _ _; rw [hw5.out]; exact Blk.setOther h4 (by simp only; omega) _
      replace HO : Hid (OwnE ePeer 3 w5 w.heap.size 77 v zs) := by show OwnE _ _ _ _ _ _ _; rw [hw5.out]; exact HO.out.setAt HD.out
      replace HK : Hid (Kept b w w5) := by show Kept _ _ _; rw [hw5.out]; exact HK.out.setNew hwd _
      clear hk4 h4
      go_upto_region 9 with fail
      rw [← hw5.out]
      clear d2 e2 hw5
      have s5 := HK.out.size
      have y0 : w5.cell? ⟨d, 0, none⟩ = some (.int .i64 a0) := Kd.out.cell 0
      have y1 : w5.cell? ⟨d, 1, none⟩ = some (.int .i64 a1) := Kd.out.cell 1
      have y2 : w5.cell? ⟨d, 2, none⟩ = some (.int .i64 a2) := Kd.out.cell 2
      go_wp2_with (at_builtin; refine app_E encPeer Tryz.underlying31 infoPeer rfl (by decide) rfl _ _ rfl w.heap.size _ zs rfl (HO.out.alloc _) (some ⟨w5.heap.size, 0, none⟩) 1 1 [(a0, a1, a2)] rfl rfl (fun h => by cases h) (SlE.ofBlk encPeer (Blk.new w5 _ _)) (by omega) (Nat.le_trans s5 (by simp)) ?_)
      intro v' w6 hown6 hgrow
      have h6 : IsRr w6 b q2 := OwnE.blk (HO.out.alloc _) (Blk.alloc HR.out _) hbl hgrow
      have k6 : Kept b w w6 := OwnE.grownK (HO.out.alloc _) (HK.out.alloc _) (Nat.le_refl _) hgrow
      have hsz6 : q2.left.size ≤ 1000000 := by omega
      clear hgrow y0 y1 y2 Kd HR HO HK HD
      go_wp2_with fail
      go_roundw
      case rel => exact ⟨k + 1, q2, zs ++ [(a0, a1, a2)], _, rfl, by omega, by go_num, by simp [hz], h6, hown6, k6, hsz6, HN⟩
      case measure => simp [intOf]; omega
    · obtain rfl : k = n := by omega
      have HALL := Lib.hid (hI.out.red HQ.out (by decide))
      clear hI HQ
      obtain ⟨ao, cap, rfl, _, _, hsl, _, hab⟩ := hown.sl encPeer
      have HSL := Lib.hid hsl
      have HZ := Lib.hid hz
      have HAB := Lib.hid hab
      clear hown hsl hab
      rw [hz]
      clear hz
      obtain ⟨B, hB, hBf, hBt⟩ := boolOf (ViewP zs)
      obtain ⟨E, hE⟩ := nm (errno B)
      go_wp2_with fail
      refine (refviewcheck_any ao k cap zs HZ (by omega) B hB E hE _ HSL.out).mono ?_; rintro e w6 ⟨rfl, hB6⟩
      have h6 : IsRr w6 b ri := Blk.below hrd hB6 hrd.lt
      have k6 := hk.trans (Kept.ofBelow hB6)
      have HSL6 := Lib.hid (HSL.out.below hB6)
      clear hB6 HSL hrd hk t0 t1
      have t0 : w6.cell? ⟨b, 1, none⟩ = some (.bool false) := by rw [hT.out]; exact h6.cell 1
      have t1 : w6.frozen? ⟨b, 1, none⟩ = false := h6.free 1
      have hE2 := hE.out
      cases B
      · obtain rfl : E = 1 := hE2
        have HNO : Hid (∀ y t, r.torn = false → ViewP y → bl r.left ≠ rowL peerL y ++ t) := by
          have hf := (Red.fail (C := ViewP) (r'' := ⟨ri.left, true⟩) (z := []) HALL.out ((tells_row tells_peerR).sub fun _ h => ⟨by have := h.1; omega, h.2⟩) (.inr (hBf.out (by first | exact rfl | exact trivial))) rfl).iff viewR
          exact hf.none rfl
        go_wp2_with fail
        go_ret
        exact BAD.out _ ⟨ri.left, true⟩ rfl hsz HNO.out (h6.setTorn true) (k6.set _ _)
      · obtain rfl : E = 0 := hE2
        go_wp2_with fail
        go_ret
        exact ⟨ao, k, cap, zs, ri, rfl, HZ.out, HSL6.out, HAB.out, h6, (Red.pass (C := ViewP) HALL.out fun _ => hBt.out (by first | exact rfl | exact trivial)).iff viewR, hsz, k6⟩
end Go.Proofs.YtfpjdmplepepjaaGreat
