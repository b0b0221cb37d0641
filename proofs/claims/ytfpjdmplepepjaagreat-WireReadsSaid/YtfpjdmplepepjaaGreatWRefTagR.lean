/- Rows of tags are read: the document's. -/
import Derived.Test.YtfpjdmplepepjaaGreatWRefRd
import Derived.Test.YtfpjdmplepepjaaGreatK8
import Derived.Test.YtfpjdmplepepjaaGreatK6
namespace Go.Proofs.YtfpjdmplepepjaaGreat
open Go.RowKit

/-- What is told. -/
def RefTagTells (b : Nat) (r : Rd) (w : World) (e : Ending) (w' : World) : Prop :=
  ∃ ao n cap xs r', e = .returned (.slice ao n cap) ∧ xs.length = n ∧ SlE eTag 2 w' ao xs ∧ (∀ a, ao = some a → w.heap.size ≤ a.block) ∧ IsRr w' b r' ∧ Red TagsP (rowL tagL) r r' xs ∧ r'.left.size ≤ 1000000 ∧ Kept b w w'

set_option maxRecDepth 100000 in
set_option maxHeartbeats 4000000 in
theorem refrtag_any (b : Nat) (r : Rd) (w : World) (hr : IsRr w b r) (hs : r.left.size ≤ 1000000) :
    Calls Tryz.prog 22 #[.pointer (some ⟨b, 0, none⟩)] w (RefTagTells b r w) := by
  have hbl := hr.lt
  obtain ⟨i1, i2, i3⟩ := r.int_lt 100
  have hq0 := red_int r 100 (by decide)
  obtain ⟨q, hq⟩ := nm (r.int 100).1
  obtain ⟨n, hn⟩ := nm (r.int 100).2
  rw [← hq.out] at i2 hq0
  rw [← hn.out] at i1 i3 hq0
  have hnm : n ≤ 100 := by omega
  have HQ := Lib.hid hq0
  clear hq0 i1 i3
  have bad : ∀ w' r', r'.torn = true → r'.left.size ≤ 1000000 → (∀ y t, r.torn = false → TagsP y → bl r.left ≠ rowL tagL y ++ t) → IsRr w' b r' → Kept b w w' → RefTagTells b r w (.returned (.slice none 0 0)) w' := by
    intro w' r' h1 h2 h3 h4 h5
    exact ⟨none, 0, 0, [], r', rfl, rfl, SlE.nil _ _ _ _, fun a h => (by cases h), h4, .inr ⟨h1, h3⟩, h2, h5⟩
  have BAD := Lib.hid bad
  clear bad
  go_enter Tryz.func22, Tryz.ntmps22
  go_wp2_with fail
  refine (refrint_any b r 100 _ hr (by omega) (by decide)).mono ?_; rintro e w1 ⟨rfl, h1, k1⟩
  rw [← hq.out] at h1
  rw [← hn.out]
  go_wp2_with fail
  go_loopw [4, 5] (fun u i wr => ∃ (k : Nat) (ri : Rd) (zs : List Tag2) (v : Value), v = u ∧ k ≤ n ∧ i = .int .i64 (k : Int) ∧ zs.length = k ∧ IsRr wr b ri ∧ OwnE eTag 2 wr w.heap.size 75 v zs ∧ Kept b w wr ∧ ri.left.size ≤ 1000000 ∧ Hid (RedN tagR tagL n q k ri zs)) (fun _ i _ => n - (intOf i).toNat)
  case atStart => exact ⟨0, q, [], _, rfl, by omega, rfl, rfl, h1, OwnE.nil _ _ _, k1, by omega, RedN.zero q⟩
  case round =>
    clear h1 k1
    obtain ⟨k, ri, zs, v, rfl, hkn, rfl, hz, hrd, hown, hk, hsz, hI⟩ := hrel
    obtain ⟨T, hT⟩ := nm ri.torn
    have t0 : wr.cell? ⟨b, 1, none⟩ = some (.bool T) := by rw [hT.out]; exact hrd.cell 1
    have t1 : wr.frozen? ⟨b, 1, none⟩ = false := hrd.free 1
    cases T
    rotate_left
    · have htt : ri.torn = true := hT.out.symm
      have HNO : Hid (∀ y t, r.torn = false → TagsP y → bl r.left ≠ rowL tagL y ++ t) := fun y t h1 h2 => (hI.out.stop (z := []) (r' := ri) HQ.out (by decide) htt htt).none htt y t h1 ((tagsR y).2 h2).1
      by_cases hlt : k < n
      · go_wp2_with fail
        go_ret
        exact BAD.out _ ⟨ri.left, true⟩ rfl hsz HNO.out (hrd.setTorn true) (hk.set _ _)
      · go_wp2_with fail
        go_ret
        exact BAD.out _ ⟨ri.left, true⟩ rfl hsz HNO.out (hrd.setTorn true) (hk.set _ _)
    by_cases hlt : k < n
    · have r0 := red_text ri 100 (by decide)
      have z0 := ri.text_sz 100
      obtain ⟨q0, hq0⟩ := nm (ri.text 100).1
      obtain ⟨a0, ha0⟩ := nm (ri.text 100).2
      rw [← hq0.out, ← ha0.out] at r0
      rw [← hq0.out] at z0
      have r1 := red_int q0 1048576 (by decide)
      have z1 := q0.int_sz 1048576
      obtain ⟨q1, hq1⟩ := nm (q0.int 1048576).1
      obtain ⟨a1, ha1⟩ := nm (((q0.int 1048576).2 : Nat) : Int)
      rw [← hq1.out, ← ha1.out] at r1
      rw [← hq1.out] at z1
      have HN : Hid (RedN tagR tagL n q (k + 1) q1 (zs ++ [(a0, a1)])) := hI.out.next tells_tagR hlt (r0.seq (r1) (tells_tx (by decide)))
      clear hI r0 r1
      go_wp2_with fail
      refine (refrtext_any b ri 100 _ hrd (by omega) (by decide)).mono ?_; rintro e w2 ⟨rfl, h2, hk2⟩
      rw [← hq0.out] at h2
      rw [← ha0.out]
      have hown2 := hown.kept hk2 hbl
      have k2 := hk.trans hk2
      obtain ⟨d, hd⟩ := nm w2.heap.size
      have hbd : b < d := by rw [hd.out]; exact h2.lt
      have hwd : w.heap.size ≤ d := by rw [hd.out]; exact k2.size
      obtain ⟨w3, hw3⟩ := nm (w2.alloc (.cells #[.string a0, .int .i64 0] 75))
      have Kd : Hid (Blk w3 d #[.string a0, .int .i64 0] 75) := by show Blk _ _ _ _; rw [hw3.out, hd.out]; exact Blk.new _ _ _
      have HR : Hid (IsRr w3 b q0) := by show IsRr _ _ _; rw [hw3.out]; exact Blk.alloc h2 _
      have HO : Hid (OwnE eTag 2 w3 w.heap.size 75 v zs) := by show OwnE _ _ _ _ _ _ _; rw [hw3.out]; exact hown2.alloc _
      have HK : Hid (Kept b w w3) := by show Kept _ _ _; rw [hw3.out]; exact k2.alloc _
      have HD : Hid (∀ g, v.ownBlock = some g → g < d) := by show ∀ g, _; rw [hd.out]; exact fun g hg => (World.ownsRow.lt hown2 g hg).2
      clear hown hk hk2 hown2 k2 h2 hrd t0 t1
      go_upto_region 7 with fail
      rw [← hw3.out, ← hd.out]
      go_wp2_with fail
      refine (refrint_any b q0 1048576 _ HR.out (by omega) (by decide)).mono ?_; rintro e w4 ⟨rfl, h4, hk4⟩
      rw [← hq1.out] at h4
      rw [← ha1.out]
      replace Kd := Lib.hid (hk4.blk Kd.out (by omega))
      replace HO := Lib.hid (HO.out.kept hk4 hbl)
      replace HK := Lib.hid (HK.out.trans hk4)
      have d1 : w4.cell? ⟨d, 1, none⟩ = some (.int .i64 0) := Kd.out.cell 1
      have e1 : w4.frozen? ⟨d, 1, none⟩ = false := Kd.out.free 1
      obtain ⟨w5, hw5⟩ := nm (w4.setCell ⟨d, 1, none⟩ (.int .i64 a1))
      replace Kd : Hid (Blk w5 d #[.string a0, .int .i64 a1] 75) := by show Blk _ _ _ _; rw [hw5.out]; exact Kd.out.set 1 _
      replace HR : Hid (IsRr w5 b q1) := by show IsRr _ _ _; rw [hw5.out]; exact Blk.setOther h4 (by simp only; omega) _
      replace HO : Hid (OwnE eTag 2 w5 w.heap.size 75 v zs) := by show OwnE _ _ _ _ _ _ _; rw [hw5.out]; exact HO.out.setAt HD.out
      replace HK : Hid (Kept b w w5) := by show Kept _ _ _; rw [hw5.out]; exact HK.out.setNew hwd _
      clear hk4 h4
      go_upto_region 8 with fail
      rw [← hw5.out]
      clear d1 e1 hw5
      have s5 := HK.out.size
      have y0 : w5.cell? ⟨d, 0, none⟩ = some (.string a0) := Kd.out.cell 0
      have y1 : w5.cell? ⟨d, 1, none⟩ = some (.int .i64 a1) := Kd.out.cell 1
      go_wp2_with (at_builtin; refine app_E encTag Tryz.underlying30 infoTag rfl (by decide) rfl _ _ rfl w.heap.size _ zs rfl (HO.out.alloc _) (some ⟨w5.heap.size, 0, none⟩) 1 1 [(a0, a1)] rfl rfl (fun h => by cases h) (SlE.ofBlk encTag (Blk.new w5 _ _)) (by omega) (Nat.le_trans s5 (by simp)) ?_)
      intro v' w6 hown6 hgrow
      have h6 : IsRr w6 b q1 := OwnE.blk (HO.out.alloc _) (Blk.alloc HR.out _) hbl hgrow
      have k6 : Kept b w w6 := OwnE.grownK (HO.out.alloc _) (HK.out.alloc _) (Nat.le_refl _) hgrow
      have hsz6 : q1.left.size ≤ 1000000 := by omega
      clear hgrow y0 y1 Kd HR HO HK HD
      go_wp2_with fail
      go_roundw
      case rel => exact ⟨k + 1, q1, zs ++ [(a0, a1)], _, rfl, by omega, by go_num, by simp [hz], h6, hown6, k6, hsz6, HN⟩
      case measure => simp [intOf]; omega
    · obtain rfl : k = n := by omega
      have HALL := Lib.hid (hI.out.red HQ.out (by decide))
      clear hI HQ
      obtain ⟨ao, cap, rfl, _, _, hsl, _, hab⟩ := hown.sl encTag
      have HSL := Lib.hid hsl
      have HZ := Lib.hid hz
      have HAB := Lib.hid hab
      clear hown hsl hab
      rw [hz]
      clear hz
      obtain ⟨B, hB, hBf, hBt⟩ := boolOf (TagsP zs)
      obtain ⟨E, hE⟩ := nm (errno B)
      go_wp2_with fail
      refine (reftagcheck_any ao k cap zs HZ (by omega) B hB E hE _ HSL.out).mono ?_; rintro e w6 ⟨rfl, hB6⟩
      have h6 : IsRr w6 b ri := Blk.below hrd hB6 hrd.lt
      have k6 := hk.trans (Kept.ofBelow hB6)
      have HSL6 := Lib.hid (HSL.out.below hB6)
      clear hB6 HSL hrd hk t0 t1
      have t0 : w6.cell? ⟨b, 1, none⟩ = some (.bool false) := by rw [hT.out]; exact h6.cell 1
      have t1 : w6.frozen? ⟨b, 1, none⟩ = false := h6.free 1
      have hE2 := hE.out
      cases B
      · obtain rfl : E = 1 := hE2
        have HNO : Hid (∀ y t, r.torn = false → TagsP y → bl r.left ≠ rowL tagL y ++ t) := by
          have hf := (Red.fail (C := TagsP) (r'' := ⟨ri.left, true⟩) (z := []) HALL.out ((tells_row tells_tagR).sub fun _ h => ⟨by have := h.1; omega, h.2⟩) (.inr (hBf.out (by first | exact rfl | exact trivial))) rfl).iff tagsR
          exact hf.none rfl
        go_wp2_with fail
        go_ret
        exact BAD.out _ ⟨ri.left, true⟩ rfl hsz HNO.out (h6.setTorn true) (k6.set _ _)
      · obtain rfl : E = 0 := hE2
        go_wp2_with fail
        go_ret
        exact ⟨ao, k, cap, zs, ri, rfl, HZ.out, HSL6.out, HAB.out, h6, (Red.pass (C := TagsP) HALL.out fun _ => hBt.out (by first | exact rfl | exact trivial)).iff tagsR, hsz, k6⟩
end Go.Proofs.YtfpjdmplepepjaaGreat
