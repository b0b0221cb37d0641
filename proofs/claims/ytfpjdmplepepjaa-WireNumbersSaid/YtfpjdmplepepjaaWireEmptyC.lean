/- Wire, of what has no lists: a context and a bag that are read. -/
import Derived.Test.YtfpjdmplepepjaaWireEmptyB
namespace Go.Proofs.Ytfpjdmplepepjaa
open Go.RowKit

theorem infoCx : (Try.prog.info? 25).map (·.size) = some 2 := by kernel_rfl
theorem infoBg : (Try.prog.info? 27).map (·.size) = some 3 := by kernel_rfl
set_option maxRecDepth 100000 in
set_option maxHeartbeats 2000000 in
theorem rctx0 (b : Nat) (t : List UInt8) (w : World) (hr : IsRd w b ⟨ofL (0 :: 0 :: t), false⟩) (hs : t.length ≤ 100000) :
    Calls Try.prog 80 #[.pointer (some ⟨b, 0, none⟩)] w fun e w' => e = .returned (.agg #[.slice none 0 0, .slice none 0 0]) ∧ IsRd w' b ⟨ofL t, false⟩ ∧ Kept b w w' := by
  obtain ⟨x, hx⟩ := nm w.heap.size
  have hbx : b < x := by rw [hx.out]; exact hr.lt
  obtain ⟨w0, hw0⟩ := nm (w.alloc (.cells #[.slice none 0 0, .slice none 0 0] 25))
  have Kx : Hid (Blk w0 x #[.slice none 0 0, .slice none 0 0] 25) := by show Blk _ _ _ _; rw [hw0.out, hx.out]; exact Blk.new _ _ _
  have HR : Hid (IsRd w0 b ⟨ofL (0 :: 0 :: t), false⟩) := by show IsRd _ _ _; rw [hw0.out]; exact Blk.alloc hr _
  have HP : Hid (Kept b w w0) := by show Kept _ _ _; rw [hw0.out]; exact (Kept.refl _ _).alloc _
  clear hr
  go_enter Try.func80, Try.ntmps80
  go_upto_region 1 with fail
  rw [← hw0.out, ← hx.out]
  go_wp2_with fail
  refine (rrow0 b (0 :: t) _ HR.out (by simp only [List.length_cons]; omega)).mono ?_; rintro e w1 ⟨rfl, h1, hk⟩
  replace Kx := Lib.hid (hk.blk Kx.out (by omega))
  replace HP := Lib.hid (HP.out.trans hk)
  obtain ⟨c, hc⟩ := nm w1.heap.size
  have hbc : b < c := by rw [hc.out]; exact h1.lt
  have hxc : x < c := by rw [hc.out]; exact Kx.out.lt
  obtain ⟨w2, hw2⟩ := nm (w1.alloc (.cells #[.slice none 0 0, .slice none 0 0] 25))
  have Kc : Hid (Blk w2 c #[.slice none 0 0, .slice none 0 0] 25) := by show Blk _ _ _ _; rw [hw2.out, hc.out]; exact Blk.new _ _ _
  replace Kx : Hid (Blk w2 x #[.slice none 0 0, .slice none 0 0] 25) := by show Blk _ _ _ _; rw [hw2.out]; exact Kx.out.alloc _
  replace HR : Hid (IsRd w2 b ⟨ofL (0 :: t), false⟩) := by show IsRd _ _ _; rw [hw2.out]; exact Blk.alloc h1 _
  replace HP : Hid (Kept b w w2) := by show Kept _ _ _; rw [hw2.out]; exact HP.out.alloc _
  clear h1 hk
  go_upto_region 2 with fail
  rw [← hw2.out, ← hc.out]
  go_wp2_with fail
  refine (rrow0 b t _ HR.out (by omega)).mono ?_; rintro e w3 ⟨rfl, h3, hk⟩
  replace Kx := Lib.hid (hk.blk Kx.out (by omega))
  replace Kc := Lib.hid (hk.blk Kc.out (by omega))
  replace HP := Lib.hid (HP.out.trans hk)
  have cc0 : w3.cell? ⟨c, 0, none⟩ = some (.slice none 0 0) := Kc.out.cell 0
  have cf0 : w3.frozen? ⟨c, 0, none⟩ = false := Kc.out.free 0
  have cc1 : w3.cell? ⟨c, 1, none⟩ = some (.slice none 0 0) := Kc.out.cell 1
  have cf1 : w3.frozen? ⟨c, 1, none⟩ = false := Kc.out.free 1
  obtain ⟨w4, hw4⟩ := nm (w3.setCell ⟨c, 1, none⟩ (.slice none 0 0))
  have hwc : w.heap.size ≤ c := by rw [← hx.out]; omega
  replace Kx : Hid (Blk w4 x #[.slice none 0 0, .slice none 0 0] 25) := by show Blk _ _ _ _; rw [hw4.out]; exact Kx.out.setOther (by simp only; omega) _
  replace Kc : Hid (Blk w4 c #[.slice none 0 0, .slice none 0 0] 25) := by show Blk _ _ _ _; rw [hw4.out]; exact Kc.out.set 1 _
  replace HR : Hid (IsRd w4 b ⟨ofL t, false⟩) := by show IsRd _ _ _; rw [hw4.out]; exact Blk.setOther h3 (by simp only; omega) _
  replace HP : Hid (Kept b w w4) := by show Kept _ _ _; rw [hw4.out]; exact HP.out.setNew hwc _
  clear h3 hk
  go_upto_region 3 with fail
  rw [← hw4.out]
  clear cc0 cc1 cf0 cf1
  have cc0 : w4.cell? ⟨c, 0, none⟩ = some (.slice none 0 0) := Kc.out.cell 0
  have cc1 : w4.cell? ⟨c, 1, none⟩ = some (.slice none 0 0) := Kc.out.cell 1
  go_wp2_with (first | (go_at_call 78; refine (fine0 b t _ HR.out).mono ?_; rintro e w5 ⟨rfl, rfl⟩) | (go_at_call 66; refine (ctx0 _).mono ?_; rintro e w6 ⟨rfl, hB6⟩; have xb := Kx.out.below hB6 Kx.out.lt; have xc0 := xb.cell 0; have xc1 := xb.cell 1; have xf0 := xb.free 0; have xf1 := xb.free 1; have cb := Kc.out.below hB6 Kc.out.lt; have cc2 := cb.cell 0; have cc3 := cb.cell 1))
  refine bodyPost_ret (results_cell_row rfl _ _ x 25 #[.slice none 0 0, .slice none 0 0] (0, 0) _ rfl ((xb.set 0 _).set 1 _) Try.underlying25 rfl infoCx) rfl ?_
  exact ⟨rfl, (Blk.setOther (Blk.setOther (HR.out.below hB6 HR.out.lt) (by simp only; omega) _) (by simp only; omega) _), ((HP.out.trans (Kept.ofBelow hB6)).setNew (by rw [← hx.out]; exact Nat.le_refl _) _).setNew (by rw [← hx.out]; exact Nat.le_refl _) _⟩

set_option maxRecDepth 100000 in
set_option maxHeartbeats 2000000 in
theorem rbag0 (b : Nat) (t : List UInt8) (w : World) (hr : IsRd w b ⟨ofL (0 :: 0 :: 0 :: t), false⟩) (hs : t.length ≤ 10000) :
    Calls Try.prog 39 #[.pointer (some ⟨b, 0, none⟩)] w fun e w' => e = .returned (.agg #[.slice none 0 0, .slice none 0 0, .slice none 0 0]) ∧ IsRd w' b ⟨ofL t, false⟩ ∧ Kept b w w' := by
  obtain ⟨x, hx⟩ := nm w.heap.size
  have hbx : b < x := by rw [hx.out]; exact hr.lt
  obtain ⟨w0, hw0⟩ := nm (w.alloc (.cells #[.slice none 0 0, .slice none 0 0, .slice none 0 0] 27))
  have Kx : Hid (Blk w0 x #[.slice none 0 0, .slice none 0 0, .slice none 0 0] 27) := by show Blk _ _ _ _; rw [hw0.out, hx.out]; exact Blk.new _ _ _
  have HR : Hid (IsRd w0 b ⟨ofL (0 :: 0 :: 0 :: t), false⟩) := by show IsRd _ _ _; rw [hw0.out]; exact Blk.alloc hr _
  have HP : Hid (Kept b w w0) := by show Kept _ _ _; rw [hw0.out]; exact (Kept.refl _ _).alloc _
  clear hr
  go_enter Try.func39, Try.ntmps39
  go_upto_region 1 with fail
  rw [← hw0.out, ← hx.out]
  go_wp2_with fail
  refine (rctx0 b (0 :: t) _ HR.out (by simp only [List.length_cons]; omega)).mono ?_; rintro e w1 ⟨rfl, h1, hk⟩
  replace Kx := Lib.hid (hk.blk Kx.out (by omega))
  replace HP := Lib.hid (HP.out.trans hk)
  obtain ⟨c, hc⟩ := nm w1.heap.size
  have hbc : b < c := by rw [hc.out]; exact h1.lt
  have hxc : x < c := by rw [hc.out]; exact Kx.out.lt
  obtain ⟨w2, hw2⟩ := nm (w1.alloc (.cells #[.slice none 0 0, .slice none 0 0, .slice none 0 0] 27))
  have Kc : Hid (Blk w2 c #[.slice none 0 0, .slice none 0 0, .slice none 0 0] 27) := by show Blk _ _ _ _; rw [hw2.out, hc.out]; exact Blk.new _ _ _
  replace Kx : Hid (Blk w2 x #[.slice none 0 0, .slice none 0 0, .slice none 0 0] 27) := by show Blk _ _ _ _; rw [hw2.out]; exact Kx.out.alloc _
  replace HR : Hid (IsRd w2 b ⟨ofL (0 :: t), false⟩) := by show IsRd _ _ _; rw [hw2.out]; exact Blk.alloc h1 _
  replace HP : Hid (Kept b w w2) := by show Kept _ _ _; rw [hw2.out]; exact HP.out.alloc _
  clear h1 hk
  go_upto_region 2 with fail
  rw [← hw2.out, ← hc.out]
  go_wp2_with fail
  refine (rzero_any b t 1000 _ HR.out (by omega) (by decide) (by decide)).mono ?_; rintro e w3 ⟨rfl, h3, hk⟩
  replace Kx := Lib.hid (hk.blk Kx.out (by omega))
  replace Kc := Lib.hid (hk.blk Kc.out (by omega))
  replace HP := Lib.hid (HP.out.trans hk)
  replace HR := Lib.hid h3
  clear h3 hk
  have cc0 : w3.cell? ⟨c, 0, none⟩ = some (.slice none 0 0) := Kc.out.cell 0
  have cc1 : w3.cell? ⟨c, 1, none⟩ = some (.slice none 0 0) := Kc.out.cell 1
  have cc2 : w3.cell? ⟨c, 2, none⟩ = some (.slice none 0 0) := Kc.out.cell 2
  go_wp2_with fail
  refine wp_loop_rounds 1 ?_
  rw [rounds_succ]
  go_wp2_with (first | (go_at_call 78; refine (fine0 b t _ HR.out).mono ?_; rintro e w5 ⟨rfl, rfl⟩) | (go_at_call 29; refine (bag0 _).mono ?_; rintro e w6 ⟨rfl, hB6⟩; have xb := Kx.out.below hB6 Kx.out.lt; have xc0 := xb.cell 0; have xc1 := xb.cell 1; have xc2 := xb.cell 2; have xf0 := xb.free 0; have xf1 := xb.free 1; have xf2 := xb.free 2; have cb := Kc.out.below hB6 Kc.out.lt; have cc4 := cb.cell 0; have cc5 := cb.cell 1; have cc6 := cb.cell 2))
  refine bodyPost_ret (results_cell_row rfl _ _ x 27 #[.slice none 0 0, .slice none 0 0, .slice none 0 0] (0, 0) _ rfl (((xb.set 0 _).set 1 _).set 2 _) Try.underlying27 rfl infoBg) rfl ?_
  exact ⟨rfl, (Blk.setOther (Blk.setOther (Blk.setOther (HR.out.below hB6 HR.out.lt) (by simp only; omega) _) (by simp only; omega) _) (by simp only; omega) _), (((HP.out.trans (Kept.ofBelow hB6)).setNew (by rw [← hx.out]; exact Nat.le_refl _) _).setNew (by rw [← hx.out]; exact Nat.le_refl _) _).setNew (by rw [← hx.out]; exact Nat.le_refl _) _⟩
end Go.Proofs.Ytfpjdmplepepjaa
