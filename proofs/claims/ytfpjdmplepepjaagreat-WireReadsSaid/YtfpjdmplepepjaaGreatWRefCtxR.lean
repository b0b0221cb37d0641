/- Contexts are read: the document's. -/
import Derived.Test.YtfpjdmplepepjaaGreatWRefRd
import Derived.Test.YtfpjdmplepepjaaGreatK8
import Derived.Test.YtfpjdmplepepjaaGreatK5
namespace Go.Proofs.YtfpjdmplepepjaaGreat
open Go.RowKit

/-- What the document's Read tells. -/
def RefCtxTells (b : Nat) (r : Rd) (w : World) (e : Ending) (w' : World) : Prop :=
  ∃ ab ac nb kb nc kc bs cl r', e = .returned (.agg #[.slice ab nb kb, .slice ac nc kc]) ∧ bs.length = nb ∧ cl.length = nc ∧ SlP w' ab bs ∧ SlP w' ac cl ∧ (∀ a, ab = some a → w.heap.size ≤ a.block) ∧ (∀ a, ac = some a → w.heap.size ≤ a.block) ∧ IsRr w' b r' ∧ Red CtxR ctxZ r r' (bs, cl) ∧ r'.left.size ≤ 1000000 ∧ Kept b w w'

set_option maxRecDepth 100000 in
set_option maxHeartbeats 4000000 in
theorem refrctx_any (b : Nat) (r : Rd) (w : World) (hr : IsRr w b r) (hs : r.left.size ≤ 1000000) :
    Calls Tryz.prog 50 #[.pointer (some ⟨b, 0, none⟩)] w (RefCtxTells b r w) := by
  obtain ⟨x, hx⟩ := nm w.heap.size
  have hbx : b < x := by rw [hx.out]; exact hr.lt
  obtain ⟨w0, hw0⟩ := nm (w.alloc (.cells #[.slice none 0 0, .slice none 0 0] 27))
  have Kx : Hid (Blk w0 x #[.slice none 0 0, .slice none 0 0] 27) := by show Blk _ _ _ _; rw [hw0.out, hx.out]; exact Blk.new _ _ _
  have HR : Hid (IsRr w0 b r) := by show IsRr _ _ _; rw [hw0.out]; exact Blk.alloc hr _
  have HP : Hid (Kept b w w0) := by show Kept _ _ _; rw [hw0.out]; exact (Kept.refl _ _).alloc _
  have hwx : Hid (w.heap.size ≤ x) := Nat.le_of_eq hx.out.symm
  clear hr
  go_enter Tryz.func50, Tryz.ntmps50
  go_upto_region 1 with fail
  rw [← hw0.out, ← hx.out]
  go_wp2_with fail
  refine (refreadrow_red b r 1000 _ HR.out hs (by decide)).mono ?_; rintro e w1 ⟨ab, nb, kb, bs, r1, rfl, hnb, hsb, hfb, h1, hd1, hs1, hk⟩
  have hx0 : x < w0.heap.size := Kx.out.lt
  have HFB : Hid (∀ a, ab = some a → x < a.block) := fun a ha => by have := hfb a ha; omega
  replace Kx := Lib.hid (hk.blk Kx.out (by omega))
  replace HP := Lib.hid (HP.out.trans hk)
  obtain ⟨c, hc⟩ := nm w1.heap.size
  have hbc : b < c := by rw [hc.out]; exact h1.lt
  have hxc : x < c := by rw [hc.out]; exact Kx.out.lt
  have HSB : Hid (SlP w1 ab bs) := hsb
  have HLB : Hid (∀ a, ab = some a → 0 < bs.length → a.block < c) := by
    show ∀ a, _
    intro a ha h0
    obtain ⟨b', off', e, hl⟩ := HSB.out.base h0
    rw [ha] at e; cases e; rw [hc.out]; exact hl
  obtain ⟨w2, hw2⟩ := nm (w1.alloc (.cells #[.slice ab nb kb, .slice none 0 0] 27))
  have Kc : Hid (Blk w2 c #[.slice ab nb kb, .slice none 0 0] 27) := by show Blk _ _ _ _; rw [hw2.out, hc.out]; exact Blk.new _ _ _
  replace Kx : Hid (Blk w2 x #[.slice none 0 0, .slice none 0 0] 27) := by show Blk _ _ _ _; rw [hw2.out]; exact Kx.out.alloc _
  replace HR : Hid (IsRr w2 b r1) := by show IsRr _ _ _; rw [hw2.out]; exact Blk.alloc h1 _
  replace HP : Hid (Kept b w w2) := by show Kept _ _ _; rw [hw2.out]; exact HP.out.alloc _
  have HT : Hid (Tri b x c w1 w2) := by show Tri _ _ _ _ _; rw [hw2.out]; exact (Tri.refl _ _ _ _).alloc _
  have D1 := Lib.hid hd1
  have HNB := Lib.hid hnb
  clear h1 hk hsb hfb hd1 hnb
  go_upto_region 2 with fail
  rw [← hw2.out, ← hc.out]
  go_wp2_with fail
  refine (refreadrow_red b r1 1000 _ HR.out hs1 (by decide)).mono ?_; rintro e w3 ⟨ac, nc, kc, cl, r2, rfl, hnc, hsc, hfc, h3, hd2, hs2, hk⟩
  have hc2 : c < w2.heap.size := Kc.out.lt
  have HFC : Hid (∀ a, ac = some a → c < a.block) := fun a ha => by have := hfc a ha; omega
  replace Kx := Lib.hid (hk.blk Kx.out (by omega))
  replace Kc := Lib.hid (hk.blk Kc.out (by omega))
  replace HP := Lib.hid (HP.out.trans hk)
  replace HT := Lib.hid (HT.out.trans (Tri.ofKept hk))
  have cc0 : w3.cell? ⟨c, 0, none⟩ = some (.slice ab nb kb) := Kc.out.cell 0
  have cf0 : w3.frozen? ⟨c, 0, none⟩ = false := Kc.out.free 0
  have cc1 : w3.cell? ⟨c, 1, none⟩ = some (.slice none 0 0) := Kc.out.cell 1
  have cf1 : w3.frozen? ⟨c, 1, none⟩ = false := Kc.out.free 1
  obtain ⟨w4, hw4⟩ := nm (w3.setCell ⟨c, 1, none⟩ (.slice ac nc kc))
  have hwc : w.heap.size ≤ c := by rw [← hx.out]; omega
  replace Kx : Hid (Blk w4 x #[.slice none 0 0, .slice none 0 0] 27) := by show Blk _ _ _ _; rw [hw4.out]; exact Kx.out.setOther (by simp only; omega) _
  replace Kc : Hid (Blk w4 c #[.slice ab nb kb, .slice ac nc kc] 27) := by show Blk _ _ _ _; rw [hw4.out]; exact Kc.out.set 1 _
  replace HR : Hid (IsRr w4 b r2) := by show IsRr _ _ _; rw [hw4.out]; exact Blk.setOther h3 (by simp only; omega) _
  replace HP : Hid (Kept b w w4) := by show Kept _ _ _; rw [hw4.out]; exact HP.out.setNew hwc _
  replace HT : Hid (Tri b x c w1 w4) := by show Tri _ _ _ _ _; rw [hw4.out]; exact HT.out.set (.inr (.inr rfl)) _
  have HT2 : Hid (Tri b x c w3 w4) := by show Tri _ _ _ _ _; rw [hw4.out]; exact (Tri.refl _ _ _ _).set (p := ⟨c, 1, none⟩) (.inr (.inr rfl)) _
  have HNB2 : Hid (∀ a, ab = some a → 0 < bs.length → a.block ≠ b ∧ a.block ≠ x ∧ a.block ≠ c) := by
    show ∀ a, _
    intro a ha h0
    have h1 := HFB.out a ha
    have h2 := HLB.out a ha h0
    exact ⟨by omega, by omega, by omega⟩
  have HNC2 : Hid (∀ a, ac = some a → a.block ≠ b ∧ a.block ≠ x ∧ a.block ≠ c) := by
    show ∀ a, _
    intro a ha
    have h1 := HFC.out a ha
    exact ⟨by omega, by omega, by omega⟩
  have stay : ∀ w', Tri b x c w4 w' → SlP w' ab bs ∧ SlP w' ac cl := by
    intro w' ht
    refine ⟨?_, hsc.tri HNC2.out (HT2.out.trans ht)⟩
    rcases Nat.eq_zero_or_pos bs.length with h0 | h0
    · rw [List.length_eq_zero_iff.1 h0]; exact SlP.nil _ _
    · exact HSB.out.tri (fun a ha => HNB2.out a ha h0) (HT.out.trans ht)
  have STAY := Lib.hid stay
  have D2 := Lib.hid hd2
  have HNC := Lib.hid hnc
  have HSEQ : Hid (Red (fun p : List Dot2 × List Dot2 => RowP 1000 p.1 ∧ RowP 1000 p.2) (fun p => rowL dotL p.1 ++ rowL dotL p.2) r r2 (bs, cl)) := D1.out.seq D2.out ((tells_rowD (most := 1000) (by decide)).sub fun _ h => ⟨h.1, h.2.1⟩)
  have HIFF : Hid (∀ p : List Dot2 × List Dot2, ((RowP 1000 p.1 ∧ RowP 1000 p.2) ∧ CtxP p.1 p.2) ↔ CtxR p) := by
    show ∀ p : List Dot2 × List Dot2, _
    intro p
    refine ⟨fun h => ⟨⟨by have := h.1.1.1; omega, by have := h.1.2.1; omega⟩, h.2⟩, fun h => ⟨⟨⟨by have := h.1.1; omega, h.2.dots.1, h.2.asc1⟩, by have := h.1.2; omega, h.2.dots.2, h.2.asc2⟩, h.2⟩⟩
  have HTL : Hid (Tells (fun p : List Dot2 × List Dot2 => RowP 1000 p.1 ∧ RowP 1000 p.2) (fun p => rowL dotL p.1 ++ rowL dotL p.2)) :=
    ((tells_rowD (most := 1000) (by decide)).sub (Q := RowP 1000) fun _ h => ⟨h.1, h.2.1⟩).seq ((tells_rowD (most := 1000) (by decide)).sub (Q := RowP 1000) fun _ h => ⟨h.1, h.2.1⟩)
  have bad : ∀ w' r', r'.torn = true → r'.left.size ≤ 1000000 → (r2.torn = true ∨ ¬ CtxP bs cl) → IsRr w' b r' → Kept b w w' → RefCtxTells b r w (.returned (.agg #[.slice none 0 0, .slice none 0 0])) w' := by
    intro w' r' h1 h2 h3 h4 h5
    refine ⟨none, none, 0, 0, 0, 0, [], [], r', rfl, rfl, rfl, SlP.nil _ _, SlP.nil _ _, fun a h => (by cases h), fun a h => (by cases h), h4, ?_, h2, h5⟩
    exact (Red.fail (C := fun p : List Dot2 × List Dot2 => CtxP p.1 p.2) HSEQ.out HTL.out h3 h1).iff HIFF.out
  have BAD := Lib.hid bad
  have HWB : Hid (∀ a, ab = some a → w.heap.size ≤ a.block) := fun a ha => by have := HFB.out a ha; have := hwx.out; omega
  have HWC : Hid (∀ a, ac = some a → w.heap.size ≤ a.block) := fun a ha => by have := HFC.out a ha; omega
  clear h3 hk hsc hfc hd2 hnc stay bad HT HT2 HSB HLB HFB HFC HNB2 HNC2
  go_upto_region 3 with fail
  rw [← hw4.out]
  clear cc0 cc1 cf0 cf1
  obtain ⟨T, hT⟩ := nm r2.torn
  have t0 : w4.cell? ⟨b, 1, none⟩ = some (.bool T) := by rw [hT.out]; exact HR.out.cell 1
  have t1 : w4.frozen? ⟨b, 1, none⟩ = false := HR.out.free 1
  cases T
  rotate_left
  · have xb := Kx.out
    have xc0 : w4.cell? ⟨x, 0, none⟩ = some (.slice none 0 0) := xb.cell 0
    have xc1 : w4.cell? ⟨x, 1, none⟩ = some (.slice none 0 0) := xb.cell 1
    have xf0 := xb.free 0
    have xf1 := xb.free 1
    have hne : x ≠ b := by omega
    go_wp2_with fail
    refine bodyPost_ret (results_cell_row rfl _ _ x 27 #[.slice none 0 0, .slice none 0 0] (0, 0) _ rfl (((xb.setOther (a := ⟨b, 1, none⟩) (by simp only; omega) _).set 0 _).set 1 _) Tryz.underlying27 rfl infoCx) rfl ?_
    exact BAD.out _ ⟨r2.left, true⟩ rfl hs2 (.inl hT.out.symm) (Blk.setOther (Blk.setOther (HR.out.setTorn true) (by simp only; omega) _) (by simp only; omega) _) (((HP.out.set _ _).setNew hwx.out _).setNew hwx.out _)
  obtain ⟨i1, i2, i3⟩ := HSEQ.out.is hT.out.symm
  have HLN : Hid (bs.length ≤ 1000 ∧ cl.length ≤ 1000) := ⟨by have := i2.1.1; simp only at this; omega, by have := i2.2.1; simp only at this; omega⟩
  clear i1 i2 i3
  have hnb6 : nb ≤ 1000000 := by rw [← HNB.out]; have := HLN.out.1; omega
  have hnc6 : nc ≤ 1000000 := by rw [← HNC.out]; have := HLN.out.2; omega
  obtain ⟨B, hB, hBf, hBt⟩ := boolOf (CtxP bs cl)
  obtain ⟨E, hE⟩ := nm (errno B)
  obtain ⟨s1, s2⟩ := STAY.out w4 (Tri.refl _ _ _ _)
  have cc0 : w4.cell? ⟨c, 0, none⟩ = some (.slice ab nb kb) := Kc.out.cell 0
  have cc1 : w4.cell? ⟨c, 1, none⟩ = some (.slice ac nc kc) := Kc.out.cell 1
  go_wp2_with fail
  refine (refctxcheck_any ab ac nb kb nc kc bs cl HNB hnb6 HNC hnc6 B hB E hE _ s1 s2).mono ?_; rintro e w6 ⟨rfl, hB6⟩
  have hx4 := Kx.out.lt
  have hc4 := Kc.out.lt
  have hb4 := HR.out.lt
  replace Kx := Lib.hid (Kx.out.below hB6 hx4)
  replace Kc := Lib.hid (Kc.out.below hB6 hc4)
  replace HR : Hid (IsRr w6 b r2) := Blk.below HR.out hB6 hb4
  replace HP := Lib.hid (HP.out.trans (Kept.ofBelow hB6))
  have HT6 : Hid (Tri b x c w4 w6) := Tri.ofBelow hB6
  clear cc0 cc1 s1 s2 hB6 t0 t1
  have hE2 := hE.out
  have t0 : w6.cell? ⟨b, 1, none⟩ = some (.bool false) := by rw [hT.out]; exact HR.out.cell 1
  have t1 : w6.frozen? ⟨b, 1, none⟩ = false := HR.out.free 1
  have xb := Kx.out
  have xc0 : w6.cell? ⟨x, 0, none⟩ = some (.slice none 0 0) := xb.cell 0
  have xc1 : w6.cell? ⟨x, 1, none⟩ = some (.slice none 0 0) := xb.cell 1
  have xf0 := xb.free 0
  have xf1 := xb.free 1
  have hne : x ≠ b := by omega
  cases B
  · obtain rfl : E = 1 := hE2
    go_wp2_with fail
    refine bodyPost_ret (results_cell_row rfl _ _ x 27 #[.slice none 0 0, .slice none 0 0] (0, 0) _ rfl (((xb.setOther (a := ⟨b, 1, none⟩) (by simp only; omega) _).set 0 _).set 1 _) Tryz.underlying27 rfl infoCx) rfl ?_
    exact BAD.out _ ⟨r2.left, true⟩ rfl hs2 (.inr (hBf.out (by first | exact rfl | exact trivial))) (Blk.setOther (Blk.setOther (HR.out.setTorn true) (by simp only; omega) _) (by simp only; omega) _) (((HP.out.set _ _).setNew hwx.out _).setNew hwx.out _)
  · obtain rfl : E = 0 := hE2
    have cc0 : w6.cell? ⟨c, 0, none⟩ = some (.slice ab nb kb) := Kc.out.cell 0
    have cc1 : w6.cell? ⟨c, 1, none⟩ = some (.slice ac nc kc) := Kc.out.cell 1
    go_wp2_with fail
    refine bodyPost_ret (results_cell_row rfl _ _ x 27 #[.slice ab nb kb, .slice ac nc kc] (0, 0) _ rfl ((xb.set 0 _).set 1 _) Tryz.underlying27 rfl infoCx) rfl ?_
    have h7 := STAY.out _ ((HT6.out.set (p := ⟨x, 0, none⟩) (.inr (.inl rfl)) (.slice ab nb kb)).set (p := ⟨x, 1, none⟩) (.inr (.inl rfl)) (.slice ac nc kc))
    refine ⟨ab, ac, nb, kb, nc, kc, bs, cl, r2, rfl, HNB.out, HNC.out, h7.1, h7.2, HWB.out, HWC.out, (Blk.setOther (Blk.setOther HR.out (by simp only; omega) _) (by simp only; omega) _), ?_, hs2, ((HP.out.setNew hwx.out _).setNew hwx.out _)⟩
    exact (Red.pass (C := fun p : List Dot2 × List Dot2 => CtxP p.1 p.2) HSEQ.out fun _ => hBt.out (by first | exact rfl | exact trivial)).iff HIFF.out
end Go.Proofs.YtfpjdmplepepjaaGreat
