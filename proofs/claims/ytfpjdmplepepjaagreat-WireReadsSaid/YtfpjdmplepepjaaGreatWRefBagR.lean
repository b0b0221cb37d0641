/- Bags are read: the document's. -/
import Derived.Test.YtfpjdmplepepjaaGreatWRefCtxR
import Derived.Test.YtfpjdmplepepjaaGreatK9
import Derived.Test.YtfpjdmplepepjaaGreatK5
namespace Go.Proofs.YtfpjdmplepepjaaGreat
open Go.RowKit

/-- What the document's Read tells. -/
def RefBagTells (b : Nat) (r : Rd) (w : World) (e : Ending) (w' : World) : Prop :=
  ∃ am ab ac nl kl nb kb nc kc live bs cl r', e = .returned (.agg #[.slice am nl kl, .slice ab nb kb, .slice ac nc kc]) ∧ (live.length = nl ∧ bs.length = nb ∧ cl.length = nc) ∧ SlE eMsg 5 w' am live ∧ SlP w' ab bs ∧ SlP w' ac cl ∧ (∀ a, am = some a → w.heap.size ≤ a.block) ∧ (∀ a, ab = some a → w.heap.size ≤ a.block) ∧ (∀ a, ac = some a → w.heap.size ≤ a.block) ∧ IsRr w' b r' ∧ Red BagR bagZ r r' ((bs, cl), live) ∧ r'.left.size ≤ 1000000 ∧ Kept b w w'


set_option maxRecDepth 100000 in
set_option maxHeartbeats 8000000 in
theorem refrbag_any (b : Nat) (r : Rd) (w : World) (hr : IsRr w b r) (hs : r.left.size ≤ 1000000) :
    Calls Tryz.prog 21 #[.pointer (some ⟨b, 0, none⟩)] w (RefBagTells b r w) := by
  obtain ⟨x, hx⟩ := nm w.heap.size
  have hbx : b < x := by rw [hx.out]; exact hr.lt
  obtain ⟨w0, hw0⟩ := nm (w.alloc (.cells #[.slice none 0 0, .slice none 0 0, .slice none 0 0] 29))
  have Kx : Hid (Blk w0 x #[.slice none 0 0, .slice none 0 0, .slice none 0 0] 29) := by show Blk _ _ _ _; rw [hw0.out, hx.out]; exact Blk.new _ _ _
  have HR : Hid (IsRr w0 b r) := by show IsRr _ _ _; rw [hw0.out]; exact Blk.alloc hr _
  have HP : Hid (Kept b w w0) := by show Kept _ _ _; rw [hw0.out]; exact (Kept.refl _ _).alloc _
  have hwx : Hid (w.heap.size ≤ x) := Nat.le_of_eq hx.out.symm
  clear hr
  go_enter Tryz.func21, Tryz.ntmps21
  go_upto_region 1 with fail
  rw [← hw0.out, ← hx.out]
  go_wp2_with fail
  refine (refrctx_any b r _ HR.out hs).mono ?_; rintro e w1 ⟨ab, ac, nb, kb, nc, kc, bs, cl, r1, rfl, hnb, hnc, hsb, hsc, hfb, hfc, h1, hd1, hs1, hk⟩
  have hx0 : x < w0.heap.size := Kx.out.lt
  have HFB : Hid (∀ a, ab = some a → x < a.block) := fun a ha => by have := hfb a ha; omega
  have HFC : Hid (∀ a, ac = some a → x < a.block) := fun a ha => by have := hfc a ha; omega
  replace Kx := Lib.hid (hk.blk Kx.out (by omega))
  replace HP := Lib.hid (HP.out.trans hk)
  obtain ⟨c, hc⟩ := nm w1.heap.size
  have hbc : b < c := by rw [hc.out]; exact h1.lt
  have hxc : x < c := by rw [hc.out]; exact Kx.out.lt
  have HSB : Hid (SlP w1 ab bs) := hsb
  have HSC : Hid (SlP w1 ac cl) := hsc
  have HLB : Hid (∀ a, ab = some a → 0 < bs.length → a.block < c) := by
    show ∀ a, _
    intro a ha h0
    obtain ⟨b', off', e, hl⟩ := HSB.out.base h0
    rw [ha] at e; cases e; rw [hc.out]; exact hl
  have HLC : Hid (∀ a, ac = some a → 0 < cl.length → a.block < c) := by
    show ∀ a, _
    intro a ha h0
    obtain ⟨b', off', e, hl⟩ := HSC.out.base h0
    rw [ha] at e; cases e; rw [hc.out]; exact hl
  obtain ⟨w2, hw2⟩ := nm (w1.alloc (.cells #[.slice none 0 0, .slice ab nb kb, .slice ac nc kc] 29))
  have Kc : Hid (Blk w2 c #[.slice none 0 0, .slice ab nb kb, .slice ac nc kc] 29) := by show Blk _ _ _ _; rw [hw2.out, hc.out]; exact Blk.new _ _ _
  replace Kx : Hid (Blk w2 x #[.slice none 0 0, .slice none 0 0, .slice none 0 0] 29) := by show Blk _ _ _ _; rw [hw2.out]; exact Kx.out.alloc _
  replace HR : Hid (IsRr w2 b r1) := by show IsRr _ _ _; rw [hw2.out]; exact Blk.alloc h1 _
  replace HP : Hid (Kept b w w2) := by show Kept _ _ _; rw [hw2.out]; exact HP.out.alloc _
  obtain ⟨B0, hB0⟩ := nm w2.heap.size
  have hcB : c < B0 := by rw [hB0.out, hw2.out, hc.out]; simp
  have hwc : w.heap.size ≤ c := by rw [← hx.out]; omega
  have stay : ∀ w', Tri b x c w2 w' → SlP w' ab bs ∧ SlP w' ac cl := by
    intro w' ht
    have ht1 : Tri b x c w1 w' := by
      have : Tri b x c w1 w2 := by rw [hw2.out]; exact (Tri.refl _ _ _ _).alloc _
      exact this.trans ht
    constructor
    · rcases Nat.eq_zero_or_pos bs.length with h0 | h0
      · rw [List.length_eq_zero_iff.1 h0]; exact SlP.nil _ _
      · exact HSB.out.tri (fun a ha => by have h2 := HFB.out a ha; have h3 := HLB.out a ha h0; exact ⟨by omega, by omega, by omega⟩) ht1
    · rcases Nat.eq_zero_or_pos cl.length with h0 | h0
      · rw [List.length_eq_zero_iff.1 h0]; exact SlP.nil _ _
      · exact HSC.out.tri (fun a ha => by have h2 := HFC.out a ha; have h3 := HLC.out a ha h0; exact ⟨by omega, by omega, by omega⟩) ht1
  have STAY := Lib.hid stay
  have D1 := Lib.hid hd1
  have HNB := Lib.hid hnb
  have HNC := Lib.hid hnc
  have HWB : Hid (∀ a, ab = some a → w.heap.size ≤ a.block) := fun a ha => by have := HFB.out a ha; have := hwx.out; omega
  have HWC : Hid (∀ a, ac = some a → w.heap.size ≤ a.block) := fun a ha => by have := HFC.out a ha; have := hwx.out; omega
  obtain ⟨i1, i2, i3⟩ := r1.int_lt 1000
  have hq0 := red_int r1 1000 (by decide)
  obtain ⟨q, hq⟩ := nm (r1.int 1000).1
  obtain ⟨n, hn⟩ := nm (r1.int 1000).2
  rw [← hq.out] at i2 hq0
  rw [← hn.out] at i1 i3 hq0
  have hnm : n ≤ 1000 := by omega
  have hqs : q.left.size ≤ 1000000 := by omega
  have HQ := Lib.hid hq0
  have bad : ∀ w' r' rr (zs : List Msg5), Red MsgsR (rowL msgL) r1 rr zs → r'.torn = true → r'.left.size ≤ 1000000 → (rr.torn = true ∨ ¬ BagP zs bs cl) → IsRr w' b r' → Kept b w w' → RefBagTells b r w (.returned (.agg #[.slice none 0 0, .slice none 0 0, .slice none 0 0])) w' := by
    intro w' r' rr zs hred h1 h2 h3 h4 h5
    refine ⟨none, none, none, 0, 0, 0, 0, 0, 0, [], [], [], r', rfl, ⟨rfl, rfl, rfl⟩, SlE.nil _ _ _ _, SlP.nil _ _, SlP.nil _ _, fun a h => (by cases h), fun a h => (by cases h), fun a h => (by cases h), h4, ?_, h2, h5⟩
    have hall := D1.out.seq hred tells_ctxR
    exact (Red.fail (C := fun p : Bag3 => BagP p.2 p.1.1 p.1.2) hall (tells_ctxR.seq tells_msgsR) h3 h1).iff bagR_iff
  have BAD := Lib.hid bad
  clear h1 hk hsb hsc hfb hfc hd1 hnb hnc stay bad i1 i2 i3 hq0 HLB HLC HFB HFC
  go_upto_region 2 with fail
  rw [← hw2.out, ← hc.out]
  go_wp2_with fail
  refine (refrint_any b r1 1000 _ HR.out (by omega) (by decide)).mono ?_; rintro e w3 ⟨rfl, h3, hk⟩
  rw [← hq.out] at h3
  rw [← hn.out]
  replace HR := Lib.hid h3
  replace Kx := Lib.hid (hk.blk Kx.out (by omega))
  replace Kc := Lib.hid (hk.blk Kc.out (by omega))
  replace HP := Lib.hid (HP.out.trans hk)
  have HT : Hid (Tri b x c w2 w3) := Tri.ofKept hk
  clear h3 hk
  go_wp2_with fail
  go_loopw [5] (fun i wr => ∃ (k : Nat) (ri : Rd) (zs : List Msg5) (v : Value), k ≤ n ∧ i = .int .i64 (k : Int) ∧ zs.length = k ∧ Hid (IsRr wr b ri) ∧ Hid (Blk wr c #[v, .slice ab nb kb, .slice ac nc kc] 29) ∧ Hid (Blk wr x #[.slice none 0 0, .slice none 0 0, .slice none 0 0] 29) ∧ OwnE eMsg 5 wr B0 84 v zs ∧ Hid (Kept b w wr) ∧ Hid (Tri b x c w2 wr) ∧ ri.left.size ≤ 1000000 ∧ Hid (RedN msgR msgL n q k ri zs)) (fun i _ => n - (intOf i).toNat)
  case atStart => exact ⟨0, q, [], _, by omega, rfl, rfl, HR, Kc, Kx, OwnE.nil _ _ _, HP, HT, hqs, RedN.zero q⟩
  case round =>
    clear HR Kx Kc HP HT
    obtain ⟨k, ri, zs, v, hkn, rfl, hz, HR, Kc, Kx, hown, HP, HT, hsz, hI⟩ := hrel
    obtain ⟨T, hT⟩ := nm ri.torn
    have t0 : wr.cell? ⟨b, 1, none⟩ = some (.bool T) := by rw [hT.out]; exact HR.out.cell 1
    have t1 : wr.frozen? ⟨b, 1, none⟩ = false := HR.out.free 1
    cases T
    rotate_left
    · have htt : ri.torn = true := hT.out.symm
      by_cases hlt : k < n
      · have xb := Kx.out
        have xc0 : wr.cell? ⟨x, 0, none⟩ = some (.slice none 0 0) := xb.cell 0
        have xc1 : wr.cell? ⟨x, 1, none⟩ = some (.slice none 0 0) := xb.cell 1
        have xc2 : wr.cell? ⟨x, 2, none⟩ = some (.slice none 0 0) := xb.cell 2
        have xf0 := xb.free 0
        have xf1 := xb.free 1
        have xf2 := xb.free 2
        have hne : x ≠ b := by omega
        go_wp2_with fail
        refine bodyPost_ret (results_cell_row rfl _ _ x 29 #[.slice none 0 0, .slice none 0 0, .slice none 0 0] (0, 0) _ rfl ((((xb.setOther (a := ⟨b, 1, none⟩) (by simp only; omega) _).set 0 _).set 1 _).set 2 _) Tryz.underlying29 rfl infoBg) rfl ?_
        exact BAD.out _ ⟨ri.left, true⟩ ri [] (hI.out.stop HQ.out (by decide) htt htt) rfl hsz (.inl htt) (Blk.setOther (Blk.setOther (Blk.setOther (HR.out.setTorn true) (by simp only; omega) _) (by simp only; omega) _) (by simp only; omega) _) ((((HP.out.set _ _).setNew hwx.out _).setNew hwx.out _).setNew hwx.out _)
      · have xb := Kx.out
        have xc0 : wr.cell? ⟨x, 0, none⟩ = some (.slice none 0 0) := xb.cell 0
        have xc1 : wr.cell? ⟨x, 1, none⟩ = some (.slice none 0 0) := xb.cell 1
        have xc2 : wr.cell? ⟨x, 2, none⟩ = some (.slice none 0 0) := xb.cell 2
        have xf0 := xb.free 0
        have xf1 := xb.free 1
        have xf2 := xb.free 2
        have hne : x ≠ b := by omega
        go_wp2_with fail
        refine bodyPost_ret (results_cell_row rfl _ _ x 29 #[.slice none 0 0, .slice none 0 0, .slice none 0 0] (0, 0) _ rfl ((((xb.setOther (a := ⟨b, 1, none⟩) (by simp only; omega) _).set 0 _).set 1 _).set 2 _) Tryz.underlying29 rfl infoBg) rfl ?_
        exact BAD.out _ ⟨ri.left, true⟩ ri [] (hI.out.stop HQ.out (by decide) htt htt) rfl hsz (.inl htt) (Blk.setOther (Blk.setOther (Blk.setOther (HR.out.setTorn true) (by simp only; omega) _) (by simp only; omega) _) (by simp only; omega) _) ((((HP.out.set _ _).setNew hwx.out _).setNew hwx.out _).setNew hwx.out _)
    by_cases hlt : k < n
    · go_wp2_with fail
      refine (refrdot_red b ri _ HR.out hsz).mono ?_; rintro e w4 ⟨p, pn, q0, rfl, h4, hred0, z0, hk4⟩
      have hbB : b < B0 := by omega
      have HO : Hid (OwnE eMsg 5 w4 B0 84 v zs) := hown.kept hk4 hbB
      replace HR := Lib.hid h4
      replace Kx := Lib.hid (hk4.blk Kx.out (by omega))
      replace Kc := Lib.hid (hk4.blk Kc.out (by omega))
      replace HP := Lib.hid (HP.out.trans hk4)
      replace HT := Lib.hid (HT.out.trans (Tri.ofKept hk4))
      have R0 := Lib.hid hred0
      clear hown h4 hk4 hred0 t0 t1
      obtain ⟨d, hd⟩ := nm w4.heap.size
      have hbd : b < d := by rw [hd.out]; exact HR.out.lt
      have hxd : x < d := by rw [hd.out]; exact Kx.out.lt
      have hcd : c < d := by rw [hd.out]; exact Kc.out.lt
      have hwd : w.heap.size ≤ d := by rw [hd.out]; exact HP.out.size
      have hBd : w2.heap.size ≤ d := by rw [hd.out]; exact HT.out.size
      have HD : Hid (∀ g, v.ownBlock = some g → g < d) := by show ∀ g, _; rw [hd.out]; exact fun g hg => (World.ownsRow.lt HO.out g hg).2
      obtain ⟨w5, hw5⟩ := nm (w4.alloc (.cells #[.int .i64 p, .int .i64 pn, .string ⟨#[]⟩, .string ⟨#[]⟩, .int .i64 0] 84))
      have Kd : Hid (Blk w5 d #[.int .i64 p, .int .i64 pn, .string ⟨#[]⟩, .string ⟨#[]⟩, .int .i64 0] 84) := by show Blk _ _ _ _; rw [hw5.out, hd.out]; exact Blk.new _ _ _
      replace HR : Hid (IsRr w5 b q0) := by show IsRr _ _ _; rw [hw5.out]; exact Blk.alloc HR.out _
      replace Kx : Hid (Blk w5 x #[.slice none 0 0, .slice none 0 0, .slice none 0 0] 29) := by show Blk _ _ _ _; rw [hw5.out]; exact Kx.out.alloc _
      replace Kc : Hid (Blk w5 c #[v, .slice ab nb kb, .slice ac nc kc] 29) := by show Blk _ _ _ _; rw [hw5.out]; exact Kc.out.alloc _
      replace HO : Hid (OwnE eMsg 5 w5 B0 84 v zs) := by show OwnE _ _ _ _ _ _ _; rw [hw5.out]; exact HO.out.alloc _
      replace HP : Hid (Kept b w w5) := by show Kept _ _ _; rw [hw5.out]; exact HP.out.alloc _
      replace HT : Hid (Tri b x c w2 w5) := by show Tri _ _ _ _ _; rw [hw5.out]; exact HT.out.alloc _
      go_upto_region 7 with fail
      rw [← hw5.out, ← hd.out]
      clear hw5
      have r2 := red_text q0 1000 (by decide)
      have z2 := q0.text_sz 1000
      obtain ⟨q1, hq1⟩ := nm (q0.text 1000).1
      obtain ⟨qu, hqu⟩ := nm (q0.text 1000).2
      rw [← hq1.out, ← hqu.out] at r2
      rw [← hq1.out] at z2
      have R2 := Lib.hid r2
      clear r2
      go_wp2_with fail
      refine (refrtext_any b q0 1000 _ HR.out (by omega) (by decide)).mono ?_; rintro e w6 ⟨rfl, h6, hk6⟩
      rw [← hq1.out] at h6
      rw [← hqu.out]
      replace Kd := Lib.hid (hk6.blk Kd.out (by omega))
      replace Kx := Lib.hid (hk6.blk Kx.out (by omega))
      replace Kc := Lib.hid (hk6.blk Kc.out (by omega))
      replace HO := Lib.hid (HO.out.kept hk6 hbB)
      replace HP := Lib.hid (HP.out.trans hk6)
      replace HT := Lib.hid (HT.out.trans (Tri.ofKept hk6))
      have dc : w6.cell? ⟨d, 2, none⟩ = some (.string ⟨#[]⟩) := Kd.out.cell 2
      have df : w6.frozen? ⟨d, 2, none⟩ = false := Kd.out.free 2
      obtain ⟨w7, hw7⟩ := nm (w6.setCell ⟨d, 2, none⟩ (.string qu))
      replace Kd : Hid (Blk w7 d #[.int .i64 p, .int .i64 pn, .string qu, .string ⟨#[]⟩, .int .i64 0] 84) := by show Blk _ _ _ _; rw [hw7.out]; exact Kd.out.set 2 _
      replace Kx : Hid (Blk w7 x #[.slice none 0 0, .slice none 0 0, .slice none 0 0] 29) := by show Blk _ _ _ _; rw [hw7.out]; exact Kx.out.setOther (by simp only; omega) _
      replace Kc : Hid (Blk w7 c #[v, .slice ab nb kb, .slice ac nc kc] 29) := by show Blk _ _ _ _; rw [hw7.out]; exact Kc.out.setOther (by simp only; omega) _
      have HRn : Hid (IsRr w7 b q1) := by show IsRr _ _ _; rw [hw7.out]; exact Blk.setOther h6 (by simp only; omega) _
      replace HO : Hid (OwnE eMsg 5 w7 B0 84 v zs) := by show OwnE _ _ _ _ _ _ _; rw [hw7.out]; exact HO.out.setAt HD.out
      replace HP : Hid (Kept b w w7) := by show Kept _ _ _; rw [hw7.out]; exact HP.out.setNew hwd _
      replace HT : Hid (Tri b x c w2 w7) := by show Tri _ _ _ _ _; rw [hw7.out]; exact HT.out.setNew hBd _
      clear hk6 h6 HR
      have HR := HRn
      clear HRn
      go_upto_region 8 with fail
      rw [← hw7.out]
      clear dc df hw7
      have r3 := red_text q1 1000 (by decide)
      have z3 := q1.text_sz 1000
      obtain ⟨q2, hq2⟩ := nm (q1.text 1000).1
      obtain ⟨bo, hbo⟩ := nm (q1.text 1000).2
      rw [← hq2.out, ← hbo.out] at r3
      rw [← hq2.out] at z3
      have R3 := Lib.hid r3
      clear r3
      go_wp2_with fail
      refine (refrtext_any b q1 1000 _ HR.out (by omega) (by decide)).mono ?_; rintro e w6 ⟨rfl, h6, hk6⟩
      rw [← hq2.out] at h6
      rw [← hbo.out]
      replace Kd := Lib.hid (hk6.blk Kd.out (by omega))
      replace Kx := Lib.hid (hk6.blk Kx.out (by omega))
      replace Kc := Lib.hid (hk6.blk Kc.out (by omega))
      replace HO := Lib.hid (HO.out.kept hk6 hbB)
      replace HP := Lib.hid (HP.out.trans hk6)
      replace HT := Lib.hid (HT.out.trans (Tri.ofKept hk6))
      have dc : w6.cell? ⟨d, 3, none⟩ = some (.string ⟨#[]⟩) := Kd.out.cell 3
      have df : w6.frozen? ⟨d, 3, none⟩ = false := Kd.out.free 3
      obtain ⟨w7, hw7⟩ := nm (w6.setCell ⟨d, 3, none⟩ (.string bo))
      replace Kd : Hid (Blk w7 d #[.int .i64 p, .int .i64 pn, .string qu, .string bo, .int .i64 0] 84) := by show Blk _ _ _ _; rw [hw7.out]; exact Kd.out.set 3 _
      replace Kx : Hid (Blk w7 x #[.slice none 0 0, .slice none 0 0, .slice none 0 0] 29) := by show Blk _ _ _ _; rw [hw7.out]; exact Kx.out.setOther (by simp only; omega) _
      replace Kc : Hid (Blk w7 c #[v, .slice ab nb kb, .slice ac nc kc] 29) := by show Blk _ _ _ _; rw [hw7.out]; exact Kc.out.setOther (by simp only; omega) _
      have HRn : Hid (IsRr w7 b q2) := by show IsRr _ _ _; rw [hw7.out]; exact Blk.setOther h6 (by simp only; omega) _
      replace HO : Hid (OwnE eMsg 5 w7 B0 84 v zs) := by show OwnE _ _ _ _ _ _ _; rw [hw7.out]; exact HO.out.setAt HD.out
      replace HP : Hid (Kept b w w7) := by show Kept _ _ _; rw [hw7.out]; exact HP.out.setNew hwd _
      replace HT : Hid (Tri b x c w2 w7) := by show Tri _ _ _ _ _; rw [hw7.out]; exact HT.out.setNew hBd _
      clear hk6 h6 HR
      have HR := HRn
      clear HRn
      go_upto_region 9 with fail
      rw [← hw7.out]
      clear dc df hw7
      have r4 := red_int q2 1048576 (by decide)
      have z4 := q2.int_sz 1048576
      obtain ⟨q3, hq3⟩ := nm (q2.int 1048576).1
      obtain ⟨ct, hct⟩ := nm (((q2.int 1048576).2 : Nat) : Int)
      rw [← hq3.out, ← hct.out] at r4
      rw [← hq3.out] at z4
      have R4 := Lib.hid r4
      clear r4
      go_wp2_with fail
      refine (refrint_any b q2 1048576 _ HR.out (by omega) (by decide)).mono ?_; rintro e w6 ⟨rfl, h6, hk6⟩
      rw [← hq3.out] at h6
      rw [← hct.out]
      replace Kd := Lib.hid (hk6.blk Kd.out (by omega))
      replace Kx := Lib.hid (hk6.blk Kx.out (by omega))
      replace Kc := Lib.hid (hk6.blk Kc.out (by omega))
      replace HO := Lib.hid (HO.out.kept hk6 hbB)
      replace HP := Lib.hid (HP.out.trans hk6)
      replace HT := Lib.hid (HT.out.trans (Tri.ofKept hk6))
      have dc : w6.cell? ⟨d, 4, none⟩ = some (.int .i64 0) := Kd.out.cell 4
      have df : w6.frozen? ⟨d, 4, none⟩ = false := Kd.out.free 4
      obtain ⟨w7, hw7⟩ := nm (w6.setCell ⟨d, 4, none⟩ (.int .i64 ct))
      replace Kd : Hid (Blk w7 d #[.int .i64 p, .int .i64 pn, .string qu, .string bo, .int .i64 ct] 84) := by show Blk _ _ _ _; rw [hw7.out]; exact Kd.out.set 4 _
      replace Kx : Hid (Blk w7 x #[.slice none 0 0, .slice none 0 0, .slice none 0 0] 29) := by show Blk _ _ _ _; rw [hw7.out]; exact Kx.out.setOther (by simp only; omega) _
      replace Kc : Hid (Blk w7 c #[v, .slice ab nb kb, .slice ac nc kc] 29) := by show Blk _ _ _ _; rw [hw7.out]; exact Kc.out.setOther (by simp only; omega) _
      have HRn : Hid (IsRr w7 b q3) := by show IsRr _ _ _; rw [hw7.out]; exact Blk.setOther h6 (by simp only; omega) _
      replace HO : Hid (OwnE eMsg 5 w7 B0 84 v zs) := by show OwnE _ _ _ _ _ _ _; rw [hw7.out]; exact HO.out.setAt HD.out
      replace HP : Hid (Kept b w w7) := by show Kept _ _ _; rw [hw7.out]; exact HP.out.setNew hwd _
      replace HT : Hid (Tri b x c w2 w7) := by show Tri _ _ _ _ _; rw [hw7.out]; exact HT.out.setNew hBd _
      clear hk6 h6 HR
      have HR := HRn
      clear HRn
      go_upto_region 10 with fail
      rw [← hw7.out]
      clear dc df hw7
      have HN : Hid (RedN msgR msgL n q (k + 1) q3 (zs ++ [Msg5.mk p pn qu bo ct])) := hI.out.next tells_msgR hlt (msg_red R0.out R2.out R3.out R4.out)
      clear hI R0 R2 R3 R4
      have hsz3 : q3.left.size ≤ 1000000 := by omega
      have hB7 : B0 ≤ w7.heap.size := by rw [hB0.out]; exact HT.out.size
      have y0 : w7.cell? ⟨d, 0, none⟩ = some (.int .i64 p) := Kd.out.cell 0
      have y1 : w7.cell? ⟨d, 1, none⟩ = some (.int .i64 pn) := Kd.out.cell 1
      have y2 : w7.cell? ⟨d, 2, none⟩ = some (.string qu) := Kd.out.cell 2
      have y3 : w7.cell? ⟨d, 3, none⟩ = some (.string bo) := Kd.out.cell 3
      have y4 : w7.cell? ⟨d, 4, none⟩ = some (.int .i64 ct) := Kd.out.cell 4
      have e0 : w7.cell? ⟨c, 0, none⟩ = some v := Kc.out.cell 0
      go_wp2_with (at_builtin; refine app_E encMsg Tryz.underlying24 infoMsg rfl (by decide) rfl _ _ rfl B0 _ zs rfl (HO.out.alloc _) (some ⟨w7.heap.size, 0, none⟩) 1 1 [Msg5.mk p pn qu bo ct] rfl rfl (fun h => by cases h) (SlE.ofBlk encMsg (Blk.new w7 _ _)) (by omega) (Nat.le_trans hB7 (by simp)) ?_)
      intro v' w8 hown8 hgrow
      obtain ⟨ao2, len2, cap2, rfl⟩ : ∃ a l c, v' = .slice a l c := by
        obtain ⟨a, c, e, _⟩ := hown8.sl encMsg
        exact ⟨a, _, c, e⟩
      have HR8 : Hid (IsRr w8 b q3) := OwnE.blk (HO.out.alloc _) (Blk.alloc HR.out _) hbB hgrow
      have Kc8 : Hid (Blk w8 c #[v, .slice ab nb kb, .slice ac nc kc] 29) := OwnE.blk (HO.out.alloc _) (Blk.alloc Kc.out _) (by omega) hgrow
      have Kx8 : Hid (Blk w8 x #[.slice none 0 0, .slice none 0 0, .slice none 0 0] 29) := OwnE.blk (HO.out.alloc _) (Blk.alloc Kx.out _) (by omega) hgrow
      have HP8 : Hid (Kept b w w8) := OwnE.grownK (HO.out.alloc _) (HP.out.alloc _) (by omega) hgrow
      have HT8 : Hid (Tri b x c w2 w8) := OwnE.tri (HO.out.alloc _) (HT.out.alloc _) (Nat.le_of_eq hB0.out.symm) hgrow
      clear hgrow HR Kx Kc HO HP HT Kd HD y0 y1 y2 y3 y4 e0
      have e0 : w8.cell? ⟨c, 0, none⟩ = some v := Kc8.out.cell 0
      have ef : w8.frozen? ⟨c, 0, none⟩ = false := Kc8.out.free 0
      obtain ⟨w9, hw9⟩ := nm (w8.setCell ⟨c, 0, none⟩ (.slice ao2 len2 cap2))
      have Kc : Hid (Blk w9 c #[.slice ao2 len2 cap2, .slice ab nb kb, .slice ac nc kc] 29) := by show Blk _ _ _ _; rw [hw9.out]; exact Kc8.out.set 0 _
      have Kx : Hid (Blk w9 x #[.slice none 0 0, .slice none 0 0, .slice none 0 0] 29) := by show Blk _ _ _ _; rw [hw9.out]; exact Kx8.out.setOther (by simp only; omega) _
      have HR : Hid (IsRr w9 b q3) := by show IsRr _ _ _; rw [hw9.out]; exact Blk.setOther HR8.out (by simp only; omega) _
      have HO : Hid (OwnE eMsg 5 w9 B0 84 (.slice ao2 len2 cap2) (zs ++ [Msg5.mk p pn qu bo ct])) := by show OwnE _ _ _ _ _ _ _; rw [hw9.out]; exact OwnE.kept (b := c) (base := B0) hown8 ((Kept.refl c w8).set 0 _) (by omega)
      have HP : Hid (Kept b w w9) := by show Kept _ _ _; rw [hw9.out]; exact HP8.out.setNew hwc _
      have HT : Hid (Tri b x c w2 w9) := by show Tri _ _ _ _ _; rw [hw9.out]; exact HT8.out.set (p := ⟨c, 0, none⟩) (.inr (.inr rfl)) _
      clear HR8 Kc8 Kx8 HP8 HT8 hown8
      go_wp2_with fail
      rw [← hw9.out]
      go_roundw
      case rel => exact ⟨k + 1, q3, zs ++ [Msg5.mk p pn qu bo ct], _, by omega, by go_num, by simp [hz], HR, Kc, Kx, HO.out, HP, HT, hsz3, HN⟩
      case measure => simp [intOf]; omega
    · obtain rfl : k = n := by omega
      have hall : Red MsgsR (rowL msgL) r1 ri zs := hI.out.red HQ.out (by decide)
      have HALL := Lib.hid hall
      clear hI HQ hall
      obtain ⟨am, kl, rfl, _, _, hsl, _, hab⟩ := hown.sl encMsg
      have HSL := Lib.hid hsl
      have HZ : Hid (zs.length = k) := hz
      have HWA : Hid (∀ a, am = some a → w.heap.size ≤ a.block) := fun a ha => by have := hab a ha; omega
      have HAB := Lib.hid hab
      clear hown hsl hab
      rw [hz] at Kc
      clear hz
      obtain ⟨j1, j2, j3⟩ := D1.out.is (HALL.out.is hT.out.symm).1
      have hln1 : bs.length ≤ 1000 := j2.1.1
      have hln2 : cl.length ≤ 1000 := j2.1.2
      clear j1 j2 j3
      have hnb6 : nb ≤ 1000000 := by rw [← HNB.out]; omega
      have hnc6 : nc ≤ 1000000 := by rw [← HNC.out]; omega
      clear hln1 hln2
      obtain ⟨B, hB, hBf, hBt⟩ := boolOf (BagP zs bs cl)
      obtain ⟨E, hE⟩ := nm (errno B)
      obtain ⟨s1, s2⟩ := STAY.out _ HT.out
      have cc0 : wr.cell? ⟨c, 0, none⟩ = some (.slice am k kl) := Kc.out.cell 0
      have cc1 : wr.cell? ⟨c, 1, none⟩ = some (.slice ab nb kb) := Kc.out.cell 1
      have cc2 : wr.cell? ⟨c, 2, none⟩ = some (.slice ac nc kc) := Kc.out.cell 2
      go_wp2_with fail
      refine (refbagcheck_any am ab ac k kl nb kb nc kc zs bs cl HZ (by omega) HNB hnb6 HNC hnc6 B hB E hE _ HSL.out s1 s2).mono ?_; rintro e w6 ⟨rfl, hB6⟩
      have hxr := Kx.out.lt
      have hcr := Kc.out.lt
      have hbr := HR.out.lt
      replace Kx := Lib.hid (Kx.out.below hB6 hxr)
      replace Kc := Lib.hid (Kc.out.below hB6 hcr)
      replace HR : Hid (IsRr w6 b ri) := Blk.below HR.out hB6 hbr
      replace HP := Lib.hid (HP.out.trans (Kept.ofBelow hB6))
      replace HT := Lib.hid (HT.out.trans (Tri.ofBelow hB6))
      replace HSL := Lib.hid (HSL.out.below hB6)
      clear cc0 cc1 cc2 s1 s2 hB6 hxr hcr hbr t0 t1
      have t0 : w6.cell? ⟨b, 1, none⟩ = some (.bool false) := by rw [hT.out]; exact HR.out.cell 1
      have t1 : w6.frozen? ⟨b, 1, none⟩ = false := HR.out.free 1
      have hE2 := hE.out
      cases B
      · obtain rfl : E = 1 := hE2
        have xb := Kx.out
        have xc0 : w6.cell? ⟨x, 0, none⟩ = some (.slice none 0 0) := xb.cell 0
        have xc1 : w6.cell? ⟨x, 1, none⟩ = some (.slice none 0 0) := xb.cell 1
        have xc2 : w6.cell? ⟨x, 2, none⟩ = some (.slice none 0 0) := xb.cell 2
        have xf0 := xb.free 0
        have xf1 := xb.free 1
        have xf2 := xb.free 2
        have hne : x ≠ b := by omega
        go_wp2_with fail
        refine bodyPost_ret (results_cell_row rfl _ _ x 29 #[.slice none 0 0, .slice none 0 0, .slice none 0 0] (0, 0) _ rfl ((((xb.setOther (a := ⟨b, 1, none⟩) (by simp only; omega) _).set 0 _).set 1 _).set 2 _) Tryz.underlying29 rfl infoBg) rfl ?_
        exact BAD.out _ ⟨ri.left, true⟩ ri zs (HALL.out) rfl hsz (.inr (hBf.out (by first | exact rfl | exact trivial))) (Blk.setOther (Blk.setOther (Blk.setOther (HR.out.setTorn true) (by simp only; omega) _) (by simp only; omega) _) (by simp only; omega) _) ((((HP.out.set _ _).setNew hwx.out _).setNew hwx.out _).setNew hwx.out _)
      · obtain rfl : E = 0 := hE2
        have xb := Kx.out
        have xc0 := xb.cell 0
        have xc1 := xb.cell 1
        have xc2 := xb.cell 2
        have xf0 := xb.free 0
        have xf1 := xb.free 1
        have xf2 := xb.free 2
        have cc0 : w6.cell? ⟨c, 0, none⟩ = some (.slice am k kl) := Kc.out.cell 0
        have cc1 : w6.cell? ⟨c, 1, none⟩ = some (.slice ab nb kb) := Kc.out.cell 1
        have cc2 : w6.cell? ⟨c, 2, none⟩ = some (.slice ac nc kc) := Kc.out.cell 2
        go_wp2_with fail
        refine bodyPost_ret (results_cell_row rfl _ _ x 29 #[.slice am k kl, .slice ab nb kb, .slice ac nc kc] (0, 0) _ rfl (((xb.set 0 _).set 1 _).set 2 _) Tryz.underlying29 rfl infoBg) rfl ?_
        have ht3 : Tri b x c w6 (((w6.setCell ⟨x, 0, none⟩ (.slice am k kl)).setCell ⟨x, 1, none⟩ (.slice ab nb kb)).setCell ⟨x, 2, none⟩ (.slice ac nc kc)) := (((Tri.refl _ _ _ _).set (p := ⟨x, 0, none⟩) (.inr (.inl rfl)) _).set (p := ⟨x, 1, none⟩) (.inr (.inl rfl)) _).set (p := ⟨x, 2, none⟩) (.inr (.inl rfl)) _
        have h7 := STAY.out _ (HT.out.trans ht3)
        refine ⟨am, ab, ac, k, kl, nb, kb, nc, kc, zs, bs, cl, ri, rfl, ⟨HZ.out, HNB.out, HNC.out⟩, HSL.out.tri (fun a ha => by have := HAB.out a ha; exact ⟨by omega, by omega, by omega⟩) ht3, h7.1, h7.2, HWA.out, HWB.out, HWC.out, (Blk.setOther (Blk.setOther (Blk.setOther HR.out (by simp only; omega) _) (by simp only; omega) _) (by simp only; omega) _), ?_, hsz, (((HP.out.setNew hwx.out _).setNew hwx.out _).setNew hwx.out _)⟩
        exact (Red.pass (C := fun p : Bag3 => BagP p.2 p.1.1 p.1.2) (D1.out.seq HALL.out tells_ctxR) fun _ => hBt.out (by first | exact rfl | exact trivial)).iff bagR_iff
end Go.Proofs.YtfpjdmplepepjaaGreat
