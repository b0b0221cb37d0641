/- Wire's Read, of what has no lists. -/
import Derived.Test.YtfpjdmplepepjaaWireBytes
import Derived.Laws.Cover3
import Derived.Laws.Tables
import Derived.Laws.CopyOwn
namespace Go.Proofs.Ytfpjdmplepepjaa
open Go.RowKit

theorem infoWire : (Try.prog.info? 33).map (·.size) = some 15 := by kernel_rfl

set_option maxRecDepth 100000 in
set_option maxHeartbeats 16000000 in
theorem read_ok (k f s p fl d0 d1 rc lg : Int) (h : 1 ≤ k ∧ k ≤ 8 ∧ 1 ≤ f ∧ f ≤ 1099511627776 ∧ 0 ≤ s ∧ s ≤ 1099511627776 ∧ 0 ≤ p ∧ p ≤ 15 ∧ 0 ≤ fl ∧ fl ≤ 1 ∧ 0 ≤ rc ∧ rc ≤ 1099511627776 ∧ 0 ≤ lg ∧ lg ≤ 1073741824) (hd : d0 = 0 ∧ d1 = 0 ∨ (1 ≤ d0 ∧ d0 ≤ 1099511627776) ∧ 1 ≤ d1 ∧ d1 ≤ 1099511627776) (w : World) :
    Calls Try.prog 14 #[.string (ofL (wireL [k, f, s, p, fl, d0, d1, rc, lg]))] w fun e w' => e = .returned (.tuple #[.agg #[.int .i64 k, .int .i64 f, .int .i64 s, .int .i64 p, .int .i64 fl, .string ⟨#[]⟩, .slice none 0 0, .slice none 0 0, .slice none 0 0, .slice none 0 0, .slice none 0 0, .int .i64 d0, .int .i64 d1, .int .i64 rc, .int .i64 lg], .int .i64 0]) ∧ Below w.heap.size w w' := by
  obtain ⟨w0, hw0⟩ := nm (w.alloc (.cells #[.int .i64 0, .int .i64 0, .int .i64 0, .int .i64 0, .int .i64 0, .string ⟨#[]⟩, .slice none 0 0, .slice none 0 0, .slice none 0 0, .slice none 0 0, .slice none 0 0, .int .i64 0, .int .i64 0, .int .i64 0, .int .i64 0] 33))
  obtain ⟨x, hx⟩ := nm w.heap.size
  have Kx : Hid (Blk w0 x #[.int .i64 0, .int .i64 0, .int .i64 0, .int .i64 0, .int .i64 0, .string ⟨#[]⟩, .slice none 0 0, .slice none 0 0, .slice none 0 0, .slice none 0 0, .slice none 0 0, .int .i64 0, .int .i64 0, .int .i64 0, .int .i64 0] 33) := by show Blk _ _ _ _; rw [hw0.out, hx.out]; exact Blk.new _ _ _
  have HB : Hid (Below w.heap.size w w0) := by show Below _ _ _; rw [hw0.out]; exact bOld _
  have hxw : Hid (w.heap.size ≤ x) := by show _ ≤ _; rw [hx.out]; exact Nat.le_refl _
  have HCK : Hid (∀ w, Calls Try.prog 12 #[.agg #[.int .i64 k, .int .i64 f, .int .i64 s, .int .i64 p, .int .i64 fl, .string ⟨#[]⟩, .slice none 0 0, .slice none 0 0, .slice none 0 0, .slice none 0 0, .slice none 0 0, .int .i64 d0, .int .i64 d1, .int .i64 rc, .int .i64 lg]] w fun e w' => e = .returned (.int .i64 0) ∧ Below w.heap.size w w') := fun w => check_ok k f s p fl d0 d1 rc lg h hd w
  have hz : ∀ z ∈ ([k, f, s, p, fl, d0, d1, rc, lg] : List Int), 0 ≤ z ∧ z ≤ 1099511627776 ∧ z < 18446744073709551616 := by
    intro z hz
    simp only [List.mem_cons, List.not_mem_nil, or_false] at hz
    rcases hz with rfl | rfl | rfl | rfl | rfl | rfl | rfl | rfl | rfl <;> omega
  obtain ⟨zs, hzs⟩ := nm ([k, f, s, p, fl, d0, d1, rc, lg] : List Int)
  have hzl : Hid (zs.length = 9) := by show _ = _; rw [hzs.out]; rfl
  rw [← hzs.out] at hz ⊢
  have hnb := Rd.nums_back 1099511627776 9 zs [0, 0, 0, 0, 0, 0] (by rw [hzl.out]; decide) (by rw [hzl.out]; decide) hz
  have hsz : (ofL (wireL zs)).size ≤ 200 := by
    rw [ofL_size]
    unfold wireL numsL
    rw [List.length_append, List.length_append, hzl.out]
    have g1 := Pl.num_length_le 9 (by decide)
    have g2 := intsL_le zs (fun z h => by have := hz z h; omega)
    rw [hzl.out] at g2
    simp only [List.length_cons, List.length_nil]
    omega
  rw [show numsL zs ++ ([0, 0, 0, 0, 0, 0] : List UInt8) = wireL zs from rfl] at hnb
  obtain ⟨S, hS⟩ := nm (ofL (wireL zs))
  rw [← hS.out] at hnb hsz ⊢
  obtain ⟨b, hb⟩ := nm w0.heap.size
  have hxb : x < b := by rw [hb.out]; exact Kx.out.lt
  have hrd := read_any S w0
  rw [← hb.out] at hrd
  have HRD := Lib.hid hrd
  have HNB := Lib.hid hnb
  clear h hd hz hrd hnb
  go_enter Try.func14, Try.ntmps14
  go_upto_region 1 with fail
  rw [← hw0.out, ← hx.out]
  go_wp2_with fail
  refine HRD.out.mono ?_; rintro e w1 ⟨rfl, hw1⟩
  have HR : Hid (IsRd w1 b ⟨S, false⟩) := by show IsRd _ _ _; rw [hw1, hb.out]; exact Blk.new _ _ _
  replace Kx : Hid (Blk w1 x #[.int .i64 0, .int .i64 0, .int .i64 0, .int .i64 0, .int .i64 0, .string ⟨#[]⟩, .slice none 0 0, .slice none 0 0, .slice none 0 0, .slice none 0 0, .slice none 0 0, .int .i64 0, .int .i64 0, .int .i64 0, .int .i64 0] 33) := by show Blk _ _ _ _; rw [hw1]; exact Kx.out.alloc _
  replace HB : Hid (Below w.heap.size w w1) := by show Below _ _ _; rw [hw1]; exact bNew HB.out _
  have hwb : Hid (w.heap.size ≤ b) := by show _ ≤ _; rw [← hx.out]; omega
  have hnm := rnums_any b ⟨S, false⟩ 9 1099511627776 w1 HR.out (by simp only; omega) (by decide) (by decide)
  rw [HNB.out, hzl.out] at hnm
  have HNM := Lib.hid hnm
  clear hw1 hnm
  go_wp2_with fail
  refine HNM.out.mono ?_; rintro e w2 ⟨ao, cap, rfl, hcap, hsl, h2, hk⟩
  replace HR := Lib.hid h2
  replace Kx := Lib.hid (hk.blk Kx.out (by omega))
  replace HB := Lib.hid (HB.out.trans (hk.below hwb.out HB.out.size))
  obtain ⟨g, off, rfl, hg, hat⟩ := hsl 0 (by rw [List.length_map, hzl.out]; decide)
  rw [hzs.out] at hat
  have c0 : w2.cell? ⟨g, off, none⟩ = some (.int .i64 k) := hat 0 (by simp)
  have c1 : w2.cell? ⟨g, off + 1, none⟩ = some (.int .i64 f) := hat 1 (by simp)
  have c2 : w2.cell? ⟨g, off + 2, none⟩ = some (.int .i64 s) := hat 2 (by simp)
  have c3 : w2.cell? ⟨g, off + 3, none⟩ = some (.int .i64 p) := hat 3 (by simp)
  have c4 : w2.cell? ⟨g, off + 4, none⟩ = some (.int .i64 fl) := hat 4 (by simp)
  have c5 : w2.cell? ⟨g, off + 5, none⟩ = some (.int .i64 d0) := hat 5 (by simp)
  have c6 : w2.cell? ⟨g, off + 6, none⟩ = some (.int .i64 d1) := hat 6 (by simp)
  have c7 : w2.cell? ⟨g, off + 7, none⟩ = some (.int .i64 rc) := hat 7 (by simp)
  have c8 : w2.cell? ⟨g, off + 8, none⟩ = some (.int .i64 lg) := hat 8 (by simp)
  obtain ⟨v, hv⟩ := nm (w2.heap.size + 1)
  obtain ⟨w3, hw3⟩ := nm ((w2.alloc (.cells #[.int .i64 k, .int .i64 f, .int .i64 s, .int .i64 p, .int .i64 fl, .int .i64 d0, .int .i64 d1, .int .i64 rc, .int .i64 lg] 54)).alloc (.cells #[.int .i64 k, .int .i64 f, .int .i64 s, .int .i64 p, .int .i64 fl, .string ⟨#[]⟩, .slice none 0 0, .slice none 0 0, .slice none 0 0, .slice none 0 0, .slice none 0 0, .int .i64 d0, .int .i64 d1, .int .i64 rc, .int .i64 lg] 33))
  have hbv : b < v := by rw [hv.out]; have := h2.lt; omega
  have hxv : x < v := by rw [hv.out]; have := Kx.out.lt; omega
  have Kv : Hid (Blk w3 v #[.int .i64 k, .int .i64 f, .int .i64 s, .int .i64 p, .int .i64 fl, .string ⟨#[]⟩, .slice none 0 0, .slice none 0 0, .slice none 0 0, .slice none 0 0, .slice none 0 0, .int .i64 d0, .int .i64 d1, .int .i64 rc, .int .i64 lg] 33) := by show Blk _ _ _ _; rw [hw3.out]; exact blk_at (by rw [hv.out]; simp)
  replace HR : Hid (IsRd w3 b ⟨ofL [0, 0, 0, 0, 0, 0], false⟩) := by show IsRd _ _ _; rw [hw3.out]; exact Blk.alloc (Blk.alloc h2 _) _
  replace Kx : Hid (Blk w3 x #[.int .i64 0, .int .i64 0, .int .i64 0, .int .i64 0, .int .i64 0, .string ⟨#[]⟩, .slice none 0 0, .slice none 0 0, .slice none 0 0, .slice none 0 0, .slice none 0 0, .int .i64 0, .int .i64 0, .int .i64 0, .int .i64 0] 33) := by show Blk _ _ _ _; rw [hw3.out]; exact (Kx.out.alloc _).alloc _
  replace HB : Hid (Below w.heap.size w w3) := by show Below _ _ _; rw [hw3.out]; exact bNew (bNew HB.out _) _
  have hwv : Hid (w.heap.size ≤ v) := by show _ ≤ _; have := hxw.out; omega
  clear hsl h2 hk hat
  have harr := fun w : World => run_arrayAt (P := Try.prog) w 54 3 9 (some ⟨g, off, none⟩) 9 cap Try.underlying54 (Nat.le_refl _)
  go_upto_region 9 with fail
  rw [← hw3.out, ← hv.out]
  have htx := rtext_any b ⟨ofL [0, 0, 0, 0, 0, 0], false⟩ 8000 w3 HR.out (by rw [show (ofL [0, 0, 0, 0, 0, 0]).size = 6 from rfl]; decide) (by decide)
  rw [show (Rd.mk (ofL [0, 0, 0, 0, 0, 0]) false).text 8000 = (⟨ofL [0, 0, 0, 0, 0], false⟩, ⟨#[]⟩) from by
    have := Rd.text_back [] [0, 0, 0, 0, 0] 8000 (by decide) (by decide)
    rw [show textL [] = [0] from by unfold textL; rw [List.length_nil, num0]; rfl] at this
    exact this] at htx
  have HTX := Lib.hid htx
  clear htx c0 c1 c2 c3 c4 c5 c6 c7 c8
  go_wp2_with fail
  refine (HTX.out).mono ?_; rintro e w4 ⟨rfl, hr, hk⟩
  replace HR := Lib.hid hr
  replace Kx := Lib.hid (hk.blk Kx.out (by omega))
  replace Kv := Lib.hid (hk.blk Kv.out (by omega))
  replace HB := Lib.hid (HB.out.trans (hk.below hwb.out HB.out.size))
  clear hr hk
  have c5 : w4.cell? ⟨v, 5, none⟩ = some (.string ⟨#[]⟩) := Kv.out.cell 5
  have f5 : w4.frozen? ⟨v, 5, none⟩ = false := Kv.out.free 5
  obtain ⟨w5, hw5⟩ := nm (w4.setCell ⟨v, 5, none⟩ (.string ⟨#[]⟩))
  replace Kx : Hid (Blk w5 x #[.int .i64 0, .int .i64 0, .int .i64 0, .int .i64 0, .int .i64 0, .string ⟨#[]⟩, .slice none 0 0, .slice none 0 0, .slice none 0 0, .slice none 0 0, .slice none 0 0, .int .i64 0, .int .i64 0, .int .i64 0, .int .i64 0] 33) := by show Blk _ _ _ _; rw [hw5.out]; exact (Blk.setOther Kx.out (by simp only; omega) _)
  replace HR : Hid (IsRd w5 b ⟨ofL [0, 0, 0, 0, 0], false⟩) := by show IsRd _ _ _; rw [hw5.out]; exact (Blk.setOther HR.out (by simp only; omega) _)
  replace Kv : Hid (Blk w5 v #[.int .i64 k, .int .i64 f, .int .i64 s, .int .i64 p, .int .i64 fl, .string ⟨#[]⟩, .slice none 0 0, .slice none 0 0, .slice none 0 0, .slice none 0 0, .slice none 0 0, .int .i64 d0, .int .i64 d1, .int .i64 rc, .int .i64 lg] 33) := by show Blk _ _ _ _; rw [hw5.out]; exact (Blk.set Kv.out 5 _)
  replace HB : Hid (Below w.heap.size w w5) := by show Below _ _ _; rw [hw5.out]; exact (Below.setCell HB.out (p := ⟨v, 5, none⟩) hwv.out _)
  go_upto_region 10 with fail
  rw [← hw5.out]
  clear c5 f5
  go_wp2_with fail
  refine (rbag0 b [0, 0] _ HR.out (by decide)).mono ?_; rintro e w6 ⟨rfl, hr, hk⟩
  replace HR := Lib.hid hr
  replace Kx := Lib.hid (hk.blk Kx.out (by omega))
  replace Kv := Lib.hid (hk.blk Kv.out (by omega))
  replace HB := Lib.hid (HB.out.trans (hk.below hwb.out HB.out.size))
  clear hr hk
  have c6 : w6.cell? ⟨v, 6, none⟩ = some (.slice none 0 0) := Kv.out.cell 6
  have f6 : w6.frozen? ⟨v, 6, none⟩ = false := Kv.out.free 6
  have c7 : w6.cell? ⟨v, 7, none⟩ = some (.slice none 0 0) := Kv.out.cell 7
  have f7 : w6.frozen? ⟨v, 7, none⟩ = false := Kv.out.free 7
  have c8 : w6.cell? ⟨v, 8, none⟩ = some (.slice none 0 0) := Kv.out.cell 8
  have f8 : w6.frozen? ⟨v, 8, none⟩ = false := Kv.out.free 8
  obtain ⟨w7, hw7⟩ := nm (((w6.setCell ⟨v, 6, none⟩ (.slice none 0 0)).setCell ⟨v, 7, none⟩ (.slice none 0 0)).setCell ⟨v, 8, none⟩ (.slice none 0 0))
  replace Kx : Hid (Blk w7 x #[.int .i64 0, .int .i64 0, .int .i64 0, .int .i64 0, .int .i64 0, .string ⟨#[]⟩, .slice none 0 0, .slice none 0 0, .slice none 0 0, .slice none 0 0, .slice none 0 0, .int .i64 0, .int .i64 0, .int .i64 0, .int .i64 0] 33) := by show Blk _ _ _ _; rw [hw7.out]; exact (Blk.setOther (Blk.setOther (Blk.setOther Kx.out (by simp only; omega) _) (by simp only; omega) _) (by simp only; omega) _)
  replace HR : Hid (IsRd w7 b ⟨ofL [0, 0], false⟩) := by show IsRd _ _ _; rw [hw7.out]; exact (Blk.setOther (Blk.setOther (Blk.setOther HR.out (by simp only; omega) _) (by simp only; omega) _) (by simp only; omega) _)
  replace Kv : Hid (Blk w7 v #[.int .i64 k, .int .i64 f, .int .i64 s, .int .i64 p, .int .i64 fl, .string ⟨#[]⟩, .slice none 0 0, .slice none 0 0, .slice none 0 0, .slice none 0 0, .slice none 0 0, .int .i64 d0, .int .i64 d1, .int .i64 rc, .int .i64 lg] 33) := by show Blk _ _ _ _; rw [hw7.out]; exact (Blk.set (Blk.set (Blk.set Kv.out 6 _) 7 _) 8 _)
  replace HB : Hid (Below w.heap.size w w7) := by show Below _ _ _; rw [hw7.out]; exact (Below.setCell (Below.setCell (Below.setCell HB.out (p := ⟨v, 6, none⟩) hwv.out _) (p := ⟨v, 7, none⟩) hwv.out _) (p := ⟨v, 8, none⟩) hwv.out _)
  go_upto_region 11 with fail
  rw [← hw7.out]
  clear c6 f6 c7 f7 c8 f8
  go_wp2_with fail
  refine (rnames0 b [0] _ HR.out (by decide)).mono ?_; rintro e w8 ⟨rfl, hr, hk⟩
  replace HR := Lib.hid hr
  replace Kx := Lib.hid (hk.blk Kx.out (by omega))
  replace Kv := Lib.hid (hk.blk Kv.out (by omega))
  replace HB := Lib.hid (HB.out.trans (hk.below hwb.out HB.out.size))
  clear hr hk
  have c9 : w8.cell? ⟨v, 9, none⟩ = some (.slice none 0 0) := Kv.out.cell 9
  have f9 : w8.frozen? ⟨v, 9, none⟩ = false := Kv.out.free 9
  obtain ⟨w9, hw9⟩ := nm (w8.setCell ⟨v, 9, none⟩ (.slice none 0 0))
  replace Kx : Hid (Blk w9 x #[.int .i64 0, .int .i64 0, .int .i64 0, .int .i64 0, .int .i64 0, .string ⟨#[]⟩, .slice none 0 0, .slice none 0 0, .slice none 0 0, .slice none 0 0, .slice none 0 0, .int .i64 0, .int .i64 0, .int .i64 0, .int .i64 0] 33) := by show Blk _ _ _ _; rw [hw9.out]; exact (Blk.setOther Kx.out (by simp only; omega) _)
  replace HR : Hid (IsRd w9 b ⟨ofL [0], false⟩) := by show IsRd _ _ _; rw [hw9.out]; exact (Blk.setOther HR.out (by simp only; omega) _)
  replace Kv : Hid (Blk w9 v #[.int .i64 k, .int .i64 f, .int .i64 s, .int .i64 p, .int .i64 fl, .string ⟨#[]⟩, .slice none 0 0, .slice none 0 0, .slice none 0 0, .slice none 0 0, .slice none 0 0, .int .i64 d0, .int .i64 d1, .int .i64 rc, .int .i64 lg] 33) := by show Blk _ _ _ _; rw [hw9.out]; exact (Blk.set Kv.out 9 _)
  replace HB : Hid (Below w.heap.size w w9) := by show Below _ _ _; rw [hw9.out]; exact (Below.setCell HB.out (p := ⟨v, 9, none⟩) hwv.out _)
  go_upto_region 12 with fail
  rw [← hw9.out]
  clear c9 f9
  go_wp2_with fail
  refine (rview0 b [] _ HR.out (by decide)).mono ?_; rintro e wa ⟨rfl, hr, hk⟩
  replace HR := Lib.hid hr
  replace Kx := Lib.hid (hk.blk Kx.out (by omega))
  replace Kv := Lib.hid (hk.blk Kv.out (by omega))
  replace HB := Lib.hid (HB.out.trans (hk.below hwb.out HB.out.size))
  clear hr hk
  have c10 : wa.cell? ⟨v, 10, none⟩ = some (.slice none 0 0) := Kv.out.cell 10
  have f10 : wa.frozen? ⟨v, 10, none⟩ = false := Kv.out.free 10
  obtain ⟨wb, hwb⟩ := nm (wa.setCell ⟨v, 10, none⟩ (.slice none 0 0))
  replace Kx : Hid (Blk wb x #[.int .i64 0, .int .i64 0, .int .i64 0, .int .i64 0, .int .i64 0, .string ⟨#[]⟩, .slice none 0 0, .slice none 0 0, .slice none 0 0, .slice none 0 0, .slice none 0 0, .int .i64 0, .int .i64 0, .int .i64 0, .int .i64 0] 33) := by show Blk _ _ _ _; rw [hwb.out]; exact (Blk.setOther Kx.out (by simp only; omega) _)
  replace HR : Hid (IsRd wb b ⟨ofL [], false⟩) := by show IsRd _ _ _; rw [hwb.out]; exact (Blk.setOther HR.out (by simp only; omega) _)
  replace Kv : Hid (Blk wb v #[.int .i64 k, .int .i64 f, .int .i64 s, .int .i64 p, .int .i64 fl, .string ⟨#[]⟩, .slice none 0 0, .slice none 0 0, .slice none 0 0, .slice none 0 0, .slice none 0 0, .int .i64 d0, .int .i64 d1, .int .i64 rc, .int .i64 lg] 33) := by show Blk _ _ _ _; rw [hwb.out]; exact (Blk.set Kv.out 10 _)
  replace HB : Hid (Below w.heap.size w wb) := by show Below _ _ _; rw [hwb.out]; exact (Below.setCell HB.out (p := ⟨v, 10, none⟩) hwv.out _)
  go_upto_region 13 with fail
  rw [← hwb.out]
  clear c10 f10
  have c0 : wb.cell? ⟨v, 0, none⟩ = some (.int .i64 k) := Kv.out.cell 0
  have c1 : wb.cell? ⟨v, 1, none⟩ = some (.int .i64 f) := Kv.out.cell 1
  have c2 : wb.cell? ⟨v, 2, none⟩ = some (.int .i64 s) := Kv.out.cell 2
  have c3 : wb.cell? ⟨v, 3, none⟩ = some (.int .i64 p) := Kv.out.cell 3
  have c4 : wb.cell? ⟨v, 4, none⟩ = some (.int .i64 fl) := Kv.out.cell 4
  have c5 : wb.cell? ⟨v, 5, none⟩ = some (.string ⟨#[]⟩) := Kv.out.cell 5
  have c6 : wb.cell? ⟨v, 6, none⟩ = some (.slice none 0 0) := Kv.out.cell 6
  have c7 : wb.cell? ⟨v, 7, none⟩ = some (.slice none 0 0) := Kv.out.cell 7
  have c8 : wb.cell? ⟨v, 8, none⟩ = some (.slice none 0 0) := Kv.out.cell 8
  have c9 : wb.cell? ⟨v, 9, none⟩ = some (.slice none 0 0) := Kv.out.cell 9
  have c10 : wb.cell? ⟨v, 10, none⟩ = some (.slice none 0 0) := Kv.out.cell 10
  have c11 : wb.cell? ⟨v, 11, none⟩ = some (.int .i64 d0) := Kv.out.cell 11
  have c12 : wb.cell? ⟨v, 12, none⟩ = some (.int .i64 d1) := Kv.out.cell 12
  have c13 : wb.cell? ⟨v, 13, none⟩ = some (.int .i64 rc) := Kv.out.cell 13
  have c14 : wb.cell? ⟨v, 14, none⟩ = some (.int .i64 lg) := Kv.out.cell 14
  have hfin : (Rd.mk (ofL []) false).fin = 0 := rfl
  go_wp2_with fail
  refine (rend_any b ⟨ofL [], false⟩ wb HR.out).mono ?_; rintro e wc ⟨rfl, rfl⟩
  rw [hfin]
  go_wp2_with fail
  refine (HCK.out _).mono ?_; rintro e wd ⟨rfl, hBd⟩
  replace Kx := Lib.hid (Kx.out.below hBd Kx.out.lt)
  replace Kv := Lib.hid (Kv.out.below hBd Kv.out.lt)
  replace HB := Lib.hid (bNext HB.out hBd)
  clear hBd c0 c1 c2 c3 c4 c5 c6 c7 c8 c9 c10 c11 c12 c13 c14
  have c0 : wd.cell? ⟨v, 0, none⟩ = some (.int .i64 k) := Kv.out.cell 0
  have c1 : wd.cell? ⟨v, 1, none⟩ = some (.int .i64 f) := Kv.out.cell 1
  have c2 : wd.cell? ⟨v, 2, none⟩ = some (.int .i64 s) := Kv.out.cell 2
  have c3 : wd.cell? ⟨v, 3, none⟩ = some (.int .i64 p) := Kv.out.cell 3
  have c4 : wd.cell? ⟨v, 4, none⟩ = some (.int .i64 fl) := Kv.out.cell 4
  have c5 : wd.cell? ⟨v, 5, none⟩ = some (.string ⟨#[]⟩) := Kv.out.cell 5
  have c6 : wd.cell? ⟨v, 6, none⟩ = some (.slice none 0 0) := Kv.out.cell 6
  have c7 : wd.cell? ⟨v, 7, none⟩ = some (.slice none 0 0) := Kv.out.cell 7
  have c8 : wd.cell? ⟨v, 8, none⟩ = some (.slice none 0 0) := Kv.out.cell 8
  have c9 : wd.cell? ⟨v, 9, none⟩ = some (.slice none 0 0) := Kv.out.cell 9
  have c10 : wd.cell? ⟨v, 10, none⟩ = some (.slice none 0 0) := Kv.out.cell 10
  have c11 : wd.cell? ⟨v, 11, none⟩ = some (.int .i64 d0) := Kv.out.cell 11
  have c12 : wd.cell? ⟨v, 12, none⟩ = some (.int .i64 d1) := Kv.out.cell 12
  have c13 : wd.cell? ⟨v, 13, none⟩ = some (.int .i64 rc) := Kv.out.cell 13
  have c14 : wd.cell? ⟨v, 14, none⟩ = some (.int .i64 lg) := Kv.out.cell 14
  have hone : (#[.int .i64 k, .int .i64 f, .int .i64 s, .int .i64 p, .int .i64 fl, .string ⟨#[]⟩, .slice none 0 0, .slice none 0 0, .slice none 0 0, .slice none 0 0, .slice none 0 0, .int .i64 d0, .int .i64 d1, .int .i64 rc, .int .i64 lg] : Array Value).all (·.oneCell') = true := by simp [Value.oneCell']
  go_wp2_with (refine wpList_store_row rfl 33 _ _ rfl x #[.int .i64 k, .int .i64 f, .int .i64 s, .int .i64 p, .int .i64 fl, .string ⟨#[]⟩, .slice none 0 0, .slice none 0 0, .slice none 0 0, .slice none 0 0, .slice none 0 0, .int .i64 d0, .int .i64 d1, .int .i64 rc, .int .i64 lg] rfl rfl 33 #[.int .i64 0, .int .i64 0, .int .i64 0, .int .i64 0, .int .i64 0, .string ⟨#[]⟩, .slice none 0 0, .slice none 0 0, .slice none 0 0, .slice none 0 0, .slice none 0 0, .int .i64 0, .int .i64 0, .int .i64 0, .int .i64 0] Kx.out infoWire rfl hone ?_)
  obtain ⟨wz, hwz⟩ := nm (wd.setRow x #[.int .i64 k, .int .i64 f, .int .i64 s, .int .i64 p, .int .i64 fl, .string ⟨#[]⟩, .slice none 0 0, .slice none 0 0, .slice none 0 0, .slice none 0 0, .slice none 0 0, .int .i64 d0, .int .i64 d1, .int .i64 rc, .int .i64 lg])
  rw [← hwz.out]
  have Kz : Blk wz x #[.int .i64 k, .int .i64 f, .int .i64 s, .int .i64 p, .int .i64 fl, .string ⟨#[]⟩, .slice none 0 0, .slice none 0 0, .slice none 0 0, .slice none 0 0, .slice none 0 0, .int .i64 d0, .int .i64 d1, .int .i64 rc, .int .i64 lg] 33 := by rw [hwz.out]; exact setRow_heap wd x _ _ _ _ Kx.out
  have HBz : Below w.heap.size w wz := by rw [hwz.out]; exact below_setRow HB.out hxw.out _
  have r0 : wz.cell? ⟨x, 0, none⟩ = some (.int .i64 k) := Kz.cell 0
  have r1 : wz.cell? ⟨x, 1, none⟩ = some (.int .i64 f) := Kz.cell 1
  have r2 : wz.cell? ⟨x, 2, none⟩ = some (.int .i64 s) := Kz.cell 2
  have r3 : wz.cell? ⟨x, 3, none⟩ = some (.int .i64 p) := Kz.cell 3
  have r4 : wz.cell? ⟨x, 4, none⟩ = some (.int .i64 fl) := Kz.cell 4
  have r5 : wz.cell? ⟨x, 5, none⟩ = some (.string ⟨#[]⟩) := Kz.cell 5
  have r6 : wz.cell? ⟨x, 6, none⟩ = some (.slice none 0 0) := Kz.cell 6
  have r7 : wz.cell? ⟨x, 7, none⟩ = some (.slice none 0 0) := Kz.cell 7
  have r8 : wz.cell? ⟨x, 8, none⟩ = some (.slice none 0 0) := Kz.cell 8
  have r9 : wz.cell? ⟨x, 9, none⟩ = some (.slice none 0 0) := Kz.cell 9
  have r10 : wz.cell? ⟨x, 10, none⟩ = some (.slice none 0 0) := Kz.cell 10
  have r11 : wz.cell? ⟨x, 11, none⟩ = some (.int .i64 d0) := Kz.cell 11
  have r12 : wz.cell? ⟨x, 12, none⟩ = some (.int .i64 d1) := Kz.cell 12
  have r13 : wz.cell? ⟨x, 13, none⟩ = some (.int .i64 rc) := Kz.cell 13
  have r14 : wz.cell? ⟨x, 14, none⟩ = some (.int .i64 lg) := Kz.cell 14
  refine bodyPost_ret (v := .tuple #[.agg #[.int .i64 k, .int .i64 f, .int .i64 s, .int .i64 p, .int .i64 fl, .string ⟨#[]⟩, .slice none 0 0, .slice none 0 0, .slice none 0 0, .slice none 0 0, .slice none 0 0, .int .i64 d0, .int .i64 d1, .int .i64 rc, .int .i64 lg], .int .i64 0]) (by simp [results, Try.results14, go_sem, r0, r1, r2, r3, r4, r5, r6, r7, r8, r9, r10, r11, r12, r13, r14]) rfl ?_
  exact ⟨rfl, HBz⟩
end Go.Proofs.Ytfpjdmplepepjaa
