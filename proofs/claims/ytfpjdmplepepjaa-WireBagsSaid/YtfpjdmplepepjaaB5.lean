/- Wire's Read, of what has no lists. (and what stands on it: 16 texts in one) -/
import Derived.Laws.Cover3
import Derived.Laws.Tables
import Derived.Laws.CopyOwn
import Derived.Outline
import Derived.ChangeKeysEq
import Derived.Deep.AppendLies
import Derived.Test.YtfpjdmplepepjaaB4
import Derived.Test.YtfpjdmplepepjaaB3
import Derived.Test.YtfpjdmplepepjaaB1
import Derived.Test.YtfpjdmplepepjaaB2
/-! WireRead: Wire's Read, of what has no lists. -/
namespace Go.Proofs.Ytfpjdmplepepjaa
open Go.RowKit

theorem infoWire : (Try.prog.info? 33).map (·.size) = some 15 := by kernel_rfl

set_option maxRecDepth 100000 in
set_option maxHeartbeats 16000000 in
theorem read_ok (k f s p fl d0 d1 rc lg : Int) (h : 1 ≤ k ∧ k ≤ 8 ∧ 1 ≤ f ∧ f ≤ 1099511627776 ∧ 0 ≤ s ∧ s ≤ 1099511627776 ∧ 0 ≤ p ∧ p ≤ 15 ∧ 0 ≤ fl ∧ fl ≤ 1 ∧ 0 ≤ rc ∧ rc ≤ 1099511627776 ∧ 0 ≤ lg ∧ lg ≤ 1073741824) (hd : d0 = 0 ∧ d1 = 0 ∨ (1 ≤ d0 ∧ d0 ≤ 1099511627776) ∧ 1 ≤ d1 ∧ d1 ≤ 1099511627776) (w : World) :
    Calls Try.prog 14 #[.string (ofL (wireL [k, f, s, p, fl, d0, d1, rc, lg]))] w fun e w' => e = .returned (.tuple #[.agg #[.int .i64 k, .int .i64 f, .int .i64 s, .int .i64 p, .int .i64 fl, .string ⟨#[]⟩, .slice none 0 0, .slice none 0 0, .slice none 0 0, .slice none 0 0, .slice none 0 0, .int .i64 d0, .int .i64 d1, .int .i64 rc, .int .i64 lg], .int .i64 0]) ∧ Below w.heap.size w w' := by
  obtain ⟨w0, hw0⟩ := nm (w.alloc (.cells #[.int .i64 0, .int .i64 0, .int .i64 0, .int .i64 0, .int .i64 0, .string ⟨#[]⟩, .slice none 0 0, .slice none 0 0, .slice none 0 0, .slice none 0 0, .slice none 0 0, .int .i64 0, .int .i64 0, .int .i64 0, .int .i64 0] 33))
  obtain ⟨x, hx⟩ := nm w.heap.size
  have Kx : Hid (Blk w0 x #[.int .i64 0, .int .i64 0, .int .i64 0, .int .i64 0, .int .i64 0, .string ⟨#[]⟩, .slice none 0 0, .slice none 0 0, .slice none 0 0, .slice none 0 0, .slice none 0 0, .int .i64 0, .int .i64 0, .int .i64 0, .int .i64 0] 33) := by show Blk _ _ _ _; rw [hw0.out, hx.out]; exact Blk.new _ _ _
  have HB : Hid (Below w.heap.size w w0) := by show Below _ _ _; rw [hw0.out]; exact bOld _
  have hxw : Hid (w.heap.size ≤ x) := by show _ ≤ _; rw [hx.out]; exact Nat.le_refl _
  have HCK : Hid (∀ w, Calls Try.prog 12 #[.agg #[.int .i64 k, .int .i64 f, .int .i64 s, .int .i64 p, .int .i64 fl, .string ⟨#[]⟩, .slice none 0 0, .slice none 0 0, .slice none 0 0, .slice none 0 0, .slice none 0 0, .int .i64 d0, .int .i64 d1, .int .i64 rc, .int .i64 lg]] w fun e w' => e = .returned (.int .i64 0) ∧ Below w.heap.size w w') := fun w => check_ok k f s p fl d0 d1 rc lg h hd w
  have hz : ∀ z ∈ ([k, f, s, p, fl, d0, d1, rc, lg] : List Int), 0 ≤ z ∧ z ≤ 1099511627776 ∧ z < 18446744073709551616 := by
    intro z hz
    simp only [List.mem_cons, List.not_mem_nil, or_false] at hz
    rcases hz with rfl | rfl | rfl | rfl | rfl | rfl | rfl | rfl | rfl <;> omega
  obtain ⟨zs, hzs⟩ := nm ([k, f, s, p, fl, d0, d1, rc, lg] : List Int)
  have hzl : Hid (zs.length = 9) := by show _ = _; rw [hzs.out]; rfl
  rw [← hzs.out] at hz ⊢
  have hnb := Rd.nums_back 1099511627776 9 zs [0, 0, 0, 0, 0, 0] (by rw [hzl.out]; decide) (by rw [hzl.out]; decide) hz
  have hsz : (ofL (wireL zs)).size ≤ 200 := by
    rw [ofL_size]
    unfold wireL numsL
    rw [List.length_append, List.length_append, hzl.out]
    have g1 := Pl.num_length_le 9 (by decide)
    have g2 := intsL_le zs (fun z h => by have := hz z h; omega)
    rw [hzl.out] at g2
    simp only [List.length_cons, List.length_nil]
    omega
  rw [show numsL zs ++ ([0, 0, 0, 0, 0, 0] : List UInt8) = wireL zs from rfl] at hnb
  obtain ⟨S, hS⟩ := nm (ofL (wireL zs))
  rw [← hS.out] at hnb hsz ⊢
  obtain ⟨b, hb⟩ := nm w0.heap.size
  have hxb : x < b := by rw [hb.out]; exact Kx.out.lt
  have hrd := read_any S w0
  rw [← hb.out] at hrd
  have HRD := Lib.hid hrd
  have HNB := Lib.hid hnb
  clear h hd hz hrd hnb
  go_enter Try.func14, Try.ntmps14
  go_upto_region 1 with fail
  rw [← hw0.out, ← hx.out]
  go_wp2_with fail
  refine HRD.out.mono ?_; rintro e w1 ⟨rfl, hw1⟩
  have HR : Hid (IsRd w1 b ⟨S, false⟩) := by show IsRd _ _ _; rw [hw1, hb.out]; exact Blk.new _ _ _
  replace Kx : Hid (Blk w1 x #[.int .i64 0, .int .i64 0, .int .i64 0, .int .i64 0, .int .i64 0, .string ⟨#[]⟩, .slice none 0 0, .slice none 0 0, .slice none 0 0, .slice none 0 0, .slice none 0 0, .int .i64 0, .int .i64 0, .int .i64 0, .int .i64 0] 33) := by show Blk _ _ _ _; rw [hw1]; exact Kx.out.alloc _
  replace HB : Hid (Below w.heap.size w w1) := by show Below _ _ _; rw [hw1]; exact bNew HB.out _
  have hwb : Hid (w.heap.size ≤ b) := by show _ ≤ _; rw [← hx.out]; omega
  have hnm := rnums_any b ⟨S, false⟩ 9 1099511627776 w1 HR.out (by simp only; omega) (by decide) (by decide)
  rw [HNB.out, hzl.out] at hnm
  have HNM := Lib.hid hnm
  clear hw1 hnm
  go_wp2_with fail
  refine HNM.out.mono ?_; rintro e w2 ⟨ao, cap, rfl, hcap, hsl, h2, hk⟩
  replace HR := Lib.hid h2
  replace Kx := Lib.hid (hk.blk Kx.out (by omega))
  replace HB := Lib.hid (HB.out.trans (hk.below hwb.out HB.out.size))
  obtain ⟨g, off, rfl, hg, hat⟩ := hsl 0 (by rw [List.length_map, hzl.out]; decide)
  rw [hzs.out] at hat
  have c0 : w2.cell? ⟨g, off, none⟩ = some (.int .i64 k) := hat 0 (by simp)
  have c1 : w2.cell? ⟨g, off + 1, none⟩ = some (.int .i64 f) := hat 1 (by simp)
  have c2 : w2.cell? ⟨g, off + 2, none⟩ = some (.int .i64 s) := hat 2 (by simp)
  have c3 : w2.cell? ⟨g, off + 3, none⟩ = some (.int .i64 p) := hat 3 (by simp)
  have c4 : w2.cell? ⟨g, off + 4, none⟩ = some (.int .i64 fl) := hat 4 (by simp)
  have c5 : w2.cell? ⟨g, off + 5, none⟩ = some (.int .i64 d0) := hat 5 (by simp)
  have c6 : w2.cell? ⟨g, off + 6, none⟩ = some (.int .i64 d1) := hat 6 (by simp)
  have c7 : w2.cell? ⟨g, off + 7, none⟩ = some (.int .i64 rc) := hat 7 (by simp)
  have c8 : w2.cell? ⟨g, off + 8, none⟩ = some (.int .i64 lg) := hat 8 (by simp)
  obtain ⟨v, hv⟩ := nm (w2.heap.size + 1)
  obtain ⟨w3, hw3⟩ := nm ((w2.alloc (.cells #[.int .i64 k, .int .i64 f, .int .i64 s, .int .i64 p, .int .i64 fl, .int .i64 d0, .int .i64 d1, .int .i64 rc, .int .i64 lg] 54)).alloc (.cells #[.int .i64 k, .int .i64 f, .int .i64 s, .int .i64 p, .int .i64 fl, .string ⟨#[]⟩, .slice none 0 0, .slice none 0 0, .slice none 0 0, .slice none 0 0, .slice none 0 0, .int .i64 d0, .int .i64 d1, .int .i64 rc, .int .i64 lg] 33))
  have hbv : b < v := by rw [hv.out]; have := h2.lt; omega
  have hxv : x < v := by rw [hv.out]; have := Kx.out.lt; omega
  have Kv : Hid (Blk w3 v #[.int .i64 k, .int .i64 f, .int .i64 s, .int .i64 p, .int .i64 fl, .string ⟨#[]⟩, .slice none 0 0, .slice none 0 0, .slice none 0 0, .slice none 0 0, .slice none 0 0, .int .i64 d0, .int .i64 d1, .int .i64 rc, .int .i64 lg] 33) := by show Blk _ _ _ _; rw [hw3.out]; exact blk_at (by rw [hv.out]; simp)
  replace HR : Hid (IsRd w3 b ⟨ofL [0, 0, 0, 0, 0, 0], false⟩) := by show IsRd _ _ _; rw [hw3.out]; exact Blk.alloc (Blk.alloc h2 _) _
  replace Kx : Hid (Blk w3 x #[.int .i64 0, .int .i64 0, .int .i64 0, .int .i64 0, .int .i64 0, .string ⟨#[]⟩, .slice none 0 0, .slice none 0 0, .slice none 0 0, .slice none 0 0, .slice none 0 0, .int .i64 0, .int .i64 0, .int .i64 0, .int .i64 0] 33) := by show Blk _ _ _ _; rw [hw3.out]; exact (Kx.out.alloc _).alloc _
  replace HB : Hid (Below w.heap.size w w3) := by show Below _ _ _; rw [hw3.out]; exact bNew (bNew HB.out _) _
  have hwv : Hid (w.heap.size ≤ v) := by show _ ≤ _; have := hxw.out; omega
  clear hsl h2 hk hat
  have harr := fun w : World => run_arrayAt (P := Try.prog) w 54 3 9 (some ⟨g, off, none⟩) 9 cap Try.underlying54 (Nat.le_refl _)
  go_upto_region 9 with fail
  rw [← hw3.out, ← hv.out]
  have htx := rtext_any b ⟨ofL [0, 0, 0, 0, 0, 0], false⟩ 8000 w3 HR.out (by rw [show (ofL [0, 0, 0, 0, 0, 0]).size = 6 from rfl]; decide) (by decide)
  rw [show (Rd.mk (ofL [0, 0, 0, 0, 0, 0]) false).text 8000 = (⟨ofL [0, 0, 0, 0, 0], false⟩, ⟨#[]⟩) from by
    have := Rd.text_back [] [0, 0, 0, 0, 0] 8000 (by decide) (by decide)
    rw [show textL [] = [0] from by unfold textL; rw [List.length_nil, num0]; rfl] at this
    exact this] at htx
  have HTX := Lib.hid htx
  clear htx c0 c1 c2 c3 c4 c5 c6 c7 c8
  go_wp2_with fail
  refine (HTX.out).mono ?_; rintro e w4 ⟨rfl, hr, hk⟩
  replace HR := Lib.hid hr
  replace Kx := Lib.hid (hk.blk Kx.out (by omega))
  replace Kv := Lib.hid (hk.blk Kv.out (by omega))
  replace HB := Lib.hid (HB.out.trans (hk.below hwb.out HB.out.size))
  clear hr hk
  have c5 : w4.cell? ⟨v, 5, none⟩ = some (.string ⟨#[]⟩) := Kv.out.cell 5
  have f5 : w4.frozen? ⟨v, 5, none⟩ = false := Kv.out.free 5
  obtain ⟨w5, hw5⟩ := nm (w4.setCell ⟨v, 5, none⟩ (.string ⟨#[]⟩))
  replace Kx : Hid (Blk w5 x #[.int .i64 0, .int .i64 0, .int .i64 0, .int .i64 0, .int .i64 0, .string ⟨#[]⟩, .slice none 0 0, .slice none 0 0, .slice none 0 0, .slice none 0 0, .slice none 0 0, .int .i64 0, .int .i64 0, .int .i64 0, .int .i64 0] 33) := by show Blk _ _ _ _; rw [hw5.out]; exact (Blk.setOther Kx.out (by simp only; omega) _)
  replace HR : Hid (IsRd w5 b ⟨ofL [0, 0, 0, 0, 0], false⟩) := by show IsRd _ _ _; rw [hw5.out]; exact (Blk.setOther HR.out (by simp only; omega) _)
  replace Kv : Hid (Blk w5 v #[.int .i64 k, .int .i64 f, .int .i64 s, .int .i64 p, .int .i64 fl, .string ⟨#[]⟩, .slice none 0 0, .slice none 0 0, .slice none 0 0, .slice none 0 0, .slice none 0 0, .int .i64 d0, .int .i64 d1, .int .i64 rc, .int .i64 lg] 33) := by show Blk _ _ _ _; rw [hw5.out]; exact (Blk.set Kv.out 5 _)
  replace HB : Hid (Below w.heap.size w w5) := by show Below _ _ _; rw [hw5.out]; exact (Below.setCell HB.out (p := ⟨v, 5, none⟩) hwv.out _)
  go_upto_region 10 with fail
  rw [← hw5.out]
  clear c5 f5
  go_wp2_with fail
  refine (rbag0 b [0, 0] _ HR.out (by decide)).mono ?_; rintro e w6 ⟨rfl, hr, hk⟩
  replace HR := Lib.hid hr
  replace Kx := Lib.hid (hk.blk Kx.out (by omega))
  replace Kv := Lib.hid (hk.blk Kv.out (by omega))
  replace HB := Lib.hid (HB.out.trans (hk.below hwb.out HB.out.size))
  clear hr hk
  have c6 : w6.cell? ⟨v, 6, none⟩ = some (.slice none 0 0) := Kv.out.cell 6
  have f6 : w6.frozen? ⟨v, 6, none⟩ = false := Kv.out.free 6
  have c7 : w6.cell? ⟨v, 7, none⟩ = some (.slice none 0 0) := Kv.out.cell 7
  have f7 : w6.frozen? ⟨v, 7, none⟩ = false := Kv.out.free 7
  have c8 : w6.cell? ⟨v, 8, none⟩ = some (.slice none 0 0) := Kv.out.cell 8
  have f8 : w6.frozen? ⟨v, 8, none⟩ = false := Kv.out.free 8
  obtain ⟨w7, hw7⟩ := nm (((w6.setCell ⟨v, 6, none⟩ (.slice none 0 0)).setCell ⟨v, 7, none⟩ (.slice none 0 0)).setCell ⟨v, 8, none⟩ (.slice none 0 0))
  replace Kx : Hid (Blk w7 x #[.int .i64 0, .int .i64 0, .int .i64 0, .int .i64 0, .int .i64 0, .string ⟨#[]⟩, .slice none 0 0, .slice none 0 0, .slice none 0 0, .slice none 0 0, .slice none 0 0, .int .i64 0, .int .i64 0, .int .i64 0, .int .i64 0] 33) := by show Blk _ _ _ _; rw [hw7.out]; exact (Blk.setOther (Blk.setOther (Blk.setOther Kx.out (by simp only; omega) _) (by simp only; omega) _) (by simp only; omega) _)
  replace HR : Hid (IsRd w7 b ⟨ofL [0, 0], false⟩) := by show IsRd _ _ _; rw [hw7.out]; exact (Blk.setOther (Blk.setOther (Blk.setOther HR.out (by simp only; omega) _) (by simp only; omega) _) (by simp only; omega) _)
  replace Kv : Hid (Blk w7 v #[.int .i64 k, .int .i64 f, .int .i64 s, .int .i64 p, .int .i64 fl, .string ⟨#[]⟩, .slice none 0 0, .slice none 0 0, .slice none 0 0, .slice none 0 0, .slice none 0 0, .int .i64 d0, .int .i64 d1, .int .i64 rc, .int .i64 lg] 33) := by show Blk _ _ _ _; rw [hw7.out]; exact (Blk.set (Blk.set (Blk.set Kv.out 6 _) 7 _) 8 _)
  replace HB : Hid (Below w.heap.size w w7) := by show Below _ _ _; rw [hw7.out]; exact (Below.setCell (Below.setCell (Below.setCell HB.out (p := ⟨v, 6, none⟩) hwv.out _) (p := ⟨v, 7, none⟩) hwv.out _) (p := ⟨v, 8, none⟩) hwv.out _)
  go_upto_region 11 with fail
  rw [← hw7.out]
  clear c6 f6 c7 f7 c8 f8
  go_wp2_with fail
  refine (rnames0 b [0] _ HR.out (by decide)).mono ?_; rintro e w8 ⟨rfl, hr, hk⟩
  replace HR := Lib.hid hr
  replace Kx := Lib.hid (hk.blk Kx.out (by omega))
  replace Kv := Lib.hid (hk.blk Kv.out (by omega))
  replace HB := Lib.hid (HB.out.trans (hk.below hwb.out HB.out.size))
  clear hr hk
  have c9 : w8.cell? ⟨v, 9, none⟩ = some (.slice none 0 0) := Kv.out.cell 9
  have f9 : w8.frozen? ⟨v, 9, none⟩ = false := Kv.out.free 9
  obtain ⟨w9, hw9⟩ := nm (w8.setCell ⟨v, 9, none⟩ (.slice none 0 0))
  replace Kx : Hid (Blk w9 x #[.int .i64 0, .int .i64 0, .int .i64 0, .int .i64 0, .int .i64 0, .string ⟨#[]⟩, .slice none 0 0, .slice none 0 0, .slice none 0 0, .slice none 0 0, .slice none 0 0, .int .i64 0, .int .i64 0, .int .i64 0, .int .i64 0] 33) := by show Blk _ _ _ _; rw [hw9.out]; exact (Blk.setOther Kx.out (by simp only; omega) _)
  replace HR : Hid (IsRd w9 b ⟨ofL [0], false⟩) := by show IsRd _ _ _; rw [hw9.out]; exact (Blk.setOther HR.out (by simp only; omega) _)
  replace Kv : Hid (Blk w9 v #[.int .i64 k, .int .i64 f, .int .i64 s, .int .i64 p, .int .i64 fl, .string ⟨#[]⟩, .slice none 0 0, .slice none 0 0, .slice none 0 0, .slice none 0 0, .slice none 0 0, .int .i64 d0, .int .i64 d1, .int .i64 rc, .int .i64 lg] 33) := by show Blk _ _ _ _; rw [hw9.out]; exact (Blk.set Kv.out 9 _)
  replace HB : Hid (Below w.heap.size w w9) := by show Below _ _ _; rw [hw9.out]; exact (Below.setCell HB.out (p := ⟨v, 9, none⟩) hwv.out _)
  go_upto_region 12 with fail
  rw [← hw9.out]
  clear c9 f9
  go_wp2_with fail
  refine (rview0 b [] _ HR.out (by decide)).mono ?_; rintro e wa ⟨rfl, hr, hk⟩
  replace HR := Lib.hid hr
  replace Kx := Lib.hid (hk.blk Kx.out (by omega))
  replace Kv := Lib.hid (hk.blk Kv.out (by omega))
  replace HB := Lib.hid (HB.out.trans (hk.below hwb.out HB.out.size))
  clear hr hk
  have c10 : wa.cell? ⟨v, 10, none⟩ = some (.slice none 0 0) := Kv.out.cell 10
  have f10 : wa.frozen? ⟨v, 10, none⟩ = false := Kv.out.free 10
  obtain ⟨wb, hwb⟩ := nm (wa.setCell ⟨v, 10, none⟩ (.slice none 0 0))
  replace Kx : Hid (Blk wb x #[.int .i64 0, .int .i64 0, .int .i64 0, .int .i64 0, .int .i64 0, .string ⟨#[]⟩, .slice none 0 0, .slice none 0 0, .slice none 0 0, .slice none 0 0, .slice none 0 0, .int .i64 0, .int .i64 0, .int .i64 0, .int .i64 0] 33) := by show Blk _ _ _ _; rw [hwb.out]; exact (Blk.setOther Kx.out (by simp only; omega) _)
  replace HR : Hid (IsRd wb b ⟨ofL [], false⟩) := by show IsRd _ _ _; rw [hwb.out]; exact (Blk.setOther HR.out (by simp only; omega) _)
  replace Kv : Hid (Blk wb v #[.int .i64 k, .int .i64 f, .int .i64 s, .int .i64 p, .int .i64 fl, .string ⟨#[]⟩, .slice none 0 0, .slice none 0 0, .slice none 0 0, .slice none 0 0, .slice none 0 0, .int .i64 d0, .int .i64 d1, .int .i64 rc, .int .i64 lg] 33) := by show Blk _ _ _ _; rw [hwb.out]; exact (Blk.set Kv.out 10 _)
  replace HB : Hid (Below w.heap.size w wb) := by show Below _ _ _; rw [hwb.out]; exact (Below.setCell HB.out (p := ⟨v, 10, none⟩) hwv.out _)
  go_upto_region 13 with fail
  rw [← hwb.out]
  clear c10 f10
  have c0 : wb.cell? ⟨v, 0, none⟩ = some (.int .i64 k) := Kv.out.cell 0
  have c1 : wb.cell? ⟨v, 1, none⟩ = some (.int .i64 f) := Kv.out.cell 1
  have c2 : wb.cell? ⟨v, 2, none⟩ = some (.int .i64 s) := Kv.out.cell 2
  have c3 : wb.cell? ⟨v, 3, none⟩ = some (.int .i64 p) := Kv.out.cell 3
  have c4 : wb.cell? ⟨v, 4, none⟩ = some (.int .i64 fl) := Kv.out.cell 4
  have c5 : wb.cell? ⟨v, 5, none⟩ = some (.string ⟨#[]⟩) := Kv.out.cell 5
  have c6 : wb.cell? ⟨v, 6, none⟩ = some (.slice none 0 0) := Kv.out.cell 6
  have c7 : wb.cell? ⟨v, 7, none⟩ = some (.slice none 0 0) := Kv.out.cell 7
  have c8 : wb.cell? ⟨v, 8, none⟩ = some (.slice none 0 0) := Kv.out.cell 8
  have c9 : wb.cell? ⟨v, 9, none⟩ = some (.slice none 0 0) := Kv.out.cell 9
  have c10 : wb.cell? ⟨v, 10, none⟩ = some (.slice none 0 0) := Kv.out.cell 10
  have c11 : wb.cell? ⟨v, 11, none⟩ = some (.int .i64 d0) := Kv.out.cell 11
  have c12 : wb.cell? ⟨v, 12, none⟩ = some (.int .i64 d1) := Kv.out.cell 12
  have c13 : wb.cell? ⟨v, 13, none⟩ = some (.int .i64 rc) := Kv.out.cell 13
  have c14 : wb.cell? ⟨v, 14, none⟩ = some (.int .i64 lg) := Kv.out.cell 14
  have hfin : (Rd.mk (ofL []) false).fin = 0 := rfl
  go_wp2_with fail
  refine (rend_any b ⟨ofL [], false⟩ wb HR.out).mono ?_; rintro e wc ⟨rfl, rfl⟩
  rw [hfin]
  go_wp2_with fail
  refine (HCK.out _).mono ?_; rintro e wd ⟨rfl, hBd⟩
  replace Kx := Lib.hid (Kx.out.below hBd Kx.out.lt)
  replace Kv := Lib.hid (Kv.out.below hBd Kv.out.lt)
  replace HB := Lib.hid (bNext HB.out hBd)
  clear hBd c0 c1 c2 c3 c4 c5 c6 c7 c8 c9 c10 c11 c12 c13 c14
  have c0 : wd.cell? ⟨v, 0, none⟩ = some (.int .i64 k) := Kv.out.cell 0
  have c1 : wd.cell? ⟨v, 1, none⟩ = some (.int .i64 f) := Kv.out.cell 1
  have c2 : wd.cell? ⟨v, 2, none⟩ = some (.int .i64 s) := Kv.out.cell 2
  have c3 : wd.cell? ⟨v, 3, none⟩ = some (.int .i64 p) := Kv.out.cell 3
  have c4 : wd.cell? ⟨v, 4, none⟩ = some (.int .i64 fl) := Kv.out.cell 4
  have c5 : wd.cell? ⟨v, 5, none⟩ = some (.string ⟨#[]⟩) := Kv.out.cell 5
  have c6 : wd.cell? ⟨v, 6, none⟩ = some (.slice none 0 0) := Kv.out.cell 6
  have c7 : wd.cell? ⟨v, 7, none⟩ = some (.slice none 0 0) := Kv.out.cell 7
  have c8 : wd.cell? ⟨v, 8, none⟩ = some (.slice none 0 0) := Kv.out.cell 8
  have c9 : wd.cell? ⟨v, 9, none⟩ = some (.slice none 0 0) := Kv.out.cell 9
  have c10 : wd.cell? ⟨v, 10, none⟩ = some (.slice none 0 0) := Kv.out.cell 10
  have c11 : wd.cell? ⟨v, 11, none⟩ = some (.int .i64 d0) := Kv.out.cell 11
  have c12 : wd.cell? ⟨v, 12, none⟩ = some (.int .i64 d1) := Kv.out.cell 12
  have c13 : wd.cell? ⟨v, 13, none⟩ = some (.int .i64 rc) := Kv.out.cell 13
  have c14 : wd.cell? ⟨v, 14, none⟩ = some (.int .i64 lg) := Kv.out.cell 14
  have hone : (#[.int .i64 k, .int .i64 f, .int .i64 s, .int .i64 p, .int .i64 fl, .string ⟨#[]⟩, .slice none 0 0, .slice none 0 0, .slice none 0 0, .slice none 0 0, .slice none 0 0, .int .i64 d0, .int .i64 d1, .int .i64 rc, .int .i64 lg] : Array Value).all (·.oneCell') = true := by simp [Value.oneCell']
  go_wp2_with (refine wpList_store_row rfl 33 _ _ rfl x #[.int .i64 k, .int .i64 f, .int .i64 s, .int .i64 p, .int .i64 fl, .string ⟨#[]⟩, .slice none 0 0, .slice none 0 0, .slice none 0 0, .slice none 0 0, .slice none 0 0, .int .i64 d0, .int .i64 d1, .int .i64 rc, .int .i64 lg] rfl rfl 33 #[.int .i64 0, .int .i64 0, .int .i64 0, .int .i64 0, .int .i64 0, .string ⟨#[]⟩, .slice none 0 0, .slice none 0 0, .slice none 0 0, .slice none 0 0, .slice none 0 0, .int .i64 0, .int .i64 0, .int .i64 0, .int .i64 0] Kx.out infoWire rfl hone ?_)
  obtain ⟨wz, hwz⟩ := nm (wd.setRow x #[.int .i64 k, .int .i64 f, .int .i64 s, .int .i64 p, .int .i64 fl, .string ⟨#[]⟩, .slice none 0 0, .slice none 0 0, .slice none 0 0, .slice none 0 0, .slice none 0 0, .int .i64 d0, .int .i64 d1, .int .i64 rc, .int .i64 lg])
  rw [← hwz.out]
  have Kz : Blk wz x #[.int .i64 k, .int .i64 f, .int .i64 s, .int .i64 p, .int .i64 fl, .string ⟨#[]⟩, .slice none 0 0, .slice none 0 0, .slice none 0 0, .slice none 0 0, .slice none 0 0, .int .i64 d0, .int .i64 d1, .int .i64 rc, .int .i64 lg] 33 := by rw [hwz.out]; exact setRow_heap wd x _ _ _ _ Kx.out
  have HBz : Below w.heap.size w wz := by rw [hwz.out]; exact below_setRow HB.out hxw.out _
  have r0 : wz.cell? ⟨x, 0, none⟩ = some (.int .i64 k) := Kz.cell 0
  have r1 : wz.cell? ⟨x, 1, none⟩ = some (.int .i64 f) := Kz.cell 1
  have r2 : wz.cell? ⟨x, 2, none⟩ = some (.int .i64 s) := Kz.cell 2
  have r3 : wz.cell? ⟨x, 3, none⟩ = some (.int .i64 p) := Kz.cell 3
  have r4 : wz.cell? ⟨x, 4, none⟩ = some (.int .i64 fl) := Kz.cell 4
  have r5 : wz.cell? ⟨x, 5, none⟩ = some (.string ⟨#[]⟩) := Kz.cell 5
  have r6 : wz.cell? ⟨x, 6, none⟩ = some (.slice none 0 0) := Kz.cell 6
  have r7 : wz.cell? ⟨x, 7, none⟩ = some (.slice none 0 0) := Kz.cell 7
  have r8 : wz.cell? ⟨x, 8, none⟩ = some (.slice none 0 0) := Kz.cell 8
  have r9 : wz.cell? ⟨x, 9, none⟩ = some (.slice none 0 0) := Kz.cell 9
  have r10 : wz.cell? ⟨x, 10, none⟩ = some (.slice none 0 0) := Kz.cell 10
  have r11 : wz.cell? ⟨x, 11, none⟩ = some (.int .i64 d0) := Kz.cell 11
  have r12 : wz.cell? ⟨x, 12, none⟩ = some (.int .i64 d1) := Kz.cell 12
  have r13 : wz.cell? ⟨x, 13, none⟩ = some (.int .i64 rc) := Kz.cell 13
  have r14 : wz.cell? ⟨x, 14, none⟩ = some (.int .i64 lg) := Kz.cell 14
  refine bodyPost_ret (v := .tuple #[.agg #[.int .i64 k, .int .i64 f, .int .i64 s, .int .i64 p, .int .i64 fl, .string ⟨#[]⟩, .slice none 0 0, .slice none 0 0, .slice none 0 0, .slice none 0 0, .slice none 0 0, .int .i64 d0, .int .i64 d1, .int .i64 rc, .int .i64 lg], .int .i64 0]) (by simp [results, Try.results14, go_sem, r0, r1, r2, r3, r4, r5, r6, r7, r8, r9, r10, r11, r12, r13, r14]) rfl ?_
  exact ⟨rfl, HBz⟩
end Go.Proofs.Ytfpjdmplepepjaa

/-! WSmall: A text of at most so many bytes; the cells of messages and tags. -/
namespace Go.Proofs.Ytfpjdmplepepjaa
open Go.RowKit

set_option maxRecDepth 100000 in
set_option maxHeartbeats 400000 in
theorem short_any (s : ByteArray) (n : Nat) (w : World) :
    Calls Try.prog 17 #[.string s, .int .i64 n] w fun e w' => e = .returned (.string (ofL ((bl s).take n))) ∧ w = w' := by
  by_cases h : n < s.size
  · have e : s.extract 0 n = ofL ((bl s).take n) := bl_inj (by rw [bl_extract, bl_ofL]; simp)
    go_enter Try.func17, Try.ntmps17
    go_wp2_with fail
    go_ret
    exact ⟨rfl, rfl⟩
  · have e : s = ofL ((bl s).take n) := bl_inj (by rw [bl_ofL, List.take_of_length_le (by rw [bl_length]; omega)])
    have E : Hid (s = ofL ((bl s).take n)) := e
    clear e
    go_enter Try.func17, Try.ntmps17
    go_wp2_with fail
    go_ret
    exact ⟨congrArg (fun x => Ending.returned (Value.string x)) E.out, rfl⟩

set_option maxRecDepth 100000 in
set_option maxHeartbeats 400000 in
theorem short_is (s : ByteArray) (Q : ByteArray) (hQ : Hid (Q = ofL ((bl s).take 60))) (w : World) :
    Calls Try.prog 17 #[.string s, .int .i64 60] w fun e w' => e = .returned (.string Q) ∧ w = w' := by rw [hQ.out]; exact short_any s 60 w
theorem take60 (s : ByteArray) : (ofL ((bl s).take 60)).size ≤ 60 := by rw [ofL_size, List.length_take]; omega
theorem encMsg : EncOk eMsg 5 := ⟨by decide, fun _ => rfl, fun x u hu => by simp [eMsg] at hu; rcases hu with rfl | rfl | rfl | rfl | rfl <;> rfl⟩
theorem encTag : EncOk eTag 2 := ⟨by decide, fun _ => rfl, fun x u hu => by simp [eTag] at hu; rcases hu with rfl | rfl <;> rfl⟩
theorem infoMsg : (Try.prog.info? 48).map (fun i => (i.zero, i.size, i.bytes)) = some (some (.agg #[.int .i64 0, .int .i64 0, .string .empty, .string .empty, .int .i64 0]), 5, 56) := by kernel_rfl
theorem infoTag : (Try.prog.info? 57).map (fun i => (i.zero, i.size, i.bytes)) = some (some (.agg #[.string .empty, .int .i64 0]), 2, 24) := by kernel_rfl
theorem OwnE.setAt {α : Type} {enc : α → List Value} {k : Nat} {w : World} {base : Nat} {t : TypeId} {v : Value} {xs : List α} (h : OwnE enc k w base t v xs) {y i : Nat} {u : Value} (hy : ∀ g, v.ownBlock = some g → g < y) : OwnE enc k (w.setCell ⟨y, i, none⟩ u) base t v xs :=
  h.keptBy (row := some y) ⟨rfl, rfl, rfl, by simp [World.setCell], fun j _ hn => Below.heap_setCell w ⟨y, i, none⟩ u j (fun e => hn (by rw [show j = y from e]))⟩ (.inr fun e => absurd (hy y e) (Nat.lt_irrefl _))
end Go.Proofs.Ytfpjdmplepepjaa

/-! WRefSorted: The document's Sorted: messages by rising names. -/
namespace Go.Proofs.Ytfpjdmplepepjaa
open Go.RowKit

theorem pickM_snoc (l : List Msg5) (m : Msg5) (d : Dot2) : pickM (l ++ [m]) d = pickM l d ++ if dotOf m = d then [m] else [] := by
  unfold pickM
  rw [List.filter_append]
  congr 1
  by_cases h : dotOf m = d
  · simp [h]
  · simp [h]
theorem pickM_len (l : List Msg5) (d : Dot2) : (pickM l d).length ≤ l.length := List.length_filter_le _ _
theorem flat_len (l : List Msg5) : ∀ ds : List Dot2, (ds.flatMap (pickM l)).length ≤ ds.length * l.length
  | [] => by simp
  | d :: ds => by
    have h1 := flat_len l ds
    have h2 := pickM_len l d
    rw [List.flatMap_cons, List.length_append, List.length_cons, Nat.succ_mul]
    omega
/-- What Sorted tells. -/
def SortedTells (live : List Msg5) (w : World) (e : Ending) (w' : World) : Prop :=
  ∃ (ao : Option Addr) (n cap : Nat), e = .returned (.slice ao n cap) ∧ ((sortM live).length = n ∧ n ≤ cap) ∧ SlE eMsg 5 w' ao (sortM live) ∧ (ao = none → cap = 0) ∧ (∀ a, ao = some a → w.heap.size ≤ a.block) ∧ Below w.heap.size w w'

set_option maxRecDepth 100000 in
set_option maxHeartbeats 8000000 in
theorem refsorted_any (am : Option Addr) (n cap : Nat) (l : List Msg5) (hn : Hid (l.length = n)) (hm : n ≤ 1000) (w : World) (hs : SlE eMsg 5 w am l) :
    Calls Try.prog 50 #[.slice am n cap] w (SortedTells l w) := by
  have HS := Lib.hid hs
  clear hs
  obtain ⟨RM, hRM⟩ := nm (sortM l)
  have HFIN : Hid (∀ e w', (∃ (ao : Option Addr) (n cap : Nat), e = .returned (.slice ao n cap) ∧ (RM.length = n ∧ n ≤ cap) ∧ SlE eMsg 5 w' ao RM ∧ (ao = none → cap = 0) ∧ (∀ a, ao = some a → w.heap.size ≤ a.block) ∧ Below w.heap.size w w') → SortedTells l w e w') := by
    show ∀ e w', _
    rw [hRM.out]
    exact fun e w' h => h
  obtain ⟨DL, hDL⟩ := nm (l.map dotOf)
  have hdl : Hid (DL.length = n) := by show _ = _; rw [hDL.out, List.length_map]; exact hn.out
  go_enter Try.func50, Try.ntmps50
  go_wp2_with fail
  go_loopw [3, 4] (fun u i wr => ∃ (k : Nat) (v : Value), v = u ∧ k ≤ n ∧ i = .int .i64 (k : Int) ∧ OwnE eDot 2 wr w.heap.size 31 v (DL.take k) ∧ Hid (Below w.heap.size w wr)) (fun _ i _ => n - (intOf i).toNat)
  case atStart => exact ⟨0, _, rfl, by omega, rfl, OwnE.nil _ _ _, Below.refl _ _⟩
  case round =>
    obtain ⟨k, v, rfl, hk, rfl, hown, hB⟩ := hrel
    by_cases hlt : k < n
    · obtain ⟨b, off, ⟨p1, q1, qu, bo, ct⟩, rfl, hbl, hpk, hcells⟩ := (HS.out.below hB.out).get k (by rw [hn.out]; exact hlt)
      have dc0 : wr.cell? ⟨b, off + k * 5, none⟩ = some (.int .i64 p1) := hcells 0 _ rfl
      have dc1 : wr.cell? ⟨b, off + k * 5 + 1, none⟩ = some (.int .i64 q1) := hcells 1 _ rfl
      have htk : DL.take (k + 1) = DL.take k ++ [(p1, q1)] := take_snocE (by rw [hDL.out, List.getElem?_map, hpk.out]; rfl)
      have hlz := hdl.out
      have hbs : w.heap.size ≤ wr.heap.size := hB.out.size
      clear hcells
      go_wp2_with (at_builtin; refine app_E encDot Try.underlying23 infoD rfl (by decide) rfl _ _ rfl w.heap.size _ _ rfl (hown.alloc _) (some ⟨wr.heap.size, 0, none⟩) 1 1 [((p1, q1) : Dot2)] rfl rfl (fun h => by cases h) (SlE.ofBlk encDot (Blk.new wr _ _)) (by rw [List.length_take]; omega) (Nat.le_trans hbs (by simp)) ?_)
      intro v' w2 hown2 hgrow
      have hB2 : Hid (Below w.heap.size w w2) := OwnE.grownB (hown.alloc _) (bNew hB.out _) (Nat.le_refl _) hgrow
      have hown3 : OwnE eDot 2 w2 w.heap.size 31 v' (DL.take (k + 1)) := by rw [htk]; exact hown2
      clear hown hown2 hgrow hB htk dc0 dc1 hlz
      go_wp2_with fail
      go_roundw
      case rel => exact ⟨k + 1, _, rfl, by omega, by go_num, hown3, hB2⟩
      case measure => simp [intOf]; omega
    · obtain rfl : n = k := by omega
      rw [List.take_of_length_le (by rw [hdl.out]; exact Nat.le_refl _)] at hown
      obtain ⟨ao, cp, rfl, -, -, hsl, -, -⟩ := hown.sl encDot
      have HB1 : Hid (Below w.heap.size w wr) := hB
      have HSL := Lib.hid hsl.pairs
      rw [hdl.out]
      clear hown hsl hB
      go_wp2_with fail
      refine (refsort_any ao DL n cp hdl (by omega) _ HSL.out).mono ?_
      rintro e w3 ⟨ao3, cap3, rfl, _, hsl3, _, _, hB3⟩
      obtain ⟨DS, hDS⟩ := nm (sortD DL)
      rw [← hDS.out] at hsl3 ⊢
      have HS3 : Hid (SlP w3 ao3 DS) := hsl3
      have HB3 : Hid (Below w.heap.size w w3) := bNext HB1.out hB3
      obtain ⟨m, hmm⟩ := nm DS.length
      rw [← hmm.out]
      have hml : m ≤ 1000 := by rw [hmm.out, hDS.out]; exact Nat.le_trans (sortD_length DL) (by rw [hdl.out]; exact hm)
      clear hsl3 hB3 HSL
      go_wp2_with fail
      go_loopw [5, 6] (fun u i wr => ∃ (k : Nat) (v : Value) (X : List Msg5), v = u ∧ k ≤ m ∧ i = .int .i64 (k : Int) ∧ OwnE eMsg 5 wr w3.heap.size 48 v X ∧ Hid (Below w3.heap.size w3 wr) ∧ Hid (X = (DS.take k).flatMap (pickM l))) (fun _ i _ => m - (intOf i).toNat)
      case atStart => exact ⟨0, _, [], rfl, by omega, rfl, OwnE.nil _ _ _, Below.refl _ _, rfl⟩
      case round =>
        obtain ⟨k, v, X, rfl, hk, rfl, hown, hB, hX⟩ := hrel
        by_cases hlt : k < m
        · obtain ⟨b, off, p, q, rfl, hbl, d0, d1, hp⟩ := (HS3.out.below hB.out).get k (by rw [← hmm.out]; exact hlt)
          have htk : DS.take (k + 1) = DS.take k ++ [(p, q)] := take_snocE hp.out
          have HXL : Hid (X.length ≤ 1000000) := by
            show _ ≤ _
            rw [hX.out]
            refine Nat.le_trans (flat_len _ _) ?_
            have h1 : (DS.take k).length ≤ 1000 := by rw [List.length_take]; omega
            rw [hn.out]
            exact Nat.le_trans (Nat.mul_le_mul h1 hm) (by decide)
          have HXN : Hid ((DS.take (k + 1)).flatMap (pickM l) = X ++ pickM l (p, q)) := by
            show _ = _
            rw [htk, List.flatMap_append, ← hX.out]; simp
          have HSB : Hid (SlP wr (some ⟨b, off, none⟩) DS) := HS3.out.below hB.out
          have HMR : Hid (SlE eMsg 5 wr am l) := HS.out.below (bNext HB3.out hB.out)
          have hszr : w3.heap.size ≤ wr.heap.size := hB.out.size
          rename World => wA
          have HBA : Hid (Below w3.heap.size w3 wA) := hB
          clear htk hX hB d0 d1
          go_wp2_with fail
          go_loopw [5, 7] (fun u i wr => ∃ (j : Nat) (v : Value) (Y : List Msg5), v = u ∧ j ≤ n ∧ i = .int .i64 (j : Int) ∧ OwnE eMsg 5 wr w3.heap.size 48 v Y ∧ Hid (Below w3.heap.size w3 wr) ∧ Hid (Y = X ++ pickM (l.take j) (p, q))) (fun _ i _ => n - (intOf i).toNat)
          case atStart => exact ⟨0, _, X, rfl, by omega, rfl, hown, HBA, by show _ = _; simp [pickM]⟩
          case round =>
            clear hown
            obtain ⟨j, v2, Y, rfl, hj, rfl, hown, hB, hY⟩ := hrel
            by_cases hlt2 : j < n
            · obtain ⟨b2, of2, ⟨p1, q1, qu, bo, ct⟩, rfl, hbl2, hpk, hcells⟩ := (HS.out.below (bNext HB3.out hB.out)).get j (by rw [hn.out]; exact hlt2)
              obtain ⟨b', off', p', q', e', hbl', d0, d1, hp'⟩ := (HS3.out.below hB.out).get k (by rw [← hmm.out]; exact hlt)
              cases e'
              obtain ⟨rfl, rfl⟩ : p = p' ∧ q = q' := by have := hp'.out; rw [hp.out] at this; cases this; exact ⟨rfl, rfl⟩
              have dc0 : wr.cell? ⟨b2, of2 + j * 5, none⟩ = some (.int .i64 p1) := hcells 0 _ rfl
              have dc1 : wr.cell? ⟨b2, of2 + j * 5 + 1, none⟩ = some (.int .i64 q1) := hcells 1 _ rfl
              have dc2 : wr.cell? ⟨b2, of2 + j * 5 + 2, none⟩ = some (.string qu) := hcells 2 _ rfl
              have dc3 : wr.cell? ⟨b2, of2 + j * 5 + 3, none⟩ = some (.string bo) := hcells 3 _ rfl
              have dc4 : wr.cell? ⟨b2, of2 + j * 5 + 4, none⟩ = some (.int .i64 ct) := hcells 4 _ rfl
              have htk : l.take (j + 1) = l.take j ++ [⟨p1, q1, qu, bo, ct⟩] := take_snocE hpk.out
              have hYN : X ++ pickM (l.take (j + 1)) (p, q) = Y ++ if (p1, q1) = ((p, q) : Dot2) then [⟨p1, q1, qu, bo, ct⟩] else [] := by
                rw [htk, pickM_snoc, ← List.append_assoc, ← hY.out]; rfl
              have HYL : Hid (Y.length ≤ 2000000) := by
                show _ ≤ _
                rw [hY.out, List.length_append]
                have h1 := pickM_len (l.take j) (p, q)
                rw [List.length_take] at h1
                have := HXL.out
                omega
              have hk0 : (0 : Int) ≤ (k : Int) := by omega
              have hk1 : (k : Int) < (m : Int) := by omega
              have hj0 : (0 : Int) ≤ (j : Int) := by omega
              have hj1 : (j : Int) < (n : Int) := by omega
              have hszq : w3.heap.size ≤ wr.heap.size := hB.out.size
              clear hcells htk hpk hp'
              have h3 : ¬ p1 = p ∨ (p1 = p ∧ ¬ q1 = q) ∨ (p1 = p ∧ q1 = q) := by omega
              rcases h3 with h3 | h3 | h3
              · have hpp : (p1 = p) = False := eq_false h3
                have hne : ¬ (p1, q1) = ((p, q) : Dot2) := by
                  intro e; cases e
                  exact h3 rfl
                rw [if_neg hne, List.append_nil] at hYN
                clear h3
                have HYN := Lib.hid hYN
                clear hne hYN
                go_wp2_with fail
                refine wp_region_noPanic ?_
                refine wp_region_held_drew (S := fun w' => w'.cell? ⟨b2, of2 + j * 5, none⟩ = some (.int .i64 p1) ∧ w'.cell? ⟨b2, of2 + j * 5 + 1, none⟩ = some (.int .i64 q1) ∧ w'.cell? ⟨b, off + k * 2, none⟩ = some (.int .i64 p) ∧ w'.cell? ⟨b, off + k * 2 + 1, none⟩ = some (.int .i64 q)) (by kernel_rfl) (⟨dc0, dc1, d0, d1⟩) (fun hHeld => ?_)
                refine wpAnyH_take (i := 0) (v := ?_) (takeL rfl) (by kernel_rfl) (by kernel_rfl) (by kernel_rfl) (fun _ _ _ h => h) (Or.inl ⟨by rfl, ?_⟩) (by assumption) ?_
                rotate_left
                · (intro w hSw; (try dsimp only at hSw); first | (go_simp; done) | (go_simp; with_reducible rfl))
                try simp only [Act.put, List.setIfInBounds_toArray, List.set_cons_zero, List.set_cons_succ]
                refine wpAnyH_take (i := 1) (v := ?_) (takeL rfl) (by kernel_rfl) (by kernel_rfl) (by kernel_rfl) (fun _ _ _ h => h) (Or.inl ⟨by rfl, ?_⟩) (by assumption) ?_
                rotate_left
                · (intro w hSw; (try dsimp only at hSw); first | (go_simp; done) | (go_simp; with_reducible rfl))
                try simp only [Act.put, List.setIfInBounds_toArray, List.set_cons_zero, List.set_cons_succ]
                refine wpAnyH_take (i := 2) (v := ?_) (takeL rfl) (by kernel_rfl) (by kernel_rfl) (by kernel_rfl) (fun _ _ _ h => h) (Or.inl ⟨by rfl, ?_⟩) (by assumption) ?_
                rotate_left
                · (intro w hSw; (try dsimp only at hSw); first | (go_simp; done) | (go_simp; with_reducible rfl))
                try simp only [Act.put, List.setIfInBounds_toArray, List.set_cons_zero, List.set_cons_succ]
                refine wpAnyH_take (i := 3) (v := ?_) (takeL rfl) (by kernel_rfl) (by kernel_rfl) (by kernel_rfl) (fun _ _ _ h => h) (Or.inl ⟨by rfl, ?_⟩) (by assumption) ?_
                rotate_left
                · (intro w hSw; (try dsimp only at hSw); first | (go_simp; done) | (go_simp; with_reducible rfl))
                try simp only [Act.put, List.setIfInBounds_toArray, List.set_cons_zero, List.set_cons_succ]
                refine wpAnyH_take (i := 4) (v := ?_) (takeL rfl) (by kernel_rfl) (by kernel_rfl) (by kernel_rfl) (fun _ _ _ h => h) (Or.inl ⟨by rfl, ?_⟩) (by assumption) ?_
                rotate_left
                · (intro w hSw; (try dsimp only at hSw); first | (go_simp; done) | (go_simp; with_reducible rfl))
                try simp only [Act.put, List.setIfInBounds_toArray, List.set_cons_zero, List.set_cons_succ]
                refine wpAnyH_take (i := 5) (v := ?_) (takeL rfl) (by kernel_rfl) (by kernel_rfl) (by kernel_rfl) (fun _ _ _ h => h) (Or.inl ⟨by rfl, ?_⟩) (by assumption) ?_
                rotate_left
                · (intro w hSw; (try dsimp only at hSw); first | (go_simp; done) | (go_simp; with_reducible rfl))
                try simp only [Act.put, List.setIfInBounds_toArray, List.set_cons_zero, List.set_cons_succ]
                refine wpAnyH_take (i := 6) (v := ?_) (takeL rfl) (by kernel_rfl) (by kernel_rfl) (by kernel_rfl) (fun _ _ _ h => h) (Or.inl ⟨by rfl, ?_⟩) (by assumption) ?_
                rotate_left
                · (intro w hSw; (try dsimp only at hSw); first | (go_simp; done) | (go_simp; with_reducible rfl))
                try simp only [Act.put, List.setIfInBounds_toArray, List.set_cons_zero, List.set_cons_succ]
                refine wpAnyH_take (i := 7) (v := ?_) (takeL rfl) (by kernel_rfl) (by kernel_rfl) (by kernel_rfl) (fun _ _ _ h => h) (Or.inl ⟨by rfl, ?_⟩) (by assumption) ?_
                rotate_left
                · (intro w hSw; (try dsimp only at hSw); first | (go_simp; done) | (go_simp; with_reducible rfl))
                try simp only [Act.put, List.setIfInBounds_toArray, List.set_cons_zero, List.set_cons_succ]
                refine wpAnyH_take (i := 8) (v := ?_) (takeL rfl) (by kernel_rfl) (by kernel_rfl) (by kernel_rfl) (fun _ _ _ h => h) (Or.inl ⟨by rfl, ?_⟩) (by assumption) ?_
                rotate_left
                · (intro w hSw; (try dsimp only at hSw); first | (go_simp; done) | (go_simp; with_reducible rfl))
                try simp only [Act.put, List.setIfInBounds_toArray, List.set_cons_zero, List.set_cons_succ]
                refine wpAnyH_take (i := 9) (v := ?_) (takeL rfl) (by kernel_rfl) (by kernel_rfl) (by kernel_rfl) (fun _ _ _ h => h) (Or.inl ⟨by rfl, ?_⟩) (by assumption) ?_
                rotate_left
                · (intro w hSw; (try dsimp only at hSw); first | (go_simp; done) | (go_simp; with_reducible rfl))
                try simp only [Act.put, List.setIfInBounds_toArray, List.set_cons_zero, List.set_cons_succ]
                refine wpAnyH_done (by kernel_rfl) ?_ _
                refine NoPanic.normal ?_
                go_wp2_with fail
                go_roundw
                case rel => exact ⟨j + 1, _, Y, rfl, by omega, by go_num, hown, bDrew hB.out, HYN.out.symm⟩
                case measure => simp [intOf]; omega
              · have hpp : (p1 = p) = True := eq_true h3.1
                have hqq : (q1 = q) = False := eq_false h3.2
                have hne : ¬ (p1, q1) = ((p, q) : Dot2) := by
                  intro e; cases e
                  exact h3.2 rfl
                rw [if_neg hne, List.append_nil] at hYN
                clear h3
                have HYN := Lib.hid hYN
                clear hne hYN
                go_wp2_with fail
                refine wp_region_noPanic ?_
                refine wp_region_held_drew (S := fun w' => w'.cell? ⟨b2, of2 + j * 5, none⟩ = some (.int .i64 p1) ∧ w'.cell? ⟨b2, of2 + j * 5 + 1, none⟩ = some (.int .i64 q1) ∧ w'.cell? ⟨b, off + k * 2, none⟩ = some (.int .i64 p) ∧ w'.cell? ⟨b, off + k * 2 + 1, none⟩ = some (.int .i64 q)) (by kernel_rfl) (⟨dc0, dc1, d0, d1⟩) (fun hHeld => ?_)
                refine wpAnyH_take (i := 0) (v := ?_) (takeL rfl) (by kernel_rfl) (by kernel_rfl) (by kernel_rfl) (fun _ _ _ h => h) (Or.inl ⟨by rfl, ?_⟩) (by assumption) ?_
                rotate_left
                · (intro w hSw; (try dsimp only at hSw); first | (go_simp; done) | (go_simp; with_reducible rfl))
                try simp only [Act.put, List.setIfInBounds_toArray, List.set_cons_zero, List.set_cons_succ]
                refine wpAnyH_take (i := 1) (v := ?_) (takeL rfl) (by kernel_rfl) (by kernel_rfl) (by kernel_rfl) (fun _ _ _ h => h) (Or.inl ⟨by rfl, ?_⟩) (by assumption) ?_
                rotate_left
                · (intro w hSw; (try dsimp only at hSw); first | (go_simp; done) | (go_simp; with_reducible rfl))
                try simp only [Act.put, List.setIfInBounds_toArray, List.set_cons_zero, List.set_cons_succ]
                refine wpAnyH_take (i := 2) (v := ?_) (takeL rfl) (by kernel_rfl) (by kernel_rfl) (by kernel_rfl) (fun _ _ _ h => h) (Or.inl ⟨by rfl, ?_⟩) (by assumption) ?_
                rotate_left
                · (intro w hSw; (try dsimp only at hSw); first | (go_simp; done) | (go_simp; with_reducible rfl))
                try simp only [Act.put, List.setIfInBounds_toArray, List.set_cons_zero, List.set_cons_succ]
                refine wpAnyH_take (i := 3) (v := ?_) (takeL rfl) (by kernel_rfl) (by kernel_rfl) (by kernel_rfl) (fun _ _ _ h => h) (Or.inl ⟨by rfl, ?_⟩) (by assumption) ?_
                rotate_left
                · (intro w hSw; (try dsimp only at hSw); first | (go_simp; done) | (go_simp; with_reducible rfl))
                try simp only [Act.put, List.setIfInBounds_toArray, List.set_cons_zero, List.set_cons_succ]
                refine wpAnyH_take (i := 4) (v := ?_) (takeL rfl) (by kernel_rfl) (by kernel_rfl) (by kernel_rfl) (fun _ _ _ h => h) (Or.inl ⟨by rfl, ?_⟩) (by assumption) ?_
                rotate_left
                · (intro w hSw; (try dsimp only at hSw); first | (go_simp; done) | (go_simp; with_reducible rfl))
                try simp only [Act.put, List.setIfInBounds_toArray, List.set_cons_zero, List.set_cons_succ]
                refine wpAnyH_take (i := 5) (v := ?_) (takeL rfl) (by kernel_rfl) (by kernel_rfl) (by kernel_rfl) (fun _ _ _ h => h) (Or.inl ⟨by rfl, ?_⟩) (by assumption) ?_
                rotate_left
                · (intro w hSw; (try dsimp only at hSw); first | (go_simp; done) | (go_simp; with_reducible rfl))
                try simp only [Act.put, List.setIfInBounds_toArray, List.set_cons_zero, List.set_cons_succ]
                refine wpAnyH_take (i := 6) (v := ?_) (takeL rfl) (by kernel_rfl) (by kernel_rfl) (by kernel_rfl) (fun _ _ _ h => h) (Or.inl ⟨by rfl, ?_⟩) (by assumption) ?_
                rotate_left
                · (intro w hSw; (try dsimp only at hSw); first | (go_simp; done) | (go_simp; with_reducible rfl))
                try simp only [Act.put, List.setIfInBounds_toArray, List.set_cons_zero, List.set_cons_succ]
                refine wpAnyH_take (i := 7) (v := ?_) (takeL rfl) (by kernel_rfl) (by kernel_rfl) (by kernel_rfl) (fun _ _ _ h => h) (Or.inl ⟨by rfl, ?_⟩) (by assumption) ?_
                rotate_left
                · (intro w hSw; (try dsimp only at hSw); first | (go_simp; done) | (go_simp; with_reducible rfl))
                try simp only [Act.put, List.setIfInBounds_toArray, List.set_cons_zero, List.set_cons_succ]
                refine wpAnyH_take (i := 8) (v := ?_) (takeL rfl) (by kernel_rfl) (by kernel_rfl) (by kernel_rfl) (fun _ _ _ h => h) (Or.inl ⟨by rfl, ?_⟩) (by assumption) ?_
                rotate_left
                · (intro w hSw; (try dsimp only at hSw); first | (go_simp; done) | (go_simp; with_reducible rfl))
                try simp only [Act.put, List.setIfInBounds_toArray, List.set_cons_zero, List.set_cons_succ]
                refine wpAnyH_take (i := 9) (v := ?_) (takeL rfl) (by kernel_rfl) (by kernel_rfl) (by kernel_rfl) (fun _ _ _ h => h) (Or.inl ⟨by rfl, ?_⟩) (by assumption) ?_
                rotate_left
                · (intro w hSw; (try dsimp only at hSw); first | (go_simp; done) | (go_simp; with_reducible rfl))
                try simp only [Act.put, List.setIfInBounds_toArray, List.set_cons_zero, List.set_cons_succ]
                refine wpAnyH_done (by kernel_rfl) ?_ _
                refine NoPanic.normal ?_
                go_wp2_with fail
                go_roundw
                case rel => exact ⟨j + 1, _, Y, rfl, by omega, by go_num, hown, bDrew hB.out, HYN.out.symm⟩
                case measure => simp [intOf]; omega
              · have hpp : (p1 = p) = True := eq_true h3.1
                have hqq : (q1 = q) = True := eq_true h3.2
                have heq : (p1, q1) = ((p, q) : Dot2) := Prod.ext h3.1 h3.2
                rw [if_pos heq] at hYN
                clear h3
                have HYN := Lib.hid hYN
                have hYl := HYL.out
                clear heq hYN
                go_wp2_with fail
                refine wp_region_noPanic ?_
                refine wp_region_held_drew (S := fun w' => w'.cell? ⟨b2, of2 + j * 5, none⟩ = some (.int .i64 p1) ∧ w'.cell? ⟨b2, of2 + j * 5 + 1, none⟩ = some (.int .i64 q1) ∧ w'.cell? ⟨b, off + k * 2, none⟩ = some (.int .i64 p) ∧ w'.cell? ⟨b, off + k * 2 + 1, none⟩ = some (.int .i64 q)) (by kernel_rfl) (⟨dc0, dc1, d0, d1⟩) (fun hHeld => ?_)
                refine wpAnyH_take (i := 0) (v := ?_) (takeL rfl) (by kernel_rfl) (by kernel_rfl) (by kernel_rfl) (fun _ _ _ h => h) (Or.inl ⟨by rfl, ?_⟩) (by assumption) ?_
                rotate_left
                · (intro w hSw; (try dsimp only at hSw); first | (go_simp; done) | (go_simp; with_reducible rfl))
                try simp only [Act.put, List.setIfInBounds_toArray, List.set_cons_zero, List.set_cons_succ]
                refine wpAnyH_take (i := 1) (v := ?_) (takeL rfl) (by kernel_rfl) (by kernel_rfl) (by kernel_rfl) (fun _ _ _ h => h) (Or.inl ⟨by rfl, ?_⟩) (by assumption) ?_
                rotate_left
                · (intro w hSw; (try dsimp only at hSw); first | (go_simp; done) | (go_simp; with_reducible rfl))
                try simp only [Act.put, List.setIfInBounds_toArray, List.set_cons_zero, List.set_cons_succ]
                refine wpAnyH_take (i := 2) (v := ?_) (takeL rfl) (by kernel_rfl) (by kernel_rfl) (by kernel_rfl) (fun _ _ _ h => h) (Or.inl ⟨by rfl, ?_⟩) (by assumption) ?_
                rotate_left
                · (intro w hSw; (try dsimp only at hSw); first | (go_simp; done) | (go_simp; with_reducible rfl))
                try simp only [Act.put, List.setIfInBounds_toArray, List.set_cons_zero, List.set_cons_succ]
                refine wpAnyH_take (i := 3) (v := ?_) (takeL rfl) (by kernel_rfl) (by kernel_rfl) (by kernel_rfl) (fun _ _ _ h => h) (Or.inl ⟨by rfl, ?_⟩) (by assumption) ?_
                rotate_left
                · (intro w hSw; (try dsimp only at hSw); first | (go_simp; done) | (go_simp; with_reducible rfl))
                try simp only [Act.put, List.setIfInBounds_toArray, List.set_cons_zero, List.set_cons_succ]
                refine wpAnyH_take (i := 4) (v := ?_) (takeL rfl) (by kernel_rfl) (by kernel_rfl) (by kernel_rfl) (fun _ _ _ h => h) (Or.inl ⟨by rfl, ?_⟩) (by assumption) ?_
                rotate_left
                · (intro w hSw; (try dsimp only at hSw); first | (go_simp; done) | (go_simp; with_reducible rfl))
                try simp only [Act.put, List.setIfInBounds_toArray, List.set_cons_zero, List.set_cons_succ]
                refine wpAnyH_take (i := 5) (v := ?_) (takeL rfl) (by kernel_rfl) (by kernel_rfl) (by kernel_rfl) (fun _ _ _ h => h) (Or.inl ⟨by rfl, ?_⟩) (by assumption) ?_
                rotate_left
                · (intro w hSw; (try dsimp only at hSw); first | (go_simp; done) | (go_simp; with_reducible rfl))
                try simp only [Act.put, List.setIfInBounds_toArray, List.set_cons_zero, List.set_cons_succ]
                refine wpAnyH_take (i := 6) (v := ?_) (takeL rfl) (by kernel_rfl) (by kernel_rfl) (by kernel_rfl) (fun _ _ _ h => h) (Or.inl ⟨by rfl, ?_⟩) (by assumption) ?_
                rotate_left
                · (intro w hSw; (try dsimp only at hSw); first | (go_simp; done) | (go_simp; with_reducible rfl))
                try simp only [Act.put, List.setIfInBounds_toArray, List.set_cons_zero, List.set_cons_succ]
                refine wpAnyH_take (i := 7) (v := ?_) (takeL rfl) (by kernel_rfl) (by kernel_rfl) (by kernel_rfl) (fun _ _ _ h => h) (Or.inl ⟨by rfl, ?_⟩) (by assumption) ?_
                rotate_left
                · (intro w hSw; (try dsimp only at hSw); first | (go_simp; done) | (go_simp; with_reducible rfl))
                try simp only [Act.put, List.setIfInBounds_toArray, List.set_cons_zero, List.set_cons_succ]
                refine wpAnyH_take (i := 8) (v := ?_) (takeL rfl) (by kernel_rfl) (by kernel_rfl) (by kernel_rfl) (fun _ _ _ h => h) (Or.inl ⟨by rfl, ?_⟩) (by assumption) ?_
                rotate_left
                · (intro w hSw; (try dsimp only at hSw); first | (go_simp; done) | (go_simp; with_reducible rfl))
                try simp only [Act.put, List.setIfInBounds_toArray, List.set_cons_zero, List.set_cons_succ]
                refine wpAnyH_take (i := 9) (v := ?_) (takeL rfl) (by kernel_rfl) (by kernel_rfl) (by kernel_rfl) (fun _ _ _ h => h) (Or.inl ⟨by rfl, ?_⟩) (by assumption) ?_
                rotate_left
                · (intro w hSw; (try dsimp only at hSw); first | (go_simp; done) | (go_simp; with_reducible rfl))
                try simp only [Act.put, List.setIfInBounds_toArray, List.set_cons_zero, List.set_cons_succ]
                refine wpAnyH_done (by kernel_rfl) ?_ _
                refine NoPanic.normal ?_
                go_wp2_with (at_builtin; refine app_E encMsg Try.underlying22 infoMsg rfl (by decide) rfl _ _ rfl w3.heap.size _ Y rfl (OwnE.alloc hown.drew _) (some ⟨wr.heap.size, 0, none⟩) 1 1 [(⟨p1, q1, qu, bo, ct⟩ : Msg5)] rfl rfl (fun h => by cases h) (SlE.ofBlk encMsg (Blk.new wr.drew _ _)) (by omega) (Nat.le_trans hszq (by simp)) ?_)
                intro v' w4 hown2 hgrow
                have hB4 : Hid (Below w3.heap.size w3 w4) := OwnE.grownB (OwnE.alloc hown.drew _) (bNew (bDrew hB.out) _) (Nat.le_refl _) hgrow
                clear hown hgrow hB dc0 dc1 dc2 dc3 dc4 d0 d1
                go_wp2_with fail
                go_roundw
                case rel => exact ⟨j + 1, _, _, rfl, by omega, by go_num, hown2, hB4, HYN.out.symm⟩
                case measure => simp [intOf]; omega
            · obtain rfl : n = j := by omega
              rw [List.take_of_length_le (by rw [hn.out]; exact Nat.le_refl _)] at hY
              go_wp2_with fail
              go_roundw
              case rel => exact ⟨k + 1, _, Y, rfl, by omega, by go_num, hown, hB, by show _ = _; rw [HXN.out]; exact hY.out⟩
              case measure => simp [intOf]; omega
        · obtain rfl : m = k := by omega
          rw [List.take_of_length_le (by rw [← hmm.out]; exact Nat.le_refl _), hDS.out, hDL.out, show (sortD (l.map dotOf)).flatMap (pickM l) = RM from hRM.out.symm] at hX
          obtain rfl := hX.out
          obtain ⟨a8, c8, rfl, h1, -, h2, h3, h4⟩ := hown.sl encMsg
          have hsz := HB3.out.size
          go_wp2_with fail
          go_ret
          exact HFIN.out _ _ ⟨a8, _, c8, rfl, ⟨rfl, h1⟩, h2, h3, fun a ha => Nat.le_trans hsz (h4 a ha), bNext HB3.out hB.out⟩
end Go.Proofs.Ytfpjdmplepepjaa

/-! WRefBagC: The document's checks of bags. -/
namespace Go.Proofs.Ytfpjdmplepepjaa
open Go.RowKit

set_option maxRecDepth 100000 in
set_option maxHeartbeats 4000000 in
theorem refmaym_any (p q : Int) (qu bo : ByteArray) (ct : Int) (r : Bool) (hr : Hid (r = true ↔ mayM ⟨p, q, qu, bo, ct⟩)) (w : World) :
    Calls Try.prog 48 #[.agg #[.int .i64 p, .int .i64 q, .string qu, .string bo, .int .i64 ct]] w fun e w' => e = .returned (.bool r) ∧ Below w.heap.size w w' := by
  obtain ⟨w0, hw0⟩ := nm (w.alloc (.cells #[.int .i64 p, .int .i64 q, .string qu, .string bo, .int .i64 ct] 48))
  obtain ⟨x, hx⟩ := nm w.heap.size
  have Kx : Hid (Blk w0 x #[.int .i64 p, .int .i64 q, .string qu, .string bo, .int .i64 ct] 48) := blkN hw0.out hx.out
  have HB0 : Hid (Below w.heap.size w w0) := by rw [hw0.out]; exact bOld _
  obtain ⟨C, hC⟩ := nm (okD p q)
  go_enter Try.func48, Try.ntmps48
  go_upto_region 1 with fail
  rw [← hw0.out, ← hx.out]
  have c0 : w0.cell? ⟨x, 0, none⟩ = some (.int .i64 p) := Kx.out.cell 0
  have c1 : w0.cell? ⟨x, 1, none⟩ = some (.int .i64 q) := Kx.out.cell 1
  go_wp2_with fail
  refine (refcheck_any p q C hC _).mono ?_; rintro e w1 ⟨rfl, hB1⟩
  replace Kx := Lib.hid (Kx.out.below hB1 Kx.out.lt)
  replace HB0 := Lib.hid (bNext HB0.out hB1)
  clear hB1 c0 c1
  have c2 : w1.cell? ⟨x, 2, none⟩ = some (.string qu) := Kx.out.cell 2
  have c3 : w1.cell? ⟨x, 3, none⟩ = some (.string bo) := Kx.out.cell 3
  have c4 : w1.cell? ⟨x, 4, none⟩ = some (.int .i64 ct) := Kx.out.cell 4
  cases C
  · obtain rfl : r = false := notB hr.out fun h => by have := h.1; rw [dotP, ← hC.out] at this; cases this
    go_wp2_with fail
    go_ret
    exact ⟨rfl, HB0.out⟩
  by_cases g0 : 1 ≤ qu.size
  rotate_left
  · obtain rfl : r = false := notB hr.out fun h => by have := h.2.1; simp only at this; omega
    have k0 : decide ((1 : Int) ≤ (qu.size : Int)) = false := decide_eq_false (by omega)
    clear g0
    go_wp2_with fail
    go_ret
    exact ⟨rfl, HB0.out⟩
  have k0 : decide ((1 : Int) ≤ (qu.size : Int)) = true := decide_eq_true (by omega)
  by_cases g1 : qu.size ≤ 40
  rotate_left
  · obtain rfl : r = false := notB hr.out fun h => by have := h.2.2.1; simp only at this; omega
    have k1 : decide ((qu.size : Int) ≤ 40) = false := decide_eq_false (by omega)
    clear g1
    go_wp2_with fail
    go_ret
    exact ⟨rfl, HB0.out⟩
  have k1 : decide ((qu.size : Int) ≤ 40) = true := decide_eq_true (by omega)
  by_cases g2 : bo.size ≤ 1000
  rotate_left
  · obtain rfl : r = false := notB hr.out fun h => by have := h.2.2.2.1; simp only at this; omega
    have k2 : decide ((bo.size : Int) ≤ 1000) = false := decide_eq_false (by omega)
    clear g2
    go_wp2_with fail
    go_ret
    exact ⟨rfl, HB0.out⟩
  have k2 : decide ((bo.size : Int) ≤ 1000) = true := decide_eq_true (by omega)
  by_cases g3 : 0 ≤ ct
  rotate_left
  · obtain rfl : r = false := notB hr.out fun h => by have := h.2.2.2.2.1; simp only at this; omega
    have k3 : decide (0 ≤ ct) = false := decide_eq_false (by omega)
    clear g3
    go_wp2_with fail
    go_ret
    exact ⟨rfl, HB0.out⟩
  have k3 : decide (0 ≤ ct) = true := decide_eq_true (by omega)
  by_cases g4 : ct ≤ 1048576
  rotate_left
  · obtain rfl : r = false := notB hr.out fun h => by have := h.2.2.2.2.2; simp only at this; omega
    have k4 : decide (ct ≤ 1048576) = false := decide_eq_false (by omega)
    clear g4
    go_wp2_with fail
    go_ret
    exact ⟨rfl, HB0.out⟩
  have k4 : decide (ct ≤ 1048576) = true := decide_eq_true (by omega)
  obtain rfl : r = true := hr.out.2 ⟨hC.out.symm, g0, g1, g2, g3, g4⟩
  clear g0 g1 g2 g3 g4
  go_wp2_with fail
  go_ret
  exact ⟨rfl, HB0.out⟩
end Go.Proofs.Ytfpjdmplepepjaa

/-! WRefPut: The document's Put of a message that may be: it is there, or its name was seen. -/
namespace Go.Proofs.Ytfpjdmplepepjaa
open Go.RowKit

theorem cell_set3 {w : World} {r : Nat} {a : Addr} {v v0 v1 v2 : Value} (h : w.cell? a = some v) (hn : a.block ≠ r) : (((w.setCell ⟨r, 0, none⟩ v0).setCell ⟨r, 1, none⟩ v1).setCell ⟨r, 2, none⟩ v2).cell? a = some v := by
  rw [World.cell?_setCell_far _ _ _ _ (Ne.symm hn), World.cell?_setCell_far _ _ _ _ (Ne.symm hn), World.cell?_setCell_far _ _ _ _ (Ne.symm hn)]; exact h
/-- What Put tells. -/
def PutTells (live : List Msg5) (bs cl : List Dot2) (m : Msg5) (w : World) (e : Ending) (w' : World) : Prop :=
  (hasD bs cl (dotOf m) ∧ e = .returned (.tuple #[.agg #[.slice none 0 0, .slice none 0 0, .slice none 0 0], .int .i64 13]) ∧ Below w.heap.size w w') ∨
  (¬ hasD bs cl (dotOf m) ∧ ∃ (am ab ac : Option Addr) (nl kl nb kb nc kc : Nat), e = .returned (.tuple #[.agg #[.slice am nl kl, .slice ab nb kb, .slice ac nc kc], .int .i64 0]) ∧ ((putM live m).length = nl ∧ (putB bs cl (dotOf m)).length = nb ∧ (putC bs cl (dotOf m)).length = nc ∧ nl ≤ kl ∧ nb ≤ kb ∧ nc ≤ kc) ∧ (SlE eMsg 5 w' am (putM live m) ∧ SlP w' ab (putB bs cl (dotOf m)) ∧ SlP w' ac (putC bs cl (dotOf m))) ∧ ((am = none → kl = 0) ∧ (ab = none → kb = 0) ∧ (ac = none → kc = 0)) ∧ ((∀ a, am = some a → w.heap.size ≤ a.block) ∧ (∀ a, ab = some a → w.heap.size ≤ a.block) ∧ (∀ a, ac = some a → w.heap.size ≤ a.block)) ∧ Below w.heap.size w w')

set_option maxRecDepth 100000 in
set_option maxHeartbeats 16000000 in
theorem refput_any (am ab ac : Option Addr) (nl kl nb kb nc kc : Nat) (live : List Msg5) (bs cl : List Dot2) (p q : Int) (qu bo : ByteArray) (ct : Int) (hnl : Hid (live.length = nl)) (hnb : Hid (bs.length = nb)) (hnc : Hid (cl.length = nc)) (hml : nl ≤ 900) (hmb : nb ≤ 10000) (hmc : nc ≤ 9999) (hkl : Hid (am = none → kl = 0)) (hkb : Hid (ab = none → kb = 0)) (hkc : Hid (ac = none → kc = 0)) (hbag : Hid (BagP live bs cl)) (hmay : Hid (mayM ⟨p, q, qu, bo, ct⟩)) (w : World) (hs0 : SlE eMsg 5 w am live) (hs1 : SlP w ab bs) (hs2 : SlP w ac cl) :
    Calls Try.prog 18 #[.agg #[.slice am nl kl, .slice ab nb kb, .slice ac nc kc], .agg #[.int .i64 p, .int .i64 q, .string qu, .string bo, .int .i64 ct]] w (PutTells live bs cl ⟨p, q, qu, bo, ct⟩ w) := by
  have S0 := Lib.hid hs0
  have S1 := Lib.hid hs1
  have S2 := Lib.hid hs2
  clear hs0 hs1 hs2
  obtain ⟨RM, hRM⟩ := nm (putM live ⟨p, q, qu, bo, ct⟩)
  obtain ⟨RB, hRB⟩ := nm (putB bs cl (p, q))
  obtain ⟨RC, hRC⟩ := nm (putC bs cl (p, q))
  have HTELL : Hid (∀ e w', ((hasD bs cl (p, q) ∧ e = .returned (.tuple #[.agg #[.slice none 0 0, .slice none 0 0, .slice none 0 0], .int .i64 13]) ∧ Below w.heap.size w w') ∨
  (¬ hasD bs cl (p, q) ∧ ∃ (am ab ac : Option Addr) (nl kl nb kb nc kc : Nat), e = .returned (.tuple #[.agg #[.slice am nl kl, .slice ab nb kb, .slice ac nc kc], .int .i64 0]) ∧ (RM.length = nl ∧ RB.length = nb ∧ RC.length = nc ∧ nl ≤ kl ∧ nb ≤ kb ∧ nc ≤ kc) ∧ (SlE eMsg 5 w' am RM ∧ SlP w' ab RB ∧ SlP w' ac RC) ∧ ((am = none → kl = 0) ∧ (ab = none → kb = 0) ∧ (ac = none → kc = 0)) ∧ ((∀ a, am = some a → w.heap.size ≤ a.block) ∧ (∀ a, ab = some a → w.heap.size ≤ a.block) ∧ (∀ a, ac = some a → w.heap.size ≤ a.block)) ∧ Below w.heap.size w w')) → PutTells live bs cl ⟨p, q, qu, bo, ct⟩ w e w') := by
    show ∀ e w', _
    rw [hRM.out, hRB.out, hRC.out]
    exact fun e w' h => h
  obtain ⟨wa, hwa⟩ := nm (w.alloc (.cells #[.slice am nl kl, .slice ab nb kb, .slice ac nc kc] 27))
  obtain ⟨wb, hwb⟩ := nm (wa.alloc (.cells #[.int .i64 p, .int .i64 q, .string qu, .string bo, .int .i64 ct] 48))
  obtain ⟨w0, hw0⟩ := nm (wb.alloc (.cells #[.slice none 0 0, .slice none 0 0, .slice none 0 0] 27))
  obtain ⟨x, hx⟩ := nm w.heap.size
  obtain ⟨y, hy⟩ := nm wa.heap.size
  obtain ⟨r, hr⟩ := nm wb.heap.size
  obtain ⟨B0, hB0⟩ := nm w0.heap.size
  have HY : Hid (x + 1 = y) := by show _ = _; rw [hy.out, hwa.out, hx.out]; simp
  have HR : Hid (y + 1 = r) := by show _ = _; rw [hr.out, hwb.out, hy.out]; simp
  have HB0 : Hid (r + 1 = B0) := by show _ = _; rw [hB0.out, hw0.out, hr.out]; simp
  have HLT : Hid (w.heap.size ≤ r ∧ x < B0 ∧ y < B0 ∧ r < B0) := by show _ ∧ _; have := hx.out; have := HY.out; have := HR.out; have := HB0.out; omega
  have KX : Hid (Blk w0 x #[.slice am nl kl, .slice ab nb kb, .slice ac nc kc] 27) := by show Blk _ _ _ _; rw [hw0.out, hwb.out]; exact ((blkN hwa.out hx.out).alloc _ |>.alloc _)
  have KY : Hid (Blk w0 y #[.int .i64 p, .int .i64 q, .string qu, .string bo, .int .i64 ct] 48) := by show Blk _ _ _ _; rw [hw0.out]; exact (blkN hwb.out hy.out).alloc _
  have KR : Hid (Blk w0 r #[.slice none 0 0, .slice none 0 0, .slice none 0 0] 27) := blkN hw0.out hr.out
  have HB : Hid (Below w.heap.size w w0) := by show Below _ _ _; rw [hw0.out, hwb.out, hwa.out]; exact bNew (bNew (bOld _) _) _
  have HSZ : Hid (w0.heap.size = B0) := hB0.out.symm
  replace S0 : Hid (SlE eMsg 5 w0 am live) := S0.out.below HB.out
  replace S1 : Hid (SlP w0 ab bs) := S1.out.below HB.out
  replace S2 : Hid (SlP w0 ac cl) := S2.out.below HB.out
  obtain ⟨G, hG, hGf, hGt⟩ := boolOf (hasD bs cl (p, q))
  go_enter Try.func18, Try.ntmps18
  go_upto_region 1 with fail
  rw [← hwa.out, ← hwb.out, ← hw0.out, ← hx.out]
  rw [HY.out, HR.out]
  clear hwa hwb hw0 hx hr hy hB0
  have e0 : w0.cell? ⟨y, 0, none⟩ = some (.int .i64 p) := KY.out.cell 0
  have e1 : w0.cell? ⟨y, 1, none⟩ = some (.int .i64 q) := KY.out.cell 1
  have e2 : w0.cell? ⟨y, 2, none⟩ = some (.string qu) := KY.out.cell 2
  have e3 : w0.cell? ⟨y, 3, none⟩ = some (.string bo) := KY.out.cell 3
  have e4 : w0.cell? ⟨y, 4, none⟩ = some (.int .i64 ct) := KY.out.cell 4
  go_wp2_with fail
  refine (refmaym_any p q qu bo ct true (itT hmay) _).mono ?_; rintro e w1 ⟨rfl, hB1⟩
  replace KX := Lib.hid (KX.out.below hB1 KX.out.lt)
  replace KY := Lib.hid (KY.out.below hB1 KY.out.lt)
  replace KR := Lib.hid (KR.out.below hB1 KR.out.lt)
  replace S0 := Lib.hid (S0.out.below hB1)
  replace S1 := Lib.hid (S1.out.below hB1)
  replace S2 := Lib.hid (S2.out.below hB1)
  have HS1 : Hid (B0 ≤ w1.heap.size) := by show _ ≤ _; rw [← HSZ.out]; exact hB1.size
  replace HB := Lib.hid (bNext HB.out hB1)
  clear hB1 HSZ e0 e1 e2 e3 e4
  have c0 : w1.cell? ⟨x, 0, none⟩ = some (.slice am nl kl) := KX.out.cell 0
  have c1 : w1.cell? ⟨x, 1, none⟩ = some (.slice ab nb kb) := KX.out.cell 1
  have c2 : w1.cell? ⟨x, 2, none⟩ = some (.slice ac nc kc) := KX.out.cell 2
  have e0 : w1.cell? ⟨y, 0, none⟩ = some (.int .i64 p) := KY.out.cell 0
  have e1 : w1.cell? ⟨y, 1, none⟩ = some (.int .i64 q) := KY.out.cell 1
  go_wp2_with fail
  refine (refchas_any ab ac nb kb nc kc bs cl hnb (by omega) hnc (by omega) p q hbag.out.ctx.asc1 (fun x hx => hbag.out.ctx.base.all (Nat.le_refl _) x hx) G hG _ S1.out S2.out).mono ?_; rintro e w2 ⟨rfl, hB2⟩
  replace KX := Lib.hid (KX.out.below hB2 KX.out.lt)
  replace KY := Lib.hid (KY.out.below hB2 KY.out.lt)
  replace KR := Lib.hid (KR.out.below hB2 KR.out.lt)
  replace S0 := Lib.hid (S0.out.below hB2)
  replace S1 := Lib.hid (S1.out.below hB2)
  replace S2 := Lib.hid (S2.out.below hB2)
  replace HS1 := Lib.hid (Nat.le_trans HS1.out hB2.size)
  replace HB := Lib.hid (bNext HB.out hB2)
  clear hB2 e0 e1 c0 c1 c2
  cases G
  case true =>
    have cr0 : w2.cell? ⟨r, 0, none⟩ = some (.slice none 0 0) := KR.out.cell 0
    have cr1 : w2.cell? ⟨r, 1, none⟩ = some (.slice none 0 0) := KR.out.cell 1
    have cr2 : w2.cell? ⟨r, 2, none⟩ = some (.slice none 0 0) := KR.out.cell 2
    have fr0 : w2.frozen? ⟨r, 0, none⟩ = false := KR.out.free 0
    have fr1 : w2.frozen? ⟨r, 1, none⟩ = false := KR.out.free 1
    have fr2 : w2.frozen? ⟨r, 2, none⟩ = false := KR.out.free 2
    go_wp2_with fail
    obtain ⟨wz, hwz⟩ := nm (((w2.setCell ⟨r, 0, none⟩ (.slice none 0 0)).setCell ⟨r, 1, none⟩ (.slice none 0 0)).setCell ⟨r, 2, none⟩ (.slice none 0 0))
    rw [← hwz.out]
    have Kz : Blk wz r #[.slice none 0 0, .slice none 0 0, .slice none 0 0] 27 := by rw [hwz.out]; exact ((KR.out.set 0 _).set 1 _).set 2 _
    have r0 : wz.cell? ⟨r, 0, none⟩ = some (.slice none 0 0) := Kz.cell 0
    have r1 : wz.cell? ⟨r, 1, none⟩ = some (.slice none 0 0) := Kz.cell 1
    have r2 : wz.cell? ⟨r, 2, none⟩ = some (.slice none 0 0) := Kz.cell 2
    refine bodyPost_ret (v := .tuple #[.agg #[.slice none 0 0, .slice none 0 0, .slice none 0 0], .int .i64 13]) (by simp [results, Try.results18, go_sem, r0, r1, r2]) rfl ?_
    refine HTELL.out _ _ (.inl ⟨hGt.out (by first | exact rfl | exact trivial), rfl, ?_⟩)
    have hw := HLT.out.1
    rw [hwz.out]; exact ((HB.out.setCell (p := ⟨r, 0, none⟩) hw _).setCell (p := ⟨r, 1, none⟩) hw _).setCell (p := ⟨r, 2, none⟩) hw _
  have HNOT : Hid (¬ hasD bs cl (p, q)) := hGf.out (by first | exact rfl | exact trivial)
  clear hG hGf hGt
  have hszr := HS1.out
  have c0 : w2.cell? ⟨x, 0, none⟩ = some (.slice am nl kl) := KX.out.cell 0
  have HKL := hkl.out
  go_wp2_with (at_builtin; refine app_E encMsg Try.underlying22 infoMsg rfl (by decide) rfl _ _ rfl w2.heap.size _ [] rfl (OwnE.nil _ _ _) am nl kl live rfl hnl.out HKL S0.out (by simp; omega) (Nat.le_refl _) ?_)
  intro v1 w3 hown hgrow
  have HB3 : Hid (Below w2.heap.size w2 w3) := OwnE.grownB (OwnE.nil (enc := eMsg) (k := 5) w2 w2.heap.size 48) (Below.refl _ _) (Nat.le_refl _) hgrow
  clear hgrow c0
  have hsz3 : w2.heap.size ≤ w3.heap.size := HB3.out.size
  have KY3 := Lib.hid (KY.out.below HB3.out KY.out.lt)
  have e0 : w3.cell? ⟨y, 0, none⟩ = some (.int .i64 p) := KY3.out.cell 0
  have e1 : w3.cell? ⟨y, 1, none⟩ = some (.int .i64 q) := KY3.out.cell 1
  have e2 : w3.cell? ⟨y, 2, none⟩ = some (.string qu) := KY3.out.cell 2
  have e3 : w3.cell? ⟨y, 3, none⟩ = some (.string bo) := KY3.out.cell 3
  have e4 : w3.cell? ⟨y, 4, none⟩ = some (.int .i64 ct) := KY3.out.cell 4
  have hnl2 := hnl.out
  go_wp2_with (at_builtin; refine app_E encMsg Try.underlying22 infoMsg rfl (by decide) rfl _ _ rfl w2.heap.size _ live rfl (hown.alloc _) (some ⟨w3.heap.size, 0, none⟩) 1 1 [(⟨p, q, qu, bo, ct⟩ : Msg5)] rfl rfl (fun h => by cases h) (SlE.ofBlk encMsg (Blk.new w3 _ _)) (by omega) (Nat.le_trans hsz3 (by simp)) ?_)
  intro v2 w4 hown2 hgrow
  have HB4 : Hid (Below w2.heap.size w2 w4) := OwnE.grownB (hown.alloc _) (bNew HB3.out _) (Nat.le_refl _) hgrow
  obtain ⟨a4, c4, rfl, -, -, hsl, -, -⟩ := hown2.sl encMsg
  obtain ⟨L, hL⟩ := nm (live ++ [(⟨p, q, qu, bo, ct⟩ : Msg5)])
  have hll : Hid (L.length = nl + 1) := by show _ = _; rw [hL.out, List.length_append, hnl2]; rfl
  rw [← hL.out] at hsl ⊢
  rw [hll.out]
  have SL := Lib.hid hsl
  replace KX := Lib.hid (KX.out.below HB4.out KX.out.lt)
  replace KY := Lib.hid (KY.out.below HB4.out KY.out.lt)
  replace KR := Lib.hid (KR.out.below HB4.out KR.out.lt)
  replace S1 : Hid (SlP w4 ab bs) := S1.out.below HB4.out
  replace S2 : Hid (SlP w4 ac cl) := S2.out.below HB4.out
  replace HS1 := Lib.hid (Nat.le_trans HS1.out HB4.out.size)
  replace HB := Lib.hid (bNext HB.out HB4.out)
  rw [show putM live ⟨p, q, qu, bo, ct⟩ = sortM L from by rw [hL.out]; rfl] at hRM
  clear hown hown2 hgrow hsl hnl2 hL HB3 HB4 hsz3 e0 e1 e2 e3 e4 KY3 S0 hszr HKL
  have hbd : Hid (∀ p ∈ bs, dotP p) := fun x hx => hbag.out.ctx.base.all (Nat.le_refl _) x hx
  have hcd : Hid (∀ p ∈ cl, dotP p) := fun x hx => (hbag.out.ctx.cloud x hx).1
  have hpd : Hid (dotP (p, q)) := hmay.out.1
  have SORT : Hid (∀ wq : World, Below w4.drew.heap.size w4.drew wq → Calls Try.prog 50 #[.slice a4 (nl + 1) c4] wq (SortedTells L wq)) := by
    show ∀ wq : World, _
    intro wq h
    exact refsorted_any a4 (nl + 1) c4 L hll (by omega) wq (SlE.below (w := w4.drew) SL.out h)
  have ADD : Hid (∀ (wq : World) (b : Nat), Below w4.drew.heap.size w4.drew wq → b < wq.heap.size → wq.cell? ⟨b, 0, none⟩ = some (.int .i64 p) → wq.cell? ⟨b, 1, none⟩ = some (.int .i64 q) → Calls Try.prog 51 #[.agg #[.slice ab nb kb, .slice ac nc kc], .slice (some ⟨b, 0, none⟩) 1 1] wq (JoinTells wq RB RC)) := by
    show ∀ (wq : World) (b : Nat), _
    intro wq b h h1 h2 h3
    rw [hRB.out, hRC.out]
    exact refadd_any ab ac nb kb nc kc 1 b 0 bs cl p q hnb hnc hmb hmc hkb hkc hbd hcd hpd wq (SlP.below (w := w4.drew) S1.out h) (SlP.below (w := w4.drew) S2.out h) h1 h2 h3
  have FIN : Hid (∀ (w6 : World) (a8 a9 a10 : Option Addr) (n8 c8 n9 c9 n10 c10 : Nat), Below w4.drew.heap.size w4.drew w6 → SlE eMsg 5 w6 a8 RM → SlP w6 a9 RB → SlP w6 a10 RC → (RM.length = n8 ∧ n8 ≤ c8) → (RB.length = n9 ∧ RC.length = n10 ∧ n9 ≤ c9 ∧ n10 ≤ c10) → ((a8 = none → c8 = 0) ∧ (a9 = none → c9 = 0) ∧ (a10 = none → c10 = 0)) → ((∀ a, a8 = some a → w4.heap.size ≤ a.block) ∧ (∀ a, a9 = some a → w4.heap.size ≤ a.block) ∧ (∀ a, a10 = some a → w4.heap.size ≤ a.block)) → ∀ wz, wz = (((w6.setCell ⟨r, 0, none⟩ (.slice a8 n8 c8)).setCell ⟨r, 1, none⟩ (.slice a9 n9 c9)).setCell ⟨r, 2, none⟩ (.slice a10 n10 c10)) → Blk wz r #[.slice a8 n8 c8, .slice a9 n9 c9, .slice a10 n10 c10] 27 ∧ PutTells live bs cl ⟨p, q, qu, bo, ct⟩ w (.returned (.tuple #[.agg #[.slice a8 n8 c8, .slice a9 n9 c9, .slice a10 n10 c10], .int .i64 0])) wz) := by
    show ∀ (w6 : World) (a8 a9 a10 : Option Addr) (n8 c8 n9 c9 n10 c10 : Nat), _
    intro w6 a8 a9 a10 n8 c8 n9 c9 n10 c10 hb g8 g9 g10 l8 ⟨l9, l10, k9, k10⟩ hno ⟨h8, h9, h10⟩ wz hz
    have hK : Blk w6 r #[.slice none 0 0, .slice none 0 0, .slice none 0 0] 27 := Blk.below (w := w4.drew) KR.out hb KR.out.lt
    have hlt : r < w4.heap.size := KR.out.lt
    have hws : w.heap.size ≤ w4.heap.size := HB.out.size
    have hTz : Tri r r r w6 wz := by rw [hz]; exact (((Tri.refl r r r w6).set (p := ⟨r, 0, none⟩) (.inl rfl) _).set (p := ⟨r, 1, none⟩) (.inl rfl) _).set (p := ⟨r, 2, none⟩) (.inl rfl) _
    have hw := HLT.out.1
    refine ⟨by rw [hz]; exact ((hK.set 0 _).set 1 _).set 2 _, HTELL.out _ _ (.inr ⟨HNOT.out, a8, a9, a10, n8, c8, n9, c9, n10, c10, rfl, ⟨l8.1, l9, l10, l8.2, k9, k10⟩, ⟨g8.tri (fun a ha => ?_) hTz, g9.tri (fun a ha => ?_) hTz, g10.tri (fun a ha => ?_) hTz⟩, hno, ⟨fun a ha => Nat.le_trans hws (h8 a ha), fun a ha => Nat.le_trans hws (h9 a ha), fun a ha => Nat.le_trans hws (h10 a ha)⟩, ?_⟩)⟩
    · have := h8 a ha; exact ⟨by omega, by omega, by omega⟩
    · have := h9 a ha; exact ⟨by omega, by omega, by omega⟩
    · have := h10 a ha; exact ⟨by omega, by omega, by omega⟩
    · rw [hz]; exact (((bNext (bDrew HB.out) hb).setCell (p := ⟨r, 0, none⟩) hw _).setCell (p := ⟨r, 1, none⟩) hw _).setCell (p := ⟨r, 2, none⟩) hw _
  have LE4 : Hid (∀ wq : World, Below w4.drew.heap.size w4.drew wq → w4.heap.size ≤ wq.heap.size) := fun wq h => h.size
  have KEEP : Hid (∀ wq : World, Below w4.drew.heap.size w4.drew wq → (wq.cell? ⟨x, 1, none⟩ = some (.slice ab nb kb) ∧ wq.cell? ⟨x, 2, none⟩ = some (.slice ac nc kc) ∧ wq.cell? ⟨y, 0, none⟩ = some (.int .i64 p) ∧ wq.cell? ⟨y, 1, none⟩ = some (.int .i64 q)) ∧ ((wq.cell? ⟨r, 0, none⟩ = some (.slice none 0 0) ∧ wq.cell? ⟨r, 1, none⟩ = some (.slice none 0 0) ∧ wq.cell? ⟨r, 2, none⟩ = some (.slice none 0 0)) ∧ wq.frozen? ⟨r, 0, none⟩ = false ∧ wq.frozen? ⟨r, 1, none⟩ = false ∧ wq.frozen? ⟨r, 2, none⟩ = false)) := by
    show ∀ wq : World, _
    intro wq h
    have h1 := Blk.below (w := w4.drew) KX.out h KX.out.lt
    have h2 := Blk.below (w := w4.drew) KY.out h KY.out.lt
    have h3 := Blk.below (w := w4.drew) KR.out h KR.out.lt
    exact ⟨⟨h1.cell 1, h1.cell 2, h2.cell 0, h2.cell 1⟩, ⟨h3.cell 0, h3.cell 1, h3.cell 2⟩, h3.free 0, h3.free 1, h3.free 2⟩
  clear hRB hRC HTELL hbag hmay hkl hkb hkc hbd hcd hpd HNOT S1 S2 SL KX KY KR HB hnl hnb hnc
  go_upto_region 10 with fail
  refine wp_region_noPanic ?_
  refine wp_region_held_drew (S := fun w' => w'.cell? ⟨x, 1, none⟩ = some (.slice ab nb kb) ∧ w'.cell? ⟨x, 2, none⟩ = some (.slice ac nc kc) ∧ w'.cell? ⟨y, 0, none⟩ = some (.int .i64 p) ∧ w'.cell? ⟨y, 1, none⟩ = some (.int .i64 q)) (by kernel_rfl) ((KEEP.out _ (Below.refl _ _)).1) (fun hHeld => ?_)
  refine wpAnyH_take (i := 0) (v := ?_) (takeL rfl) (by kernel_rfl) (by kernel_rfl) (by kernel_rfl) (fun _ _ _ h => h) (Or.inl ⟨by rfl, ?_⟩) (by assumption) ?_
  rotate_left
  · (intro w hSw; (try dsimp only at hSw); first | (go_simp; done) | (go_simp; with_reducible rfl))
  try simp only [Act.put, List.setIfInBounds_toArray, List.set_cons_zero, List.set_cons_succ]
  refine wpAnyH_take (i := 2) (v := ?_) (takeL rfl) (by kernel_rfl) (by kernel_rfl) (by kernel_rfl) (fun _ _ _ h => h) (Or.inl ⟨by rfl, ?_⟩) (by assumption) ?_
  rotate_left
  · (intro w hSw; (try dsimp only at hSw); first | (go_simp; done) | (go_simp; with_reducible rfl))
  try simp only [Act.put, List.setIfInBounds_toArray, List.set_cons_zero, List.set_cons_succ]
  refine wpAnyH_take (i := 3) (v := ?_) (takeL rfl) (by kernel_rfl) (by kernel_rfl) (by kernel_rfl) (fun _ _ _ h => h) (Or.inl ⟨by rfl, ?_⟩) (by assumption) ?_
  rotate_left
  · (intro w hSw; (try dsimp only at hSw); first | (go_simp; done) | (go_simp; with_reducible rfl))
  try simp only [Act.put, List.setIfInBounds_toArray, List.set_cons_zero, List.set_cons_succ]
  refine wpAnyH_take (i := 4) (v := ?_) (takeL rfl) (by kernel_rfl) (by kernel_rfl) (by kernel_rfl) (fun _ _ _ h => h) (Or.inl ⟨by rfl, ?_⟩) (by assumption) ?_
  rotate_left
  · (intro w hSw; (try dsimp only at hSw); first | (go_simp; done) | (go_simp; with_reducible rfl))
  try simp only [Act.put, List.setIfInBounds_toArray, List.set_cons_zero, List.set_cons_succ]
  refine wpAnyH_take (i := 5) (v := ?_) (takeL rfl) (by kernel_rfl) (by kernel_rfl) (by kernel_rfl) (fun _ _ _ h => h) (Or.inl ⟨by rfl, ?_⟩) (by assumption) ?_
  rotate_left
  · (intro w hSw; (try dsimp only at hSw); first | (go_simp; done) | (go_simp; with_reducible rfl))
  try simp only [Act.put, List.setIfInBounds_toArray, List.set_cons_zero, List.set_cons_succ]
  refine wpAnyH_ready (rs := [1, 6]) (by kernel_rfl) (by simp) ?_
  refine AllReadyH.cons (takeL rfl) (fun K hK => ?_) (AllReadyH.cons (takeL rfl) (fun K hK => ?_) AllReadyH.nil)
  · go_simp
    refine (SORT.out _ (Below.refl _ _)).mono ?_
    rintro e w5 ⟨a8, n8, c8, rfl, hl8, hs8, hno8, hat8, hB5⟩
    rw [← hRM.out] at hl8 hs8
    have HB5 : Hid (Below w4.drew.heap.size w4.drew w5) := bNext (Below.refl _ _) hB5
    go_wp2_with fail
    refine hK.out _ _ (KEEP.out _ HB5.out).1 (fun hHeld => ?_)
    clear hK K
    refine wpAnyH_ready (rs := [6]) (by kernel_rfl) (by simp) ?_
    refine AllReadyH.cons (takeL rfl) (fun K hK => ?_) AllReadyH.nil
    go_simp
    refine hK.out _ _ (KEEP.out _ (bNew HB5.out _)).1 (fun hHeld => ?_)
    clear hK K
    refine wpAnyH_ready (rs := [7]) (by kernel_rfl) (by simp) ?_
    refine AllReadyH.cons (takeL rfl) (fun K hK => ?_) AllReadyH.nil
    go_simp
    refine (ADD.out _ w5.heap.size (bNew HB5.out _) (by simp) ((Blk.new w5 _ _).cell 0) ((Blk.new w5 _ _).cell 1)).mono ?_
    rintro e w6 ⟨a9, a10, n9, c9, n10, c10, rfl, hlen, ⟨hs9, hs10⟩, hno9, hno10, hat9, hat10, hB6⟩
    have HB6 : Hid (Below w4.drew.heap.size w4.drew w6) := bNext (bNew HB5.out _) hB6
    have HS8 : Hid (SlE eMsg 5 w6 a8 RM) := hs8.below (bNext (bOld _) hB6)
    go_wp2_with fail
    refine hK.out _ _ (KEEP.out _ HB6.out).1 (fun hHeld => ?_)
    clear hK K
    refine wpAnyH_take (i := 8) (v := ?_) (takeL rfl) (by kernel_rfl) (by kernel_rfl) (by kernel_rfl) (fun _ _ _ h => h) (Or.inl ⟨by rfl, ?_⟩) (by assumption) ?_
    rotate_left
    · (intro w hSw; (try dsimp only at hSw); first | (go_simp; done) | (go_simp; with_reducible rfl))
    try simp only [Act.put, List.setIfInBounds_toArray, List.set_cons_zero, List.set_cons_succ]
    obtain ⟨⟨k1, k2, k3, k4⟩, ⟨cr0, cr1, cr2⟩, fr0, fr1, fr2⟩ := KEEP.out _ HB6.out
    have hxr : x ≠ r := by have := HY.out; have := HR.out; omega
    have hyr : y ≠ r := by have := HR.out; omega
    refine wpAnyH_ready (rs := [9]) (by kernel_rfl) (by simp) ?_
    refine AllReadyH.cons (takeL rfl) (fun K hK => ?_) AllReadyH.nil
    go_simp
    refine hK.out _ _ ⟨cell_set3 k1 hxr, cell_set3 k2 hxr, cell_set3 k3 hyr, cell_set3 k4 hyr⟩ (fun hHeld => ?_)
    clear hK K
    refine wpAnyH_take (i := 10) (v := ?_) (takeL rfl) (by kernel_rfl) (by kernel_rfl) (by kernel_rfl) (fun _ _ _ h => h) (Or.inl ⟨by rfl, ?_⟩) (by assumption) ?_
    rotate_left
    · (intro w hSw; (try dsimp only at hSw); first | (go_simp; done) | (go_simp; with_reducible rfl))
    try simp only [Act.put, List.setIfInBounds_toArray, List.set_cons_zero, List.set_cons_succ]
    refine wpAnyH_done (by kernel_rfl) ?_ _
    refine NoPanic.normal ?_
    obtain ⟨wz, hwz⟩ := nm (((w6.setCell ⟨r, 0, none⟩ (.slice a8 n8 c8)).setCell ⟨r, 1, none⟩ (.slice a9 n9 c9)).setCell ⟨r, 2, none⟩ (.slice a10 n10 c10))
    rw [← hwz.out]
    obtain ⟨Kz, hpt⟩ := FIN.out w6 a8 a9 a10 n8 c8 n9 c9 n10 c10 HB6.out HS8.out hs9 hs10 hl8 hlen ⟨hno8, hno9, hno10⟩ ⟨hat8, fun a ha => Nat.le_trans (LE4.out _ (bNew HB5.out _)) (hat9 a ha), fun a ha => Nat.le_trans (LE4.out _ (bNew HB5.out _)) (hat10 a ha)⟩ wz hwz.out
    have HPT := Lib.hid hpt
    have r0 : wz.cell? ⟨r, 0, none⟩ = some (.slice a8 n8 c8) := Kz.cell 0
    have r1 : wz.cell? ⟨r, 1, none⟩ = some (.slice a9 n9 c9) := Kz.cell 1
    have r2 : wz.cell? ⟨r, 2, none⟩ = some (.slice a10 n10 c10) := Kz.cell 2
    clear hpt Kz hs8 hs9 hs10 hl8 hlen hno8 hno9 hno10 hat8 hat9 hat10 hB5 hB6 k1 k2 k3 k4 cr0 cr1 cr2 fr0 fr1 fr2 hHeld hwz
    go_wp2_with fail
    refine bodyPost_ret (v := .tuple #[.agg #[.slice a8 n8 c8, .slice a9 n9 c9, .slice a10 n10 c10], .int .i64 0]) (by simp [results, Try.results18, go_sem, r0, r1, r2]) rfl ?_
    exact HPT.out
  · go_simp
    refine hK.out _ _ (KEEP.out _ (bOld _)).1 (fun hHeld => ?_)
    clear hK K
    refine wpAnyH_ready (rs := [1]) (by kernel_rfl) (by simp) ?_
    refine AllReadyH.cons (takeL rfl) (fun K hK => ?_) AllReadyH.nil
    go_simp
    refine (SORT.out _ (bOld _)).mono ?_
    rintro e w5 ⟨a8, n8, c8, rfl, hl8, hs8, hno8, hat8, hB5⟩
    rw [← hRM.out] at hl8 hs8
    have HB5 : Hid (Below w4.drew.heap.size w4.drew w5) := bNext (bOld _) hB5
    go_wp2_with fail
    refine hK.out _ _ (KEEP.out _ HB5.out).1 (fun hHeld => ?_)
    clear hK K
    refine wpAnyH_ready (rs := [7]) (by kernel_rfl) (by simp) ?_
    refine AllReadyH.cons (takeL rfl) (fun K hK => ?_) AllReadyH.nil
    go_simp
    refine (ADD.out _ w4.drew.heap.size HB5.out (Nat.lt_of_lt_of_le (by simp) hB5.size) (((Blk.new w4.drew _ _).below hB5 (by simp)).cell 0) (((Blk.new w4.drew _ _).below hB5 (by simp)).cell 1)).mono ?_
    rintro e w6 ⟨a9, a10, n9, c9, n10, c10, rfl, hlen, ⟨hs9, hs10⟩, hno9, hno10, hat9, hat10, hB6⟩
    have HB6 : Hid (Below w4.drew.heap.size w4.drew w6) := bNext HB5.out hB6
    have HS8 : Hid (SlE eMsg 5 w6 a8 RM) := hs8.below hB6
    go_wp2_with fail
    refine hK.out _ _ (KEEP.out _ HB6.out).1 (fun hHeld => ?_)
    clear hK K
    refine wpAnyH_take (i := 8) (v := ?_) (takeL rfl) (by kernel_rfl) (by kernel_rfl) (by kernel_rfl) (fun _ _ _ h => h) (Or.inl ⟨by rfl, ?_⟩) (by assumption) ?_
    rotate_left
    · (intro w hSw; (try dsimp only at hSw); first | (go_simp; done) | (go_simp; with_reducible rfl))
    try simp only [Act.put, List.setIfInBounds_toArray, List.set_cons_zero, List.set_cons_succ]
    obtain ⟨⟨k1, k2, k3, k4⟩, ⟨cr0, cr1, cr2⟩, fr0, fr1, fr2⟩ := KEEP.out _ HB6.out
    have hxr : x ≠ r := by have := HY.out; have := HR.out; omega
    have hyr : y ≠ r := by have := HR.out; omega
    refine wpAnyH_ready (rs := [9]) (by kernel_rfl) (by simp) ?_
    refine AllReadyH.cons (takeL rfl) (fun K hK => ?_) AllReadyH.nil
    go_simp
    refine hK.out _ _ ⟨cell_set3 k1 hxr, cell_set3 k2 hxr, cell_set3 k3 hyr, cell_set3 k4 hyr⟩ (fun hHeld => ?_)
    clear hK K
    refine wpAnyH_take (i := 10) (v := ?_) (takeL rfl) (by kernel_rfl) (by kernel_rfl) (by kernel_rfl) (fun _ _ _ h => h) (Or.inl ⟨by rfl, ?_⟩) (by assumption) ?_
    rotate_left
    · (intro w hSw; (try dsimp only at hSw); first | (go_simp; done) | (go_simp; with_reducible rfl))
    try simp only [Act.put, List.setIfInBounds_toArray, List.set_cons_zero, List.set_cons_succ]
    refine wpAnyH_done (by kernel_rfl) ?_ _
    refine NoPanic.normal ?_
    obtain ⟨wz, hwz⟩ := nm (((w6.setCell ⟨r, 0, none⟩ (.slice a8 n8 c8)).setCell ⟨r, 1, none⟩ (.slice a9 n9 c9)).setCell ⟨r, 2, none⟩ (.slice a10 n10 c10))
    rw [← hwz.out]
    obtain ⟨Kz, hpt⟩ := FIN.out w6 a8 a9 a10 n8 c8 n9 c9 n10 c10 HB6.out HS8.out hs9 hs10 hl8 hlen ⟨hno8, hno9, hno10⟩ ⟨fun a ha => Nat.le_trans (LE4.out _ (bOld _)) (hat8 a ha), fun a ha => Nat.le_trans (LE4.out _ HB5.out) (hat9 a ha), fun a ha => Nat.le_trans (LE4.out _ HB5.out) (hat10 a ha)⟩ wz hwz.out
    have HPT := Lib.hid hpt
    have r0 : wz.cell? ⟨r, 0, none⟩ = some (.slice a8 n8 c8) := Kz.cell 0
    have r1 : wz.cell? ⟨r, 1, none⟩ = some (.slice a9 n9 c9) := Kz.cell 1
    have r2 : wz.cell? ⟨r, 2, none⟩ = some (.slice a10 n10 c10) := Kz.cell 2
    clear hpt Kz hs8 hs9 hs10 hl8 hlen hno8 hno9 hno10 hat8 hat9 hat10 hB5 hB6 k1 k2 k3 k4 cr0 cr1 cr2 fr0 fr1 fr2 hHeld hwz
    go_wp2_with fail
    refine bodyPost_ret (v := .tuple #[.agg #[.slice a8 n8 c8, .slice a9 n9 c9, .slice a10 n10 c10], .int .i64 0]) (by simp [results, Try.results18, go_sem, r0, r1, r2]) rfl ?_
    exact HPT.out
end Go.Proofs.Ytfpjdmplepepjaa

/-! WBagBytes: Bags as bytes. -/
namespace Go.Proofs.Ytfpjdmplepepjaa
open Go.RowKit

set_option maxRecDepth 100000 in
set_option maxHeartbeats 4000000 in
theorem bagbytes_any (am ab ac : Option Addr) (nl kl nb kb nc kc : Nat) (live : List Msg5) (bs cl : List Dot2) (hn0 : Hid (live.length = nl)) (hm0 : nl ≤ 1000000) (hn : Hid (bs.length = nb)) (hm : nb ≤ 1000000) (hn2 : Hid (cl.length = nc)) (hm2 : nc ≤ 1000000) (h0 : Hid (∀ p ∈ live, upMsg p)) (h1 : Hid (∀ p ∈ bs, upDot p)) (h2 : Hid (∀ p ∈ cl, upDot p)) (s : ByteArray) (hs : Hid (s = ofL (bagL live bs cl))) (w : World) (g0 : SlE eMsg 5 w am live) (g1 : SlP w ab bs) (g2 : SlP w ac cl) :
    Calls Try.prog 23 #[.agg #[.slice am nl kl, .slice ab nb kb, .slice ac nc kc]] w fun e w' => e = .returned (.string s) ∧ Below w.heap.size w w' := by
  obtain ⟨wa, hwa⟩ := nm (w.alloc (.cells #[.slice am nl kl, .slice ab nb kb, .slice ac nc kc] 27))
  obtain ⟨w0, hw0⟩ := nm (wa.alloc (.cells #[.pointer none, .slice none 0 0] 91))
  obtain ⟨x, hx⟩ := nm w.heap.size
  obtain ⟨y0, hy0⟩ := nm wa.heap.size
  have Kx : Hid (Blk w0 x #[.slice am nl kl, .slice ab nb kb, .slice ac nc kc] 27) := by show Blk _ _ _ _; rw [hw0.out]; exact (blkN hwa.out hx.out).alloc _
  have HSZ : Hid (x + 1 = y0) := by show _ = _; rw [hy0.out, hwa.out, hx.out]; simp
  have HBD : Hid (Lib.IsBuilder 91 5 y0 y0 (Lib.byteCells []) w0) := by show Lib.IsBuilder _ _ _ _ _ _; rw [hw0.out, hy0.out]; exact bnew wa
  have HB0 : Hid (Below w.heap.size w w0) := by rw [hw0.out, hwa.out]; exact bNew (bOld _) _
  have HLE : Hid (y0 ≤ w0.heap.size) := by show _ ≤ _; rw [hw0.out, hy0.out]; simp
  have HWY : Hid (w.heap.size ≤ y0) := by show _ ≤ _; have := HSZ.out; have := hx.out; omega
  have HS0 : Hid (SlE eMsg 5 w0 am live) := g0.below HB0.out
  have HS1 : Hid (SlP w0 ab bs) := g1.below HB0.out
  have HS2 : Hid (SlP w0 ac cl) := g2.below HB0.out
  have HXL : Hid (x < y0) := by show _ < _; have := HSZ.out; omega
  have HG0 : Hid (SlE eMsg 5 w am live) := g0
  clear g0 g1 g2
  obtain ⟨s1, hs1⟩ := nm (ofL (ctxL bs cl))
  obtain ⟨s2, hs2⟩ := nm (ofL (Pl.num nl))
  obtain ⟨A, hA⟩ := nm (ctxL bs cl ++ Pl.num nl)
  have l1 : s1.size ≤ 40000020 := by
    rw [hs1.out, ofL_size, ctxL, List.length_append]
    have := dots_le bs nb hn.out hm h1.out
    have := dots_le cl nc hn2.out hm2 h2.out
    omega
  have l2 : s2.size ≤ 10 := by rw [hs2.out, ofL_size]; exact Pl.num_length_le _ (by omega)
  have hsum : Hid (Lib.byteCells ([] ++ bl (s1 ++ s2)) = Lib.byteCells A) := by show _ = _; rw [hA.out, hs1.out, hs2.out, ofL_append, bl_ofL]; rfl
  have HAL : Hid (A.length ≤ 40000030) := by
    show _ ≤ _
    have e : A.length = s1.size + s2.size := by rw [hA.out, hs1.out, hs2.out, ofL_size, ofL_size, List.length_append]
    omega
  have HLN : Hid (([] : List UInt8).length + (s1 ++ s2).size ≤ 140737488355328) := by show _ ≤ _; rw [app_size, List.length_nil]; omega
  have hadd := fun w : World => run_string_add_sum (P := Try.prog) w s1 s2 (by omega)
  clear l1 l2
  have c0 : w0.cell? ⟨x, 0, none⟩ = some (.slice am nl kl) := Kx.out.cell 0
  have c1 : w0.cell? ⟨x, 1, none⟩ = some (.slice ab nb kb) := Kx.out.cell 1
  have c2 : w0.cell? ⟨x, 2, none⟩ = some (.slice ac nc kc) := Kx.out.cell 2
  have KEEP : Hid (∀ wb : World, Below y0 w0.drew wb → wb.cell? ⟨x, 0, none⟩ = some (.slice am nl kl) ∧ wb.cell? ⟨x, 1, none⟩ = some (.slice ab nb kb) ∧ wb.cell? ⟨x, 2, none⟩ = some (.slice ac nc kc)) := by
    show ∀ wb : World, _
    intro wb h
    have h1 := Blk.below (w := w0.drew) Kx.out h HXL.out
    exact ⟨h1.cell 0, h1.cell 1, h1.cell 2⟩
  go_enter Try.func23, Try.ntmps23
  go_upto_region 2 with fail
  rw [← hwa.out, ← hw0.out, ← hx.out]
  rw [HSZ.out]
  refine wp_region_held_drew (S := fun w' => w'.cell? ⟨x, 0, none⟩ = some (.slice am nl kl) ∧ w'.cell? ⟨x, 1, none⟩ = some (.slice ab nb kb) ∧ w'.cell? ⟨x, 2, none⟩ = some (.slice ac nc kc)) (by kernel_rfl) (⟨c0, c1, c2⟩) (fun hHeld => ?_)
  refine wpAnyH_take (i := 0) (v := ?_) (takeL rfl) (by kernel_rfl) (by kernel_rfl) (by kernel_rfl) (fun _ _ _ h => h) (Or.inl ⟨by rfl, ?_⟩) (by assumption) ?_
  rotate_left
  · (intro w hSw; (try dsimp only at hSw); first | (go_simp; done) | (go_simp; with_reducible rfl))
  try simp only [Act.put, List.setIfInBounds_toArray, List.set_cons_zero, List.set_cons_succ]
  refine wpAnyH_take (i := 1) (v := ?_) (takeL rfl) (by kernel_rfl) (by kernel_rfl) (by kernel_rfl) (fun _ _ _ h => h) (Or.inl ⟨by rfl, ?_⟩) (by assumption) ?_
  rotate_left
  · (intro w hSw; (try dsimp only at hSw); first | (go_simp; done) | (go_simp; with_reducible rfl))
  try simp only [Act.put, List.setIfInBounds_toArray, List.set_cons_zero, List.set_cons_succ]
  refine wpAnyH_take (i := 3) (v := ?_) (takeL rfl) (by kernel_rfl) (by kernel_rfl) (by kernel_rfl) (fun _ _ _ h => h) (Or.inl ⟨by rfl, ?_⟩) (by assumption) ?_
  rotate_left
  · (intro w hSw; (try dsimp only at hSw); first | (go_simp; done) | (go_simp; with_reducible rfl))
  try simp only [Act.put, List.setIfInBounds_toArray, List.set_cons_zero, List.set_cons_succ]
  refine wpAnyH_take (i := 4) (v := ?_) (takeL rfl) (by kernel_rfl) (by kernel_rfl) (by kernel_rfl) (fun _ _ _ h => h) (Or.inl ⟨by rfl, ?_⟩) (by assumption) ?_
  rotate_left
  · (intro w hSw; (try dsimp only at hSw); first | (go_simp; done) | (go_simp; with_reducible rfl))
  try simp only [Act.put, List.setIfInBounds_toArray, List.set_cons_zero, List.set_cons_succ]
  refine wpAnyH_take (i := 5) (v := ?_) (takeL rfl) (by kernel_rfl) (by kernel_rfl) (by kernel_rfl) (fun _ _ _ h => h) (Or.inl ⟨by rfl, ?_⟩) (by assumption) ?_
  rotate_left
  · (intro w hSw; (try dsimp only at hSw); first | (go_simp; done) | (go_simp; with_reducible rfl))
  try simp only [Act.put, List.setIfInBounds_toArray, List.set_cons_zero, List.set_cons_succ]
  refine wpAnyH_ready (rs := [2]) (by kernel_rfl) (by simp) ?_
  refine AllReadyH.cons (takeL rfl) (fun K hK => ?_) AllReadyH.nil
  go_simp
  refine (ctxbytes_any ab ac nb kb nc kc bs cl hn hm hn2 hm2 h1 h2 s1 hs1 _ (HS1.out.below (bDrew (Below.refl _ _))) (HS2.out.below (bDrew (Below.refl _ _)))).mono ?_; rintro e w1 ⟨rfl, hB1⟩
  go_wp2_with fail
  refine hK.out _ _ (KEEP.out _ (hB1.mono HLE.out)) (fun hHeld => ?_)
  clear hK K
  refine wpAnyH_ready (rs := [6]) (by kernel_rfl) (by simp) ?_
  refine AllReadyH.cons (takeL rfl) (fun K hK => ?_) AllReadyH.nil
  go_simp
  refine (int_is (nl : Int) s2 hs2 _ (by omega)).mono ?_; rintro e w2 ⟨rfl, hB2⟩
  go_wp2_with fail
  refine hK.out _ _ (KEEP.out _ ((bNext hB1 hB2).mono HLE.out)) (fun hHeld => ?_)
  clear hK K
  refine wpAnyH_take (i := 7) (v := ?_) (takeL rfl) (by kernel_rfl) (by kernel_rfl) (by kernel_rfl) (fun _ _ _ h => h) (Or.inl ⟨by rfl, ?_⟩) (by assumption) ?_
  rotate_left
  · (intro w hSw; (try dsimp only at hSw); first | (go_simp; done) | (go_simp; with_reducible rfl))
  try simp only [Act.put, List.setIfInBounds_toArray, List.set_cons_zero, List.set_cons_succ]
  refine wpAnyH_ready (rs := [8]) (by kernel_rfl) (by simp) ?_
  refine AllReadyH.cons (takeL rfl) (fun K hK => ?_) AllReadyH.nil
  go_simp
  refine (bwrite_any y0 y0 [] (s1 ++ s2) _ (bstays HBD.out (bNext (bDrew (Below.refl _ _)) (bNext hB1 hB2))) HLN.out (Nat.le_trans HLE.out (bNext hB1 hB2).size)).mono ?_; rintro e w3 ⟨rfl, hb3, hB3⟩
  go_wp2_with fail
  refine hK.out _ _ (KEEP.out _ (((bNext hB1 hB2).mono HLE.out).trans hB3)) (fun hHeld => ?_)
  clear hK K
  refine wpAnyH_done (by kernel_rfl) ?_ _
  have HBT : Hid (Below y0 w0 w3) := (bDrew (Below.refl _ _)).trans (((bNext hB1 hB2).mono HLE.out).trans hB3)
  have HBW : Hid (Below w.heap.size w w3) := HB0.out.trans (HBT.out.mono HWY.out)
  rw [hsum.out] at hb3
  have HBD3 := Lib.hid hb3
  have HY3 : Hid (y0 ≤ w3.heap.size) := Nat.le_trans HLE.out HBT.out.size
  have Kx3 : Hid (Blk w3 x #[.slice am nl kl, .slice ab nb kb, .slice ac nc kc] 27) := Kx.out.below HBT.out HXL.out
  clear hb3 hB1 hB2 hB3 c0 c1 c2 hadd KEEP hHeld
  have c0 : w3.cell? ⟨x, 0, none⟩ = some (.slice am nl kl) := Kx3.out.cell 0
  go_wp2_with fail
  clear c0
  go_loopw [18] (fun i wr => ∃ k : Nat, k ≤ nl ∧ i = .int .i64 (k : Int) ∧ Hid (Lib.IsBuilder 91 5 y0 y0 (Lib.byteCells (A ++ (live.take k).flatMap msgL)) wr) ∧ Below w.heap.size w wr ∧ Hid (y0 ≤ wr.heap.size)) (fun i _ => nl - (intOf i).toNat)
  case atStart => exact ⟨0, by omega, rfl, by show Lib.IsBuilder _ _ _ _ _ _; rw [List.take_zero, List.flatMap_nil, List.append_nil]; exact HBD3.out, HBW.out, HY3⟩
  case round =>
    obtain ⟨k, hk, rfl, hbd, hB, hy⟩ := hrel
    by_cases hlt : k < nl
    · obtain ⟨b, off, ⟨p, q, qu, bo, ct⟩, rfl, hbl, hpk, hcells⟩ := (HG0.out.below hB).get k (by rw [hn0.out]; exact hlt)
      have d0 : wr.cell? ⟨b, off + k * 5, none⟩ = some (.int .i64 p) := hcells 0 _ rfl
      have d1 : wr.cell? ⟨b, off + k * 5 + 1, none⟩ = some (.int .i64 q) := hcells 1 _ rfl
      have d2 : wr.cell? ⟨b, off + k * 5 + 2, none⟩ = some (.string qu) := hcells 2 _ rfl
      have d3 : wr.cell? ⟨b, off + k * 5 + 3, none⟩ = some (.string bo) := hcells 3 _ rfl
      have d4 : wr.cell? ⟨b, off + k * 5 + 4, none⟩ = some (.int .i64 ct) := hcells 4 _ rfl
      clear hcells
      obtain ⟨q1, q2, q3, q4, q5⟩ := h0.out _ (List.mem_of_getElem? hpk.out)
      simp only at q1 q2 q3 q4 q5
      obtain ⟨s1, hs1⟩ := nm (ofL (bytesD (p, q)))
      obtain ⟨s2, hs2⟩ := nm (ofL (textL (bl qu)))
      obtain ⟨s3, hs3⟩ := nm (ofL (textL (bl bo)))
      obtain ⟨s4, hs4⟩ := nm (ofL (Pl.num ct.toNat))
      have l1 : s1.size ≤ 20 := by rw [hs1.out, ofL_size]; exact bytesD_le _ ⟨q1.2, q2.2⟩
      have l2 : s2.size ≤ 1000010 := by rw [hs2.out, ofL_size]; have := textL_le q3 (Nat.le_refl _); omega
      have l3 : s3.size ≤ 1000010 := by rw [hs3.out, ofL_size]; have := textL_le q4 (Nat.le_refl _); omega
      have l4 : s4.size ≤ 10 := by rw [hs4.out, ofL_size]; exact num_le q5
      have k1 := fun w : World => run_string_add_sum (P := Try.prog) w s1 s2 (by omega)
      have k2 := fun w : World => run_string_add_sum (P := Try.prog) w (s1 ++ s2) s3 (by rw [app_size]; omega)
      have k3 := fun w : World => run_string_add_sum (P := Try.prog) w (s1 ++ s2 ++ s3) s4 (by rw [app_size, app_size]; omega)
      have HLN : Hid ((A ++ (live.take k).flatMap msgL).length + (s1 ++ s2 ++ s3 ++ s4).size ≤ 140737488355328) := by
        show _ ≤ _
        have hf := flat_le (f := msgL) (m := 2000050) (live.take k) (fun m hm => by
          obtain ⟨r1, r2, r3, r4, r5⟩ := h0.out m (List.mem_of_mem_take hm)
          have e1 := dotL_le (x := (m.node, m.n)) ⟨r1, r2⟩
          have e2 := textL_le r3 (Nat.le_refl _)
          have e3 := textL_le r4 (Nat.le_refl _)
          have e4 := num_le r5
          simp only [msgL, List.length_append]; omega)
        have hA := HAL.out
        rw [List.length_take, hn0.out] at hf
        rw [List.length_append, app_size, app_size, app_size]; omega
      have HT : Hid (A ++ (live.take k).flatMap msgL ++ bl (s1 ++ s2 ++ s3 ++ s4) = A ++ (live.take (k + 1)).flatMap msgL) := by
        show _ = _
        rw [flat_take hpk.out, hs1.out, hs2.out, hs3.out, hs4.out, ofL_append, ofL_append, ofL_append, bl_ofL, List.append_assoc, msgL]
        simp only [List.append_assoc]; rfl
      obtain ⟨y, hyy⟩ := nm wr.heap.size
      obtain ⟨w4, hw4⟩ := nm (wr.alloc (.cells #[.int .i64 p, .int .i64 q, .string qu, .string bo, .int .i64 ct] 48))
      have Ky : Hid (Blk w4 y #[.int .i64 p, .int .i64 q, .string qu, .string bo, .int .i64 ct] 48) := blkN hw4.out hyy.out
      have HB4 : Hid (Below wr.heap.size wr w4) := by rw [hw4.out]; exact bOld _
      have HBW4 : Hid (Below w.heap.size w w4) := bNext hB HB4.out
      have HYG : Hid (wr.heap.size ≤ y) := by show _ ≤ _; rw [hyy.out]; exact Nat.le_refl _
      have HY4 : Hid (y0 ≤ w4.heap.size) := Nat.le_trans hy.out HB4.out.size
      have e0 : w4.cell? ⟨y, 0, none⟩ = some (.int .i64 p) := Ky.out.cell 0
      have e1 : w4.cell? ⟨y, 1, none⟩ = some (.int .i64 q) := Ky.out.cell 1
      have e2 : w4.cell? ⟨y, 2, none⟩ = some (.string qu) := Ky.out.cell 2
      have e3 : w4.cell? ⟨y, 3, none⟩ = some (.string bo) := Ky.out.cell 3
      have e4 : w4.cell? ⟨y, 4, none⟩ = some (.int .i64 ct) := Ky.out.cell 4
      clear hB
      have KEEP : Hid (∀ wb : World, Below w4.drew.heap.size w4.drew wb → wb.cell? ⟨y, 0, none⟩ = some (.int .i64 p) ∧ wb.cell? ⟨y, 1, none⟩ = some (.int .i64 q) ∧ wb.cell? ⟨y, 2, none⟩ = some (.string qu) ∧ wb.cell? ⟨y, 3, none⟩ = some (.string bo) ∧ wb.cell? ⟨y, 4, none⟩ = some (.int .i64 ct)) := by
        show ∀ wb : World, _
        intro wb h
        have h2 := Blk.below (w := w4.drew) Ky.out h Ky.out.lt
        exact ⟨h2.cell 0, h2.cell 1, h2.cell 2, h2.cell 3, h2.cell 4⟩
      go_wp2_with fail
      rw [← hw4.out, ← hyy.out]
      refine wp_region_held_drew (S := fun w' => w'.cell? ⟨y, 0, none⟩ = some (.int .i64 p) ∧ w'.cell? ⟨y, 1, none⟩ = some (.int .i64 q) ∧ w'.cell? ⟨y, 2, none⟩ = some (.string qu) ∧ w'.cell? ⟨y, 3, none⟩ = some (.string bo) ∧ w'.cell? ⟨y, 4, none⟩ = some (.int .i64 ct)) (by kernel_rfl) (⟨e0, e1, e2, e3, e4⟩) (fun hHeld => ?_)
      refine wpAnyH_take (i := 0) (v := ?_) (takeL rfl) (by kernel_rfl) (by kernel_rfl) (by kernel_rfl) (fun _ _ _ h => h) (Or.inl ⟨by rfl, ?_⟩) (by assumption) ?_
      rotate_left
      · (intro w hSw; (try dsimp only at hSw); first | (go_simp; done) | (go_simp; with_reducible rfl))
      try simp only [Act.put, List.setIfInBounds_toArray, List.set_cons_zero, List.set_cons_succ]
      refine wpAnyH_take (i := 1) (v := ?_) (takeL rfl) (by kernel_rfl) (by kernel_rfl) (by kernel_rfl) (fun _ _ _ h => h) (Or.inl ⟨by rfl, ?_⟩) (by assumption) ?_
      rotate_left
      · (intro w hSw; (try dsimp only at hSw); first | (go_simp; done) | (go_simp; with_reducible rfl))
      try simp only [Act.put, List.setIfInBounds_toArray, List.set_cons_zero, List.set_cons_succ]
      refine wpAnyH_take (i := 3) (v := ?_) (takeL rfl) (by kernel_rfl) (by kernel_rfl) (by kernel_rfl) (fun _ _ _ h => h) (Or.inl ⟨by rfl, ?_⟩) (by assumption) ?_
      rotate_left
      · (intro w hSw; (try dsimp only at hSw); first | (go_simp; done) | (go_simp; with_reducible rfl))
      try simp only [Act.put, List.setIfInBounds_toArray, List.set_cons_zero, List.set_cons_succ]
      refine wpAnyH_take (i := 4) (v := ?_) (takeL rfl) (by kernel_rfl) (by kernel_rfl) (by kernel_rfl) (fun _ _ _ h => h) (Or.inl ⟨by rfl, ?_⟩) (by assumption) ?_
      rotate_left
      · (intro w hSw; (try dsimp only at hSw); first | (go_simp; done) | (go_simp; with_reducible rfl))
      try simp only [Act.put, List.setIfInBounds_toArray, List.set_cons_zero, List.set_cons_succ]
      refine wpAnyH_take (i := 7) (v := ?_) (takeL rfl) (by kernel_rfl) (by kernel_rfl) (by kernel_rfl) (fun _ _ _ h => h) (Or.inl ⟨by rfl, ?_⟩) (by assumption) ?_
      rotate_left
      · (intro w hSw; (try dsimp only at hSw); first | (go_simp; done) | (go_simp; with_reducible rfl))
      try simp only [Act.put, List.setIfInBounds_toArray, List.set_cons_zero, List.set_cons_succ]
      refine wpAnyH_take (i := 8) (v := ?_) (takeL rfl) (by kernel_rfl) (by kernel_rfl) (by kernel_rfl) (fun _ _ _ h => h) (Or.inl ⟨by rfl, ?_⟩) (by assumption) ?_
      rotate_left
      · (intro w hSw; (try dsimp only at hSw); first | (go_simp; done) | (go_simp; with_reducible rfl))
      try simp only [Act.put, List.setIfInBounds_toArray, List.set_cons_zero, List.set_cons_succ]
      refine wpAnyH_take (i := 11) (v := ?_) (takeL rfl) (by kernel_rfl) (by kernel_rfl) (by kernel_rfl) (fun _ _ _ h => h) (Or.inl ⟨by rfl, ?_⟩) (by assumption) ?_
      rotate_left
      · (intro w hSw; (try dsimp only at hSw); first | (go_simp; done) | (go_simp; with_reducible rfl))
      try simp only [Act.put, List.setIfInBounds_toArray, List.set_cons_zero, List.set_cons_succ]
      refine wpAnyH_take (i := 12) (v := ?_) (takeL rfl) (by kernel_rfl) (by kernel_rfl) (by kernel_rfl) (fun _ _ _ h => h) (Or.inl ⟨by rfl, ?_⟩) (by assumption) ?_
      rotate_left
      · (intro w hSw; (try dsimp only at hSw); first | (go_simp; done) | (go_simp; with_reducible rfl))
      try simp only [Act.put, List.setIfInBounds_toArray, List.set_cons_zero, List.set_cons_succ]
      refine wpAnyH_ready (rs := [2]) (by kernel_rfl) (by simp) ?_
      refine AllReadyH.cons (takeL rfl) (fun K hK => ?_) AllReadyH.nil
      go_simp
      refine (bytes_any p q _ q1.2 q2.2 s1 hs1).mono ?_; rintro e w5 ⟨rfl, hB5⟩
      go_wp2_with fail
      refine hK.out _ _ (KEEP.out _ hB5) (fun hHeld => ?_)
      clear hK K
      refine wpAnyH_ready (rs := [5]) (by kernel_rfl) (by simp) ?_
      refine AllReadyH.cons (takeL rfl) (fun K hK => ?_) AllReadyH.nil
      go_simp
      refine (text_is qu s2 hs2 _ q3).mono ?_; rintro e w6 ⟨rfl, hB6⟩
      go_wp2_with fail
      refine hK.out _ _ (KEEP.out _ (bNext hB5 hB6)) (fun hHeld => ?_)
      clear hK K
      refine wpAnyH_take (i := 6) (v := ?_) (takeL rfl) (by kernel_rfl) (by kernel_rfl) (by kernel_rfl) (fun _ _ _ h => h) (Or.inl ⟨by rfl, ?_⟩) (by assumption) ?_
      rotate_left
      · (intro w hSw; (try dsimp only at hSw); first | (go_simp; done) | (go_simp; with_reducible rfl))
      try simp only [Act.put, List.setIfInBounds_toArray, List.set_cons_zero, List.set_cons_succ]
      refine wpAnyH_ready (rs := [9]) (by kernel_rfl) (by simp) ?_
      refine AllReadyH.cons (takeL rfl) (fun K hK => ?_) AllReadyH.nil
      go_simp
      refine (text_is bo s3 hs3 _ q4).mono ?_; rintro e w7 ⟨rfl, hB7⟩
      go_wp2_with fail
      refine hK.out _ _ (KEEP.out _ (bNext (bNext hB5 hB6) hB7)) (fun hHeld => ?_)
      clear hK K
      refine wpAnyH_take (i := 10) (v := ?_) (takeL rfl) (by kernel_rfl) (by kernel_rfl) (by kernel_rfl) (fun _ _ _ h => h) (Or.inl ⟨by rfl, ?_⟩) (by assumption) ?_
      rotate_left
      · (intro w hSw; (try dsimp only at hSw); first | (go_simp; done) | (go_simp; with_reducible rfl))
      try simp only [Act.put, List.setIfInBounds_toArray, List.set_cons_zero, List.set_cons_succ]
      refine wpAnyH_ready (rs := [13]) (by kernel_rfl) (by simp) ?_
      refine AllReadyH.cons (takeL rfl) (fun K hK => ?_) AllReadyH.nil
      go_simp
      refine (int_is ct s4 hs4 _ q5.2).mono ?_; rintro e w8 ⟨rfl, hB8⟩
      go_wp2_with fail
      refine hK.out _ _ (KEEP.out _ (bNext (bNext (bNext hB5 hB6) hB7) hB8)) (fun hHeld => ?_)
      clear hK K
      refine wpAnyH_take (i := 14) (v := ?_) (takeL rfl) (by kernel_rfl) (by kernel_rfl) (by kernel_rfl) (fun _ _ _ h => h) (Or.inl ⟨by rfl, ?_⟩) (by assumption) ?_
      rotate_left
      · (intro w hSw; (try dsimp only at hSw); first | (go_simp; done) | (go_simp; with_reducible rfl))
      try simp only [Act.put, List.setIfInBounds_toArray, List.set_cons_zero, List.set_cons_succ]
      refine wpAnyH_ready (rs := [15]) (by kernel_rfl) (by simp) ?_
      refine AllReadyH.cons (takeL rfl) (fun K hK => ?_) AllReadyH.nil
      go_simp
      have HW8 : Hid (Below wr.heap.size wr w8) := bNext (bDrew HB4.out) (bNext (bNext (bNext hB5 hB6) hB7) hB8)
      have Ky8 : Hid (Blk w8 y #[.int .i64 p, .int .i64 q, .string qu, .string bo, .int .i64 ct] 48) := Blk.below (w := w4.drew) Ky.out (bNext (bNext (bNext hB5 hB6) hB7) hB8) Ky.out.lt
      refine (bwrite_keeps y0 y0 (A ++ (live.take k).flatMap msgL) (s1 ++ s2 ++ s3 ++ s4) _ (bstays hbd.out HW8.out) HLN.out (Nat.le_trans hy.out HW8.out.size) y (apart_of hbd.out HYG.out HW8.out) Ky8.out.lt).mono ?_; rintro e w9 ⟨rfl, hb9, hB9, hk9⟩
      have Ky9 : Hid (Blk w9 y #[.int .i64 p, .int .i64 q, .string qu, .string bo, .int .i64 ct] 48) := hk9.trans Ky8.out
      go_wp2_with fail
      refine hK.out _ _ (⟨Ky9.out.cell 0, Ky9.out.cell 1, Ky9.out.cell 2, Ky9.out.cell 3, Ky9.out.cell 4⟩) (fun hHeld => ?_)
      clear hK K
      refine wpAnyH_done (by kernel_rfl) ?_ _
      rw [HT.out] at hb9
      have HB9 : Hid (Below w.heap.size w w9) := by
        have := (bDrew HBW4.out)
        exact (bNext this (bNext (bNext (bNext hB5 hB6) hB7) hB8)).trans (hB9.mono HWY.out)
      have HY9 : Hid (y0 ≤ w9.heap.size) := Nat.le_trans (Nat.le_trans hy.out HW8.out.size) hB9.size
      have HBD9 := Lib.hid hb9
      clear hb9 hB9 hk9 hB5 hB6 hB7 hB8 hHeld
      go_wp2_with fail
      go_roundw
      case rel => exact ⟨k + 1, by omega, by go_num, HBD9, HB9.out, HY9⟩
      case measure => simp [intOf]; omega
    · obtain rfl : k = nl := by omega
      have HE : Hid (ofL (A ++ (live.take k).flatMap msgL) = s) := by
        show _ = _
        rw [hs.out, hA.out, List.take_of_length_le (by rw [hn0.out]; exact Nat.le_refl _), bagL, rowL, hn0.out, List.append_assoc]
      have HBB := Lib.hid hB
      clear hB
      go_wp2_with fail
      refine (Try.Builder_String_any _ _ _ _ hbd.out hy.out).mono ?_; rintro e w5 ⟨rfl, h5⟩
      go_wp2_with fail
      go_ret
      exact ⟨congrArg (fun t => Ending.returned (Value.string t)) HE.out, HBB.out.trans (h5.mono HWY.out)⟩
end Go.Proofs.Ytfpjdmplepepjaa

/-! WireEqD: slices.Equal over rows of messages. -/
namespace Go.Proofs.Ytfpjdmplepepjaa
open Go.RowKit

theorem guardM (op : BinOp) (a b : Operand) (xs ys : Array Value) (w : World) : Sem.run Try.prog (eqGuard op 48 a b (.agg xs) (.agg ys)) w = .ok () w := run_eqGuard_agg w op _ a b xs ys (by kernel_rfl)
set_option maxRecDepth 100000 in
set_option maxHeartbeats 4000000 in
theorem equalM (x1 x2 y1 y2 : Int) (x3 x4 y3 y4 : ByteArray) (x5 y5 : Int) (w : World) : (Op.equalIn 10000 48 (.agg #[.int .i64 x1, .int .i64 x2, .string x3, .string x4, .int .i64 x5]) (.agg #[.int .i64 y1, .int .i64 y2, .string y3, .string y4, .int .i64 y5])).run Try.prog w = .ok (decide (x1 = y1) && (decide (x2 = y2) && (decide (x3 = y3) && (decide (x4 = y4) && decide (x5 = y5))))) w := by
  have tl : ∀ a b : ByteArray, (a.toList = b.toList) = (a = b) := fun a b => by
    rw [toList_bl, toList_bl]
    exact propext ⟨bl_inj, fun h => by rw [h]⟩
  rw [run_equalIn_agg w 9999 _ _ _ (by kernel_rfl) (by kernel_rfl)]
  by_cases h1 : x1 = y1 <;> by_cases h2 : x2 = y2 <;> by_cases h3 : x3 = y3 <;> by_cases h4 : x4 = y4 <;> by_cases h5 : x5 = y5 <;>
    simp [go_sem, Try.underlying48, Try.underlying31, Try.underlying9, Try.underlying3, h1, h2, h3, h4, h5, tl]
theorem msg_conj (x1 x2 y1 y2 : Int) (x3 x4 y3 y4 : ByteArray) (x5 y5 : Int) (B : Bool) (hB : Hid (B = true ↔ Msg5.mk x1 x2 x3 x4 x5 = Msg5.mk y1 y2 y3 y4 y5)) : (decide (x1 = y1) && (decide (x2 = y2) && (decide (x3 = y3) && (decide (x4 = y4) && decide (x5 = y5))))) = B := by
  rw [Bool.eq_iff_iff, hB.out, Msg5.mk.injEq]
  simp only [Bool.and_eq_true, decide_eq_true_iff]
theorem neqM (x1 x2 y1 y2 : Int) (x3 x4 y3 y4 : ByteArray) (x5 y5 : Int) (B : Bool) (hB : Hid (B = true ↔ Msg5.mk x1 x2 x3 x4 x5 = Msg5.mk y1 y2 y3 y4 y5)) (w : World) : Sem.run Try.prog (binOp .neq 48 (.agg #[.int .i64 x1, .int .i64 x2, .string x3, .string x4, .int .i64 x5]) (.agg #[.int .i64 y1, .int .i64 y2, .string y3, .string y4, .int .i64 y5])) w = .ok (.bool (!B)) w := by
  rw [run_neq_struct, equalM, msg_conj x1 x2 y1 y2 x3 x4 y3 y4 x5 y5 B hB]; rfl
end Go.Proofs.Ytfpjdmplepepjaa

/-! WNine: Wire's nine numbers, as they are told; two of them compared. -/
namespace Go.Proofs.Ytfpjdmplepepjaa
open Go.RowKit

set_option maxRecDepth 100000 in
set_option maxHeartbeats 8000000 in
theorem nums_is (k f s p fl d0 d1 rc lg : Int) (mark : ByteArray) (am ab ac ag av : Option Addr) (nl kl nb kb nc kc ng kg nv kv : Nat) (w : World) :
    Calls Try.prog 20 #[.agg #[.int .i64 k, .int .i64 f, .int .i64 s, .int .i64 p, .int .i64 fl, .string mark, .slice am nl kl, .slice ab nb kb, .slice ac nc kc, .slice ag ng kg, .slice av nv kv, .int .i64 d0, .int .i64 d1, .int .i64 rc, .int .i64 lg]] w fun e w' => e = .returned (.agg #[.int .i64 k, .int .i64 f, .int .i64 s, .int .i64 p, .int .i64 fl, .int .i64 d0, .int .i64 d1, .int .i64 rc, .int .i64 lg]) ∧ Below w.heap.size w w' := by
  go_enter Try.func20, Try.ntmps20
  go_wp2_with fail
  refine bodyPost_ret (results_cell_row rfl _ _ (w.heap.size + 1) 54 #[.int .i64 k, .int .i64 f, .int .i64 s, .int .i64 p, .int .i64 fl, .int .i64 d0, .int .i64 d1, .int .i64 rc, .int .i64 lg] (0, 0) _ rfl (blk_at (by simp)) Try.underlying54 rfl infoNine) rfl ?_
  exact ⟨rfl, bNew (bOld _) _⟩
end Go.Proofs.Ytfpjdmplepepjaa

/-! WireEqB: slices.Equal over rows of peers. -/
namespace Go.Proofs.Ytfpjdmplepepjaa
open Go.RowKit


end Go.Proofs.Ytfpjdmplepepjaa

/-! WSame: Contexts and bags: are two the same? -/
namespace Go.Proofs.Ytfpjdmplepepjaa
open Go.RowKit

theorem SlP.rows {w : World} {ao : Option Addr} {ps : List Dot2} (h : SlP w ao ps) : SlE eDot 2 w ao ps := by
  intro k hk
  obtain ⟨b, off, h1, h2, h3⟩ := h k hk
  refine ⟨b, off, h1, h2, fun j p hj c u hu => ?_⟩
  obtain ⟨g0, g1⟩ := h3 j p hj
  match c, hu with
  | 0, hu => obtain rfl := Option.some.inj hu; exact g0
  | 1, hu => obtain rfl := Option.some.inj hu; exact g1
  | c + 2, hu => simp [eDot] at hu
end Go.Proofs.Ytfpjdmplepepjaa

/-! WWire: Wire as bytes. -/
namespace Go.Proofs.Ytfpjdmplepepjaa
open Go.RowKit

/-- What Bytes tells. -/
def Said (m : WL) (T : ByteArray) (E : Int) : Prop :=
  (¬ m.May ∧ T = ⟨#[]⟩ ∧ E = 1) ∨ (m.May ∧ 8000 < m.bytes.length ∧ T = ⟨#[]⟩ ∧ E = 11) ∨ (m.May ∧ m.bytes.length ≤ 8000 ∧ T = ofL m.bytes ∧ E = 0)
set_option maxRecDepth 100000 in
set_option maxHeartbeats 4000000 in
theorem wbytes_any (k f s p fl d0 d1 rc lg : Int) (mark : ByteArray) (am ab ac ag av : Option Addr) (nl kl nb kb nc kc ng kg nv kv : Nat) (live : List Msg5) (bs cl : List Dot2) (tags : List Tag2) (view : List Peer3) (T : ByteArray) (E : Int) (hT : Hid (Said (WL.mk k f s p fl d0 d1 rc lg mark live bs cl tags view) T E)) (w : World) (hL : Lies w am ab ac ag av nl nb nc ng nv live bs cl tags view) :
    Calls Try.prog 10 #[.agg #[.int .i64 k, .int .i64 f, .int .i64 s, .int .i64 p, .int .i64 fl, .string mark, .slice am nl kl, .slice ab nb kb, .slice ac nc kc, .slice ag ng kg, .slice av nv kv, .int .i64 d0, .int .i64 d1, .int .i64 rc, .int .i64 lg]] w fun e w' => e = .returned (.tuple #[.string T, .int .i64 E]) ∧ Below w.heap.size w w' := by
  obtain ⟨w0, hw0⟩ := nm (w.alloc (.cells #[.int .i64 k, .int .i64 f, .int .i64 s, .int .i64 p, .int .i64 fl, .string mark, .slice am nl kl, .slice ab nb kb, .slice ac nc kc, .slice ag ng kg, .slice av nv kv, .int .i64 d0, .int .i64 d1, .int .i64 rc, .int .i64 lg] 33))
  obtain ⟨x, hx⟩ := nm w.heap.size
  have Kx : Hid (Blk w0 x #[.int .i64 k, .int .i64 f, .int .i64 s, .int .i64 p, .int .i64 fl, .string mark, .slice am nl kl, .slice ab nb kb, .slice ac nc kc, .slice ag ng kg, .slice av nv kv, .int .i64 d0, .int .i64 d1, .int .i64 rc, .int .i64 lg] 33) := blkN hw0.out hx.out
  have HB0 : Hid (Below w.heap.size w w0) := by rw [hw0.out]; exact bOld _
  have HL : Hid (Lies w0 am ab ac ag av nl nb nc ng nv live bs cl tags view) := hL.below HB0.out
  clear hL
  obtain ⟨r, hr, hrf, hrt⟩ := boolOf (WL.mk k f s p fl d0 d1 rc lg mark live bs cl tags view).May
  have HCK : Hid (Calls Try.prog 12 #[.agg #[.int .i64 k, .int .i64 f, .int .i64 s, .int .i64 p, .int .i64 fl, .string mark, .slice am nl kl, .slice ab nb kb, .slice ac nc kc, .slice ag ng kg, .slice av nv kv, .int .i64 d0, .int .i64 d1, .int .i64 rc, .int .i64 lg]] w0 fun e w' => e = .returned (.int .i64 (errno r)) ∧ Below w0.heap.size w0 w') := wcheck_any k f s p fl d0 d1 rc lg mark am ab ac ag av nl kl nb kb nc kc ng kg nv kv live bs cl tags view r hr (errno r) rfl w0 HL.out
  go_enter Try.func10, Try.ntmps10
  go_upto_region 1 with fail
  rw [← hw0.out, ← hx.out]
  have c0 : w0.cell? ⟨x, 0, none⟩ = some (.int .i64 k) := Kx.out.cell 0
  have c1 : w0.cell? ⟨x, 1, none⟩ = some (.int .i64 f) := Kx.out.cell 1
  have c2 : w0.cell? ⟨x, 2, none⟩ = some (.int .i64 s) := Kx.out.cell 2
  have c3 : w0.cell? ⟨x, 3, none⟩ = some (.int .i64 p) := Kx.out.cell 3
  have c4 : w0.cell? ⟨x, 4, none⟩ = some (.int .i64 fl) := Kx.out.cell 4
  have c5 : w0.cell? ⟨x, 5, none⟩ = some (.string mark) := Kx.out.cell 5
  have c6 : w0.cell? ⟨x, 6, none⟩ = some (.slice am nl kl) := Kx.out.cell 6
  have c7 : w0.cell? ⟨x, 7, none⟩ = some (.slice ab nb kb) := Kx.out.cell 7
  have c8 : w0.cell? ⟨x, 8, none⟩ = some (.slice ac nc kc) := Kx.out.cell 8
  have c9 : w0.cell? ⟨x, 9, none⟩ = some (.slice ag ng kg) := Kx.out.cell 9
  have c10 : w0.cell? ⟨x, 10, none⟩ = some (.slice av nv kv) := Kx.out.cell 10
  have c11 : w0.cell? ⟨x, 11, none⟩ = some (.int .i64 d0) := Kx.out.cell 11
  have c12 : w0.cell? ⟨x, 12, none⟩ = some (.int .i64 d1) := Kx.out.cell 12
  have c13 : w0.cell? ⟨x, 13, none⟩ = some (.int .i64 rc) := Kx.out.cell 13
  have c14 : w0.cell? ⟨x, 14, none⟩ = some (.int .i64 lg) := Kx.out.cell 14
  go_wp2_with fail
  refine HCK.out.mono ?_; rintro e w1 ⟨rfl, hB1⟩
  replace Kx := Lib.hid (Kx.out.below hB1 Kx.out.lt)
  have HB1 := Lib.hid (bNext HB0.out hB1)
  replace HL := Lib.hid (HL.out.below hB1)
  clear HCK hB1
  clear c0 c1 c2 c3 c4 c5 c6 c7 c8 c9 c10 c11 c12 c13 c14
  cases r
  · have HE : Hid (T = ⟨#[]⟩ ∧ E = 1) := by
      rcases hT.out with h | h | h
      · exact h.2
      · exact absurd h.1 (hrf.out rfl)
      · exact absurd h.1 (hrf.out rfl)
    obtain ⟨rfl, rfl⟩ := HE.out
    simp only [errno]
    go_wp2_with fail
    refine bodyPost_ret (v := .tuple #[.string ⟨#[]⟩, .int .i64 1]) (by simp [results, Try.results10, go_sem]) rfl ?_
    exact ⟨rfl, HB1.out⟩
  have HMY : Hid (WL.mk k f s p fl d0 d1 rc lg mark live bs cl tags view).May := hrt.out rfl
  have HUP : Hid (WL.mk k f s p fl d0 d1 rc lg mark live bs cl tags view).Ups := HMY.out.ups (by simp only; rw [HL.out.l0.out]; exact HL.out.m0) (by simp only; rw [HL.out.l1.out]; exact HL.out.m1) (by simp only; rw [HL.out.l2.out]; exact HL.out.m2)
  simp only [errno]
  have c0 : w1.cell? ⟨x, 0, none⟩ = some (.int .i64 k) := Kx.out.cell 0
  have c1 : w1.cell? ⟨x, 1, none⟩ = some (.int .i64 f) := Kx.out.cell 1
  have c2 : w1.cell? ⟨x, 2, none⟩ = some (.int .i64 s) := Kx.out.cell 2
  have c3 : w1.cell? ⟨x, 3, none⟩ = some (.int .i64 p) := Kx.out.cell 3
  have c4 : w1.cell? ⟨x, 4, none⟩ = some (.int .i64 fl) := Kx.out.cell 4
  have c5 : w1.cell? ⟨x, 5, none⟩ = some (.string mark) := Kx.out.cell 5
  have c6 : w1.cell? ⟨x, 6, none⟩ = some (.slice am nl kl) := Kx.out.cell 6
  have c7 : w1.cell? ⟨x, 7, none⟩ = some (.slice ab nb kb) := Kx.out.cell 7
  have c8 : w1.cell? ⟨x, 8, none⟩ = some (.slice ac nc kc) := Kx.out.cell 8
  have c9 : w1.cell? ⟨x, 9, none⟩ = some (.slice ag ng kg) := Kx.out.cell 9
  have c10 : w1.cell? ⟨x, 10, none⟩ = some (.slice av nv kv) := Kx.out.cell 10
  have c11 : w1.cell? ⟨x, 11, none⟩ = some (.int .i64 d0) := Kx.out.cell 11
  have c12 : w1.cell? ⟨x, 12, none⟩ = some (.int .i64 d1) := Kx.out.cell 12
  have c13 : w1.cell? ⟨x, 13, none⟩ = some (.int .i64 rc) := Kx.out.cell 13
  have c14 : w1.cell? ⟨x, 14, none⟩ = some (.int .i64 lg) := Kx.out.cell 14
  go_wp2_with fail
  refine (nums_is k f s p fl d0 d1 rc lg mark am ab ac ag av nl kl nb kb nc kc ng kg nv kv _).mono ?_; rintro e w2 ⟨rfl, hB2⟩
  obtain ⟨y, hy⟩ := nm w2.heap.size
  obtain ⟨w3, hw3⟩ := nm (w2.alloc (.cells #[.int .i64 k, .int .i64 f, .int .i64 s, .int .i64 p, .int .i64 fl, .int .i64 d0, .int .i64 d1, .int .i64 rc, .int .i64 lg] 54))
  replace Kx : Hid (Blk w3 x #[.int .i64 k, .int .i64 f, .int .i64 s, .int .i64 p, .int .i64 fl, .string mark, .slice am nl kl, .slice ab nb kb, .slice ac nc kc, .slice ag ng kg, .slice av nv kv, .int .i64 d0, .int .i64 d1, .int .i64 rc, .int .i64 lg] 33) := by show Blk _ _ _ _; rw [hw3.out]; exact (Kx.out.below hB2 Kx.out.lt).alloc _
  have Ky : Hid (Blk w3 y #[.int .i64 k, .int .i64 f, .int .i64 s, .int .i64 p, .int .i64 fl, .int .i64 d0, .int .i64 d1, .int .i64 rc, .int .i64 lg] 54) := blkN hw3.out hy.out
  have HB3 : Hid (Below w.heap.size w w3) := by show Below _ _ _; rw [hw3.out]; exact bNew (bNext HB1.out hB2) _
  replace HL : Hid (Lies w3 am ab ac ag av nl nb nc ng nv live bs cl tags view) := by rw [hw3.out]; exact HL.out.below (bNew hB2 _)
  clear hB2
  clear c0 c1 c2 c3 c4 c5 c6 c7 c8 c9 c10 c11 c12 c13 c14
  go_upto_region 4 with fail
  rw [← hw3.out, ← hy.out]
  have c5 : w3.cell? ⟨x, 5, none⟩ = some (.string mark) := Kx.out.cell 5
  have c6 : w3.cell? ⟨x, 6, none⟩ = some (.slice am nl kl) := Kx.out.cell 6
  have c7 : w3.cell? ⟨x, 7, none⟩ = some (.slice ab nb kb) := Kx.out.cell 7
  have c8 : w3.cell? ⟨x, 8, none⟩ = some (.slice ac nc kc) := Kx.out.cell 8
  have c9 : w3.cell? ⟨x, 9, none⟩ = some (.slice ag ng kg) := Kx.out.cell 9
  have c10 : w3.cell? ⟨x, 10, none⟩ = some (.slice av nv kv) := Kx.out.cell 10
  obtain ⟨zs, hzs⟩ := nm ([k, f, s, p, fl, d0, d1, rc, lg] : List Int)
  have hzl : Hid (zs.length = 9) := by show _ = _; rw [hzs.out]; rfl
  have HZ : Hid (∀ z ∈ zs, z ≤ 9223372036854775807) := by show ∀ z ∈ zs, _; rw [hzs.out]; exact fun z hz => (HUP.out.nums z hz).2
  have HSL : Hid (SlAt w3.drew (some ⟨y, 0, none⟩) (zs.map (Value.int .i64))) := by rw [hzs.out]; exact SlAt.ofBlk (w := w3.drew) Ky.out
  obtain ⟨a1, ha1⟩ := nm (ofL (numsL zs))
  obtain ⟨a2, ha2⟩ := nm (ofL (textL (bl mark)))
  obtain ⟨a3, ha3⟩ := nm (ofL (bagL live bs cl))
  obtain ⟨a4, ha4⟩ := nm (ofL (rowL tagL tags))
  obtain ⟨a5, ha5⟩ := nm (ofL (rowL peerL view))
  have HU0 : Hid (∀ x ∈ live, upMsg x) := HUP.out.live
  have HU1 : Hid (∀ x ∈ bs, upDot x) := HUP.out.bs
  have HU2 : Hid (∀ x ∈ cl, upDot x) := HUP.out.cl
  have HU3 : Hid (∀ x ∈ tags, upTag x) := HUP.out.tags
  have HU4 : Hid (∀ x ∈ view, upPeer x) := HUP.out.view
  have hmk : mark.size ≤ 1000000 := HUP.out.mark
  have l1 : a1.size ≤ 100 := by
    rw [ha1.out, ofL_size]
    unfold numsL
    rw [List.length_append, hzl.out]
    have g1 := Pl.num_length_le 9 (by decide)
    have g2 := intsL_le zs HZ.out
    rw [hzl.out] at g2
    omega
  have l2 : a2.size ≤ 1000010 := by rw [ha2.out, ofL_size]; have := textL_le hmk (Nat.le_refl _); omega
  have l3 : a3.size ≤ 4000000000000 := by
    rw [ha3.out, ofL_size, bagL, ctxL, List.length_append, List.length_append]
    have e1 := dots_le bs nb HL.out.l1.out HL.out.m1 HU1.out
    have e2 := dots_le cl nc HL.out.l2.out HL.out.m2 HU2.out
    have e3 := rowL_le (f := msgL) (m := 2000050) live (by rw [HL.out.l0.out]; exact HL.out.m0) (fun m hm => by
      obtain ⟨r1, r2, r3, r4, r5⟩ := HU0.out m hm
      have e1 := dotL_le (x := (m.node, m.n)) ⟨r1, r2⟩
      have e2 := textL_le r3 (Nat.le_refl _)
      have e3 := textL_le r4 (Nat.le_refl _)
      have e4 := num_le r5
      simp only [msgL, List.length_append]; omega)
    have e4 : live.length ≤ 1000000 := by rw [HL.out.l0.out]; exact HL.out.m0
    omega
  have l4 : a4.size ≤ 4000000000000 := by
    rw [ha4.out, ofL_size]
    have e3 := rowL_le (f := tagL) (m := 1000020) tags (by rw [HL.out.l3.out]; exact HL.out.m3) (fun m hm => by
      obtain ⟨r1, r2⟩ := HU3.out m hm
      have e2 := textL_le r1 (Nat.le_refl _)
      have e4 := num_le r2
      simp only [tagL, List.length_append]; omega)
    have e4 : tags.length ≤ 1000000 := by rw [HL.out.l3.out]; exact HL.out.m3
    omega
  have l5 : a5.size ≤ 4000000000000 := by
    rw [ha5.out, ofL_size]
    have e3 := rowL_le (f := peerL) (m := 30) view (by rw [HL.out.l4.out]; exact HL.out.m4) (fun m hm => peerL_le (HU4.out m hm))
    have e4 : view.length ≤ 1000000 := by rw [HL.out.l4.out]; exact HL.out.m4
    omega
  have k2 := fun w : World => run_string_add_sum (P := Try.prog) w a1 a2 (by omega)
  have k3 := fun w : World => run_string_add_sum (P := Try.prog) w (a1 ++ a2) a3 (by rw [app_size]; omega)
  have k4 := fun w : World => run_string_add_sum (P := Try.prog) w (a1 ++ a2 ++ a3) a4 (by rw [app_size, app_size]; omega)
  have k5 := fun w : World => run_string_add_sum (P := Try.prog) w (a1 ++ a2 ++ a3 ++ a4) a5 (by rw [app_size, app_size, app_size]; omega)
  have HF : Hid (a1 ++ a2 ++ a3 ++ a4 ++ a5 = ofL (WL.mk k f s p fl d0 d1 rc lg mark live bs cl tags view).bytes) := by
    show _ = _
    rw [ha1.out, ha2.out, ha3.out, ha4.out, ha5.out, ofL_append, ofL_append, ofL_append, ofL_append, hzs.out]
    unfold WL.bytes
    simp only [List.append_assoc]; rfl
  clear l1 l2 l3 l4 l5 hmk
  have KEEP : Hid (∀ wb : World, Below w3.drew.heap.size w3.drew wb → wb.cell? ⟨x, 5, none⟩ = some (.string mark) ∧ wb.cell? ⟨x, 6, none⟩ = some (.slice am nl kl) ∧ wb.cell? ⟨x, 7, none⟩ = some (.slice ab nb kb) ∧ wb.cell? ⟨x, 8, none⟩ = some (.slice ac nc kc) ∧ wb.cell? ⟨x, 9, none⟩ = some (.slice ag ng kg) ∧ wb.cell? ⟨x, 10, none⟩ = some (.slice av nv kv)) := by
    show ∀ wb : World, _
    intro wb h
    have h1 := Blk.below (w := w3.drew) Kx.out h Kx.out.lt
    exact ⟨h1.cell 5, h1.cell 6, h1.cell 7, h1.cell 8, h1.cell 9, h1.cell 10⟩
  refine wp_region_noPanic ?_
  refine wp_region_held_drew (S := fun w' => w'.cell? ⟨x, 5, none⟩ = some (.string mark) ∧ w'.cell? ⟨x, 6, none⟩ = some (.slice am nl kl) ∧ w'.cell? ⟨x, 7, none⟩ = some (.slice ab nb kb) ∧ w'.cell? ⟨x, 8, none⟩ = some (.slice ac nc kc) ∧ w'.cell? ⟨x, 9, none⟩ = some (.slice ag ng kg) ∧ w'.cell? ⟨x, 10, none⟩ = some (.slice av nv kv)) (by kernel_rfl) (⟨c5, c6, c7, c8, c9, c10⟩) (fun hHeld => ?_)
  refine wpAnyH_take (i := 0) (v := ?_) (takeL rfl) (by kernel_rfl) (by kernel_rfl) (by kernel_rfl) (fun _ _ _ h => h) (Or.inl ⟨by rfl, ?_⟩) (by assumption) ?_
  rotate_left
  · (intro w hSw; (try dsimp only at hSw); first | (go_simp; done) | (go_simp; with_reducible rfl))
  try simp only [Act.put, List.setIfInBounds_toArray, List.set_cons_zero, List.set_cons_succ]
  refine wpAnyH_take (i := 2) (v := ?_) (takeL rfl) (by kernel_rfl) (by kernel_rfl) (by kernel_rfl) (fun _ _ _ h => h) (Or.inl ⟨by rfl, ?_⟩) (by assumption) ?_
  rotate_left
  · (intro w hSw; (try dsimp only at hSw); first | (go_simp; done) | (go_simp; with_reducible rfl))
  try simp only [Act.put, List.setIfInBounds_toArray, List.set_cons_zero, List.set_cons_succ]
  refine wpAnyH_take (i := 3) (v := ?_) (takeL rfl) (by kernel_rfl) (by kernel_rfl) (by kernel_rfl) (fun _ _ _ h => h) (Or.inl ⟨by rfl, ?_⟩) (by assumption) ?_
  rotate_left
  · (intro w hSw; (try dsimp only at hSw); first | (go_simp; done) | (go_simp; with_reducible rfl))
  try simp only [Act.put, List.setIfInBounds_toArray, List.set_cons_zero, List.set_cons_succ]
  refine wpAnyH_take (i := 6) (v := ?_) (takeL rfl) (by kernel_rfl) (by kernel_rfl) (by kernel_rfl) (fun _ _ _ h => h) (Or.inl ⟨by rfl, ?_⟩) (by assumption) ?_
  rotate_left
  · (intro w hSw; (try dsimp only at hSw); first | (go_simp; done) | (go_simp; with_reducible rfl))
  try simp only [Act.put, List.setIfInBounds_toArray, List.set_cons_zero, List.set_cons_succ]
  refine wpAnyH_take (i := 7) (v := ?_) (takeL rfl) (by kernel_rfl) (by kernel_rfl) (by kernel_rfl) (fun _ _ _ h => h) (Or.inl ⟨by rfl, ?_⟩) (by assumption) ?_
  rotate_left
  · (intro w hSw; (try dsimp only at hSw); first | (go_simp; done) | (go_simp; with_reducible rfl))
  try simp only [Act.put, List.setIfInBounds_toArray, List.set_cons_zero, List.set_cons_succ]
  refine wpAnyH_take (i := 10) (v := ?_) (takeL rfl) (by kernel_rfl) (by kernel_rfl) (by kernel_rfl) (fun _ _ _ h => h) (Or.inl ⟨by rfl, ?_⟩) (by assumption) ?_
  rotate_left
  · (intro w hSw; (try dsimp only at hSw); first | (go_simp; done) | (go_simp; with_reducible rfl))
  try simp only [Act.put, List.setIfInBounds_toArray, List.set_cons_zero, List.set_cons_succ]
  refine wpAnyH_take (i := 11) (v := ?_) (takeL rfl) (by kernel_rfl) (by kernel_rfl) (by kernel_rfl) (fun _ _ _ h => h) (Or.inl ⟨by rfl, ?_⟩) (by assumption) ?_
  rotate_left
  · (intro w hSw; (try dsimp only at hSw); first | (go_simp; done) | (go_simp; with_reducible rfl))
  try simp only [Act.put, List.setIfInBounds_toArray, List.set_cons_zero, List.set_cons_succ]
  refine wpAnyH_take (i := 14) (v := ?_) (takeL rfl) (by kernel_rfl) (by kernel_rfl) (by kernel_rfl) (fun _ _ _ h => h) (Or.inl ⟨by rfl, ?_⟩) (by assumption) ?_
  rotate_left
  · (intro w hSw; (try dsimp only at hSw); first | (go_simp; done) | (go_simp; with_reducible rfl))
  try simp only [Act.put, List.setIfInBounds_toArray, List.set_cons_zero, List.set_cons_succ]
  refine wpAnyH_take (i := 15) (v := ?_) (takeL rfl) (by kernel_rfl) (by kernel_rfl) (by kernel_rfl) (fun _ _ _ h => h) (Or.inl ⟨by rfl, ?_⟩) (by assumption) ?_
  rotate_left
  · (intro w hSw; (try dsimp only at hSw); first | (go_simp; done) | (go_simp; with_reducible rfl))
  try simp only [Act.put, List.setIfInBounds_toArray, List.set_cons_zero, List.set_cons_succ]
  refine wpAnyH_ready (rs := [1]) (by kernel_rfl) (by simp) ?_
  refine AllReadyH.cons (takeL rfl) (fun K hK => ?_) AllReadyH.nil
  go_simp
  refine (nums_any (some ⟨y, 0, none⟩) 9 9 zs hzl.out (by decide) HZ.out w3.drew HSL.out).mono ?_; rintro e v1 ⟨rfl, hb1⟩
  rw [← ha1.out]
  go_wp2_with fail
  refine hK.out _ _ (KEEP.out _ (hb1)) (fun hHeld => ?_)
  clear hK K
  refine wpAnyH_ready (rs := [4]) (by kernel_rfl) (by simp) ?_
  refine AllReadyH.cons (takeL rfl) (fun K hK => ?_) AllReadyH.nil
  go_simp
  refine (text_is mark a2 ha2 _ HUP.out.mark).mono ?_; rintro e v2 ⟨rfl, hb2⟩
  go_wp2_with fail
  refine hK.out _ _ (KEEP.out _ (bNext hb1 hb2)) (fun hHeld => ?_)
  clear hK K
  refine wpAnyH_take (i := 5) (v := ?_) (takeL rfl) (by kernel_rfl) (by kernel_rfl) (by kernel_rfl) (fun _ _ _ h => h) (Or.inl ⟨by rfl, ?_⟩) (by assumption) ?_
  rotate_left
  · (intro w hSw; (try dsimp only at hSw); first | (go_simp; done) | (go_simp; with_reducible rfl))
  try simp only [Act.put, List.setIfInBounds_toArray, List.set_cons_zero, List.set_cons_succ]
  refine wpAnyH_ready (rs := [8]) (by kernel_rfl) (by simp) ?_
  refine AllReadyH.cons (takeL rfl) (fun K hK => ?_) AllReadyH.nil
  go_simp
  refine (bagbytes_any am ab ac nl kl nb kb nc kc live bs cl HL.out.l0 HL.out.m0 HL.out.l1 HL.out.m1 HL.out.l2 HL.out.m2 HU0 HU1 HU2 a3 ha3 _ (HL.out.s0.below (bNext (bDrew (Below.refl _ _)) (bNext hb1 hb2))) (HL.out.s1.below (bNext (bDrew (Below.refl _ _)) (bNext hb1 hb2))) (HL.out.s2.below (bNext (bDrew (Below.refl _ _)) (bNext hb1 hb2)))).mono ?_; rintro e v3 ⟨rfl, hb3⟩
  go_wp2_with fail
  refine hK.out _ _ (KEEP.out _ (bNext (bNext hb1 hb2) hb3)) (fun hHeld => ?_)
  clear hK K
  refine wpAnyH_take (i := 9) (v := ?_) (takeL rfl) (by kernel_rfl) (by kernel_rfl) (by kernel_rfl) (fun _ _ _ h => h) (Or.inl ⟨by rfl, ?_⟩) (by assumption) ?_
  rotate_left
  · (intro w hSw; (try dsimp only at hSw); first | (go_simp; done) | (go_simp; with_reducible rfl))
  try simp only [Act.put, List.setIfInBounds_toArray, List.set_cons_zero, List.set_cons_succ]
  refine wpAnyH_ready (rs := [12]) (by kernel_rfl) (by simp) ?_
  refine AllReadyH.cons (takeL rfl) (fun K hK => ?_) AllReadyH.nil
  go_simp
  refine (tagbytes_any ag ng kg tags HL.out.l3 HL.out.m3 HU3 a4 ha4 _ (HL.out.s3.below (bNext (bDrew (Below.refl _ _)) (bNext (bNext hb1 hb2) hb3)))).mono ?_; rintro e v4 ⟨rfl, hb4⟩
  go_wp2_with fail
  refine hK.out _ _ (KEEP.out _ (bNext (bNext (bNext hb1 hb2) hb3) hb4)) (fun hHeld => ?_)
  clear hK K
  refine wpAnyH_take (i := 13) (v := ?_) (takeL rfl) (by kernel_rfl) (by kernel_rfl) (by kernel_rfl) (fun _ _ _ h => h) (Or.inl ⟨by rfl, ?_⟩) (by assumption) ?_
  rotate_left
  · (intro w hSw; (try dsimp only at hSw); first | (go_simp; done) | (go_simp; with_reducible rfl))
  try simp only [Act.put, List.setIfInBounds_toArray, List.set_cons_zero, List.set_cons_succ]
  refine wpAnyH_ready (rs := [16]) (by kernel_rfl) (by simp) ?_
  refine AllReadyH.cons (takeL rfl) (fun K hK => ?_) AllReadyH.nil
  go_simp
  refine (viewbytes_any av nv kv view HL.out.l4 HL.out.m4 HU4 a5 ha5 _ (HL.out.s4.below (bNext (bDrew (Below.refl _ _)) (bNext (bNext (bNext hb1 hb2) hb3) hb4)))).mono ?_; rintro e v5 ⟨rfl, hb5⟩
  go_wp2_with fail
  refine hK.out _ _ (KEEP.out _ (bNext (bNext (bNext (bNext hb1 hb2) hb3) hb4) hb5)) (fun hHeld => ?_)
  clear hK K
  refine wpAnyH_take (i := 17) (v := ?_) (takeL rfl) (by kernel_rfl) (by kernel_rfl) (by kernel_rfl) (fun _ _ _ h => h) (Or.inl ⟨by rfl, ?_⟩) (by assumption) ?_
  rotate_left
  · (intro w hSw; (try dsimp only at hSw); first | (go_simp; done) | (go_simp; with_reducible rfl))
  try simp only [Act.put, List.setIfInBounds_toArray, List.set_cons_zero, List.set_cons_succ]
  refine wpAnyH_take (i := 18) (v := ?_) (takeL rfl) (by kernel_rfl) (by kernel_rfl) (by kernel_rfl) (fun _ _ _ h => h) (Or.inl ⟨by rfl, ?_⟩) (by assumption) ?_
  rotate_left
  · (intro w hSw; (try dsimp only at hSw); first | (go_simp; done) | (go_simp; with_reducible rfl))
  try simp only [Act.put, List.setIfInBounds_toArray, List.set_cons_zero, List.set_cons_succ]
  refine wpAnyH_done (by kernel_rfl) ?_ _
  refine NoPanic.normal ?_
  have HBF := Lib.hid (bNext (bDrew HB3.out) (bNext (bNext (bNext (bNext hb1 hb2) hb3) hb4) hb5))
  obtain ⟨R, hR⟩ := nm (a1 ++ a2 ++ a3 ++ a4 ++ a5)
  rw [← hR.out] at HF
  rw [← hR.out]
  clear hb1 hb2 hb3 hb4 hb5 k2 k3 k4 k5 c5 c6 c7 c8 c9 c10 hHeld
  have HRL : Hid (R.size = (WL.mk k f s p fl d0 d1 rc lg mark live bs cl tags view).bytes.length) := by show _ = _; rw [HF.out, ofL_size]
  by_cases hlen : R.size ≤ 8000
  · have hd : decide (8000 < (R.size : Int)) = false := decide_eq_false (by omega)
    have HE : Hid (T = R ∧ E = 0) := by
      rcases hT.out with h | h | h
      · exact absurd HMY.out h.1
      · have := h.2.1; have := HRL.out; omega
      · exact ⟨by rw [HF.out]; exact h.2.2.1, h.2.2.2⟩
    obtain ⟨rfl, rfl⟩ := HE.out
    clear hlen
    go_wp2_with fail
    refine bodyPost_ret (v := .tuple #[.string T, .int .i64 0]) (by simp [results, Try.results10, go_sem]) rfl ?_
    exact ⟨rfl, HBF.out⟩
  · have hd : decide (8000 < (R.size : Int)) = true := decide_eq_true (by omega)
    have HE : Hid (T = ⟨#[]⟩ ∧ E = 11) := by
      rcases hT.out with h | h | h
      · exact absurd HMY.out h.1
      · exact h.2.2
      · have := h.2.1; have := HRL.out; omega
    obtain ⟨rfl, rfl⟩ := HE.out
    clear hlen
    go_wp2_with fail
    refine bodyPost_ret (v := .tuple #[.string ⟨#[]⟩, .int .i64 11]) (by simp [results, Try.results10, go_sem]) rfl ?_
    exact ⟨rfl, HBF.out⟩
end Go.Proofs.Ytfpjdmplepepjaa

/-! WReadA: How much a reader leaves; own rows that stay. -/
namespace Go.Proofs.Ytfpjdmplepepjaa
open Go.RowKit

theorem Rd.int_sz (r : Rd) (m : Int) : (r.int m).1.left.size ≤ r.left.size := (r.int_lt m).2.1
theorem Rd.text_sz (r : Rd) (m : Int) : (r.text m).1.left.size ≤ r.left.size := by
  have h := r.int_sz m
  unfold Rd.text
  split
  · exact h
  · show ((r.int m).1.left.extract (r.int m).2 (r.int m).1.left.size).size ≤ _
    rw [← bl_length, bl_extract, List.length_take, List.length_drop, bl_length]
    omega
end Go.Proofs.Ytfpjdmplepepjaa

/-! WReadBag: Bags are read: the program's. -/
namespace Go.Proofs.Ytfpjdmplepepjaa
open Go.RowKit

theorem Tri.setNew {x y z : Nat} {a b : World} (h : Tri x y z a b) {p : Addr} (hp : a.heap.size ≤ p.block) (v : Value) : Tri x y z a (b.setCell p v) :=
  ⟨Nat.le_trans h.size (by simp), fun k hk h1 h2 h3 => (Below.heap_setCell _ _ _ _ (by omega)).trans (h.block k hk h1 h2 h3)⟩
theorem OwnE.tri {α : Type} {enc : α → List Value} {k x y z base : Nat} {a b c : World} {t : TypeId} {v : Value} {xs : List α} (hown : OwnE enc k b base t v xs) (h : Tri x y z a b) (hb : a.heap.size ≤ base) (hg : b.grownBy c v.ownBlock) : Tri x y z a c :=
  ⟨Nat.le_trans h.size hg.size, fun i hi h1 h2 h3 => (hg.block i (Nat.lt_of_lt_of_le hi h.size) (by intro e; have := (World.ownsRow.lt hown i e.symm).1; omega)).trans (h.block i hi h1 h2 h3)⟩
/-- A message whose parts were read. -/
def msgR (m : Msg5) : Prop := dotP (m.node, m.n) ∧ Tx 1000 m.queue ∧ Tx 1000 m.body ∧ In 1048576 m.count
theorem tells_msgR : Tells msgR msgL := tells_msg.sub fun m h => by
  obtain ⟨h1, h2, h3, h4, h5⟩ := h
  have hq : (m.queue.size : Int) ≤ 1000 := h2
  have hb : (m.body.size : Int) ≤ 1000 := h3
  exact ⟨h1.up.1, h1.up.2, by omega, by omega, h4, by omega⟩
theorem msg_red {r r0 r1 r2 r3 : Rd} {p q c : Int} {qu bo : ByteArray} (h0 : Red dotP dotL r r0 (p, q)) (h1 : Red (Tx 1000) textZ r0 r1 qu) (h2 : Red (Tx 1000) textZ r1 r2 bo) (h3 : Red (In 1048576) numZ r2 r3 c) : Red msgR msgL r r3 ⟨p, q, qu, bo, c⟩ :=
  (h0.seq (h1.seq (h2.seq h3 (tells_tx (by decide))) (tells_tx (by decide))) tells_dotP).map (fun x : Dot2 × ByteArray × ByteArray × Int => (⟨x.1.1, x.1.2, x.2.1, x.2.2.1, x.2.2.2⟩ : Msg5)) (fun m => ((m.node, m.n), m.queue, m.body, m.count)) (fun _ h => ⟨h, rfl⟩) (fun _ h => ⟨h, rfl⟩)
/-- A bag that is read. -/
abbrev Bag3 := (List Dot2 × List Dot2) × List Msg5
def BagR (p : Bag3) : Prop := (p.1.1.length ≤ 1000 ∧ p.1.2.length ≤ 1000 ∧ p.2.length ≤ 1000) ∧ BagP p.2 p.1.1 p.1.2
def bagZ (p : Bag3) : List UInt8 := bagL p.2 p.1.1 p.1.2
theorem mayM.red {m : Msg5} (h : mayM m) : msgR m := by
  obtain ⟨h1, h2, h3, h4, h5, h6⟩ := h
  exact ⟨h1, show (m.queue.size : Int) ≤ 1000 by omega, show (m.body.size : Int) ≤ 1000 by omega, h5, h6⟩
theorem bagR_iff (p : Bag3) : ((CtxR p.1 ∧ (p.2.length : Int) ≤ 1000 ∧ ∀ m ∈ p.2, msgR m) ∧ BagP p.2 p.1.1 p.1.2) ↔ BagR p := by
  refine ⟨fun h => ⟨⟨h.1.1.1.1, h.1.1.1.2, by have := h.1.2.1; omega⟩, h.2⟩, fun h => ⟨⟨⟨⟨h.1.1, h.1.2.1⟩, h.2.ctx⟩, by have := h.1.2.2; omega, fun m hm => (h.2.live.all (Nat.le_refl _) m hm).1.red⟩, h.2⟩⟩
theorem tells_ctxR : Tells CtxR ctxZ := by
  rintro ⟨x1, x2⟩ ⟨y1, y2⟩ r t hx hy h
  simp only [ctxZ, ctxL, List.append_assoc] at h
  obtain ⟨e1, h⟩ := tells_row tells_dotP _ _ _ _ (show _ from ⟨by have := hx.1.1; simp only at this ⊢; omega, hx.2.dots.1⟩) (show _ from ⟨by have := hy.1.1; simp only at this ⊢; omega, hy.2.dots.1⟩) h
  obtain ⟨e2, h⟩ := tells_row tells_dotP _ _ _ _ (show _ from ⟨by have := hx.1.2; simp only at this ⊢; omega, hx.2.dots.2⟩) (show _ from ⟨by have := hy.1.2; simp only at this ⊢; omega, hy.2.dots.2⟩) h
  exact ⟨by rw [show x1 = y1 from e1, show x2 = y2 from e2], h⟩
def MsgsR (xs : List Msg5) : Prop := (xs.length : Int) ≤ 1000 ∧ ∀ y ∈ xs, msgR y
theorem tells_msgsR : Tells MsgsR (rowL msgL) := (tells_row tells_msgR).sub fun _ h => ⟨by have := h.1; omega, h.2⟩
/-- What bag.Read tells. -/
def BagTells (b : Nat) (r : Rd) (w : World) (e : Ending) (w' : World) : Prop :=
  ∃ am ab ac nl kl nb kb nc kc live bs cl r', e = .returned (.agg #[.slice am nl kl, .slice ab nb kb, .slice ac nc kc]) ∧ (live.length = nl ∧ bs.length = nb ∧ cl.length = nc) ∧ SlE eMsg 5 w' am live ∧ SlP w' ab bs ∧ SlP w' ac cl ∧ (∀ a, am = some a → w.heap.size ≤ a.block) ∧ (∀ a, ab = some a → w.heap.size ≤ a.block) ∧ (∀ a, ac = some a → w.heap.size ≤ a.block) ∧ IsRd w' b r' ∧ Red BagR bagZ r r' ((bs, cl), live) ∧ r'.left.size ≤ 1000000 ∧ Kept b w w'

set_option maxRecDepth 100000 in
set_option maxHeartbeats 8000000 in
theorem rbag_any (b : Nat) (r : Rd) (w : World) (hr : IsRd w b r) (hs : r.left.size ≤ 1000000) :
    Calls Try.prog 39 #[.pointer (some ⟨b, 0, none⟩)] w (BagTells b r w) := by
  obtain ⟨x, hx⟩ := nm w.heap.size
  have hbx : b < x := by rw [hx.out]; exact hr.lt
  obtain ⟨w0, hw0⟩ := nm (w.alloc (.cells #[.slice none 0 0, .slice none 0 0, .slice none 0 0] 27))
  have Kx : Hid (Blk w0 x #[.slice none 0 0, .slice none 0 0, .slice none 0 0] 27) := by show Blk _ _ _ _; rw [hw0.out, hx.out]; exact Blk.new _ _ _
  have HR : Hid (IsRd w0 b r) := by show IsRd _ _ _; rw [hw0.out]; exact Blk.alloc hr _
  have HP : Hid (Kept b w w0) := by show Kept _ _ _; rw [hw0.out]; exact (Kept.refl _ _).alloc _
  have hwx : Hid (w.heap.size ≤ x) := Nat.le_of_eq hx.out.symm
  clear hr
  go_enter Try.func39, Try.ntmps39
  go_upto_region 1 with fail
  rw [← hw0.out, ← hx.out]
  go_wp2_with fail
  refine (rctx_any b r _ HR.out hs).mono ?_; rintro e w1 ⟨ab, ac, nb, kb, nc, kc, bs, cl, r1, rfl, hnb, hnc, hsb, hsc, hfb, hfc, h1, hd1, hs1, hk⟩
  have hx0 : x < w0.heap.size := Kx.out.lt
  have HFB : Hid (∀ a, ab = some a → x < a.block) := fun a ha => by have := hfb a ha; omega
  have HFC : Hid (∀ a, ac = some a → x < a.block) := fun a ha => by have := hfc a ha; omega
  replace Kx := Lib.hid (hk.blk Kx.out (by omega))
  replace HP := Lib.hid (HP.out.trans hk)
  obtain ⟨c, hc⟩ := nm w1.heap.size
  have hbc : b < c := by rw [hc.out]; exact h1.lt
  have hxc : x < c := by rw [hc.out]; exact Kx.out.lt
  have HSB : Hid (SlP w1 ab bs) := hsb
  have HSC : Hid (SlP w1 ac cl) := hsc
  have HLB : Hid (∀ a, ab = some a → 0 < bs.length → a.block < c) := by
    show ∀ a, _
    intro a ha h0
    obtain ⟨b', off', e, hl⟩ := HSB.out.base h0
    rw [ha] at e; cases e; rw [hc.out]; exact hl
  have HLC : Hid (∀ a, ac = some a → 0 < cl.length → a.block < c) := by
    show ∀ a, _
    intro a ha h0
    obtain ⟨b', off', e, hl⟩ := HSC.out.base h0
    rw [ha] at e; cases e; rw [hc.out]; exact hl
  obtain ⟨w2, hw2⟩ := nm (w1.alloc (.cells #[.slice none 0 0, .slice ab nb kb, .slice ac nc kc] 27))
  have Kc : Hid (Blk w2 c #[.slice none 0 0, .slice ab nb kb, .slice ac nc kc] 27) := by show Blk _ _ _ _; rw [hw2.out, hc.out]; exact Blk.new _ _ _
  replace Kx : Hid (Blk w2 x #[.slice none 0 0, .slice none 0 0, .slice none 0 0] 27) := by show Blk _ _ _ _; rw [hw2.out]; exact Kx.out.alloc _
  replace HR : Hid (IsRd w2 b r1) := by show IsRd _ _ _; rw [hw2.out]; exact Blk.alloc h1 _
  replace HP : Hid (Kept b w w2) := by show Kept _ _ _; rw [hw2.out]; exact HP.out.alloc _
  obtain ⟨B0, hB0⟩ := nm w2.heap.size
  have hcB : c < B0 := by rw [hB0.out, hw2.out, hc.out]; simp
  have hwc : w.heap.size ≤ c := by rw [← hx.out]; omega
  have stay : ∀ w', Tri b x c w2 w' → SlP w' ab bs ∧ SlP w' ac cl := by
    intro w' ht
    have ht1 : Tri b x c w1 w' := by
      have : Tri b x c w1 w2 := by rw [hw2.out]; exact (Tri.refl _ _ _ _).alloc _
      exact this.trans ht
    constructor
    · rcases Nat.eq_zero_or_pos bs.length with h0 | h0
      · rw [List.length_eq_zero_iff.1 h0]; exact SlP.nil _ _
      · exact HSB.out.tri (fun a ha => by have h2 := HFB.out a ha; have h3 := HLB.out a ha h0; exact ⟨by omega, by omega, by omega⟩) ht1
    · rcases Nat.eq_zero_or_pos cl.length with h0 | h0
      · rw [List.length_eq_zero_iff.1 h0]; exact SlP.nil _ _
      · exact HSC.out.tri (fun a ha => by have h2 := HFC.out a ha; have h3 := HLC.out a ha h0; exact ⟨by omega, by omega, by omega⟩) ht1
  have STAY := Lib.hid stay
  have D1 := Lib.hid hd1
  have HNB := Lib.hid hnb
  have HNC := Lib.hid hnc
  have HWB : Hid (∀ a, ab = some a → w.heap.size ≤ a.block) := fun a ha => by have := HFB.out a ha; have := hwx.out; omega
  have HWC : Hid (∀ a, ac = some a → w.heap.size ≤ a.block) := fun a ha => by have := HFC.out a ha; have := hwx.out; omega
  obtain ⟨i1, i2, i3⟩ := r1.int_lt 1000
  have hq0 := red_int r1 1000 (by decide)
  obtain ⟨q, hq⟩ := nm (r1.int 1000).1
  obtain ⟨n, hn⟩ := nm (r1.int 1000).2
  rw [← hq.out] at i2 hq0
  rw [← hn.out] at i1 i3 hq0
  have hnm : n ≤ 1000 := by omega
  have hqs : q.left.size ≤ 1000000 := by omega
  have HQ := Lib.hid hq0
  have bad : ∀ w' r' rr (zs : List Msg5), Red MsgsR (rowL msgL) r1 rr zs → r'.torn = true → r'.left.size ≤ 1000000 → (rr.torn = true ∨ ¬ BagP zs bs cl) → IsRd w' b r' → Kept b w w' → BagTells b r w (.returned (.agg #[.slice none 0 0, .slice none 0 0, .slice none 0 0])) w' := by
    intro w' r' rr zs hred h1 h2 h3 h4 h5
    refine ⟨none, none, none, 0, 0, 0, 0, 0, 0, [], [], [], r', rfl, ⟨rfl, rfl, rfl⟩, SlE.nil _ _ _ _, SlP.nil _ _, SlP.nil _ _, fun a h => (by cases h), fun a h => (by cases h), fun a h => (by cases h), h4, ?_, h2, h5⟩
    have hall := D1.out.seq hred tells_ctxR
    exact (Red.fail (C := fun p : Bag3 => BagP p.2 p.1.1 p.1.2) hall (tells_ctxR.seq tells_msgsR) h3 h1).iff bagR_iff
  have BAD := Lib.hid bad
  clear h1 hk hsb hsc hfb hfc hd1 hnb hnc stay bad i1 i2 i3 hq0 HLB HLC HFB HFC
  go_upto_region 2 with fail
  rw [← hw2.out, ← hc.out]
  go_wp2_with fail
  refine (rint_any b r1 1000 _ HR.out (by omega) (by decide)).mono ?_; rintro e w3 ⟨rfl, h3, hk⟩
  rw [← hq.out] at h3
  rw [← hn.out]
  replace HR := Lib.hid h3
  replace Kx := Lib.hid (hk.blk Kx.out (by omega))
  replace Kc := Lib.hid (hk.blk Kc.out (by omega))
  replace HP := Lib.hid (HP.out.trans hk)
  have HT : Hid (Tri b x c w2 w3) := Tri.ofKept hk
  clear h3 hk
  go_wp2_with fail
  go_loopw [10] (fun i wr => ∃ (k : Nat) (ri : Rd) (zs : List Msg5) (v : Value), k ≤ n ∧ i = .int .i64 (k : Int) ∧ zs.length = k ∧ Hid (IsRd wr b ri) ∧ Hid (Blk wr c #[v, .slice ab nb kb, .slice ac nc kc] 27) ∧ Hid (Blk wr x #[.slice none 0 0, .slice none 0 0, .slice none 0 0] 27) ∧ OwnE eMsg 5 wr B0 48 v zs ∧ Hid (Kept b w wr) ∧ Hid (Tri b x c w2 wr) ∧ ri.left.size ≤ 1000000 ∧ Hid (RedN msgR msgL n q k ri zs)) (fun i _ => n - (intOf i).toNat)
  case atStart => exact ⟨0, q, [], _, by omega, rfl, rfl, HR, Kc, Kx, OwnE.nil _ _ _, HP, HT, hqs, RedN.zero q⟩
  case round =>
    clear HR Kx Kc HP HT
    obtain ⟨k, ri, zs, v, hkn, rfl, hz, HR, Kc, Kx, hown, HP, HT, hsz, hI⟩ := hrel
    by_cases hlt : k < n
    · go_wp2_with fail
      refine (rdot_red b ri _ HR.out hsz).mono ?_; rintro e w4 ⟨p, pn, q0, rfl, h4, hred0, z0, hk4⟩
      have hbB : b < B0 := by omega
      have HO : Hid (OwnE eMsg 5 w4 B0 48 v zs) := hown.kept hk4 hbB
      replace HR := Lib.hid h4
      replace Kx := Lib.hid (hk4.blk Kx.out (by omega))
      replace Kc := Lib.hid (hk4.blk Kc.out (by omega))
      replace HP := Lib.hid (HP.out.trans hk4)
      replace HT := Lib.hid (HT.out.trans (Tri.ofKept hk4))
      have R0 := Lib.hid hred0
      clear hown h4 hk4 hred0
      obtain ⟨d, hd⟩ := nm w4.heap.size
      have hbd : b < d := by rw [hd.out]; exact HR.out.lt
      have hxd : x < d := by rw [hd.out]; exact Kx.out.lt
      have hcd : c < d := by rw [hd.out]; exact Kc.out.lt
      have hwd : w.heap.size ≤ d := by rw [hd.out]; exact HP.out.size
      have hBd : w2.heap.size ≤ d := by rw [hd.out]; exact HT.out.size
      have HD : Hid (∀ g, v.ownBlock = some g → g < d) := by show ∀ g, _; rw [hd.out]; exact fun g hg => (World.ownsRow.lt HO.out g hg).2
      obtain ⟨w5, hw5⟩ := nm (w4.alloc (.cells #[.int .i64 p, .int .i64 pn, .string ⟨#[]⟩, .string ⟨#[]⟩, .int .i64 0] 48))
      have Kd : Hid (Blk w5 d #[.int .i64 p, .int .i64 pn, .string ⟨#[]⟩, .string ⟨#[]⟩, .int .i64 0] 48) := by show Blk _ _ _ _; rw [hw5.out, hd.out]; exact Blk.new _ _ _
      replace HR : Hid (IsRd w5 b q0) := by show IsRd _ _ _; rw [hw5.out]; exact Blk.alloc HR.out _
      replace Kx : Hid (Blk w5 x #[.slice none 0 0, .slice none 0 0, .slice none 0 0] 27) := by show Blk _ _ _ _; rw [hw5.out]; exact Kx.out.alloc _
      replace Kc : Hid (Blk w5 c #[v, .slice ab nb kb, .slice ac nc kc] 27) := by show Blk _ _ _ _; rw [hw5.out]; exact Kc.out.alloc _
      replace HO : Hid (OwnE eMsg 5 w5 B0 48 v zs) := by show OwnE _ _ _ _ _ _ _; rw [hw5.out]; exact HO.out.alloc _
      replace HP : Hid (Kept b w w5) := by show Kept _ _ _; rw [hw5.out]; exact HP.out.alloc _
      replace HT : Hid (Tri b x c w2 w5) := by show Tri _ _ _ _ _; rw [hw5.out]; exact HT.out.alloc _
      go_upto_region 5 with fail
      rw [← hw5.out, ← hd.out]
      clear hw5
      have r2 := red_text q0 1000 (by decide)
      have z2 := q0.text_sz 1000
      obtain ⟨q1, hq1⟩ := nm (q0.text 1000).1
      obtain ⟨qu, hqu⟩ := nm (q0.text 1000).2
      rw [← hq1.out, ← hqu.out] at r2
      rw [← hq1.out] at z2
      have R2 := Lib.hid r2
      clear r2
      go_wp2_with fail
      refine (rtext_any b q0 1000 _ HR.out (by omega) (by decide)).mono ?_; rintro e w6 ⟨rfl, h6, hk6⟩
      rw [← hq1.out] at h6
      rw [← hqu.out]
      replace Kd := Lib.hid (hk6.blk Kd.out (by omega))
      replace Kx := Lib.hid (hk6.blk Kx.out (by omega))
      replace Kc := Lib.hid (hk6.blk Kc.out (by omega))
      replace HO := Lib.hid (HO.out.kept hk6 hbB)
      replace HP := Lib.hid (HP.out.trans hk6)
      replace HT := Lib.hid (HT.out.trans (Tri.ofKept hk6))
      have dc : w6.cell? ⟨d, 2, none⟩ = some (.string ⟨#[]⟩) := Kd.out.cell 2
      have df : w6.frozen? ⟨d, 2, none⟩ = false := Kd.out.free 2
      obtain ⟨w7, hw7⟩ := nm (w6.setCell ⟨d, 2, none⟩ (.string qu))
      replace Kd : Hid (Blk w7 d #[.int .i64 p, .int .i64 pn, .string qu, .string ⟨#[]⟩, .int .i64 0] 48) := by show Blk _ _ _ _; rw [hw7.out]; exact Kd.out.set 2 _
      replace Kx : Hid (Blk w7 x #[.slice none 0 0, .slice none 0 0, .slice none 0 0] 27) := by show Blk _ _ _ _; rw [hw7.out]; exact Kx.out.setOther (by simp only; omega) _
      replace Kc : Hid (Blk w7 c #[v, .slice ab nb kb, .slice ac nc kc] 27) := by show Blk _ _ _ _; rw [hw7.out]; exact Kc.out.setOther (by simp only; omega) _
      have HRn : Hid (IsRd w7 b q1) := by show IsRd _ _ _; rw [hw7.out]; exact Blk.setOther h6 (by simp only; omega) _
      replace HO : Hid (OwnE eMsg 5 w7 B0 48 v zs) := by show OwnE _ _ _ _ _ _ _; rw [hw7.out]; exact HO.out.setAt HD.out
      replace HP : Hid (Kept b w w7) := by show Kept _ _ _; rw [hw7.out]; exact HP.out.setNew hwd _
      replace HT : Hid (Tri b x c w2 w7) := by show Tri _ _ _ _ _; rw [hw7.out]; exact HT.out.setNew hBd _
      clear hk6 h6 HR
      have HR := HRn
      clear HRn
      go_upto_region 6 with fail
      rw [← hw7.out]
      clear dc df hw7
      have r3 := red_text q1 1000 (by decide)
      have z3 := q1.text_sz 1000
      obtain ⟨q2, hq2⟩ := nm (q1.text 1000).1
      obtain ⟨bo, hbo⟩ := nm (q1.text 1000).2
      rw [← hq2.out, ← hbo.out] at r3
      rw [← hq2.out] at z3
      have R3 := Lib.hid r3
      clear r3
      go_wp2_with fail
      refine (rtext_any b q1 1000 _ HR.out (by omega) (by decide)).mono ?_; rintro e w6 ⟨rfl, h6, hk6⟩
      rw [← hq2.out] at h6
      rw [← hbo.out]
      replace Kd := Lib.hid (hk6.blk Kd.out (by omega))
      replace Kx := Lib.hid (hk6.blk Kx.out (by omega))
      replace Kc := Lib.hid (hk6.blk Kc.out (by omega))
      replace HO := Lib.hid (HO.out.kept hk6 hbB)
      replace HP := Lib.hid (HP.out.trans hk6)
      replace HT := Lib.hid (HT.out.trans (Tri.ofKept hk6))
      have dc : w6.cell? ⟨d, 3, none⟩ = some (.string ⟨#[]⟩) := Kd.out.cell 3
      have df : w6.frozen? ⟨d, 3, none⟩ = false := Kd.out.free 3
      obtain ⟨w7, hw7⟩ := nm (w6.setCell ⟨d, 3, none⟩ (.string bo))
      replace Kd : Hid (Blk w7 d #[.int .i64 p, .int .i64 pn, .string qu, .string bo, .int .i64 0] 48) := by show Blk _ _ _ _; rw [hw7.out]; exact Kd.out.set 3 _
      replace Kx : Hid (Blk w7 x #[.slice none 0 0, .slice none 0 0, .slice none 0 0] 27) := by show Blk _ _ _ _; rw [hw7.out]; exact Kx.out.setOther (by simp only; omega) _
      replace Kc : Hid (Blk w7 c #[v, .slice ab nb kb, .slice ac nc kc] 27) := by show Blk _ _ _ _; rw [hw7.out]; exact Kc.out.setOther (by simp only; omega) _
      have HRn : Hid (IsRd w7 b q2) := by show IsRd _ _ _; rw [hw7.out]; exact Blk.setOther h6 (by simp only; omega) _
      replace HO : Hid (OwnE eMsg 5 w7 B0 48 v zs) := by show OwnE _ _ _ _ _ _ _; rw [hw7.out]; exact HO.out.setAt HD.out
      replace HP : Hid (Kept b w w7) := by show Kept _ _ _; rw [hw7.out]; exact HP.out.setNew hwd _
      replace HT : Hid (Tri b x c w2 w7) := by show Tri _ _ _ _ _; rw [hw7.out]; exact HT.out.setNew hBd _
      clear hk6 h6 HR
      have HR := HRn
      clear HRn
      go_upto_region 7 with fail
      rw [← hw7.out]
      clear dc df hw7
      have r4 := red_int q2 1048576 (by decide)
      have z4 := q2.int_sz 1048576
      obtain ⟨q3, hq3⟩ := nm (q2.int 1048576).1
      obtain ⟨ct, hct⟩ := nm (((q2.int 1048576).2 : Nat) : Int)
      rw [← hq3.out, ← hct.out] at r4
      rw [← hq3.out] at z4
      have R4 := Lib.hid r4
      clear r4
      go_wp2_with fail
      refine (rint_any b q2 1048576 _ HR.out (by omega) (by decide)).mono ?_; rintro e w6 ⟨rfl, h6, hk6⟩
      rw [← hq3.out] at h6
      rw [← hct.out]
      replace Kd := Lib.hid (hk6.blk Kd.out (by omega))
      replace Kx := Lib.hid (hk6.blk Kx.out (by omega))
      replace Kc := Lib.hid (hk6.blk Kc.out (by omega))
      replace HO := Lib.hid (HO.out.kept hk6 hbB)
      replace HP := Lib.hid (HP.out.trans hk6)
      replace HT := Lib.hid (HT.out.trans (Tri.ofKept hk6))
      have dc : w6.cell? ⟨d, 4, none⟩ = some (.int .i64 0) := Kd.out.cell 4
      have df : w6.frozen? ⟨d, 4, none⟩ = false := Kd.out.free 4
      obtain ⟨w7, hw7⟩ := nm (w6.setCell ⟨d, 4, none⟩ (.int .i64 ct))
      replace Kd : Hid (Blk w7 d #[.int .i64 p, .int .i64 pn, .string qu, .string bo, .int .i64 ct] 48) := by show Blk _ _ _ _; rw [hw7.out]; exact Kd.out.set 4 _
      replace Kx : Hid (Blk w7 x #[.slice none 0 0, .slice none 0 0, .slice none 0 0] 27) := by show Blk _ _ _ _; rw [hw7.out]; exact Kx.out.setOther (by simp only; omega) _
      replace Kc : Hid (Blk w7 c #[v, .slice ab nb kb, .slice ac nc kc] 27) := by show Blk _ _ _ _; rw [hw7.out]; exact Kc.out.setOther (by simp only; omega) _
      have HRn : Hid (IsRd w7 b q3) := by show IsRd _ _ _; rw [hw7.out]; exact Blk.setOther h6 (by simp only; omega) _
      replace HO : Hid (OwnE eMsg 5 w7 B0 48 v zs) := by show OwnE _ _ _ _ _ _ _; rw [hw7.out]; exact HO.out.setAt HD.out
      replace HP : Hid (Kept b w w7) := by show Kept _ _ _; rw [hw7.out]; exact HP.out.setNew hwd _
      replace HT : Hid (Tri b x c w2 w7) := by show Tri _ _ _ _ _; rw [hw7.out]; exact HT.out.setNew hBd _
      clear hk6 h6 HR
      have HR := HRn
      clear HRn
      go_upto_region 8 with fail
      rw [← hw7.out]
      clear dc df hw7
      have HN : Hid (RedN msgR msgL n q (k + 1) q3 (zs ++ [Msg5.mk p pn qu bo ct])) := hI.out.next tells_msgR hlt (msg_red R0.out R2.out R3.out R4.out)
      clear hI R0 R2 R3 R4
      have hsz3 : q3.left.size ≤ 1000000 := by omega
      have hB7 : B0 ≤ w7.heap.size := by rw [hB0.out]; exact HT.out.size
      have y0 : w7.cell? ⟨d, 0, none⟩ = some (.int .i64 p) := Kd.out.cell 0
      have y1 : w7.cell? ⟨d, 1, none⟩ = some (.int .i64 pn) := Kd.out.cell 1
      have y2 : w7.cell? ⟨d, 2, none⟩ = some (.string qu) := Kd.out.cell 2
      have y3 : w7.cell? ⟨d, 3, none⟩ = some (.string bo) := Kd.out.cell 3
      have y4 : w7.cell? ⟨d, 4, none⟩ = some (.int .i64 ct) := Kd.out.cell 4
      have e0 : w7.cell? ⟨c, 0, none⟩ = some v := Kc.out.cell 0
      go_wp2_with (at_builtin; refine app_E encMsg Try.underlying22 infoMsg rfl (by decide) rfl _ _ rfl B0 _ zs rfl (HO.out.alloc _) (some ⟨w7.heap.size, 0, none⟩) 1 1 [Msg5.mk p pn qu bo ct] rfl rfl (fun h => by cases h) (SlE.ofBlk encMsg (Blk.new w7 _ _)) (by omega) (Nat.le_trans hB7 (by simp)) ?_)
      intro v' w8 hown8 hgrow
      obtain ⟨ao2, len2, cap2, rfl⟩ : ∃ a l c, v' = .slice a l c := by
        obtain ⟨a, c, e, _⟩ := hown8.sl encMsg
        exact ⟨a, _, c, e⟩
      have HR8 : Hid (IsRd w8 b q3) := OwnE.blk (HO.out.alloc _) (Blk.alloc HR.out _) hbB hgrow
      have Kc8 : Hid (Blk w8 c #[v, .slice ab nb kb, .slice ac nc kc] 27) := OwnE.blk (HO.out.alloc _) (Blk.alloc Kc.out _) (by omega) hgrow
      have Kx8 : Hid (Blk w8 x #[.slice none 0 0, .slice none 0 0, .slice none 0 0] 27) := OwnE.blk (HO.out.alloc _) (Blk.alloc Kx.out _) (by omega) hgrow
      have HP8 : Hid (Kept b w w8) := OwnE.grownK (HO.out.alloc _) (HP.out.alloc _) (by omega) hgrow
      have HT8 : Hid (Tri b x c w2 w8) := OwnE.tri (HO.out.alloc _) (HT.out.alloc _) (Nat.le_of_eq hB0.out.symm) hgrow
      clear hgrow HR Kx Kc HO HP HT Kd HD y0 y1 y2 y3 y4 e0
      have e0 : w8.cell? ⟨c, 0, none⟩ = some v := Kc8.out.cell 0
      have ef : w8.frozen? ⟨c, 0, none⟩ = false := Kc8.out.free 0
      obtain ⟨w9, hw9⟩ := nm (w8.setCell ⟨c, 0, none⟩ (.slice ao2 len2 cap2))
      have Kc : Hid (Blk w9 c #[.slice ao2 len2 cap2, .slice ab nb kb, .slice ac nc kc] 27) := by show Blk _ _ _ _; rw [hw9.out]; exact Kc8.out.set 0 _
      have Kx : Hid (Blk w9 x #[.slice none 0 0, .slice none 0 0, .slice none 0 0] 27) := by show Blk _ _ _ _; rw [hw9.out]; exact Kx8.out.setOther (by simp only; omega) _
      have HR : Hid (IsRd w9 b q3) := by show IsRd _ _ _; rw [hw9.out]; exact Blk.setOther HR8.out (by simp only; omega) _
      have HO : Hid (OwnE eMsg 5 w9 B0 48 (.slice ao2 len2 cap2) (zs ++ [Msg5.mk p pn qu bo ct])) := by show OwnE _ _ _ _ _ _ _; rw [hw9.out]; exact OwnE.kept (b := c) (base := B0) hown8 ((Kept.refl c w8).set 0 _) (by omega)
      have HP : Hid (Kept b w w9) := by show Kept _ _ _; rw [hw9.out]; exact HP8.out.setNew hwc _
      have HT : Hid (Tri b x c w2 w9) := by show Tri _ _ _ _ _; rw [hw9.out]; exact HT8.out.set (p := ⟨c, 0, none⟩) (.inr (.inr rfl)) _
      clear HR8 Kc8 Kx8 HP8 HT8 hown8
      go_upto_region 9 with fail
      rw [← hw9.out]
      clear e0 ef hw9
      obtain ⟨T, hT⟩ := nm q3.torn
      go_wp2_with fail
      refine (fine_is' T b q3 hT _ HR.out).mono ?_; rintro e wa ⟨rfl, rfl⟩
      cases T
      · go_wp2_with fail
        go_roundw
        case rel => exact ⟨k + 1, q3, zs ++ [Msg5.mk p pn qu bo ct], _, by omega, by go_num, by simp [hz], HR, Kc, Kx, HO.out, HP, HT, hsz3, HN⟩
        case measure => simp [intOf]; omega
      · have htt : q3.torn = true := by first | exact hT.out.symm | simpa using hT.out
        have xb := Kx.out
        have xc0 := xb.cell 0
        have xc1 := xb.cell 1
        have xc2 := xb.cell 2
        have xf0 := xb.free 0
        have xf1 := xb.free 1
        have xf2 := xb.free 2
        go_wp2_with fail
        refine bodyPost_ret (results_cell_row rfl _ _ x 27 #[.slice none 0 0, .slice none 0 0, .slice none 0 0] (0, 0) _ rfl (((xb.set 0 _).set 1 _).set 2 _) Try.underlying27 rfl infoBg) rfl ?_
        exact BAD.out _ q3 q3 [] (HN.out.stop HQ.out (by decide) htt htt) htt hsz3 (.inl htt) (Blk.setOther (Blk.setOther (Blk.setOther HR.out (by simp only; omega) _) (by simp only; omega) _) (by simp only; omega) _) (((HP.out.setNew hwx.out _).setNew hwx.out _).setNew hwx.out _)
    · obtain rfl : k = n := by omega
      have hall : Red MsgsR (rowL msgL) r1 ri zs := hI.out.red HQ.out (by decide)
      have HALL := Lib.hid hall
      clear hI HQ hall
      obtain ⟨am, kl, rfl, _, _, hsl, _, hab⟩ := hown.sl encMsg
      have HSL := Lib.hid hsl
      have HZ : Hid (zs.length = k) := hz
      have HWA : Hid (∀ a, am = some a → w.heap.size ≤ a.block) := fun a ha => by have := hab a ha; omega
      have HAB := Lib.hid hab
      clear hown hsl hab
      rw [hz] at Kc
      clear hz
      obtain ⟨t1, t2⟩ := ri.int_neg
      obtain ⟨T, hT⟩ := nm ri.torn
      cases T
      rotate_left
      · have xc : wr.cell? ⟨x, 0, none⟩ = some (.slice none 0 0) := Kx.out.cell 0
        go_wp2_with fail
        refine (fine_is' true b ri hT _ HR.out).mono ?_; rintro e w5 ⟨rfl, rfl⟩
        go_wp2_with fail
        refine (rint_any b ri (-1) _ HR.out (by omega) (by decide)).mono ?_; rintro e w6 ⟨rfl, h6, hk6⟩
        have xb := hk6.blk Kx.out (by omega)
        clear xc
        have xc0 := xb.cell 0
        have xc1 := xb.cell 1
        have xc2 := xb.cell 2
        have xf0 := xb.free 0
        have xf1 := xb.free 1
        have xf2 := xb.free 2
        go_wp2_with fail
        refine bodyPost_ret (results_cell_row rfl _ _ x 27 #[.slice none 0 0, .slice none 0 0, .slice none 0 0] (0, 0) _ rfl (((xb.set 0 _).set 1 _).set 2 _) Try.underlying27 rfl infoBg) rfl ?_
        exact BAD.out _ _ ri zs HALL.out t1 (by omega) (.inl hT.out.symm) (Blk.setOther (Blk.setOther (Blk.setOther h6 (by simp only; omega) _) (by simp only; omega) _) (by simp only; omega) _) ((((HP.out.trans hk6).setNew hwx.out _).setNew hwx.out _).setNew hwx.out _)
      obtain ⟨j1, j2, j3⟩ := D1.out.is (HALL.out.is hT.out.symm).1
      have hln1 : bs.length ≤ 1000 := j2.1.1
      have hln2 : cl.length ≤ 1000 := j2.1.2
      clear j1 j2 j3
      have hnb6 : nb ≤ 1000000 := by rw [← HNB.out]; omega
      have hnc6 : nc ≤ 1000000 := by rw [← HNC.out]; omega
      clear hln1 hln2
      obtain ⟨B, hB, hBf, hBt⟩ := boolOf (BagP zs bs cl)
      obtain ⟨E, hE⟩ := nm (errno B)
      obtain ⟨s1, s2⟩ := STAY.out _ HT.out
      have cc0 : wr.cell? ⟨c, 0, none⟩ = some (.slice am k kl) := Kc.out.cell 0
      have cc1 : wr.cell? ⟨c, 1, none⟩ = some (.slice ab nb kb) := Kc.out.cell 1
      have cc2 : wr.cell? ⟨c, 2, none⟩ = some (.slice ac nc kc) := Kc.out.cell 2
      go_wp2_with fail
      refine (fine_is' false b ri hT _ HR.out).mono ?_; rintro e w5 ⟨rfl, rfl⟩
      go_wp2_with fail
      refine (bagcheck_any am ab ac k kl nb kb nc kc zs bs cl HZ (by omega) HNB hnb6 HNC hnc6 B hB E hE _ HSL.out s1 s2).mono ?_; rintro e w6 ⟨rfl, hB6⟩
      have hxr := Kx.out.lt
      have hcr := Kc.out.lt
      have hbr := HR.out.lt
      replace Kx := Lib.hid (Kx.out.below hB6 hxr)
      replace Kc := Lib.hid (Kc.out.below hB6 hcr)
      replace HR : Hid (IsRd w6 b ri) := Blk.below HR.out hB6 hbr
      replace HP := Lib.hid (HP.out.trans (Kept.ofBelow hB6))
      replace HT := Lib.hid (HT.out.trans (Tri.ofBelow hB6))
      replace HSL := Lib.hid (HSL.out.below hB6)
      clear cc0 cc1 cc2 s1 s2 hB6 hxr hcr hbr
      have hE2 := hE.out
      cases B
      · obtain rfl : E = 1 := hE2
        have xc : w6.cell? ⟨x, 0, none⟩ = some (.slice none 0 0) := Kx.out.cell 0
        go_wp2_with fail
        refine (rint_any b ri (-1) _ HR.out (by omega) (by decide)).mono ?_; rintro e w7 ⟨rfl, h7, hk7⟩
        have xb := hk7.blk Kx.out (by omega)
        clear xc
        have xc0 := xb.cell 0
        have xc1 := xb.cell 1
        have xc2 := xb.cell 2
        have xf0 := xb.free 0
        have xf1 := xb.free 1
        have xf2 := xb.free 2
        go_wp2_with fail
        refine bodyPost_ret (results_cell_row rfl _ _ x 27 #[.slice none 0 0, .slice none 0 0, .slice none 0 0] (0, 0) _ rfl (((xb.set 0 _).set 1 _).set 2 _) Try.underlying27 rfl infoBg) rfl ?_
        exact BAD.out _ _ ri zs HALL.out t1 (by omega) (.inr (hBf.out (by first | exact rfl | exact trivial))) (Blk.setOther (Blk.setOther (Blk.setOther h7 (by simp only; omega) _) (by simp only; omega) _) (by simp only; omega) _) ((((HP.out.trans hk7).setNew hwx.out _).setNew hwx.out _).setNew hwx.out _)
      · obtain rfl : E = 0 := hE2
        have xb := Kx.out
        have xc0 := xb.cell 0
        have xc1 := xb.cell 1
        have xc2 := xb.cell 2
        have xf0 := xb.free 0
        have xf1 := xb.free 1
        have xf2 := xb.free 2
        have cc0 : w6.cell? ⟨c, 0, none⟩ = some (.slice am k kl) := Kc.out.cell 0
        have cc1 : w6.cell? ⟨c, 1, none⟩ = some (.slice ab nb kb) := Kc.out.cell 1
        have cc2 : w6.cell? ⟨c, 2, none⟩ = some (.slice ac nc kc) := Kc.out.cell 2
        go_wp2_with fail
        refine bodyPost_ret (results_cell_row rfl _ _ x 27 #[.slice am k kl, .slice ab nb kb, .slice ac nc kc] (0, 0) _ rfl (((xb.set 0 _).set 1 _).set 2 _) Try.underlying27 rfl infoBg) rfl ?_
        have ht3 : Tri b x c w6 (((w6.setCell ⟨x, 0, none⟩ (.slice am k kl)).setCell ⟨x, 1, none⟩ (.slice ab nb kb)).setCell ⟨x, 2, none⟩ (.slice ac nc kc)) := (((Tri.refl _ _ _ _).set (p := ⟨x, 0, none⟩) (.inr (.inl rfl)) _).set (p := ⟨x, 1, none⟩) (.inr (.inl rfl)) _).set (p := ⟨x, 2, none⟩) (.inr (.inl rfl)) _
        have h7 := STAY.out _ (HT.out.trans ht3)
        refine ⟨am, ab, ac, k, kl, nb, kb, nc, kc, zs, bs, cl, ri, rfl, ⟨HZ.out, HNB.out, HNC.out⟩, HSL.out.tri (fun a ha => by have := HAB.out a ha; exact ⟨by omega, by omega, by omega⟩) ht3, h7.1, h7.2, HWA.out, HWB.out, HWC.out, (Blk.setOther (Blk.setOther (Blk.setOther HR.out (by simp only; omega) _) (by simp only; omega) _) (by simp only; omega) _), ?_, hsz, (((HP.out.setNew hwx.out _).setNew hwx.out _).setNew hwx.out _)⟩
        exact (Red.pass (C := fun p : Bag3 => BagP p.2 p.1.1 p.1.2) (D1.out.seq HALL.out tells_ctxR) fun _ => hBt.out (by first | exact rfl | exact trivial)).iff bagR_iff
end Go.Proofs.Ytfpjdmplepepjaa

/-! WReadTag: Rows of tags are read: the program's. -/
namespace Go.Proofs.Ytfpjdmplepepjaa
open Go.RowKit

def tagR (p : Tag2) : Prop := Tx 100 p.1 ∧ In 1048576 p.2
theorem tells_tagR : Tells tagR tagL := (tells_tx (by decide)).seq (tells_in (by decide))
theorem tagsR (y : List Tag2) : (((y.length : Int) ≤ 100 ∧ ∀ z ∈ y, tagR z) ∧ TagsP y) ↔ TagsP y := by
  refine ⟨fun h => h.2, fun h => ⟨⟨by have := h.many; omega, fun z hz => ?_⟩, h⟩⟩
  obtain ⟨⟨h1, h2⟩, h3, h4⟩ := h.each.all (Nat.le_refl _) z hz
  exact ⟨show (z.1.size : Int) ≤ 100 by omega, by omega, h4⟩
/-- What is told. -/
def TagTells (b : Nat) (r : Rd) (w : World) (e : Ending) (w' : World) : Prop :=
  ∃ ao n cap xs r', e = .returned (.slice ao n cap) ∧ xs.length = n ∧ SlE eTag 2 w' ao xs ∧ (∀ a, ao = some a → w.heap.size ≤ a.block) ∧ IsRd w' b r' ∧ Red TagsP (rowL tagL) r r' xs ∧ r'.left.size ≤ 1000000 ∧ Kept b w w'

set_option maxRecDepth 100000 in
set_option maxHeartbeats 4000000 in
theorem rtag_any (b : Nat) (r : Rd) (w : World) (hr : IsRd w b r) (hs : r.left.size ≤ 1000000) :
    Calls Try.prog 40 #[.pointer (some ⟨b, 0, none⟩)] w (TagTells b r w) := by
  have hbl := hr.lt
  obtain ⟨i1, i2, i3⟩ := r.int_lt 100
  have hq0 := red_int r 100 (by decide)
  obtain ⟨q, hq⟩ := nm (r.int 100).1
  obtain ⟨n, hn⟩ := nm (r.int 100).2
  rw [← hq.out] at i2 hq0
  rw [← hn.out] at i1 i3 hq0
  have hnm : n ≤ 100 := by omega
  have HQ := Lib.hid hq0
  clear hq0 i1 i3
  go_enter Try.func40, Try.ntmps40
  go_wp2_with fail
  refine (rint_any b r 100 _ hr (by omega) (by decide)).mono ?_; rintro e w1 ⟨rfl, h1, k1⟩
  rw [← hq.out] at h1
  rw [← hn.out]
  go_wp2_with fail
  go_loopw [3, 7] (fun u i wr => ∃ (k : Nat) (ri : Rd) (zs : List Tag2) (v : Value), v = u ∧ k ≤ n ∧ i = .int .i64 (k : Int) ∧ zs.length = k ∧ IsRd wr b ri ∧ OwnE eTag 2 wr w.heap.size 57 v zs ∧ Kept b w wr ∧ ri.left.size ≤ 1000000 ∧ Hid (RedN tagR tagL n q k ri zs)) (fun _ i _ => n - (intOf i).toNat)
  case atStart => exact ⟨0, q, [], _, rfl, by omega, rfl, rfl, h1, OwnE.nil _ _ _, k1, by omega, RedN.zero q⟩
  case round =>
    clear h1 k1
    obtain ⟨k, ri, zs, v, rfl, hkn, rfl, hz, hrd, hown, hk, hsz, hI⟩ := hrel
    by_cases hlt : k < n
    · have r0 := red_text ri 100 (by decide)
      have z0 := ri.text_sz 100
      obtain ⟨q0, hq0⟩ := nm (ri.text 100).1
      obtain ⟨a0, ha0⟩ := nm (ri.text 100).2
      rw [← hq0.out, ← ha0.out] at r0
      rw [← hq0.out] at z0
      have r1 := red_int q0 1048576 (by decide)
      have z1 := q0.int_sz 1048576
      obtain ⟨q1, hq1⟩ := nm (q0.int 1048576).1
      obtain ⟨a1, ha1⟩ := nm (((q0.int 1048576).2 : Nat) : Int)
      rw [← hq1.out, ← ha1.out] at r1
      rw [← hq1.out] at z1
      have HN : Hid (RedN tagR tagL n q (k + 1) q1 (zs ++ [(a0, a1)])) := hI.out.next tells_tagR hlt (r0.seq (r1) (tells_tx (by decide)))
      clear hI r0 r1
      go_wp2_with fail
      refine (rtext_any b ri 100 _ hrd (by omega) (by decide)).mono ?_; rintro e w2 ⟨rfl, h2, hk2⟩
      rw [← hq0.out] at h2
      rw [← ha0.out]
      have hown2 := hown.kept hk2 hbl
      have k2 := hk.trans hk2
      obtain ⟨d, hd⟩ := nm w2.heap.size
      have hbd : b < d := by rw [hd.out]; exact h2.lt
      have hwd : w.heap.size ≤ d := by rw [hd.out]; exact k2.size
      obtain ⟨w3, hw3⟩ := nm (w2.alloc (.cells #[.string a0, .int .i64 0] 57))
      have Kd : Hid (Blk w3 d #[.string a0, .int .i64 0] 57) := by show Blk _ _ _ _; rw [hw3.out, hd.out]; exact Blk.new _ _ _
      have HR : Hid (IsRd w3 b q0) := by show IsRd _ _ _; rw [hw3.out]; exact Blk.alloc h2 _
      have HO : Hid (OwnE eTag 2 w3 w.heap.size 57 v zs) := by show OwnE _ _ _ _ _ _ _; rw [hw3.out]; exact hown2.alloc _
      have HK : Hid (Kept b w w3) := by show Kept _ _ _; rw [hw3.out]; exact k2.alloc _
      have HD : Hid (∀ g, v.ownBlock = some g → g < d) := by show ∀ g, _; rw [hd.out]; exact fun g hg => (World.ownsRow.lt hown2 g hg).2
      clear hown hk hk2 hown2 k2 h2 hrd
      go_upto_region 5 with fail
      rw [← hw3.out, ← hd.out]
      go_wp2_with fail
      refine (rint_any b q0 1048576 _ HR.out (by omega) (by decide)).mono ?_; rintro e w4 ⟨rfl, h4, hk4⟩
      rw [← hq1.out] at h4
      rw [← ha1.out]
      replace Kd := Lib.hid (hk4.blk Kd.out (by omega))
      replace HO := Lib.hid (HO.out.kept hk4 hbl)
      replace HK := Lib.hid (HK.out.trans hk4)
      have d1 : w4.cell? ⟨d, 1, none⟩ = some (.int .i64 0) := Kd.out.cell 1
      have e1 : w4.frozen? ⟨d, 1, none⟩ = false := Kd.out.free 1
      obtain ⟨w5, hw5⟩ := nm (w4.setCell ⟨d, 1, none⟩ (.int .i64 a1))
      replace Kd : Hid (Blk w5 d #[.string a0, .int .i64 a1] 57) := by show Blk _ _ _ _; rw [hw5.out]; exact Kd.out.set 1 _
      replace HR : Hid (IsRd w5 b q1) := by show IsRd _ _ _; rw [hw5.out]; exact Blk.setOther h4 (by simp only; omega) _
      replace HO : Hid (OwnE eTag 2 w5 w.heap.size 57 v zs) := by show OwnE _ _ _ _ _ _ _; rw [hw5.out]; exact HO.out.setAt HD.out
      replace HK : Hid (Kept b w w5) := by show Kept _ _ _; rw [hw5.out]; exact HK.out.setNew hwd _
      clear hk4 h4
      go_upto_region 6 with fail
      rw [← hw5.out]
      clear d1 e1 hw5
      have s5 := HK.out.size
      have y0 : w5.cell? ⟨d, 0, none⟩ = some (.string a0) := Kd.out.cell 0
      have y1 : w5.cell? ⟨d, 1, none⟩ = some (.int .i64 a1) := Kd.out.cell 1
      go_wp2_with (at_builtin; refine app_E encTag Try.underlying28 infoTag rfl (by decide) rfl _ _ rfl w.heap.size _ zs rfl (HO.out.alloc _) (some ⟨w5.heap.size, 0, none⟩) 1 1 [(a0, a1)] rfl rfl (fun h => by cases h) (SlE.ofBlk encTag (Blk.new w5 _ _)) (by omega) (Nat.le_trans s5 (by simp)) ?_)
      intro v' w6 hown6 hgrow
      have h6 : IsRd w6 b q1 := OwnE.blk (HO.out.alloc _) (Blk.alloc HR.out _) hbl hgrow
      have k6 : Kept b w w6 := OwnE.grownK (HO.out.alloc _) (HK.out.alloc _) (Nat.le_refl _) hgrow
      have hsz6 : q1.left.size ≤ 1000000 := by omega
      clear hgrow y0 y1 Kd HR HO HK HD
      go_wp2_with fail
      go_roundw
      case rel => exact ⟨k + 1, q1, zs ++ [(a0, a1)], _, rfl, by omega, by go_num, by simp [hz], h6, hown6, k6, hsz6, HN⟩
      case measure => simp [intOf]; omega
    · obtain rfl : k = n := by omega
      have HALL := Lib.hid (hI.out.red HQ.out (by decide))
      clear hI HQ
      obtain ⟨ao, cap, rfl, _, _, hsl, _, hab⟩ := hown.sl encTag
      have bad : ∀ w' r', r'.torn = true → r'.left.size ≤ 1000000 → (ri.torn = true ∨ ¬ TagsP zs) → IsRd w' b r' → Kept b w w' → TagTells b r w (.returned (.slice none 0 0)) w' := by
        intro w' r' h1 h2 h3 h4 h5
        refine ⟨none, 0, 0, [], r', rfl, rfl, SlE.nil _ _ _ _, fun a h => (by cases h), h4, ?_, h2, h5⟩
        exact (Red.fail (C := TagsP) HALL.out ((tells_row tells_tagR).sub fun _ h => ⟨by have := h.1; omega, h.2⟩) h3 h1).iff tagsR
      have BAD := Lib.hid bad
      have HSL := Lib.hid hsl
      have HZ := Lib.hid hz
      have HAB := Lib.hid hab
      clear bad hown hsl hab
      rw [hz]
      clear hz
      obtain ⟨t1, t2⟩ := ri.int_neg
      obtain ⟨T, hT⟩ := nm ri.torn
      obtain ⟨B, hB, hBf, hBt⟩ := boolOf (TagsP zs)
      obtain ⟨E, hE⟩ := nm (errno B)
      cases T
      rotate_left
      · go_wp2_with fail
        refine (fine_is' true b ri hT _ hrd).mono ?_; rintro e w5 ⟨rfl, rfl⟩
        go_wp2_with fail
        refine (rint_any b ri (-1) _ hrd (by omega) (by decide)).mono ?_; rintro e w6 ⟨rfl, h6, hk6⟩
        go_wp2_with fail
        go_ret
        exact BAD.out _ _ t1 (by omega) (.inl hT.out.symm) h6 (hk.trans hk6)
      go_wp2_with fail
      refine (fine_is' false b ri hT _ hrd).mono ?_; rintro e w5 ⟨rfl, rfl⟩
      go_wp2_with fail
      refine (tagcheck_any ao k cap zs HZ (by omega) B hB E hE _ HSL.out).mono ?_; rintro e w6 ⟨rfl, hB6⟩
      have h6 : IsRd w6 b ri := Blk.below hrd hB6 hrd.lt
      have k6 := hk.trans (Kept.ofBelow hB6)
      have HSL6 := Lib.hid (HSL.out.below hB6)
      clear hB6 HSL hrd hk
      have hE2 := hE.out
      cases B
      · obtain rfl : E = 1 := hE2
        go_wp2_with fail
        refine (rint_any b ri (-1) _ h6 (by omega) (by decide)).mono ?_; rintro e w7 ⟨rfl, h7, hk7⟩
        go_wp2_with fail
        go_ret
        exact BAD.out _ _ t1 (by omega) (.inr (hBf.out (by first | exact rfl | exact trivial))) h7 (k6.trans hk7)
      · obtain rfl : E = 0 := hE2
        go_wp2_with fail
        go_ret
        exact ⟨ao, k, cap, zs, ri, rfl, HZ.out, HSL6.out, HAB.out, h6, (Red.pass (C := TagsP) HALL.out fun _ => hBt.out (by first | exact rfl | exact trivial)).iff tagsR, hsz, k6⟩
end Go.Proofs.Ytfpjdmplepepjaa

/-! WReadVw: Rows of peers are read: the program's. -/
namespace Go.Proofs.Ytfpjdmplepepjaa
open Go.RowKit

theorem encPeer : EncOk ePeer 3 := ⟨by decide, fun _ => rfl, fun x u hu => by simp [ePeer] at hu; rcases hu with rfl | rfl | rfl <;> rfl⟩
theorem infoPeer : (Try.prog.info? 82).map (fun i => (i.zero, i.size, i.bytes)) = some (some (.agg #[.int .i64 0, .int .i64 0, .int .i64 0]), 3, 24) := by kernel_rfl
def peerR (p : Peer3) : Prop := In 1099511627776 p.1 ∧ In 1073741824 p.2.1 ∧ In 2 p.2.2
theorem tells_peerR : Tells peerR peerL := (tells_in (by decide)).seq ((tells_in (by decide)).seq (tells_in (by decide)))
theorem viewR (y : List Peer3) : (((y.length : Int) ≤ 64 ∧ ∀ z ∈ y, peerR z) ∧ ViewP y) ↔ ViewP y := by
  refine ⟨fun h => h.2, fun h => ⟨⟨by have := h.many; omega, fun z hz => ?_⟩, h⟩⟩
  obtain ⟨⟨h1, h2⟩, ⟨h3, h4⟩, h5, h6⟩ := h.each.all (Nat.le_refl _) z hz
  exact ⟨⟨by omega, h2⟩, ⟨h3, h4⟩, h5, h6⟩
/-- What is told. -/
def VwTells (b : Nat) (r : Rd) (w : World) (e : Ending) (w' : World) : Prop :=
  ∃ ao n cap xs r', e = .returned (.slice ao n cap) ∧ xs.length = n ∧ SlE ePeer 3 w' ao xs ∧ (∀ a, ao = some a → w.heap.size ≤ a.block) ∧ IsRd w' b r' ∧ Red ViewP (rowL peerL) r r' xs ∧ r'.left.size ≤ 1000000 ∧ Kept b w w'

set_option maxRecDepth 100000 in
set_option maxHeartbeats 4000000 in
theorem rvw_any (b : Nat) (r : Rd) (w : World) (hr : IsRd w b r) (hs : r.left.size ≤ 1000000) :
    Calls Try.prog 41 #[.pointer (some ⟨b, 0, none⟩)] w (VwTells b r w) := by
  have hbl := hr.lt
  obtain ⟨i1, i2, i3⟩ := r.int_lt 64
  have hq0 := red_int r 64 (by decide)
  obtain ⟨q, hq⟩ := nm (r.int 64).1
  obtain ⟨n, hn⟩ := nm (r.int 64).2
  rw [← hq.out] at i2 hq0
  rw [← hn.out] at i1 i3 hq0
  have hnm : n ≤ 64 := by omega
  have HQ := Lib.hid hq0
  clear hq0 i1 i3
  go_enter Try.func41, Try.ntmps41
  go_wp2_with fail
  refine (rint_any b r 64 _ hr (by omega) (by decide)).mono ?_; rintro e w1 ⟨rfl, h1, k1⟩
  rw [← hq.out] at h1
  rw [← hn.out]
  go_wp2_with fail
  go_loopw [3, 7] (fun u i wr => ∃ (k : Nat) (ri : Rd) (zs : List Peer3) (v : Value), v = u ∧ k ≤ n ∧ i = .int .i64 (k : Int) ∧ zs.length = k ∧ IsRd wr b ri ∧ OwnE ePeer 3 wr w.heap.size 82 v zs ∧ Kept b w wr ∧ ri.left.size ≤ 1000000 ∧ Hid (RedN peerR peerL n q k ri zs)) (fun _ i _ => n - (intOf i).toNat)
  case atStart => exact ⟨0, q, [], _, rfl, by omega, rfl, rfl, h1, OwnE.nil _ _ _, k1, by omega, RedN.zero q⟩
  case round =>
    clear h1 k1
    obtain ⟨k, ri, zs, v, rfl, hkn, rfl, hz, hrd, hown, hk, hsz, hI⟩ := hrel
    by_cases hlt : k < n
    · have r0 := red_int ri 1099511627776 (by decide)
      have z0 := ri.int_sz 1099511627776
      obtain ⟨q0, hq0⟩ := nm (ri.int 1099511627776).1
      obtain ⟨a0, ha0⟩ := nm (((ri.int 1099511627776).2 : Nat) : Int)
      rw [← hq0.out, ← ha0.out] at r0
      rw [← hq0.out] at z0
      have r1 := red_int q0 1073741824 (by decide)
      have z1 := q0.int_sz 1073741824
      obtain ⟨q1, hq1⟩ := nm (q0.int 1073741824).1
      obtain ⟨a1, ha1⟩ := nm (((q0.int 1073741824).2 : Nat) : Int)
      rw [← hq1.out, ← ha1.out] at r1
      rw [← hq1.out] at z1
      have r2 := red_int q1 2 (by decide)
      have z2 := q1.int_sz 2
      obtain ⟨q2, hq2⟩ := nm (q1.int 2).1
      obtain ⟨a2, ha2⟩ := nm (((q1.int 2).2 : Nat) : Int)
      rw [← hq2.out, ← ha2.out] at r2
      rw [← hq2.out] at z2
      have HN : Hid (RedN peerR peerL n q (k + 1) q2 (zs ++ [(a0, a1, a2)])) := hI.out.next tells_peerR hlt (r0.seq (r1.seq (r2) (tells_in (by decide))) (tells_in (by decide)))
      clear hI r0 r1 r2
      go_wp2_with fail
      refine (rint_any b ri 1099511627776 _ hrd (by omega) (by decide)).mono ?_; rintro e w2 ⟨rfl, h2, hk2⟩
      rw [← hq0.out] at h2
      rw [← ha0.out]
      have hown2 := hown.kept hk2 hbl
      have k2 := hk.trans hk2
      obtain ⟨d, hd⟩ := nm w2.heap.size
      have hbd : b < d := by rw [hd.out]; exact h2.lt
      have hwd : w.heap.size ≤ d := by rw [hd.out]; exact k2.size
      obtain ⟨w3, hw3⟩ := nm (w2.alloc (.cells #[.int .i64 a0, .int .i64 0, .int .i64 0] 82))
      have Kd : Hid (Blk w3 d #[.int .i64 a0, .int .i64 0, .int .i64 0] 82) := by show Blk _ _ _ _; rw [hw3.out, hd.out]; exact Blk.new _ _ _
      have HR : Hid (IsRd w3 b q0) := by show IsRd _ _ _; rw [hw3.out]; exact Blk.alloc h2 _
      have HO : Hid (OwnE ePeer 3 w3 w.heap.size 82 v zs) := by show OwnE _ _ _ _ _ _ _; rw [hw3.out]; exact hown2.alloc _
      have HK : Hid (Kept b w w3) := by show Kept _ _ _; rw [hw3.out]; exact k2.alloc _
      have HD : Hid (∀ g, v.ownBlock = some g → g < d) := by show ∀ g, _; rw [hd.out]; exact fun g hg => (World.ownsRow.lt hown2 g hg).2
      clear hown hk hk2 hown2 k2 h2 hrd
      go_upto_region 5 with fail
      rw [← hw3.out, ← hd.out]
      go_wp2_with fail
      refine (rint_any b q0 1073741824 _ HR.out (by omega) (by decide)).mono ?_; rintro e w4 ⟨rfl, h4, hk4⟩
      rw [← hq1.out] at h4
      rw [← ha1.out]
      replace Kd := Lib.hid (hk4.blk Kd.out (by omega))
      replace HO := Lib.hid (HO.out.kept hk4 hbl)
      replace HK := Lib.hid (HK.out.trans hk4)
      have d1 : w4.cell? ⟨d, 1, none⟩ = some (.int .i64 0) := Kd.out.cell 1
      have e1 : w4.frozen? ⟨d, 1, none⟩ = false := Kd.out.free 1
      obtain ⟨w5, hw5⟩ := nm (w4.setCell ⟨d, 1, none⟩ (.int .i64 a1))
      replace Kd : Hid (Blk w5 d #[.int .i64 a0, .int .i64 a1, .int .i64 0] 82) := by show Blk _ _ _ _; rw [hw5.out]; exact Kd.out.set 1 _
      replace HR : Hid (IsRd w5 b q1) := by show IsRd _ _ _; rw [hw5.out]; exact Blk.setOther h4 (by simp only; omega) _
      replace HO : Hid (OwnE ePeer 3 w5 w.heap.size 82 v zs) := by show OwnE _ _ _ _ _ _ _; rw [hw5.out]; exact HO.out.setAt HD.out
      replace HK : Hid (Kept b w w5) := by show Kept _ _ _; rw [hw5.out]; exact HK.out.setNew hwd _
      clear hk4 h4
      go_upto_region 6 with fail
      rw [← hw5.out]
      clear d1 e1 hw5
      go_wp2_with fail
      refine (rint_any b q1 2 _ HR.out (by omega) (by decide)).mono ?_; rintro e w4 ⟨rfl, h4, hk4⟩
      rw [← hq2.out] at h4
      rw [← ha2.out]
      replace Kd := Lib.hid (hk4.blk Kd.out (by omega))
      replace HO := Lib.hid (HO.out.kept hk4 hbl)
      replace HK := Lib.hid (HK.out.trans hk4)
      have d2 : w4.cell? ⟨d, 2, none⟩ = some (.int .i64 0) := Kd.out.cell 2
      have e2 : w4.frozen? ⟨d, 2, none⟩ = false := Kd.out.free 2
      obtain ⟨w5, hw5⟩ := nm (w4.setCell ⟨d, 2, none⟩ (.int .i64 a2))
      replace Kd : Hid (Blk w5 d #[.int .i64 a0, .int .i64 a1, .int .i64 a2] 82) := by show Blk _ _ _ _; rw [hw5.out]; exact Kd.out.set 2 _
      replace HR : Hid (IsRd w5 b q2) := by show IsRd _ _ _; rw [hw5.out]; exact Blk.setOther h4 (by simp only; omega) _
      replace HO : Hid (OwnE ePeer 3 w5 w.heap.size 82 v zs) := by show OwnE _ _ _ _ _ _ _; rw [hw5.out]; exact HO.out.setAt HD.out
      replace HK : Hid (Kept b w w5) := by show Kept _ _ _; rw [hw5.out]; exact HK.out.setNew hwd _
      clear hk4 h4
      go_upto_region 7 with fail
      rw [← hw5.out]
      clear d2 e2 hw5
      have s5 := HK.out.size
      have y0 : w5.cell? ⟨d, 0, none⟩ = some (.int .i64 a0) := Kd.out.cell 0
      have y1 : w5.cell? ⟨d, 1, none⟩ = some (.int .i64 a1) := Kd.out.cell 1
      have y2 : w5.cell? ⟨d, 2, none⟩ = some (.int .i64 a2) := Kd.out.cell 2
      go_wp2_with (at_builtin; refine app_E encPeer Try.underlying29 infoPeer rfl (by decide) rfl _ _ rfl w.heap.size _ zs rfl (HO.out.alloc _) (some ⟨w5.heap.size, 0, none⟩) 1 1 [(a0, a1, a2)] rfl rfl (fun h => by cases h) (SlE.ofBlk encPeer (Blk.new w5 _ _)) (by omega) (Nat.le_trans s5 (by simp)) ?_)
      intro v' w6 hown6 hgrow
      have h6 : IsRd w6 b q2 := OwnE.blk (HO.out.alloc _) (Blk.alloc HR.out _) hbl hgrow
      have k6 : Kept b w w6 := OwnE.grownK (HO.out.alloc _) (HK.out.alloc _) (Nat.le_refl _) hgrow
      have hsz6 : q2.left.size ≤ 1000000 := by omega
      clear hgrow y0 y1 y2 Kd HR HO HK HD
      go_wp2_with fail
      go_roundw
      case rel => exact ⟨k + 1, q2, zs ++ [(a0, a1, a2)], _, rfl, by omega, by go_num, by simp [hz], h6, hown6, k6, hsz6, HN⟩
      case measure => simp [intOf]; omega
    · obtain rfl : k = n := by omega
      have HALL := Lib.hid (hI.out.red HQ.out (by decide))
      clear hI HQ
      obtain ⟨ao, cap, rfl, _, _, hsl, _, hab⟩ := hown.sl encPeer
      have bad : ∀ w' r', r'.torn = true → r'.left.size ≤ 1000000 → (ri.torn = true ∨ ¬ ViewP zs) → IsRd w' b r' → Kept b w w' → VwTells b r w (.returned (.slice none 0 0)) w' := by
        intro w' r' h1 h2 h3 h4 h5
        refine ⟨none, 0, 0, [], r', rfl, rfl, SlE.nil _ _ _ _, fun a h => (by cases h), h4, ?_, h2, h5⟩
        exact (Red.fail (C := ViewP) HALL.out ((tells_row tells_peerR).sub fun _ h => ⟨by have := h.1; omega, h.2⟩) h3 h1).iff viewR
      have BAD := Lib.hid bad
      have HSL := Lib.hid hsl
      have HZ := Lib.hid hz
      have HAB := Lib.hid hab
      clear bad hown hsl hab
      rw [hz]
      clear hz
      obtain ⟨t1, t2⟩ := ri.int_neg
      obtain ⟨T, hT⟩ := nm ri.torn
      obtain ⟨B, hB, hBf, hBt⟩ := boolOf (ViewP zs)
      obtain ⟨E, hE⟩ := nm (errno B)
      cases T
      rotate_left
      · go_wp2_with fail
        refine (fine_is' true b ri hT _ hrd).mono ?_; rintro e w5 ⟨rfl, rfl⟩
        go_wp2_with fail
        refine (rint_any b ri (-1) _ hrd (by omega) (by decide)).mono ?_; rintro e w6 ⟨rfl, h6, hk6⟩
        go_wp2_with fail
        go_ret
        exact BAD.out _ _ t1 (by omega) (.inl hT.out.symm) h6 (hk.trans hk6)
      go_wp2_with fail
      refine (fine_is' false b ri hT _ hrd).mono ?_; rintro e w5 ⟨rfl, rfl⟩
      go_wp2_with fail
      refine (viewcheck_any ao k cap zs HZ (by omega) B hB E hE _ HSL.out).mono ?_; rintro e w6 ⟨rfl, hB6⟩
      have h6 : IsRd w6 b ri := Blk.below hrd hB6 hrd.lt
      have k6 := hk.trans (Kept.ofBelow hB6)
      have HSL6 := Lib.hid (HSL.out.below hB6)
      clear hB6 HSL hrd hk
      have hE2 := hE.out
      cases B
      · obtain rfl : E = 1 := hE2
        go_wp2_with fail
        refine (rint_any b ri (-1) _ h6 (by omega) (by decide)).mono ?_; rintro e w7 ⟨rfl, h7, hk7⟩
        go_wp2_with fail
        go_ret
        exact BAD.out _ _ t1 (by omega) (.inr (hBf.out (by first | exact rfl | exact trivial))) h7 (k6.trans hk7)
      · obtain rfl : E = 0 := hE2
        go_wp2_with fail
        go_ret
        exact ⟨ao, k, cap, zs, ri, rfl, HZ.out, HSL6.out, HAB.out, h6, (Red.pass (C := ViewP) HALL.out fun _ => hBt.out (by first | exact rfl | exact trivial)).iff viewR, hsz, k6⟩
end Go.Proofs.Ytfpjdmplepepjaa

/-! WReadL: What stands there whole: what is said. No program in sight. -/
namespace Go.Proofs.Ytfpjdmplepepjaa
open Go.RowKit

theorem Rd.items_red (most : Int) (hm : most ≤ 9223372036854775807) : ∀ (n : Nat) (r : Rd), (∀ q l, Rd.items most n r = (q, some l) → RedN (In most) numZ n r n q l) ∧ (∀ q, Rd.items most n r = (q, none) → q.torn = true ∧ ∀ (ys : List Int) (t : List UInt8), r.torn = false → ys.length = n → (∀ y ∈ ys, In most y) → bl r.left ≠ ys.flatMap numZ ++ t)
  | 0, r => by
    refine ⟨fun q l h => ?_, fun q h => by cases h⟩
    cases h
    exact RedN.zero r
  | n + 1, r => by
    have hd := red_int r most hm
    obtain ⟨i1, i2⟩ := Rd.items_red most hm n (r.int most).1
    have far : (∀ (ys : List Int) (t : List UInt8), (r.int most).1.torn = false → ys.length = n → (∀ y ∈ ys, In most y) → bl (r.int most).1.left ≠ ys.flatMap numZ ++ t) → ∀ (ys : List Int) (t : List UInt8), r.torn = false → ys.length = n + 1 → (∀ y ∈ ys, In most y) → bl r.left ≠ ys.flatMap numZ ++ t := by
      intro h ys t hr hl hy e
      obtain ⟨y, ys, rfl⟩ : ∃ y zs, ys = y :: zs := by cases ys with | nil => simp at hl | cons y zs => exact ⟨y, zs, rfl⟩
      rw [List.flatMap_cons, List.append_assoc] at e
      rcases hd with ⟨h1, h2, h3, h4⟩ | ⟨h1, h2⟩
      · rw [h4] at e
        obtain ⟨_, e2⟩ := tells_in hm _ _ _ _ h3 (hy y (by simp)) e
        exact h ys t h1 (by simpa using hl) (fun z hz => hy z (by simp [hz])) e2
      · exact h2 y _ hr (hy y (by simp)) e
    rw [Rd.items]
    cases ht : (r.int most).1.torn with
    | true =>
      rw [if_pos rfl]
      refine ⟨fun q l h => (by cases h), fun q h => ?_⟩
      cases h
      exact ⟨ht, far fun ys t h => by rw [ht] at h; cases h⟩
    | false =>
      rw [if_neg (by simp)]
      obtain ⟨⟨q', o⟩, ho⟩ := nm (Rd.items most n (r.int most).1)
      rw [← ho.out] at i1 i2 ⊢
      obtain ⟨h1, h2, h3⟩ := hd.is ht
      cases o with
      | none =>
        refine ⟨fun q l h => (by cases h), fun q h => ?_⟩
        cases h
        obtain ⟨g1, g2⟩ := i2 _ rfl
        exact ⟨g1, far g2⟩
      | some l' =>
        refine ⟨fun q l h => ?_, fun q h => (by cases h)⟩
        cases h
        obtain ⟨g1, g2⟩ := i1 _ _ rfl
        refine ⟨by simp [g1], ?_⟩
        rcases g2 with ⟨k1, k2, k3, k4⟩ | ⟨k1, k2⟩
        · refine .inl ⟨k1, h1, ?_, ?_⟩
          · intro z hz
            rcases List.mem_cons.1 hz with rfl | hz
            · exact h2
            · exact k3 z hz
          · rw [h3, k4, List.flatMap_cons, List.append_assoc]
        · exact .inr ⟨k1, far k2⟩
theorem Rd.items_sz (most : Int) : ∀ (n : Nat) (r : Rd), (Rd.items most n r).1.left.size ≤ r.left.size
  | 0, _ => Nat.le_refl _
  | n + 1, r => by
    have h1 := (r.int_lt most).2.1
    have h2 := Rd.items_sz most n (r.int most).1
    rw [Rd.items]
    split
    · exact h1
    · exact Nat.le_trans h2 h1
theorem Rd.nums_sz (r : Rd) (many most : Int) : (r.nums many most).1.left.size ≤ r.left.size := Nat.le_trans (Rd.items_sz _ _ _) (r.int_lt many).2.1
/-- Nine numbers. -/
def NineR (l : List Int) : Prop := l.length = 9 ∧ ∀ z ∈ l, In 1099511627776 z
theorem tells_nine : Tells NineR (rowL numZ) := (tells_row (tells_in (most := 1099511627776) (by decide))).sub fun _ h => ⟨by have := h.1; omega, h.2⟩
theorem nine_iff (y : List Int) : (((y.length : Int) ≤ 9 ∧ ∀ z ∈ y, In 1099511627776 z) ∧ y.length = 9) ↔ NineR y := ⟨fun h => ⟨h.2, h.1.2⟩, fun h => ⟨⟨by have := h.1; omega, h.2⟩, h.1⟩⟩
theorem nums_red (r : Rd) : ((r.nums 9 1099511627776).2.length = 9 → Red NineR (rowL numZ) r (r.nums 9 1099511627776).1 (r.nums 9 1099511627776).2) ∧ ((r.nums 9 1099511627776).2.length ≠ 9 → ∀ y t, r.torn = false → NineR y → bl r.left ≠ rowL numZ y ++ t) := by
  have h1 := red_int r 9 (by decide)
  obtain ⟨d1, d2⟩ := Rd.items_red 1099511627776 (by decide) (r.int 9).2 (r.int 9).1
  have ht : Tells (fun y : List Int => (y.length : Int) ≤ 9 ∧ ∀ z ∈ y, In 1099511627776 z) (rowL numZ) := (tells_row (tells_in (most := 1099511627776) (by decide))).sub fun _ h => ⟨by have := h.1; omega, h.2⟩
  unfold Rd.nums
  obtain ⟨⟨q, o⟩, ho⟩ := nm (Rd.items 1099511627776 (r.int 9).2 (r.int 9).1)
  rw [← ho.out] at d1 d2 ⊢
  cases o with
  | none =>
    obtain ⟨g1, g2⟩ := d2 _ rfl
    refine ⟨fun h => (by cases h), fun _ => ?_⟩
    have hn : RedN (In 1099511627776) numZ (r.int 9).2 (r.int 9).1 0 q [] := ⟨rfl, .inr ⟨g1, g2⟩⟩
    have hs := hn.stop (z := []) (r' := ⟨q.left, true⟩) h1 (by decide) g1 rfl
    intro y t hr hy
    exact hs.none rfl y t hr ((nine_iff y).2 hy).1
  | some l =>
    have hl := (d1 _ _ rfl).red h1 (by decide)
    simp only [Option.getD_some]
    refine ⟨fun h => (Red.pass (C := fun y : List Int => y.length = 9) hl fun _ => h).iff nine_iff, fun h => ?_⟩
    have hs := (Red.fail (C := fun y : List Int => y.length = 9) (z := []) (r'' := ⟨q.left, true⟩) hl ht (.inr h) rfl).iff nine_iff
    exact hs.none rfl

/-- It says m. -/
def SaidBy (S : ByteArray) (m : WL) : Prop := m.May ∧ S.size ≤ 8000 ∧ bl S = m.bytes ∧ m.bs.length ≤ 1000 ∧ m.cl.length ≤ 1000 ∧ m.live.length ≤ 1000
abbrev WT := List Int × ByteArray × Bag3 × List Tag2 × List Peer3
def PW (x : WT) : Prop := NineR x.1 ∧ Tx 8000 x.2.1 ∧ BagR x.2.2.1 ∧ TagsP x.2.2.2.1 ∧ ViewP x.2.2.2.2
def fW (x : WT) : List UInt8 := rowL numZ x.1 ++ (textZ x.2.1 ++ (bagZ x.2.2.1 ++ (rowL tagL x.2.2.2.1 ++ rowL peerL x.2.2.2.2)))
def WL.t (m : WL) : WT := (m.nums, m.mark, ((m.bs, m.cl), m.live), m.tags, m.view)
theorem WL.t_inj {a b : WL} (h : a.t = b.t) : a = b := by
  cases a; cases b
  simp only [WL.t, WL.nums, Prod.mk.injEq, List.cons.injEq, and_true] at h
  obtain ⟨⟨g1, g2, g3, g4, g5, g6, g7, g8, g9⟩, e2, ⟨⟨e3, e4⟩, e5⟩, e6, e7⟩ := h
  subst e2 e3 e4 e5 e6 e7 g1 g2 g3 g4 g5 g6 g7 g8 g9
  rfl
theorem WL.t_bytes (m : WL) : fW m.t = m.bytes := rfl
theorem tells_bagR : Tells BagR bagZ := by
  rintro ⟨⟨x1, x2⟩, x3⟩ ⟨⟨y1, y2⟩, y3⟩ r t hx hy h
  have hx' := ((bagR_iff _).2 hx).1
  have hy' := ((bagR_iff _).2 hy).1
  exact (tells_ctxR.seq tells_msgsR) _ _ _ _ hx' hy' h
theorem tells_tagsP : Tells TagsP (rowL tagL) := (tells_row tells_tagR).sub fun y h => ⟨by have := h.many; omega, ((tagsR y).2 h).1.2⟩
theorem tells_viewP : Tells ViewP (rowL peerL) := (tells_row tells_peerR).sub fun y h => ⟨by have := h.many; omega, ((viewR y).2 h).1.2⟩
theorem tells_W : Tells PW fW := tells_nine.seq ((tells_tx (by decide)).seq (tells_bagR.seq (tells_tagsP.seq tells_viewP)))
theorem SaidBy.p {S : ByteArray} {m : WL} (h : SaidBy S m) : PW m.t := by
  obtain ⟨hm, _, _, h1, h2, h3⟩ := h
  refine ⟨⟨rfl, fun z hz => ?_⟩, show (m.mark.size : Int) ≤ 8000 by have := hm.mark; omega, ⟨⟨h1, h2, h3⟩, hm.bag⟩, hm.tags, hm.view⟩
  obtain ⟨g1, g2⟩ := hm.kind
  obtain ⟨g3, g4⟩ := hm.frm
  obtain ⟨g5, g6⟩ := hm.seq
  obtain ⟨g7, g8⟩ := hm.part
  obtain ⟨g9, g10⟩ := hm.flag
  obtain ⟨g11, g12⟩ := hm.receipt
  obtain ⟨g13, g14⟩ := hm.long
  have hd : In 1099511627776 m.d0 ∧ In 1099511627776 m.d1 := by
    rcases hm.dot with e | e
    · simp only [Prod.mk.injEq] at e
      rw [e.1, e.2]
      exact ⟨⟨by decide, by decide⟩, by decide, by decide⟩
    · have := e.le
      exact ⟨⟨by simp only at this; omega, by simp only at this; omega⟩, by simp only at this; omega, by simp only at this; omega⟩
  simp only [WL.t, WL.nums, List.mem_cons, List.not_mem_nil, or_false] at hz
  rcases hz with rfl | rfl | rfl | rfl | rfl | rfl | rfl | rfl | rfl
  · exact ⟨by omega, by omega⟩
  · exact ⟨by omega, by omega⟩
  · exact ⟨by omega, by omega⟩
  · exact ⟨by omega, by omega⟩
  · exact ⟨by omega, by omega⟩
  · exact hd.1
  · exact hd.2
  · exact ⟨by omega, by omega⟩
  · exact ⟨by omega, by omega⟩
/-- No two are said by the same bytes; what is said cut short says nothing. -/
theorem SaidBy.one {S : ByteArray} {a b : WL} (h : SaidBy S a) (g : SaidBy S b) : a = b := by
  have e : fW a.t ++ [] = fW b.t ++ [] := by rw [WL.t_bytes, WL.t_bytes, ← h.2.2.1, ← g.2.2.1]
  exact WL.t_inj (tells_W _ _ _ _ h.p g.p e).1
/-- All was read, and what was read may be said. -/
theorem read_said {S : ByteArray} {r : Rd} {m : WL} (h : Red PW fW ⟨S, false⟩ r m.t) (hs : S.size ≤ 8000) (hf : r.fin = 0) (hm : m.May) : SaidBy S m := by
  have hf' : r.torn = false ∧ r.left.size = 0 := by
    unfold Rd.fin at hf
    split at hf
    · cases hf
    · rename_i hc
      refine ⟨?_, ?_⟩
      · cases ht : r.torn with
        | false => rfl
        | true => exact absurd (.inl ht) hc
      · rcases Nat.eq_zero_or_pos r.left.size with h0 | h0
        · exact h0
        · exact absurd (.inr (by omega)) hc
  obtain ⟨_, h2, h3⟩ := h.is hf'.1
  have h4 : bl r.left = [] := by rw [← List.length_eq_zero_iff, bl_length]; exact hf'.2
  rw [h4, List.append_nil] at h3
  exact ⟨hm, hs, h3, h2.2.2.1.1.1, h2.2.2.1.1.2.1, h2.2.2.1.1.2.2⟩
/-- Not all was read, or what was read may not be said. -/
theorem read_not {S : ByteArray} {r : Rd} {m : WL} (h : Red PW fW ⟨S, false⟩ r m.t) (hc : r.fin = 10 ∨ ¬ m.May) : ∀ m', ¬ SaidBy S m' := by
  intro m' hm'
  have e0 : bl S = fW m'.t ++ [] := by rw [WL.t_bytes, hm'.2.2.1, List.append_nil]
  rcases h with ⟨h1, h2, h3, h4⟩ | ⟨h1, h2⟩
  · change bl S = _ at h4
    rw [h4] at e0
    obtain ⟨e1, e2⟩ := tells_W _ _ _ _ h3 hm'.p e0
    rcases hc with hc | hc
    · have h5 : r.left.size = 0 := by rw [← bl_length, e2]; rfl
      unfold Rd.fin at hc
      rw [if_neg (by rw [h1, h5]; simp)] at hc
      cases hc
    · rw [WL.t_inj e1] at hc
      exact hc hm'.1
  · exact h2 m'.t [] rfl hm'.p e0
/-- Fewer numbers, or too long. -/
theorem nine_not {S : ByteArray} (h : ∀ y t, (Rd.mk S false).torn = false → NineR y → bl (Rd.mk S false).left ≠ rowL numZ y ++ t) : ∀ m', ¬ SaidBy S m' := by
  intro m' hm'
  refine h m'.t.1 (textZ m'.mark ++ (bagZ ((m'.bs, m'.cl), m'.live) ++ (rowL tagL m'.tags ++ rowL peerL m'.view))) rfl hm'.p.1 ?_
  show bl S = _
  rw [hm'.2.2.1, ← WL.t_bytes]
  rfl
theorem long_not {S : ByteArray} (h : 8000 < S.size) : ∀ m', ¬ SaidBy S m' := fun m' hm' => by have := hm'.2.1; omega
end Go.Proofs.Ytfpjdmplepepjaa

