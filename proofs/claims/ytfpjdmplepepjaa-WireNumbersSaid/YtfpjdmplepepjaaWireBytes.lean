/- Wire's Bytes, of what has no lists. -/
import Derived.Test.YtfpjdmplepepjaaWireCheck
namespace Go.Proofs.Ytfpjdmplepepjaa
open Go.RowKit

/-- What is written of numbers alone. -/
def wireL (zs : List Int) : List UInt8 := numsL zs ++ [0, 0, 0, 0, 0, 0]
theorem SlAt.ofBlk {w : World} {b : Nat} {t : TypeId} {zs : List Int} (h : Blk w b (zs.map (Value.int .i64)).toArray t) : SlAt w (some ⟨b, 0, none⟩) (zs.map (Value.int .i64)) := by
  intro k _
  refine ⟨b, 0, rfl, h.lt, fun j _ => ?_⟩
  rw [h.cell, Nat.zero_add]
  simp
set_option maxRecDepth 100000 in
set_option maxHeartbeats 8000000 in
theorem bytes_ok (k f s p fl d0 d1 rc lg : Int) (h : 1 ≤ k ∧ k ≤ 8 ∧ 1 ≤ f ∧ f ≤ 1099511627776 ∧ 0 ≤ s ∧ s ≤ 1099511627776 ∧ 0 ≤ p ∧ p ≤ 15 ∧ 0 ≤ fl ∧ fl ≤ 1 ∧ 0 ≤ rc ∧ rc ≤ 1099511627776 ∧ 0 ≤ lg ∧ lg ≤ 1073741824) (hd : d0 = 0 ∧ d1 = 0 ∨ (1 ≤ d0 ∧ d0 ≤ 1099511627776) ∧ 1 ≤ d1 ∧ d1 ≤ 1099511627776) (w : World) :
    Calls Try.prog 10 #[.agg #[.int .i64 k, .int .i64 f, .int .i64 s, .int .i64 p, .int .i64 fl, .string ⟨#[]⟩, .slice none 0 0, .slice none 0 0, .slice none 0 0, .slice none 0 0, .slice none 0 0, .int .i64 d0, .int .i64 d1, .int .i64 rc, .int .i64 lg]] w fun e w' => e = .returned (.tuple #[.string (ofL (wireL [k, f, s, p, fl, d0, d1, rc, lg])), .int .i64 0]) ∧ Below w.heap.size w w' := by
  obtain ⟨w0, hw0⟩ := nm (w.alloc (.cells #[.int .i64 k, .int .i64 f, .int .i64 s, .int .i64 p, .int .i64 fl, .string ⟨#[]⟩, .slice none 0 0, .slice none 0 0, .slice none 0 0, .slice none 0 0, .slice none 0 0, .int .i64 d0, .int .i64 d1, .int .i64 rc, .int .i64 lg] 33))
  obtain ⟨x, hx⟩ := nm w.heap.size
  have Kx : Hid (Blk w0 x #[.int .i64 k, .int .i64 f, .int .i64 s, .int .i64 p, .int .i64 fl, .string ⟨#[]⟩, .slice none 0 0, .slice none 0 0, .slice none 0 0, .slice none 0 0, .slice none 0 0, .int .i64 d0, .int .i64 d1, .int .i64 rc, .int .i64 lg] 33) := by show Blk _ _ _ _; rw [hw0.out, hx.out]; exact Blk.new _ _ _
  have HB0 : Hid (Below w.heap.size w w0) := by rw [hw0.out]; exact bOld _
  have HCK := Lib.hid (check_ok k f s p fl d0 d1 rc lg h hd w0)
  have hz : ∀ z ∈ ([k, f, s, p, fl, d0, d1, rc, lg] : List Int), z ≤ 9223372036854775807 := by
    intro z hz
    simp only [List.mem_cons, List.not_mem_nil, or_false] at hz
    rcases hz with rfl | rfl | rfl | rfl | rfl | rfl | rfl | rfl | rfl <;> omega
  have HZ := Lib.hid hz
  obtain ⟨zs, hzs⟩ := nm ([k, f, s, p, fl, d0, d1, rc, lg] : List Int)
  have hzl : Hid (zs.length = 9) := by show _ = _; rw [hzs.out]; rfl
  rw [← hzs.out]
  rw [← hzs.out] at HZ
  clear h hd hz
  go_enter Try.func10, Try.ntmps10
  go_upto_region 1 with fail
  rw [← hw0.out, ← hx.out]
  have c0 : w0.cell? ⟨x, 0, none⟩ = some (.int .i64 k) := Kx.out.cell 0
  have c1 : w0.cell? ⟨x, 1, none⟩ = some (.int .i64 f) := Kx.out.cell 1
  have c2 : w0.cell? ⟨x, 2, none⟩ = some (.int .i64 s) := Kx.out.cell 2
  have c3 : w0.cell? ⟨x, 3, none⟩ = some (.int .i64 p) := Kx.out.cell 3
  have c4 : w0.cell? ⟨x, 4, none⟩ = some (.int .i64 fl) := Kx.out.cell 4
  have c5 : w0.cell? ⟨x, 5, none⟩ = some (.string ⟨#[]⟩) := Kx.out.cell 5
  have c6 : w0.cell? ⟨x, 6, none⟩ = some (.slice none 0 0) := Kx.out.cell 6
  have c7 : w0.cell? ⟨x, 7, none⟩ = some (.slice none 0 0) := Kx.out.cell 7
  have c8 : w0.cell? ⟨x, 8, none⟩ = some (.slice none 0 0) := Kx.out.cell 8
  have c9 : w0.cell? ⟨x, 9, none⟩ = some (.slice none 0 0) := Kx.out.cell 9
  have c10 : w0.cell? ⟨x, 10, none⟩ = some (.slice none 0 0) := Kx.out.cell 10
  have c11 : w0.cell? ⟨x, 11, none⟩ = some (.int .i64 d0) := Kx.out.cell 11
  have c12 : w0.cell? ⟨x, 12, none⟩ = some (.int .i64 d1) := Kx.out.cell 12
  have c13 : w0.cell? ⟨x, 13, none⟩ = some (.int .i64 rc) := Kx.out.cell 13
  have c14 : w0.cell? ⟨x, 14, none⟩ = some (.int .i64 lg) := Kx.out.cell 14
  go_wp2_with fail
  refine HCK.out.mono ?_; rintro e w1 ⟨rfl, hB1⟩
  replace Kx := Lib.hid (Kx.out.below hB1 Kx.out.lt)
  have HB1 := Lib.hid (bNext HB0.out hB1)
  clear hB1 c0 c1 c2 c3 c4 c5 c6 c7 c8 c9 c10 c11 c12 c13 c14
  have c0 : w1.cell? ⟨x, 0, none⟩ = some (.int .i64 k) := Kx.out.cell 0
  have c1 : w1.cell? ⟨x, 1, none⟩ = some (.int .i64 f) := Kx.out.cell 1
  have c2 : w1.cell? ⟨x, 2, none⟩ = some (.int .i64 s) := Kx.out.cell 2
  have c3 : w1.cell? ⟨x, 3, none⟩ = some (.int .i64 p) := Kx.out.cell 3
  have c4 : w1.cell? ⟨x, 4, none⟩ = some (.int .i64 fl) := Kx.out.cell 4
  have c5 : w1.cell? ⟨x, 5, none⟩ = some (.string ⟨#[]⟩) := Kx.out.cell 5
  have c6 : w1.cell? ⟨x, 6, none⟩ = some (.slice none 0 0) := Kx.out.cell 6
  have c7 : w1.cell? ⟨x, 7, none⟩ = some (.slice none 0 0) := Kx.out.cell 7
  have c8 : w1.cell? ⟨x, 8, none⟩ = some (.slice none 0 0) := Kx.out.cell 8
  have c9 : w1.cell? ⟨x, 9, none⟩ = some (.slice none 0 0) := Kx.out.cell 9
  have c10 : w1.cell? ⟨x, 10, none⟩ = some (.slice none 0 0) := Kx.out.cell 10
  have c11 : w1.cell? ⟨x, 11, none⟩ = some (.int .i64 d0) := Kx.out.cell 11
  have c12 : w1.cell? ⟨x, 12, none⟩ = some (.int .i64 d1) := Kx.out.cell 12
  have c13 : w1.cell? ⟨x, 13, none⟩ = some (.int .i64 rc) := Kx.out.cell 13
  have c14 : w1.cell? ⟨x, 14, none⟩ = some (.int .i64 lg) := Kx.out.cell 14
  go_wp2_with fail
  refine (numbers_any k f s p fl d0 d1 rc lg _).mono ?_; rintro e w2 ⟨rfl, hB2⟩
  obtain ⟨y, hy⟩ := nm w2.heap.size
  obtain ⟨w3, hw3⟩ := nm (w2.alloc (.cells #[.int .i64 k, .int .i64 f, .int .i64 s, .int .i64 p, .int .i64 fl, .int .i64 d0, .int .i64 d1, .int .i64 rc, .int .i64 lg] 54))
  replace Kx : Hid (Blk w3 x #[.int .i64 k, .int .i64 f, .int .i64 s, .int .i64 p, .int .i64 fl, .string ⟨#[]⟩, .slice none 0 0, .slice none 0 0, .slice none 0 0, .slice none 0 0, .slice none 0 0, .int .i64 d0, .int .i64 d1, .int .i64 rc, .int .i64 lg] 33) := by show Blk _ _ _ _; rw [hw3.out]; exact (Kx.out.below hB2 Kx.out.lt).alloc _
  have Ky : Hid (Blk w3 y #[.int .i64 k, .int .i64 f, .int .i64 s, .int .i64 p, .int .i64 fl, .int .i64 d0, .int .i64 d1, .int .i64 rc, .int .i64 lg] 54) := by show Blk _ _ _ _; rw [hw3.out, hy.out]; exact Blk.new _ _ _
  have HB3 : Hid (Below w.heap.size w w3) := by show Below _ _ _; rw [hw3.out]; exact bNew (bNext HB1.out hB2) _
  clear hB2 c0 c1 c2 c3 c4 c5 c6 c7 c8 c9 c10 c11 c12 c13 c14
  go_upto_region 4 with fail
  rw [← hw3.out, ← hy.out]
  have c5 : w3.cell? ⟨x, 5, none⟩ = some (.string ⟨#[]⟩) := Kx.out.cell 5
  have c6 : w3.cell? ⟨x, 6, none⟩ = some (.slice none 0 0) := Kx.out.cell 6
  have c7 : w3.cell? ⟨x, 7, none⟩ = some (.slice none 0 0) := Kx.out.cell 7
  have c8 : w3.cell? ⟨x, 8, none⟩ = some (.slice none 0 0) := Kx.out.cell 8
  have c9 : w3.cell? ⟨x, 9, none⟩ = some (.slice none 0 0) := Kx.out.cell 9
  have c10 : w3.cell? ⟨x, 10, none⟩ = some (.slice none 0 0) := Kx.out.cell 10
  have hlx : x < w3.heap.size := Kx.out.lt
  have HKEEP : Hid (∀ wa : World, Below w3.drew.heap.size w3.drew wa → wa.cell? ⟨x, 5, none⟩ = some (.string ⟨#[]⟩) ∧ wa.cell? ⟨x, 6, none⟩ = some (.slice none 0 0) ∧ wa.cell? ⟨x, 7, none⟩ = some (.slice none 0 0) ∧ wa.cell? ⟨x, 8, none⟩ = some (.slice none 0 0) ∧ wa.cell? ⟨x, 9, none⟩ = some (.slice none 0 0) ∧ wa.cell? ⟨x, 10, none⟩ = some (.slice none 0 0)) := by
    show ∀ wa : World, _
    intro wa h
    exact ⟨(h.cell (p := ⟨x, 5, none⟩) hlx).trans c5, (h.cell (p := ⟨x, 6, none⟩) hlx).trans c6, (h.cell (p := ⟨x, 7, none⟩) hlx).trans c7, (h.cell (p := ⟨x, 8, none⟩) hlx).trans c8, (h.cell (p := ⟨x, 9, none⟩) hlx).trans c9, (h.cell (p := ⟨x, 10, none⟩) hlx).trans c10⟩
  have hsl : SlAt w3.drew (some ⟨y, 0, none⟩) (zs.map (Value.int .i64)) := by rw [hzs.out]; exact SlAt.ofBlk (w := w3.drew) Ky.out
  obtain ⟨a1, ha1⟩ := nm (ofL (numsL zs))
  obtain ⟨z1, hz1⟩ := nm (ofL [0])
  obtain ⟨z3, hz3⟩ := nm (ofL [0, 0, 0])
  have HN : Hid (Calls Try.prog 21 #[.slice (some ⟨y, 0, none⟩) 9 9] w3.drew fun e w' => e = .returned (.string a1) ∧ Below w3.drew.heap.size w3.drew w') := by
    show Calls _ _ _ _ _
    rw [ha1.out]
    exact nums_any (some ⟨y, 0, none⟩) 9 9 zs hzl.out (by decide) HZ.out w3.drew hsl
  have HT : Hid (∀ w, Calls Try.prog 22 #[.string ⟨#[]⟩] w fun e w' => e = .returned (.string z1) ∧ Below w.heap.size w w') := by
    intro w
    have := text_any ⟨#[]⟩ w (by decide)
    rw [show ofL (textL (bl ⟨#[]⟩)) = z1 from by rw [hz1.out]; unfold textL; rw [show (bl ⟨#[]⟩).length = 0 from rfl, num0]; rfl] at this
    exact this
  have HG : Hid (∀ w, Calls Try.prog 23 #[.agg #[.slice none 0 0, .slice none 0 0, .slice none 0 0]] w fun e w' => e = .returned (.string z3) ∧ Below w.heap.size w w') := by intro w; rw [hz3.out]; exact bagb0 w
  have HM : Hid (∀ w, Calls Try.prog 24 #[.slice none 0 0] w fun e w' => e = .returned (.string z1) ∧ Below w.heap.size w w') := by intro w; rw [hz1.out]; exact namesb0 w
  have HV : Hid (∀ w, Calls Try.prog 25 #[.slice none 0 0] w fun e w' => e = .returned (.string z1) ∧ Below w.heap.size w w') := by intro w; rw [hz1.out]; exact viewb0 w
  have l1 : a1.size ≤ 100 := by
    rw [ha1.out, ofL_size]
    unfold numsL
    rw [List.length_append, hzl.out]
    have g1 := Pl.num_length_le 9 (by decide)
    have g2 := intsL_le zs HZ.out
    rw [hzl.out] at g2
    omega
  have m1 : z1.size = 1 := by rw [hz1.out, ofL_size]; rfl
  have m3 : z3.size = 3 := by rw [hz3.out, ofL_size]; rfl
  have n2 : (a1 ++ z1).size = a1.size + 1 := by rw [ByteArray.size_append, m1]
  have n3 : (a1 ++ z1 ++ z3).size = a1.size + 4 := by rw [ByteArray.size_append, n2, m3]
  have n4 : (a1 ++ z1 ++ z3 ++ z1).size = a1.size + 5 := by rw [ByteArray.size_append, n3, m1]
  have n5 : (a1 ++ z1 ++ z3 ++ z1 ++ z1).size = a1.size + 6 := by rw [ByteArray.size_append, n4, m1]
  have k2 := fun w : World => run_string_add_sum (P := Try.prog) w a1 z1 (by omega)
  have k3 := fun w : World => run_string_add_sum (P := Try.prog) w (a1 ++ z1) z3 (by omega)
  have k4 := fun w : World => run_string_add_sum (P := Try.prog) w (a1 ++ z1 ++ z3) z1 (by omega)
  have k5 := fun w : World => run_string_add_sum (P := Try.prog) w (a1 ++ z1 ++ z3 ++ z1) z1 (by omega)
  have HF : Hid (a1 ++ z1 ++ z3 ++ z1 ++ z1 = ofL (wireL zs)) := by
    show _ = _
    rw [ha1.out, hz1.out, hz3.out, ofL_append, ofL_append, ofL_append, ofL_append]
    unfold wireL
    simp only [List.append_assoc]; rfl
  have HS5 : Hid ((a1 ++ z1 ++ z3 ++ z1 ++ z1).size ≤ 200) := by show _ ≤ _; omega
  clear n2 n3 n4 n5 m1 m3 l1 hsl
  go_region_held3 (fun w' => w'.cell? ⟨x, 5, none⟩ = some (.string ⟨#[]⟩) ∧ w'.cell? ⟨x, 6, none⟩ = some (.slice none 0 0) ∧ w'.cell? ⟨x, 7, none⟩ = some (.slice none 0 0) ∧ w'.cell? ⟨x, 8, none⟩ = some (.slice none 0 0) ∧ w'.cell? ⟨x, 9, none⟩ = some (.slice none 0 0) ∧ w'.cell? ⟨x, 10, none⟩ = some (.slice none 0 0))
    (first
      | exact HKEEP.out _ (bNext (bNext (bNext (bNext hb1 hb2) hb3) hb4) hb5)
      | exact HKEEP.out _ (bNext (bNext (bNext hb1 hb2) hb3) hb4)
      | exact HKEEP.out _ (bNext (bNext hb1 hb2) hb3)
      | exact HKEEP.out _ (bNext hb1 hb2)
      | exact HKEEP.out _ hb1
      | exact ⟨cell_dr c5, cell_dr c6, cell_dr c7, cell_dr c8, cell_dr c9, cell_dr c10⟩
      | exact ⟨c5, c6, c7, c8, c9, c10⟩)
    (first
      | (go_at_call 21; refine HN.out.mono ?_; rintro e v1 ⟨rfl, hb1⟩)
      | (go_at_call 22; with_reducible (refine (HT.out _).mono ?_); rintro e v2 ⟨rfl, hb2⟩)
      | (go_at_call 23; with_reducible (refine (HG.out _).mono ?_); rintro e v3 ⟨rfl, hb3⟩)
      | (go_at_call 24; with_reducible (refine (HM.out _).mono ?_); rintro e v4 ⟨rfl, hb4⟩)
      | (go_at_call 25; with_reducible (refine (HV.out _).mono ?_); rintro e v5 ⟨rfl, hb5⟩))
  have HBF := Lib.hid (bNext (bDrew HB3.out) (bNext (bNext (bNext (bNext hb1 hb2) hb3) hb4) hb5))
  obtain ⟨R, hR⟩ := nm (a1 ++ z1 ++ z3 ++ z1 ++ z1)
  rw [← hR.out] at HF HS5
  rw [← hR.out]
  have hRs : R.size ≤ 200 := HS5.out
  clear hb1 hb2 hb3 hb4 hb5 k2 k3 k4 k5 c5 c6 c7 c8 c9 c10
  go_wp2_with fail
  refine bodyPost_ret (v := .tuple #[.string R, .int .i64 0]) (by simp [results, Try.results10, go_sem]) rfl ?_
  exact ⟨by rw [← HF.out], HBF.out⟩
end Go.Proofs.Ytfpjdmplepepjaa
