/- Wire's Same, of the chapter's example; awake. -/
import Derived.Test.YtfpjdmplepepjaaWireRead
namespace Go.Proofs.Ytfpjdmplepepjaa
open Go.RowKit

set_option maxRecDepth 100000 in
set_option maxHeartbeats 16000000 in
theorem same7 (w : World) : Calls Try.prog 16 #[.agg #[.int .i64 7, .int .i64 1, .int .i64 0, .int .i64 0, .int .i64 0, .string ⟨#[]⟩, .slice none 0 0, .slice none 0 0, .slice none 0 0, .slice none 0 0, .slice none 0 0, .int .i64 0, .int .i64 0, .int .i64 0, .int .i64 0], .agg #[.int .i64 7, .int .i64 1, .int .i64 0, .int .i64 0, .int .i64 0, .string ⟨#[]⟩, .slice none 0 0, .slice none 0 0, .slice none 0 0, .slice none 0 0, .slice none 0 0, .int .i64 0, .int .i64 0, .int .i64 0, .int .i64 0]] w fun e w' => e = .returned (.bool true) ∧ Below w.heap.size w w' := by
  obtain ⟨w0, hw0⟩ := nm ((w.alloc (.cells #[.int .i64 7, .int .i64 1, .int .i64 0, .int .i64 0, .int .i64 0, .string ⟨#[]⟩, .slice none 0 0, .slice none 0 0, .slice none 0 0, .slice none 0 0, .slice none 0 0, .int .i64 0, .int .i64 0, .int .i64 0, .int .i64 0] 33)).alloc (.cells #[.int .i64 7, .int .i64 1, .int .i64 0, .int .i64 0, .int .i64 0, .string ⟨#[]⟩, .slice none 0 0, .slice none 0 0, .slice none 0 0, .slice none 0 0, .slice none 0 0, .int .i64 0, .int .i64 0, .int .i64 0, .int .i64 0] 33))
  obtain ⟨x, hx⟩ := nm w.heap.size
  obtain ⟨y, hy⟩ := nm (x + 1)
  have Kx : Hid (Blk w0 x #[.int .i64 7, .int .i64 1, .int .i64 0, .int .i64 0, .int .i64 0, .string ⟨#[]⟩, .slice none 0 0, .slice none 0 0, .slice none 0 0, .slice none 0 0, .slice none 0 0, .int .i64 0, .int .i64 0, .int .i64 0, .int .i64 0] 33) := by show Blk _ _ _ _; rw [hw0.out, hx.out]; exact (Blk.new _ _ _).alloc _
  have Ky : Hid (Blk w0 y #[.int .i64 7, .int .i64 1, .int .i64 0, .int .i64 0, .int .i64 0, .string ⟨#[]⟩, .slice none 0 0, .slice none 0 0, .slice none 0 0, .slice none 0 0, .slice none 0 0, .int .i64 0, .int .i64 0, .int .i64 0, .int .i64 0] 33) := by show Blk _ _ _ _; rw [hw0.out, hy.out, hx.out]; exact blk_at (by simp)
  have HB : Hid (Below w.heap.size w w0) := by show Below _ _ _; rw [hw0.out]; exact bNew (bOld _) _
  have hlx : x < w0.heap.size := Kx.out.lt
  have hly : y < w0.heap.size := Ky.out.lt
  have cx0 : w0.cell? ⟨x, 0, none⟩ = some (.int .i64 7) := Kx.out.cell 0
  have cy0 : w0.cell? ⟨y, 0, none⟩ = some (.int .i64 7) := Ky.out.cell 0
  have cx1 : w0.cell? ⟨x, 1, none⟩ = some (.int .i64 1) := Kx.out.cell 1
  have cy1 : w0.cell? ⟨y, 1, none⟩ = some (.int .i64 1) := Ky.out.cell 1
  have cx2 : w0.cell? ⟨x, 2, none⟩ = some (.int .i64 0) := Kx.out.cell 2
  have cy2 : w0.cell? ⟨y, 2, none⟩ = some (.int .i64 0) := Ky.out.cell 2
  have cx3 : w0.cell? ⟨x, 3, none⟩ = some (.int .i64 0) := Kx.out.cell 3
  have cy3 : w0.cell? ⟨y, 3, none⟩ = some (.int .i64 0) := Ky.out.cell 3
  have cx4 : w0.cell? ⟨x, 4, none⟩ = some (.int .i64 0) := Kx.out.cell 4
  have cy4 : w0.cell? ⟨y, 4, none⟩ = some (.int .i64 0) := Ky.out.cell 4
  have cx5 : w0.cell? ⟨x, 5, none⟩ = some (.string ⟨#[]⟩) := Kx.out.cell 5
  have cy5 : w0.cell? ⟨y, 5, none⟩ = some (.string ⟨#[]⟩) := Ky.out.cell 5
  have cx6 : w0.cell? ⟨x, 6, none⟩ = some (.slice none 0 0) := Kx.out.cell 6
  have cy6 : w0.cell? ⟨y, 6, none⟩ = some (.slice none 0 0) := Ky.out.cell 6
  have cx7 : w0.cell? ⟨x, 7, none⟩ = some (.slice none 0 0) := Kx.out.cell 7
  have cy7 : w0.cell? ⟨y, 7, none⟩ = some (.slice none 0 0) := Ky.out.cell 7
  have cx8 : w0.cell? ⟨x, 8, none⟩ = some (.slice none 0 0) := Kx.out.cell 8
  have cy8 : w0.cell? ⟨y, 8, none⟩ = some (.slice none 0 0) := Ky.out.cell 8
  have cx9 : w0.cell? ⟨x, 9, none⟩ = some (.slice none 0 0) := Kx.out.cell 9
  have cy9 : w0.cell? ⟨y, 9, none⟩ = some (.slice none 0 0) := Ky.out.cell 9
  have cx10 : w0.cell? ⟨x, 10, none⟩ = some (.slice none 0 0) := Kx.out.cell 10
  have cy10 : w0.cell? ⟨y, 10, none⟩ = some (.slice none 0 0) := Ky.out.cell 10
  have cx11 : w0.cell? ⟨x, 11, none⟩ = some (.int .i64 0) := Kx.out.cell 11
  have cy11 : w0.cell? ⟨y, 11, none⟩ = some (.int .i64 0) := Ky.out.cell 11
  have cx12 : w0.cell? ⟨x, 12, none⟩ = some (.int .i64 0) := Kx.out.cell 12
  have cy12 : w0.cell? ⟨y, 12, none⟩ = some (.int .i64 0) := Ky.out.cell 12
  have cx13 : w0.cell? ⟨x, 13, none⟩ = some (.int .i64 0) := Kx.out.cell 13
  have cy13 : w0.cell? ⟨y, 13, none⟩ = some (.int .i64 0) := Ky.out.cell 13
  have cx14 : w0.cell? ⟨x, 14, none⟩ = some (.int .i64 0) := Kx.out.cell 14
  have cy14 : w0.cell? ⟨y, 14, none⟩ = some (.int .i64 0) := Ky.out.cell 14
  have HKEEP : Hid (∀ wa : World, Below w0.drew.heap.size w0.drew wa → wa.cell? ⟨x, 0, none⟩ = some (.int .i64 7) ∧ wa.cell? ⟨x, 1, none⟩ = some (.int .i64 1) ∧ wa.cell? ⟨x, 2, none⟩ = some (.int .i64 0) ∧ wa.cell? ⟨x, 3, none⟩ = some (.int .i64 0) ∧ wa.cell? ⟨x, 4, none⟩ = some (.int .i64 0) ∧ wa.cell? ⟨x, 5, none⟩ = some (.string ⟨#[]⟩) ∧ wa.cell? ⟨x, 6, none⟩ = some (.slice none 0 0) ∧ wa.cell? ⟨x, 7, none⟩ = some (.slice none 0 0) ∧ wa.cell? ⟨x, 8, none⟩ = some (.slice none 0 0) ∧ wa.cell? ⟨x, 9, none⟩ = some (.slice none 0 0) ∧ wa.cell? ⟨x, 10, none⟩ = some (.slice none 0 0) ∧ wa.cell? ⟨x, 11, none⟩ = some (.int .i64 0) ∧ wa.cell? ⟨x, 12, none⟩ = some (.int .i64 0) ∧ wa.cell? ⟨x, 13, none⟩ = some (.int .i64 0) ∧ wa.cell? ⟨x, 14, none⟩ = some (.int .i64 0) ∧ wa.cell? ⟨y, 0, none⟩ = some (.int .i64 7) ∧ wa.cell? ⟨y, 1, none⟩ = some (.int .i64 1) ∧ wa.cell? ⟨y, 2, none⟩ = some (.int .i64 0) ∧ wa.cell? ⟨y, 3, none⟩ = some (.int .i64 0) ∧ wa.cell? ⟨y, 4, none⟩ = some (.int .i64 0) ∧ wa.cell? ⟨y, 5, none⟩ = some (.string ⟨#[]⟩) ∧ wa.cell? ⟨y, 6, none⟩ = some (.slice none 0 0) ∧ wa.cell? ⟨y, 7, none⟩ = some (.slice none 0 0) ∧ wa.cell? ⟨y, 8, none⟩ = some (.slice none 0 0) ∧ wa.cell? ⟨y, 9, none⟩ = some (.slice none 0 0) ∧ wa.cell? ⟨y, 10, none⟩ = some (.slice none 0 0) ∧ wa.cell? ⟨y, 11, none⟩ = some (.int .i64 0) ∧ wa.cell? ⟨y, 12, none⟩ = some (.int .i64 0) ∧ wa.cell? ⟨y, 13, none⟩ = some (.int .i64 0) ∧ wa.cell? ⟨y, 14, none⟩ = some (.int .i64 0)) := by
    show ∀ wa : World, _
    intro wa h
    exact ⟨(h.cell (p := ⟨x, 0, none⟩) hlx).trans cx0, (h.cell (p := ⟨x, 1, none⟩) hlx).trans cx1, (h.cell (p := ⟨x, 2, none⟩) hlx).trans cx2, (h.cell (p := ⟨x, 3, none⟩) hlx).trans cx3, (h.cell (p := ⟨x, 4, none⟩) hlx).trans cx4, (h.cell (p := ⟨x, 5, none⟩) hlx).trans cx5, (h.cell (p := ⟨x, 6, none⟩) hlx).trans cx6, (h.cell (p := ⟨x, 7, none⟩) hlx).trans cx7, (h.cell (p := ⟨x, 8, none⟩) hlx).trans cx8, (h.cell (p := ⟨x, 9, none⟩) hlx).trans cx9, (h.cell (p := ⟨x, 10, none⟩) hlx).trans cx10, (h.cell (p := ⟨x, 11, none⟩) hlx).trans cx11, (h.cell (p := ⟨x, 12, none⟩) hlx).trans cx12, (h.cell (p := ⟨x, 13, none⟩) hlx).trans cx13, (h.cell (p := ⟨x, 14, none⟩) hlx).trans cx14, (h.cell (p := ⟨y, 0, none⟩) hly).trans cy0, (h.cell (p := ⟨y, 1, none⟩) hly).trans cy1, (h.cell (p := ⟨y, 2, none⟩) hly).trans cy2, (h.cell (p := ⟨y, 3, none⟩) hly).trans cy3, (h.cell (p := ⟨y, 4, none⟩) hly).trans cy4, (h.cell (p := ⟨y, 5, none⟩) hly).trans cy5, (h.cell (p := ⟨y, 6, none⟩) hly).trans cy6, (h.cell (p := ⟨y, 7, none⟩) hly).trans cy7, (h.cell (p := ⟨y, 8, none⟩) hly).trans cy8, (h.cell (p := ⟨y, 9, none⟩) hly).trans cy9, (h.cell (p := ⟨y, 10, none⟩) hly).trans cy10, (h.cell (p := ⟨y, 11, none⟩) hly).trans cy11, (h.cell (p := ⟨y, 12, none⟩) hly).trans cy12, (h.cell (p := ⟨y, 13, none⟩) hly).trans cy13, (h.cell (p := ⟨y, 14, none⟩) hly).trans cy14⟩
  have heq : ∀ w : World, Sem.run Try.prog (binOp .eql 54 (.agg #[.int .i64 7, .int .i64 1, .int .i64 0, .int .i64 0, .int .i64 0, .int .i64 0, .int .i64 0, .int .i64 0, .int .i64 0]) (.agg #[.int .i64 7, .int .i64 1, .int .i64 0, .int .i64 0, .int .i64 0, .int .i64 0, .int .i64 0, .int .i64 0, .int .i64 0])) w = .ok (.bool true) w := fun w => by kernel_rfl
  have hgd := fun (a b : Operand) (w : World) => run_eqGuard_agg (P := Try.prog) w .eql 54 a b #[.int .i64 7, .int .i64 1, .int .i64 0, .int .i64 0, .int .i64 0, .int .i64 0, .int .i64 0, .int .i64 0, .int .i64 0] #[.int .i64 7, .int .i64 1, .int .i64 0, .int .i64 0, .int .i64 0, .int .i64 0, .int .i64 0, .int .i64 0, .int .i64 0] (by kernel_rfl)
  have hT : True := trivial
  go_enter Try.func16, Try.ntmps16
  go_upto_region 1 with fail
  rw [← hw0.out, ← hx.out, ← hy.out]
  go_region_held3 (fun w' => w'.cell? ⟨x, 0, none⟩ = some (.int .i64 7) ∧ w'.cell? ⟨x, 1, none⟩ = some (.int .i64 1) ∧ w'.cell? ⟨x, 2, none⟩ = some (.int .i64 0) ∧ w'.cell? ⟨x, 3, none⟩ = some (.int .i64 0) ∧ w'.cell? ⟨x, 4, none⟩ = some (.int .i64 0) ∧ w'.cell? ⟨x, 5, none⟩ = some (.string ⟨#[]⟩) ∧ w'.cell? ⟨x, 6, none⟩ = some (.slice none 0 0) ∧ w'.cell? ⟨x, 7, none⟩ = some (.slice none 0 0) ∧ w'.cell? ⟨x, 8, none⟩ = some (.slice none 0 0) ∧ w'.cell? ⟨x, 9, none⟩ = some (.slice none 0 0) ∧ w'.cell? ⟨x, 10, none⟩ = some (.slice none 0 0) ∧ w'.cell? ⟨x, 11, none⟩ = some (.int .i64 0) ∧ w'.cell? ⟨x, 12, none⟩ = some (.int .i64 0) ∧ w'.cell? ⟨x, 13, none⟩ = some (.int .i64 0) ∧ w'.cell? ⟨x, 14, none⟩ = some (.int .i64 0) ∧ w'.cell? ⟨y, 0, none⟩ = some (.int .i64 7) ∧ w'.cell? ⟨y, 1, none⟩ = some (.int .i64 1) ∧ w'.cell? ⟨y, 2, none⟩ = some (.int .i64 0) ∧ w'.cell? ⟨y, 3, none⟩ = some (.int .i64 0) ∧ w'.cell? ⟨y, 4, none⟩ = some (.int .i64 0) ∧ w'.cell? ⟨y, 5, none⟩ = some (.string ⟨#[]⟩) ∧ w'.cell? ⟨y, 6, none⟩ = some (.slice none 0 0) ∧ w'.cell? ⟨y, 7, none⟩ = some (.slice none 0 0) ∧ w'.cell? ⟨y, 8, none⟩ = some (.slice none 0 0) ∧ w'.cell? ⟨y, 9, none⟩ = some (.slice none 0 0) ∧ w'.cell? ⟨y, 10, none⟩ = some (.slice none 0 0) ∧ w'.cell? ⟨y, 11, none⟩ = some (.int .i64 0) ∧ w'.cell? ⟨y, 12, none⟩ = some (.int .i64 0) ∧ w'.cell? ⟨y, 13, none⟩ = some (.int .i64 0) ∧ w'.cell? ⟨y, 14, none⟩ = some (.int .i64 0))
    (first
      | exact HKEEP.out _ (bNext (bNext h1 h2) h3)
      | exact HKEEP.out _ (bNext h1 h2)
      | exact HKEEP.out _ h1
      | exact ⟨cell_dr cx0, cell_dr cx1, cell_dr cx2, cell_dr cx3, cell_dr cx4, cell_dr cx5, cell_dr cx6, cell_dr cx7, cell_dr cx8, cell_dr cx9, cell_dr cx10, cell_dr cx11, cell_dr cx12, cell_dr cx13, cell_dr cx14, cell_dr cy0, cell_dr cy1, cell_dr cy2, cell_dr cy3, cell_dr cy4, cell_dr cy5, cell_dr cy6, cell_dr cy7, cell_dr cy8, cell_dr cy9, cell_dr cy10, cell_dr cy11, cell_dr cy12, cell_dr cy13, cell_dr cy14⟩
      | exact ⟨cx0, cx1, cx2, cx3, cx4, cx5, cx6, cx7, cx8, cx9, cx10, cx11, cx12, cx13, cx14, cy0, cy1, cy2, cy3, cy4, cy5, cy6, cy7, cy8, cy9, cy10, cy11, cy12, cy13, cy14⟩)
    (first
      | (go_at_call 20; clear hT; refine (numbers_any 7 1 0 0 0 0 0 0 0 _).mono ?_; rintro e v1 ⟨rfl, h1⟩)
      | (go_at_call 20; refine (numbers_any 7 1 0 0 0 0 0 0 0 _).mono ?_; rintro e v2 ⟨rfl, h2⟩)
      | (go_at_call 45; refine (bagsame0 _).mono ?_; rintro e v3 ⟨rfl, h3⟩)
      | (go_at_call 46; refine (sameT0 _).mono ?_; rintro e v4 ⟨rfl, rfl⟩)
      | (go_at_call 47; refine (sameP0 _).mono ?_; rintro e v5 ⟨rfl, rfl⟩))
  go_wp2_with fail
  go_ret
  exact ⟨rfl, bNext (bDrew HB.out) (bNext (bNext h1 h2) h3)⟩

set_option maxRecDepth 100000 in
set_option maxHeartbeats 16000000 in
theorem awake_any (w : World) : Calls Try.prog 8 #[] w fun e w' => e = .returned (.bool true) ∧ Below w.heap.size w w' := by
  obtain ⟨w0, hw0⟩ := nm (w.alloc (.cells #[.int .i64 7, .int .i64 1, .int .i64 0, .int .i64 0, .int .i64 0, .string ⟨#[]⟩, .slice none 0 0, .slice none 0 0, .slice none 0 0, .slice none 0 0, .slice none 0 0, .int .i64 0, .int .i64 0, .int .i64 0, .int .i64 0] 33))
  obtain ⟨x, hx⟩ := nm w.heap.size
  have Kx : Hid (Blk w0 x #[.int .i64 7, .int .i64 1, .int .i64 0, .int .i64 0, .int .i64 0, .string ⟨#[]⟩, .slice none 0 0, .slice none 0 0, .slice none 0 0, .slice none 0 0, .slice none 0 0, .int .i64 0, .int .i64 0, .int .i64 0, .int .i64 0] 33) := by show Blk _ _ _ _; rw [hw0.out, hx.out]; exact Blk.new _ _ _
  have HB : Hid (Below w.heap.size w w0) := by show Below _ _ _; rw [hw0.out]; exact bOld _
  obtain ⟨S, hS⟩ := nm (ofL (wireL [7, 1, 0, 0, 0, 0, 0, 0, 0]))
  have hSp : 0 < S.size := by
    rw [hS.out, ofL_size]
    unfold wireL
    simp
  have HBY : Hid (∀ w, Calls Try.prog 10 #[.agg #[.int .i64 7, .int .i64 1, .int .i64 0, .int .i64 0, .int .i64 0, .string ⟨#[]⟩, .slice none 0 0, .slice none 0 0, .slice none 0 0, .slice none 0 0, .slice none 0 0, .int .i64 0, .int .i64 0, .int .i64 0, .int .i64 0]] w fun e w' => e = .returned (.tuple #[.string S, .int .i64 0]) ∧ Below w.heap.size w w') := by intro w; rw [hS.out]; exact bytes_ok 7 1 0 0 0 0 0 0 0 (by decide) (by decide) w
  have HRD : Hid (∀ w, Calls Try.prog 14 #[.string S] w fun e w' => e = .returned (.tuple #[.agg #[.int .i64 7, .int .i64 1, .int .i64 0, .int .i64 0, .int .i64 0, .string ⟨#[]⟩, .slice none 0 0, .slice none 0 0, .slice none 0 0, .slice none 0 0, .slice none 0 0, .int .i64 0, .int .i64 0, .int .i64 0, .int .i64 0], .int .i64 0]) ∧ Below w.heap.size w w') := by intro w; rw [hS.out]; exact read_ok 7 1 0 0 0 0 0 0 0 (by decide) (by decide) w
  go_enter Try.func8, Try.ntmps8
  go_upto_region 2 with fail
  rw [← hw0.out, ← hx.out]
  have c0 : w0.cell? ⟨x, 0, none⟩ = some (.int .i64 7) := Kx.out.cell 0
  have c1 : w0.cell? ⟨x, 1, none⟩ = some (.int .i64 1) := Kx.out.cell 1
  have c2 : w0.cell? ⟨x, 2, none⟩ = some (.int .i64 0) := Kx.out.cell 2
  have c3 : w0.cell? ⟨x, 3, none⟩ = some (.int .i64 0) := Kx.out.cell 3
  have c4 : w0.cell? ⟨x, 4, none⟩ = some (.int .i64 0) := Kx.out.cell 4
  have c5 : w0.cell? ⟨x, 5, none⟩ = some (.string ⟨#[]⟩) := Kx.out.cell 5
  have c6 : w0.cell? ⟨x, 6, none⟩ = some (.slice none 0 0) := Kx.out.cell 6
  have c7 : w0.cell? ⟨x, 7, none⟩ = some (.slice none 0 0) := Kx.out.cell 7
  have c8 : w0.cell? ⟨x, 8, none⟩ = some (.slice none 0 0) := Kx.out.cell 8
  have c9 : w0.cell? ⟨x, 9, none⟩ = some (.slice none 0 0) := Kx.out.cell 9
  have c10 : w0.cell? ⟨x, 10, none⟩ = some (.slice none 0 0) := Kx.out.cell 10
  have c11 : w0.cell? ⟨x, 11, none⟩ = some (.int .i64 0) := Kx.out.cell 11
  have c12 : w0.cell? ⟨x, 12, none⟩ = some (.int .i64 0) := Kx.out.cell 12
  have c13 : w0.cell? ⟨x, 13, none⟩ = some (.int .i64 0) := Kx.out.cell 13
  have c14 : w0.cell? ⟨x, 14, none⟩ = some (.int .i64 0) := Kx.out.cell 14
  go_wp2_with fail
  refine (HBY.out _).mono ?_; rintro e w1 ⟨rfl, h1⟩
  replace Kx := Lib.hid (Kx.out.below h1 Kx.out.lt)
  replace HB := Lib.hid (bNext HB.out h1)
  clear h1 c0 c1 c2 c3 c4 c5 c6 c7 c8 c9 c10 c11 c12 c13 c14
  go_wp2_with fail
  refine (HRD.out _).mono ?_; rintro e w2 ⟨rfl, h2⟩
  replace Kx := Lib.hid (Kx.out.below h2 Kx.out.lt)
  replace HB := Lib.hid (bNext HB.out h2)
  obtain ⟨y, hy⟩ := nm w2.heap.size
  obtain ⟨w3, hw3⟩ := nm (w2.alloc (.cells #[.int .i64 7, .int .i64 1, .int .i64 0, .int .i64 0, .int .i64 0, .string ⟨#[]⟩, .slice none 0 0, .slice none 0 0, .slice none 0 0, .slice none 0 0, .slice none 0 0, .int .i64 0, .int .i64 0, .int .i64 0, .int .i64 0] 33))
  have Ky : Hid (Blk w3 y #[.int .i64 7, .int .i64 1, .int .i64 0, .int .i64 0, .int .i64 0, .string ⟨#[]⟩, .slice none 0 0, .slice none 0 0, .slice none 0 0, .slice none 0 0, .slice none 0 0, .int .i64 0, .int .i64 0, .int .i64 0, .int .i64 0] 33) := by show Blk _ _ _ _; rw [hw3.out, hy.out]; exact Blk.new _ _ _
  replace Kx : Hid (Blk w3 x #[.int .i64 7, .int .i64 1, .int .i64 0, .int .i64 0, .int .i64 0, .string ⟨#[]⟩, .slice none 0 0, .slice none 0 0, .slice none 0 0, .slice none 0 0, .slice none 0 0, .int .i64 0, .int .i64 0, .int .i64 0, .int .i64 0] 33) := by show Blk _ _ _ _; rw [hw3.out]; exact Kx.out.alloc _
  replace HB : Hid (Below w.heap.size w w3) := by show Below _ _ _; rw [hw3.out]; exact bNew HB.out _
  clear h2
  go_upto_region 4 with fail
  rw [← hw3.out, ← hy.out]
  go_wp2_with fail
  refine (check_zero _).mono ?_; rintro e w4 ⟨rfl, h4⟩
  replace Kx := Lib.hid (Kx.out.below h4 Kx.out.lt)
  replace Ky := Lib.hid (Ky.out.below h4 Ky.out.lt)
  replace HB := Lib.hid (bNext HB.out h4)
  clear h4
  have c0 : w4.cell? ⟨x, 0, none⟩ = some (.int .i64 7) := Kx.out.cell 0
  have d0 : w4.cell? ⟨y, 0, none⟩ = some (.int .i64 7) := Ky.out.cell 0
  have c1 : w4.cell? ⟨x, 1, none⟩ = some (.int .i64 1) := Kx.out.cell 1
  have d1 : w4.cell? ⟨y, 1, none⟩ = some (.int .i64 1) := Ky.out.cell 1
  have c2 : w4.cell? ⟨x, 2, none⟩ = some (.int .i64 0) := Kx.out.cell 2
  have d2 : w4.cell? ⟨y, 2, none⟩ = some (.int .i64 0) := Ky.out.cell 2
  have c3 : w4.cell? ⟨x, 3, none⟩ = some (.int .i64 0) := Kx.out.cell 3
  have d3 : w4.cell? ⟨y, 3, none⟩ = some (.int .i64 0) := Ky.out.cell 3
  have c4 : w4.cell? ⟨x, 4, none⟩ = some (.int .i64 0) := Kx.out.cell 4
  have d4 : w4.cell? ⟨y, 4, none⟩ = some (.int .i64 0) := Ky.out.cell 4
  have c5 : w4.cell? ⟨x, 5, none⟩ = some (.string ⟨#[]⟩) := Kx.out.cell 5
  have d5 : w4.cell? ⟨y, 5, none⟩ = some (.string ⟨#[]⟩) := Ky.out.cell 5
  have c6 : w4.cell? ⟨x, 6, none⟩ = some (.slice none 0 0) := Kx.out.cell 6
  have d6 : w4.cell? ⟨y, 6, none⟩ = some (.slice none 0 0) := Ky.out.cell 6
  have c7 : w4.cell? ⟨x, 7, none⟩ = some (.slice none 0 0) := Kx.out.cell 7
  have d7 : w4.cell? ⟨y, 7, none⟩ = some (.slice none 0 0) := Ky.out.cell 7
  have c8 : w4.cell? ⟨x, 8, none⟩ = some (.slice none 0 0) := Kx.out.cell 8
  have d8 : w4.cell? ⟨y, 8, none⟩ = some (.slice none 0 0) := Ky.out.cell 8
  have c9 : w4.cell? ⟨x, 9, none⟩ = some (.slice none 0 0) := Kx.out.cell 9
  have d9 : w4.cell? ⟨y, 9, none⟩ = some (.slice none 0 0) := Ky.out.cell 9
  have c10 : w4.cell? ⟨x, 10, none⟩ = some (.slice none 0 0) := Kx.out.cell 10
  have d10 : w4.cell? ⟨y, 10, none⟩ = some (.slice none 0 0) := Ky.out.cell 10
  have c11 : w4.cell? ⟨x, 11, none⟩ = some (.int .i64 0) := Kx.out.cell 11
  have d11 : w4.cell? ⟨y, 11, none⟩ = some (.int .i64 0) := Ky.out.cell 11
  have c12 : w4.cell? ⟨x, 12, none⟩ = some (.int .i64 0) := Kx.out.cell 12
  have d12 : w4.cell? ⟨y, 12, none⟩ = some (.int .i64 0) := Ky.out.cell 12
  have c13 : w4.cell? ⟨x, 13, none⟩ = some (.int .i64 0) := Kx.out.cell 13
  have d13 : w4.cell? ⟨y, 13, none⟩ = some (.int .i64 0) := Ky.out.cell 13
  have c14 : w4.cell? ⟨x, 14, none⟩ = some (.int .i64 0) := Kx.out.cell 14
  have d14 : w4.cell? ⟨y, 14, none⟩ = some (.int .i64 0) := Ky.out.cell 14
  go_wp2_with fail
  refine (same7 _).mono ?_; rintro e w5 ⟨rfl, h5⟩
  replace HB := Lib.hid (bNext HB.out h5)
  clear h5 c0 d0 c1 d1 c2 d2 c3 d3 c4 d4 c5 d5 c6 d6 c7 d7 c8 d8 c9 d9 c10 d10 c11 d11 c12 d12 c13 d13 c14 d14
  go_wp2_with fail
  go_ret
  exact ⟨by simp, HB.out⟩
end Go.Proofs.Ytfpjdmplepepjaa
