/- The examples of chapter 3. -/
import Derived.Test.YthhcooabfgegaaaDotSort
import Derived.Test.YthhcooabfgegaaaDotFind
namespace Go.Proofs.Ythhcooabfgegaaa
open Go.RowKit Go.Shelf Go.Lib Go.Sort

theorem SlP.ofBlk {w : World} {b : Nat} {t : TypeId} {ps : List (Int × Int)} (h : Blk w b (flatD ps).toArray t) : SlP w (some ⟨b, 0, none⟩) ps := by
  intro k _
  refine ⟨b, 0, rfl, h.lt, fun j p hj => ?_⟩
  obtain ⟨g0, g1⟩ := flatD_get ps j p hj
  rw [h.cell, h.cell, Nat.zero_add]
  simp only [List.getElem?_toArray]
  exact ⟨g0, g1⟩
theorem ex_sort : sortD [(2, 1), (1, 9), (2, 1)] = [(1, 9), (2, 1)] := by decide +kernel
theorem ex_low : lowD [(1, 9), (2, 1)] (2, 0) = 1 := by decide +kernel
theorem ex_asc : Asc [(1, 9), (2, 1)] := by decide +kernel

set_option maxRecDepth 100000 in
set_option maxHeartbeats 1000000 in
theorem awake_any (w : World) :
    Calls Try.prog 9 #[] w fun e w' => e = .returned (.bool true) ∧ Below w.heap.size w w' := by
  go_enter Try.func9, Try.ntmps9
  go_wp2_with fail
  have hsl : SlP (w.alloc (.cells #[.int .i64 2, .int .i64 1, .int .i64 1, .int .i64 9, .int .i64 2, .int .i64 1] 23)) (some ⟨w.heap.size, 0, none⟩) [(2, 1), (1, 9), (2, 1)] := SlP.ofBlk (Blk.new _ _ _)
  refine (sort_any _ [(2, 1), (1, 9), (2, 1)] 3 3 rfl _ hsl (by decide) (fun h => by cases h)).mono ?_; rintro e w1 ⟨ao, cap, rfl, hcap, hsl1, _, _, hB⟩
  rw [ex_sort] at hsl1 hcap ⊢
  have hB1 := (bOld (w := w) (.cells #[.int .i64 2, .int .i64 1, .int .i64 1, .int .i64 9, .int .i64 2, .int .i64 1] 23))
  replace hB1 := bNext hB1 hB
  obtain ⟨b, off, rfl, hbl⟩ := hsl1.base (by decide)
  have hcap2 : 2 ≤ cap := hcap
  have HSL := Lib.hid hsl1
  clear hsl hsl1 hcap hB
  rw [show ([(1, 9), (2, 1)] : List (Int × Int)).length = 2 from rfl]
  go_wp2_with fail
  refine (find_any _ [(1, 9), (2, 1)] 2 cap rfl 2 0 _ HSL.out (by decide)).mono ?_; rintro e w2 ⟨j, _, rfl, hj, hB2⟩
  obtain rfl : j = 1 := (hj ex_asc).trans ex_low
  have hsl2 := HSL.out.below hB2
  obtain ⟨b', off', h1, h2, h3⟩ := hsl2 0 (by decide)
  cases h1
  obtain ⟨c0, c1⟩ := h3 0 (1, 9) rfl
  obtain ⟨c2, c3⟩ := h3 1 (2, 1) rfl
  simp only at c0 c1 c2 c3
  rw [Nat.zero_mul, Nat.add_zero] at c0 c1
  rw [Nat.one_mul] at c2 c3
  rw [show decide (([(1, 9), (2, 1)] : List (Int × Int))[1]? = some (2, 0)) = false from by decide +kernel]
  clear h3 hj
  go_wp2_with fail
  go_ret
  exact ⟨rfl, bNext hB1 hB2⟩
end Go.Proofs.Ythhcooabfgegaaa
