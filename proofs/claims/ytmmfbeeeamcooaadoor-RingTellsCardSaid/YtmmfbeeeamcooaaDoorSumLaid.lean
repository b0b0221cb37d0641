/- The table of four doublings, as the rows list it and as a world holds it. -/
import Derived.Test.YtmmfbeeeamcooaaDoorSum
import Derived.Test.YtmmfbeeeamcooaaDoorLaw
namespace Go.Proofs.YtmmfbeeeamcooaaDoor
open Go.RowKit

theorem gTab : Tryd.prog.globalNamed "caravan/fold.table" = some 0 := by kernel_rfl
theorem gTabType : (Tryd.prog.globals[0]?).map (·.type) = some 54 := by kernel_rfl
theorem cellsTab : Tryd.prog.cellsOf 54 = 16 := by kernel_rfl
theorem cellsU16 : Tryd.prog.cellsOf 53 = 1 := by kernel_rfl

theorem tab_of {W : World} (h : laidMetH Tryd.prog [("caravan/fold.table", Rows.laid_caravan_fold_table)] W) : Tab W := by
  have ht : Lib.TabIs Tryd.prog W "caravan/fold.table" .u16 [0, 4129, 8258, 12387, 16516, 20645, 24774, 28903, 33032, 37161, 41290, 45419, 49548, 53677, 57806, 61935] :=
    Lib.tabIs_of_head (rest := []) gTab gTabType Tryd.underlying54 Tryd.underlying53 cellsU16 cellsTab h
  have hc : ∀ i : Fin 16, W.cell? ⟨0, i.val, none⟩ = some (.int .u16 ([0, 4129, 8258, 12387, 16516, 20645, 24774, 28903, 33032, 37161, 41290, 45419, 49548, 53677, 57806, 61935].getD i.val 0)) :=
    fun i => ht.cell gTab i.val (by simp)
  have h0 := hc 0
  refine ⟨fun i hi => ?_, ?_⟩
  · have := hc ⟨i, hi⟩
    rw [this]
    have e : ∀ j : Fin 16, ([0, 4129, 8258, 12387, 16516, 20645, 24774, 28903, 33032, 37161, 41290, 45419, 49548, 53677, 57806, 61935] : List Int).getD j.val 0 = (Pl.tab j.val : Nat) := by decide
    rw [e ⟨i, hi⟩]
  · rcases Nat.lt_or_ge 0 W.heap.size with h1 | h1
    · exact h1
    · have h2 : W.heap[0]? = none := Array.getElem?_eq_none_iff.2 h1
      simp [World.cell?, h2] at h0

/-- A world for the witness. -/
noncomputable def laidWorld (os : Os) : World :=
  { World.holding Tryd.prog os ⟨#[], #[], []⟩ with heap := (World.holding Tryd.prog os ⟨#[], #[], []⟩).heap.modify 0 fun
      | .cells _ t frozen => .cells #[.int .u16 0, .int .u16 4129, .int .u16 8258, .int .u16 12387, .int .u16 16516, .int .u16 20645, .int .u16 24774, .int .u16 28903, .int .u16 33032, .int .u16 37161, .int .u16 41290, .int .u16 45419, .int .u16 49548, .int .u16 53677, .int .u16 57806, .int .u16 61935] t frozen
      | o => o }
end Go.Proofs.YtmmfbeeeamcooaaDoor
