/- fold.Cut where its answer is known. -/
import Derived.Test.YtkglfnjgneofdaaDoorCut
namespace Go.Proofs.YtkglfnjgneofdaaDoor
open Go.RowKit

theorem cut_is {b : List UInt8} {n : Nat} {x : Int} (s : ByteArray) (w w0 : World) (hw : w = w0.drew) (hs : s.size ≤ 1000000) (ht : Tab w0) (h : cutL (bl s) = (b, n, x)) :
    Calls Tryd.prog 53 #[.string s] w fun e w' => e = .returned (.tuple #[.string (ofL b), .int .i64 (n : Nat), .int .i64 x]) ∧ Below w0.heap.size w0 w' := by
  subst hw
  refine (cut_any s w0.drew hs ⟨ht.cells, ht.size⟩).mono ?_
  rintro e w' ⟨rfl, hB⟩
  rw [h]
  exact ⟨rfl, (Below.refl _ _).drew.trans hB⟩
theorem cut_is0 {b : List UInt8} {n : Nat} {x : Int} (s : ByteArray) (w : World) (hs : s.size ≤ 1000000) (ht : Tab w) (h : cutL (bl s) = (b, n, x)) :
    Calls Tryd.prog 53 #[.string s] w fun e w' => e = .returned (.tuple #[.string (ofL b), .int .i64 (n : Nat), .int .i64 x]) ∧ Below w.heap.size w w' := by
  refine (cut_any s w hs ht).mono ?_
  rintro e w' ⟨rfl, hB⟩
  rw [h]
  exact ⟨rfl, hB⟩

end Go.Proofs.YtkglfnjgneofdaaDoor
