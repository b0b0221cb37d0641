/- Slices that came in, as a walk wants them: each element's cell, if there is one. -/
import Derived.Test.YtkhmelpbndfbdaaLaw
import Derived.SliceStrings
namespace Go.Proofs.Ytkhmelpbndfbdaa
open Go.ChangeShapes Go.WideShapes Go.ChangeAt Go.RowKit

/-- A slice that came in: its elements are xs. -/
def SlAt (w : World) (ao : Option Addr) (xs : List Value) : Prop := ∀ k, k < xs.length → ∃ b off, ao = some ⟨b, off, none⟩ ∧ b < w.heap.size ∧ ∀ j, j < xs.length → w.cell? ⟨b, off + j, none⟩ = xs[j]?

section
variable {H : Type} {enc : TypeId × Value → H} {P : Program} {w : World} {base : Nat} {spare : Nat → Bool} {held : Bool}

theorem slAt_of {α : Type} {a : Addr} (f : α → Value) (zs : List α) (d : α) (h : ∀ i, i < zs.length → w.cell? (a.add i) = some (f (zs.getD i d))) : SlAt w (some a) (zs.map f) := by
  intro k hk
  rw [List.length_map] at hk
  obtain ⟨b, off, spot⟩ := a
  have hspot : spot = none := by simpa [Addr.add] using World.cell?_spot (h 0 (by omega))
  subst hspot
  have hc : ∀ j, j < zs.length → w.cell? ⟨b, off + j, none⟩ = some (f (zs.getD j d)) := fun j hj => by rw [← Go.WideShapes.add_plain]; exact h j hj
  refine ⟨b, off, rfl, World.block_lt_of_cell? _ _ (hc k hk), fun j hj => ?_⟩
  rw [List.length_map] at hj
  rw [hc j hj]
  simp [hj]

theorem SlAt.take {ao : Option Addr} {xs : List Value} (n : Nat) (h : SlAt w ao xs) : SlAt w ao (xs.take n) := by
  intro k hk
  rw [List.length_take] at hk
  obtain ⟨b, off, h1, h2, h3⟩ := h k (by omega)
  refine ⟨b, off, h1, h2, fun j hj => ?_⟩
  rw [List.length_take] at hj
  rw [h3 j (by omega), List.getElem?_take, if_pos (by omega)]

theorem SlAt.below {w' : World} {ao : Option Addr} {xs : List Value} (h : SlAt w ao xs) (hb : Below w.heap.size w w') : SlAt w' ao xs := by
  intro k hk
  obtain ⟨b, off, h1, h2, h3⟩ := h k hk
  exact ⟨b, off, h1, Nat.lt_of_lt_of_le h2 hb.size, fun j hj => (hb.cell (p := ⟨b, off + j, none⟩) h2).trans (h3 j hj)⟩

theorem open_strs {t e : TypeId} {v : Value} {d : DataW H} {ps : List MemPlace} (ht : P.underlying t = some (.slice e)) (he : P.underlying e = some .string) (hc : P.cellsOf e = 1)
    (h : DataW.Trod enc P w base spare held t v d ps) (hv : ∃ a len cap, v = .slice a len cap) :
    ∃ (ao : Option Addr) (len cap : Nat) (ss : List ByteArray), v = .slice ao len cap ∧ ss.length = len ∧ len ≤ cap ∧ cap ≤ maxLen ∧ SlAt w ao (ss.map Value.string) := by
  obtain ⟨ao, len, cap, rfl⟩ := hv
  obtain ⟨fuel, hf⟩ := h
  rcases open_strings ht he hc hf with ⟨hcs, _⟩ | ⟨a, len', cap', ss, hcs, _, hl, hm, hz, _, hcell, _⟩
  · simp [Value.cells] at hcs
    obtain ⟨rfl, rfl, rfl⟩ := hcs
    exact ⟨none, 0, 0, [], rfl, rfl, Nat.le_refl _, Nat.zero_le _, fun k hk => by simp at hk⟩
  · simp [Value.cells] at hcs
    obtain ⟨rfl, rfl, rfl⟩ := hcs
    have hle : len ≤ ss.length := by rw [hz]; split <;> omega
    refine ⟨some a, len, cap, ss.take len, rfl, by rw [List.length_take]; omega, hl, hm, ?_⟩
    rw [List.map_take]
    exact (slAt_of Value.string ss ByteArray.empty hcell).take len

theorem open_ints2 {t e : TypeId} {k : IntKind} {v : Value} {d : DataW H} {ps : List MemPlace} (ht : P.underlying t = some (.slice e)) (he : P.underlying e = some (.int k)) (hc : P.cellsOf e = 1)
    (h : DataW.Trod enc P w base spare held t v d ps) (hv : ∃ a len cap, v = .slice a len cap) :
    ∃ (ao : Option Addr) (len cap : Nat) (zs : List Int), v = .slice ao len cap ∧ zs.length = len ∧ len ≤ cap ∧ cap ≤ maxLen ∧ SlAt w ao (zs.map (Value.int k)) ∧ ∀ n ∈ zs, (Lit.int k n).wf = true := by
  obtain ⟨ao, len, cap, rfl⟩ := hv
  obtain ⟨fuel, hf⟩ := h
  rcases open_ints ht he hc hf with ⟨hcs, _⟩ | ⟨a, len', cap', zs, hcs, _, hl, hm, hz, _, hcell, hwf⟩
  · simp [Value.cells] at hcs
    obtain ⟨rfl, rfl, rfl⟩ := hcs
    exact ⟨none, 0, 0, [], rfl, rfl, Nat.le_refl _, Nat.zero_le _, (fun k hk => by simp at hk), fun n hn => by simp at hn⟩
  · simp [Value.cells] at hcs
    obtain ⟨rfl, rfl, rfl⟩ := hcs
    have hle : len ≤ zs.length := by rw [hz]; split <;> omega
    refine ⟨some a, len, cap, zs.take len, rfl, by rw [List.length_take]; omega, hl, hm, ?_, fun n hn => hwf n (List.mem_of_mem_take hn)⟩
    rw [List.map_take]
    exact (slAt_of (Value.int k) zs 0 hcell).take len
end
end Go.Proofs.Ytkhmelpbndfbdaa
