/- Slices that came in, as a walk wants them: each element's cell, if there is one. -/
import Derived.Test.YtfpjdmplepepjaaLaw
import Derived.SliceStrings
import Derived.Deep.Grids
import Derived.Lib.SmallJoins
namespace Go.Proofs.Ytfpjdmplepepjaa
open Go.ChangeShapes Go.WideShapes Go.ChangeAt Go.RowKit

/-- A slice that came in: its elements are xs. -/
def SlAt (w : World) (ao : Option Addr) (xs : List Value) : Prop := ∀ k, k < xs.length → ∃ b off, ao = some ⟨b, off, none⟩ ∧ b < w.heap.size ∧ ∀ j, j < xs.length → w.cell? ⟨b, off + j, none⟩ = xs[j]?

section
variable {H : Type} {enc : TypeId × Value → H} {P : Program} {w : World} {base : Nat} {spare : Nat → Bool} {held : Bool}

theorem slAt_of {α : Type} {a : Addr} (f : α → Value) (zs : List α) (d : α) (h : ∀ i, i < zs.length → w.cell? (a.add i) = some (f (zs.getD i d))) : SlAt w (some a) (zs.map f) := by
  intro k hk
  rw [List.length_map] at hk
  obtain ⟨b, off, spot⟩ := a
  have hspot : spot = none := by simpa [Addr.add] using World.cell?_spot (h 0 (by omega))
  subst hspot
  have hc : ∀ j, j < zs.length → w.cell? ⟨b, off + j, none⟩ = some (f (zs.getD j d)) := fun j hj => by rw [← Go.WideShapes.add_plain]; exact h j hj
  refine ⟨b, off, rfl, World.block_lt_of_cell? _ _ (hc k hk), fun j hj => ?_⟩
  rw [List.length_map] at hj
  rw [hc j hj]
  simp [hj]

theorem SlAt.take {ao : Option Addr} {xs : List Value} (n : Nat) (h : SlAt w ao xs) : SlAt w ao (xs.take n) := by
  intro k hk
  rw [List.length_take] at hk
  obtain ⟨b, off, h1, h2, h3⟩ := h k (by omega)
  refine ⟨b, off, h1, h2, fun j hj => ?_⟩
  rw [List.length_take] at hj
  rw [h3 j (by omega), List.getElem?_take, if_pos (by omega)]

theorem SlAt.below {w' : World} {ao : Option Addr} {xs : List Value} (h : SlAt w ao xs) (hb : Below w.heap.size w w') : SlAt w' ao xs := by
  intro k hk
  obtain ⟨b, off, h1, h2, h3⟩ := h k hk
  exact ⟨b, off, h1, Nat.lt_of_lt_of_le h2 hb.size, fun j hj => (hb.cell (p := ⟨b, off + j, none⟩) h2).trans (h3 j hj)⟩

theorem open_strs {t e : TypeId} {v : Value} {d : DataW H} {ps : List MemPlace} (ht : P.underlying t = some (.slice e)) (he : P.underlying e = some .string) (hc : P.cellsOf e = 1)
    (h : DataW.Trod enc P w base spare held t v d ps) (hv : ∃ a len cap, v = .slice a len cap) :
    ∃ (ao : Option Addr) (len cap : Nat) (ss : List ByteArray), v = .slice ao len cap ∧ ss.length = len ∧ len ≤ cap ∧ cap ≤ maxLen ∧ SlAt w ao (ss.map Value.string) := by
  obtain ⟨ao, len, cap, rfl⟩ := hv
  obtain ⟨fuel, hf⟩ := h
  rcases open_strings ht he hc hf with ⟨hcs, _⟩ | ⟨a, len', cap', ss, hcs, _, hl, hm, hz, _, hcell, _⟩
  · simp [Value.cells] at hcs
    obtain ⟨rfl, rfl, rfl⟩ := hcs
    exact ⟨none, 0, 0, [], rfl, rfl, Nat.le_refl _, Nat.zero_le _, fun k hk => by simp at hk⟩
  · simp [Value.cells] at hcs
    obtain ⟨rfl, rfl, rfl⟩ := hcs
    have hle : len ≤ ss.length := by rw [hz]; split <;> omega
    refine ⟨some a, len, cap, ss.take len, rfl, by rw [List.length_take]; omega, hl, hm, ?_⟩
    rw [List.map_take]
    exact (slAt_of Value.string ss ByteArray.empty hcell).take len

theorem open_ints2 {t e : TypeId} {k : IntKind} {v : Value} {d : DataW H} {ps : List MemPlace} (ht : P.underlying t = some (.slice e)) (he : P.underlying e = some (.int k)) (hc : P.cellsOf e = 1)
    (h : DataW.Trod enc P w base spare held t v d ps) (hv : ∃ a len cap, v = .slice a len cap) :
    ∃ (ao : Option Addr) (len cap : Nat) (zs : List Int), v = .slice ao len cap ∧ zs.length = len ∧ len ≤ cap ∧ cap ≤ maxLen ∧ SlAt w ao (zs.map (Value.int k)) ∧ ∀ n ∈ zs, (Lit.int k n).wf = true := by
  obtain ⟨ao, len, cap, rfl⟩ := hv
  obtain ⟨fuel, hf⟩ := h
  rcases open_ints ht he hc hf with ⟨hcs, _⟩ | ⟨a, len', cap', zs, hcs, _, hl, hm, hz, _, hcell, hwf⟩
  · simp [Value.cells] at hcs
    obtain ⟨rfl, rfl, rfl⟩ := hcs
    exact ⟨none, 0, 0, [], rfl, rfl, Nat.le_refl _, Nat.zero_le _, (fun k hk => by simp at hk), fun n hn => by simp at hn⟩
  · simp [Value.cells] at hcs
    obtain ⟨rfl, rfl, rfl⟩ := hcs
    have hle : len ≤ zs.length := by rw [hz]; split <;> omega
    refine ⟨some a, len, cap, zs.take len, rfl, by rw [List.length_take]; omega, hl, hm, ?_, fun n hn => hwf n (List.mem_of_mem_take hn)⟩
    rw [List.map_take]
    exact (slAt_of (Value.int k) zs 0 hcell).take len

theorem open_bools2 {t e : TypeId} {v : Value} {d : DataW H} {ps : List MemPlace} (ht : P.underlying t = some (.slice e)) (he : P.underlying e = some .bool) (hc : P.cellsOf e = 1)
    (h : DataW.Trod enc P w base (fun _ => true) held t v d ps) (hv : ∃ a len cap, v = .slice a len cap) :
    ∃ (ao : Option Addr) (len cap : Nat) (bs : List Bool), v = .slice ao len cap ∧ bs.length = len ∧ len ≤ cap ∧ cap ≤ maxLen ∧ SlAt w ao (bs.map Value.bool) := by
  obtain ⟨ao, len, cap, rfl⟩ := hv
  obtain ⟨fuel, hf⟩ := h
  rcases Deep.open_bools ht he hc hf with ⟨hcs, _⟩ | ⟨a, len', cap', B, hcs, _, hl, hm, _, hcell⟩
  · simp [Value.cells] at hcs
    obtain ⟨rfl, rfl, rfl⟩ := hcs
    exact ⟨none, 0, 0, [], rfl, rfl, Nat.le_refl _, Nat.zero_le _, (fun k hk => by simp at hk)⟩
  · simp [Value.cells] at hcs
    obtain ⟨rfl, rfl, rfl⟩ := hcs
    refine ⟨some a, len, cap, (List.range len).map B, rfl, by simp, hl, hm, ?_⟩
    refine slAt_of Value.bool _ false fun i hi => ?_
    rw [List.length_map, List.length_range] at hi
    rw [hcell i (by omega)]
    simp [hi]

theorem okWide_array2 {r : Reach} {b0 : Nat} {n : Nat} {t e : TypeId} {v : Value} (ht : P.underlying t = some (.array n e)) (h : Value.okWide P w r b0 t v) : ∃ cs, v = .agg cs ∧ cs.size = P.cellsOf t := by
  simp only [Value.okWide, ht] at h
  obtain ⟨cs, h1, h2, _⟩ := h
  exact ⟨cs, h1, h2⟩

/-- An array of two integers, by value. -/
theorem open_two {r : Reach} {b0 : Nat} {t e : TypeId} {k : IntKind} {v : Value} {d : DataW H} {p : List MemPlace} (ht : P.underlying t = some (.array 2 e)) (he : P.underlying e = some (.int k)) (hC : P.cellsOf t = 2) (hE : P.cellsOf e = 1)
    (hv : Value.okWide P w r b0 t v) (h : DataW.Trod enc P w base spare held t v d p) :
    ∃ q0 q1 : Int, v = .agg #[.int k q0, .int k q1] ∧ (Lit.int k q0).wf = true ∧ (Lit.int k q1).wf = true := by
  obtain ⟨cs, rfl, hsz⟩ := okWide_array2 ht hv
  obtain ⟨c0, c1, rfl⟩ := Joins.array2 (hsz.trans hC)
  obtain ⟨fuel, hf⟩ := h
  obtain ⟨xs, m, _, _, _, hx, hi⟩ := DataW.trod_array ht hf
  have h0 := hi 0 (by omega)
  have h1 := hi 1 (by omega)
  rw [hE] at h0 h1
  obtain ⟨y0, hy0⟩ : ∃ y, xs[0]? = some y := ⟨xs[0]'(by omega), by simp⟩
  obtain ⟨y1, hy1⟩ : ∃ y, xs[1]? = some y := ⟨xs[1]'(by omega), by simp⟩
  rw [hy0] at h0
  rw [hy1] at h1
  obtain ⟨a, e0, _, wa⟩ := DataW.trod_int he h0
  obtain ⟨b, e1, _, wb⟩ := DataW.trod_int he h1
  simp [Value.cells] at e0 e1
  exact ⟨a, b, by rw [e0, e1], wa, wb⟩
end
end Go.Proofs.Ytfpjdmplepepjaa
