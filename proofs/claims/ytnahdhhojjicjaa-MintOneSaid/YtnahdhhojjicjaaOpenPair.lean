/- A parameter that is two lists of numbers, by value. -/
import Derived.Test.YtnahdhhojjicjaaSlices
namespace Go.Proofs.Ytnahdhhojjicjaa
open Go.ChangeShapes Go.WideShapes Go.ChangeAt Go.RowKit
section
variable {H : Type} {enc : TypeId × Value → H} {P : Program} {w : World} {base : Nat} {spare : Nat → Bool} {held : Bool}

theorem cells_ints {t e : TypeId} {k : IntKind} {fuel : Nat} {cs : List Value} {x : DataW H × List MemPlace} (ht : P.underlying t = some (.slice e)) (he : P.underlying e = some (.int k)) (hc : P.cellsOf e = 1)
    (hf : DataW.trod enc P w base spare held fuel t cs = some x) :
    ∃ (ao : Option Addr) (len cap : Nat) (zs : List Int), cs = [.slice ao len cap] ∧ zs.length = len ∧ len ≤ cap ∧ cap ≤ maxLen ∧ SlAt w ao (zs.map (Value.int k)) := by
  rcases open_ints ht he hc hf with ⟨rfl, _⟩ | ⟨a, len, cap, zs, rfl, _, hl, hm, hz, _, hcell, _⟩
  · exact ⟨none, 0, 0, [], rfl, rfl, Nat.le_refl _, Nat.zero_le _, fun k hk => by simp at hk⟩
  · have hle : len ≤ zs.length := by rw [hz]; split <;> omega
    refine ⟨some a, len, cap, zs.take len, rfl, by rw [List.length_take]; omega, hl, hm, ?_⟩
    rw [List.map_take]
    exact (slAt_of (Value.int k) zs 0 hcell).take len

theorem open_pair {r : Reach} {b0 : Nat} {t t1 e : TypeId} {k : IntKind} {v : Value} {d : DataW H} {p : List MemPlace} (ht : P.underlying t = some (.array 2 t1)) (h1 : P.underlying t1 = some (.slice e)) (he : P.underlying e = some (.int k)) (hC : P.cellsOf t = 2) (hE1 : P.cellsOf t1 = 1) (hE : P.cellsOf e = 1)
    (hv : Value.okWide P w r b0 t v) (h : DataW.Trod enc P w base spare held t v d p) :
    ∃ (a0 a1 : Option Addr) (l0 l1 c0 c1 : Nat) (ss0 ss1 : List Int), v = .agg #[.slice a0 l0 c0, .slice a1 l1 c1] ∧ ss0.length = l0 ∧ ss1.length = l1 ∧ l0 ≤ c0 ∧ l1 ≤ c1 ∧ SlAt w a0 (ss0.map (Value.int k)) ∧ SlAt w a1 (ss1.map (Value.int k)) := by
  obtain ⟨cs, rfl, hsz⟩ := okWide_array2 ht hv
  obtain ⟨c0, c1, rfl⟩ := Joins.array2 (hsz.trans hC)
  obtain ⟨fuel, hf⟩ := h
  obtain ⟨xs, m, _, _, _, hx, hi⟩ := DataW.trod_array ht hf
  have h0 := hi 0 (by omega)
  have h2 := hi 1 (by omega)
  rw [hE1] at h0 h2
  obtain ⟨y0, hy0⟩ : ∃ y, xs[0]? = some y := ⟨xs[0]'(by omega), by simp⟩
  obtain ⟨y1, hy1⟩ : ∃ y, xs[1]? = some y := ⟨xs[1]'(by omega), by simp⟩
  rw [hy0] at h0
  rw [hy1] at h2
  obtain ⟨a0, l0, k0, s0, e0, g1, g2, _, g4⟩ := cells_ints h1 he hE h0
  obtain ⟨a1, l1, k1, s1, e1, f1, f2, _, f4⟩ := cells_ints h1 he hE h2
  simp [Value.cells] at e0 e1
  exact ⟨a0, a1, l0, l1, k0, k1, s0, s1, by rw [e0, e1], g1, f1, g2, f2, g4, f4⟩
end
end Go.Proofs.Ytnahdhhojjicjaa
