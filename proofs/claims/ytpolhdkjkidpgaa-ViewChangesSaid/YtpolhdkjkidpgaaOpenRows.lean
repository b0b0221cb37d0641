/- Slices of structs that came in: each row's cells. -/
import Derived.Test.YtpolhdkjkidpgaaSlices
import Derived.Deep.Slices
import Derived.Deep.Strs
namespace Go.Proofs.Ytpolhdkjkidpgaa
open Go.ChangeShapes Go.WideShapes Go.ChangeAt Go.RowKit
section
variable {H : Type} {enc : TypeId × Value → H} {P : Program} {w : World} {base : Nat} {spare : Nat → Bool} {held : Bool}

/-- A slice of rows of c cells, opened: each row's cells. -/
theorem open_rows {t e : TypeId} {c : Nat} {v : Value} {d : DataW H} {ps : List MemPlace} (ht : P.underlying t = some (.slice e)) (hc : P.cellsOf e = c) (hc0 : 0 < c)
    (h : DataW.Trod enc P w base spare held t v d ps) (hv : ∃ a len cap, v = .slice a len cap) :
    ∃ (ao : Option Addr) (len cap : Nat) (Cs : Nat → List Value), v = .slice ao len cap ∧ len ≤ cap ∧ cap ≤ maxLen ∧ ∀ k, k < len → ∃ b off, ao = some ⟨b, off, none⟩ ∧ b < w.heap.size ∧ (Cs k).length = c ∧
      (∀ j, j < c → w.cell? ⟨b, off + (k * c + j), none⟩ = (Cs k)[j]?) ∧ ∃ n x, DataW.trod enc P w base spare held n e (Cs k) = some x := by
  obtain ⟨ao, len, cap, rfl⟩ := hv
  obtain ⟨fuel, hf⟩ := h
  rcases Deep.open_slice ht hf with ⟨hcs, _⟩ | ⟨a, len', cap', m, n, D, Pl, hcs, _, hl, hm, hmm, _, hx⟩
  · simp [Value.cells] at hcs
    obtain ⟨rfl, rfl, rfl⟩ := hcs
    exact ⟨none, 0, 0, fun _ => [], rfl, Nat.le_refl _, Nat.zero_le _, fun k hk => absurd hk (Nat.not_lt_zero _)⟩
  · simp [Value.cells] at hcs
    obtain ⟨rfl, rfl, rfl⟩ := hcs
    have hlm : len ≤ m := by rw [hmm]; split <;> omega
    obtain ⟨Cs, hCs⟩ := Deep.choose_lt (fun i (hi : i < m) => hx i hi)
    refine ⟨some a, len, cap, Cs, rfl, hl, hm, fun k hk => ?_⟩
    obtain ⟨h1, h2⟩ := hCs k (by omega)
    rw [hc] at h1
    obtain ⟨_, hlen, hcell⟩ := World.cells?_some h1
    obtain ⟨b, off, spot⟩ := a
    have e0 := hcell 0 hc0
    rw [Deep.add_add] at e0
    have hg : (Cs k)[0]? = some ((Cs k)[0]'(by omega)) := by simp
    have hspot : spot = none := by
      obtain ⟨g1, _⟩ := hCs 0 (by omega)
      rw [hc] at g1
      obtain ⟨_, gl, gc⟩ := World.cells?_some g1
      have g0 := gc 0 hc0
      rw [Deep.add_add, show (Cs 0)[0]? = some ((Cs 0)[0]'(by omega)) from by simp] at g0
      simpa [Addr.add] using World.cell?_spot g0
    subst hspot
    refine ⟨b, off, rfl, ?_, hlen, fun j hj => ?_, _, _, h2⟩
    · rw [hg] at e0
      exact World.block_lt_of_cell? _ _ (by rw [add_plain] at e0; exact e0)
    · have := hcell j hj
      rw [Deep.add_add, add_plain] at this
      exact this
end
end Go.Proofs.Ytpolhdkjkidpgaa
