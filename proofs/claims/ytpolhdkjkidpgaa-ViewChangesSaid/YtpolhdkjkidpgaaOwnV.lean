/- A row of strings that a call owns, as a slice; are two lists of texts the same? -/
import Derived.Test.YtpolhdkjkidpgaaSlices
import Derived.Deep.AppendLies
import Derived.OwnWalk
namespace Go.Proofs.Ytpolhdkjkidpgaa
open Go.RowKit

theorem SlAt.ownV {w : World} {base : Nat} {t : TypeId} {v : Value} {xs : List Value} (h : w.ownsRow base t 1 v xs.length xs) :
    ∃ ao cap, v = .slice ao xs.length cap ∧ xs.length ≤ cap ∧ SlAt w ao xs := by
  rcases h.2 with ⟨rfl, h0⟩ | ⟨g, cap, cur, rfl, _, hg, hc, _, _, ht⟩
  · exact ⟨none, 0, by rw [h0], by omega, fun k hk => by omega⟩
  · refine ⟨some ⟨g, 0, none⟩, cap, rfl, hc, fun k _ => ⟨g, 0, rfl, lt_of_block hg, fun j hj => ?_⟩⟩
    rw [Nat.zero_add, ← ht, List.getElem?_take, if_pos (by omega)]
    simp [World.cell?, hg]

theorem SlAt.ownN {w : World} {base : Nat} {t : TypeId} {v : Value} {xs : List Value} (h : w.ownsRow base t 1 v xs.length xs) :
    ∃ ao cap, v = .slice ao xs.length cap ∧ xs.length ≤ cap ∧ SlAt w ao xs ∧ ∀ a, ao = some a → base ≤ a.block := by
  rcases h.2 with ⟨rfl, h0⟩ | ⟨g, cap, cur, rfl, hb, hg, hc, _, _, ht⟩
  · exact ⟨none, 0, by rw [h0], by omega, (fun k hk => by omega), fun a ha => by cases ha⟩
  · refine ⟨some ⟨g, 0, none⟩, cap, rfl, hc, (fun k _ => ⟨g, 0, rfl, lt_of_block hg, fun j hj => ?_⟩), fun a ha => by cases ha; exact hb⟩
    rw [Nat.zero_add, ← ht, List.getElem?_take, if_pos (by omega)]
    simp [World.cell?, hg]
/-- A row that lies above what may turn is as it was. -/
theorem SlAt.above {w w' : World} {ao : Option Addr} {xs : List Value} {B : Nat} (h : SlAt w ao xs) (hn : ∀ a, ao = some a → B ≤ a.block) (hs : w.heap.size ≤ w'.heap.size) (hk : ∀ k, k < w.heap.size → B ≤ k → w'.heap[k]? = w.heap[k]?) : SlAt w' ao xs := by
  intro k hk'
  obtain ⟨b, off, h1, h2, h3⟩ := h k hk'
  refine ⟨b, off, h1, Nat.lt_of_lt_of_le h2 hs, fun j hj => ?_⟩
  rw [← h3 j hj]
  simp only [World.cell?, hk b h2 (hn _ h1)]

/-- A slice of strings that came in. -/
theorem SlAt.str {w : World} {ao : Option Addr} {ss : List ByteArray} (h : SlAt w ao (ss.map Value.string)) (k : Nat) (hk : k < ss.length) :
    ∃ b off, ao = some ⟨b, off, none⟩ ∧ b < w.heap.size ∧ w.cell? ⟨b, off + k, none⟩ = some (.string ss[k]) := by
  obtain ⟨b, off, h1, h2, h3⟩ := h k (by simpa using hk)
  refine ⟨b, off, h1, h2, ?_⟩
  rw [h3 k (by simpa using hk)]
  simp [hk]

theorem own_below {w w' : World} {base : Nat} {e : TypeId} {sz : Nat} {v : Value} {n : Nat} {xs : List Value} (h : w.ownsRow base e sz v n xs) (hb : Below w.heap.size w w') : w'.ownsRow base e sz v n xs :=
  h.kept (row := none) ⟨hb.os, hb.tape, hb.output, hb.size, fun k hk _ => hb.block k hk⟩ (by cases v.ownBlock <;> simp)

theorem infoStr : (Try.prog.info? 9).map (fun i => (i.zero, i.size, i.bytes)) = some (some (.string .empty), 1, 16) := by kernel_rfl
end Go.Proofs.Ytpolhdkjkidpgaa
