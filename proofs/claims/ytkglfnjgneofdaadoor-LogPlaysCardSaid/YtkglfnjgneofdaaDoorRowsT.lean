/- A slice of structs of two numbers and a list of texts. -/
import Derived.Test.YtkglfnjgneofdaaDoorOpenRows
namespace Go.Proofs.YtkglfnjgneofdaaDoor
open Go.ChangeShapes Go.WideShapes Go.ChangeAt Go.RowKit

/-- Row k of the slice is A k, B k, and the slice S k of the texts C k. -/
structure SlT where
  ao : Option Addr
  len : Nat
  cap : Nat
  ss : List ByteArray
instance : Inhabited SlT := ⟨⟨none, 0, 0, []⟩⟩
def SlT.val (s : SlT) : Value := .slice s.ao s.len s.cap
def RowsT (w : World) (ao : Option Addr) (len : Nat) (A B : Nat → Int) (C : Nat → SlT) : Prop :=
  ∀ k, k < len → ∃ b off, ao = some ⟨b, off, none⟩ ∧ b < w.heap.size ∧ w.cell? ⟨b, off + k * 3, none⟩ = some (.int .i64 (A k)) ∧ w.cell? ⟨b, off + k * 3 + 1, none⟩ = some (.int .i64 (B k)) ∧ w.cell? ⟨b, off + k * 3 + 2, none⟩ = some (C k).val ∧ B k ≤ 9223372036854775807 ∧
    (C k).ss.length = (C k).len ∧ (C k).len ≤ (C k).cap ∧ SlAt w (C k).ao ((C k).ss.map Value.string)

section
variable {H : Type} {enc : TypeId × Value → H} {P : Program} {w : World} {base : Nat} {spare : Nat → Bool} {held : Bool}

theorem cells_strs {t e : TypeId} {fuel : Nat} {cs : List Value} {x : DataW H × List MemPlace} (ht : P.underlying t = some (.slice e)) (he : P.underlying e = some .string) (hc : P.cellsOf e = 1)
    (hf : DataW.trod enc P w base spare held fuel t cs = some x) : ∃ s : SlT, cs = [s.val] ∧ s.ss.length = s.len ∧ s.len ≤ s.cap ∧ SlAt w s.ao (s.ss.map Value.string) := by
  rcases open_strings ht he hc hf with ⟨rfl, _⟩ | ⟨a, len, cap, ss, rfl, _, hl, hm, hz, _, hcell, _⟩
  · exact ⟨⟨none, 0, 0, []⟩, rfl, rfl, Nat.le_refl _, fun k hk => by simp at hk⟩
  · have hle : len ≤ ss.length := by rw [hz]; split <;> omega
    refine ⟨⟨some a, len, cap, ss.take len⟩, rfl, by show (ss.take len).length = len; rw [List.length_take]; omega, hl, ?_⟩
    show SlAt w (some a) ((ss.take len).map Value.string)
    rw [List.map_take]
    exact (slAt_of Value.string ss ByteArray.empty hcell).take len

theorem open_rowsT {t e ti ts te : TypeId} {f0 f1 f2 : Field} {v : Value} {d : DataW H} {ps : List MemPlace} (ht : P.underlying t = some (.slice e)) (he : P.underlying e = some (.struct #[f0, f1, f2])) (hc : P.cellsOf e = 3)
    (e0 : f0.type = ti ∧ f0.offset = 0) (e1 : f1.type = ti ∧ f1.offset = 1) (e2 : f2.type = ts ∧ f2.offset = 2) (hi : P.underlying ti = some (.int .i64)) (hs : P.underlying ts = some (.slice te)) (hte : P.underlying te = some .string) (ci : P.cellsOf ti = 1) (cs : P.cellsOf ts = 1) (ce : P.cellsOf te = 1)
    (h : DataW.Trod enc P w base spare held t v d ps) (hv : ∃ a len cap, v = .slice a len cap) :
    ∃ (ao : Option Addr) (len cap : Nat) (A B : Nat → Int) (C : Nat → SlT), v = .slice ao len cap ∧ len ≤ cap ∧ cap ≤ maxLen ∧ RowsT w ao len A B C := by
  obtain ⟨ao, len, cap, Cs, rfl, hl, hm, hx⟩ := open_rows ht hc (by omega) h hv
  have each : ∀ k, k < len → ∃ q : Int × Int × SlT, Cs k = [.int .i64 q.1, .int .i64 q.2.1, q.2.2.val] ∧ q.2.1 ≤ 9223372036854775807 ∧ q.2.2.ss.length = q.2.2.len ∧ q.2.2.len ≤ q.2.2.cap ∧ SlAt w q.2.2.ao (q.2.2.ss.map Value.string) := by
    intro k hk
    obtain ⟨b, off, _, _, hlen, _, n, x, hy⟩ := hx k hk
    obtain ⟨y0, y1, y2, m, _, _, t0, t1, t2⟩ := Deep.trod_struct3 he hy
    match hcs : Cs k, hlen with
    | [c0, c1, c2], _ =>
      rw [e0.1, e0.2, ci, hcs] at t0
      rw [e1.1, e1.2, ci, hcs] at t1
      rw [e2.1, e2.2, cs, hcs] at t2
      obtain ⟨i0, g0, _, _⟩ := DataW.trod_int hi t0
      obtain ⟨i1, g1, _, w1⟩ := DataW.trod_int hi t1
      obtain ⟨s2, g2, h1, h2, h3⟩ := cells_strs hs hte ce t2
      simp at g0 g1 g2
      exact ⟨(i0, i1, s2), by rw [g0, g1, g2], (Go.bounds_i64 w1).2, h1, h2, h3⟩
  obtain ⟨q, hq⟩ := Deep.choose_lt each
  refine ⟨ao, len, cap, fun k => (q k).1, fun k => (q k).2.1, fun k => (q k).2.2, rfl, hl, hm, fun k hk => ?_⟩
  obtain ⟨b, off, h1, h2, _, h3, _⟩ := hx k hk
  obtain ⟨g1, g2, g3, g4, g5⟩ := hq k hk
  refine ⟨b, off, h1, h2, ?_, ?_, ?_, g2, g3, g4, g5⟩
  · have := h3 0 (by omega); rw [g1] at this; simpa using this
  · have := h3 1 (by omega); rw [g1] at this; simpa [Nat.add_assoc] using this
  · have := h3 2 (by omega); rw [g1] at this; simpa [Nat.add_assoc] using this
end
end Go.Proofs.YtkglfnjgneofdaaDoor
