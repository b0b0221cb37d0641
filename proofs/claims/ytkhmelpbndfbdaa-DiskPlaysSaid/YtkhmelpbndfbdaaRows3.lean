/- A slice of structs of two numbers and a text. -/
import Derived.Test.YtkhmelpbndfbdaaOpenRows
namespace Go.Proofs.Ytkhmelpbndfbdaa
open Go.ChangeShapes Go.WideShapes Go.ChangeAt Go.RowKit

/-- Row k of the slice is A k, B k, C k. -/
def Rows3 (w : World) (ao : Option Addr) (len : Nat) (A B : Nat → Int) (C : Nat → ByteArray) : Prop :=
  ∀ k, k < len → ∃ b off, ao = some ⟨b, off, none⟩ ∧ b < w.heap.size ∧ w.cell? ⟨b, off + k * 3, none⟩ = some (.int .i64 (A k)) ∧ w.cell? ⟨b, off + k * 3 + 1, none⟩ = some (.int .i64 (B k)) ∧ w.cell? ⟨b, off + k * 3 + 2, none⟩ = some (.string (C k)) ∧ B k ≤ 9223372036854775807

section
variable {H : Type} {enc : TypeId × Value → H} {P : Program} {w : World} {base : Nat} {spare : Nat → Bool} {held : Bool}

theorem open_rows3 {t e ti ts : TypeId} {f0 f1 f2 : Field} {v : Value} {d : DataW H} {ps : List MemPlace} (ht : P.underlying t = some (.slice e)) (he : P.underlying e = some (.struct #[f0, f1, f2])) (hc : P.cellsOf e = 3)
    (e0 : f0.type = ti ∧ f0.offset = 0) (e1 : f1.type = ti ∧ f1.offset = 1) (e2 : f2.type = ts ∧ f2.offset = 2) (hi : P.underlying ti = some (.int .i64)) (hs : P.underlying ts = some .string) (ci : P.cellsOf ti = 1) (cs : P.cellsOf ts = 1)
    (h : DataW.Trod enc P w base spare held t v d ps) (hv : ∃ a len cap, v = .slice a len cap) :
    ∃ (ao : Option Addr) (len cap : Nat) (A B : Nat → Int) (C : Nat → ByteArray), v = .slice ao len cap ∧ len ≤ cap ∧ cap ≤ maxLen ∧ Rows3 w ao len A B C := by
  obtain ⟨ao, len, cap, Cs, rfl, hl, hm, hx⟩ := open_rows ht hc (by omega) h hv
  have each : ∀ k, k < len → ∃ q : Int × Int × ByteArray, Cs k = [.int .i64 q.1, .int .i64 q.2.1, .string q.2.2] ∧ q.2.1 ≤ 9223372036854775807 := by
    intro k hk
    obtain ⟨b, off, _, _, hlen, _, n, x, hy⟩ := hx k hk
    obtain ⟨y0, y1, y2, m, _, _, t0, t1, t2⟩ := Deep.trod_struct3 he hy
    match hcs : Cs k, hlen with
    | [c0, c1, c2], _ =>
      rw [e0.1, e0.2, ci, hcs] at t0
      rw [e1.1, e1.2, ci, hcs] at t1
      rw [e2.1, e2.2, cs, hcs] at t2
      obtain ⟨i0, g0, _, _⟩ := DataW.trod_int hi t0
      obtain ⟨i1, g1, _, w1⟩ := DataW.trod_int hi t1
      obtain ⟨s2, g2, _, _⟩ := DataW.trod_string hs t2
      simp at g0 g1 g2
      refine ⟨(i0, i1, s2), by rw [g0, g1, g2], ?_⟩
      exact (Go.bounds_i64 w1).2
  obtain ⟨q, hq⟩ := Deep.choose_lt each
  refine ⟨ao, len, cap, fun k => (q k).1, fun k => (q k).2.1, fun k => (q k).2.2, rfl, hl, hm, fun k hk => ?_⟩
  obtain ⟨b, off, h1, h2, _, h3, _⟩ := hx k hk
  obtain ⟨g1, g2⟩ := hq k hk
  refine ⟨b, off, h1, h2, ?_, ?_, ?_, g2⟩
  · have := h3 0 (by omega); rw [g1] at this; simpa using this
  · have := h3 1 (by omega); rw [g1] at this; simpa [Nat.add_assoc] using this
  · have := h3 2 (by omega); rw [g1] at this; simpa [Nat.add_assoc] using this
end
end Go.Proofs.Ytkhmelpbndfbdaa
