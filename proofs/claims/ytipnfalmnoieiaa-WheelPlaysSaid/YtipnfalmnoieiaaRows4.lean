/- A slice of structs of three numbers and a bool. -/
import Derived.Test.YtipnfalmnoieiaaOpenRows
import Derived.Lib.SmallJoins
namespace Go.Proofs.Ytipnfalmnoieiaa
open Go.ChangeShapes Go.WideShapes Go.ChangeAt Go.RowKit

/-- Row k of the slice is A k, B k, C k, D k. -/
def Rows4 (w : World) (ao : Option Addr) (len : Nat) (A B C : Nat → Int) (D : Nat → Bool) : Prop :=
  ∀ k, k < len → ∃ b off, ao = some ⟨b, off, none⟩ ∧ b < w.heap.size ∧ w.cell? ⟨b, off + k * 4, none⟩ = some (.int .i64 (A k)) ∧ w.cell? ⟨b, off + k * 4 + 1, none⟩ = some (.int .i64 (B k)) ∧ w.cell? ⟨b, off + k * 4 + 2, none⟩ = some (.int .i64 (C k)) ∧ w.cell? ⟨b, off + k * 4 + 3, none⟩ = some (.bool (D k)) ∧ (Lit.int .i64 (C k)).wf = true

section
variable {H : Type} {enc : TypeId × Value → H} {P : Program} {w : World} {base : Nat} {spare : Nat → Bool} {held : Bool}

theorem open_rows4 {t e ti tb : TypeId} {f0 f1 f2 f3 : Field} {v : Value} {d : DataW H} {ps : List MemPlace} (ht : P.underlying t = some (.slice e)) (he : P.underlying e = some (.struct #[f0, f1, f2, f3])) (hc : P.cellsOf e = 4)
    (e0 : f0.type = ti ∧ f0.offset = 0) (e1 : f1.type = ti ∧ f1.offset = 1) (e2 : f2.type = ti ∧ f2.offset = 2) (e3 : f3.type = tb ∧ f3.offset = 3) (hi : P.underlying ti = some (.int .i64)) (hb : P.underlying tb = some .bool) (ci : P.cellsOf ti = 1) (cb : P.cellsOf tb = 1)
    (h : DataW.Trod enc P w base spare held t v d ps) (hv : ∃ a len cap, v = .slice a len cap) :
    ∃ (ao : Option Addr) (len cap : Nat) (A B C : Nat → Int) (D : Nat → Bool), v = .slice ao len cap ∧ len ≤ cap ∧ cap ≤ maxLen ∧ Rows4 w ao len A B C D := by
  obtain ⟨ao, len, cap, Cs, rfl, hl, hm, hx⟩ := open_rows ht hc (by omega) h hv
  have each : ∀ k, k < len → ∃ q : Int × Int × Int × Bool, Cs k = [.int .i64 q.1, .int .i64 q.2.1, .int .i64 q.2.2.1, .bool q.2.2.2] ∧ (Lit.int .i64 q.2.2.1).wf = true := by
    intro k hk
    obtain ⟨b, off, _, _, hlen, _, n, x, hy⟩ := hx k hk
    obtain ⟨y0, y1, y2, y3, m, _, _, t0, t1, t2, t3⟩ := Joins.trod_struct4 he hy
    match hcs : Cs k, hlen with
    | [c0, c1, c2, c3], _ =>
      rw [e0.1, e0.2, ci, hcs] at t0
      rw [e1.1, e1.2, ci, hcs] at t1
      rw [e2.1, e2.2, ci, hcs] at t2
      rw [e3.1, e3.2, cb, hcs] at t3
      obtain ⟨i0, g0, _, _⟩ := DataW.trod_int hi t0
      obtain ⟨i1, g1, _, _⟩ := DataW.trod_int hi t1
      obtain ⟨i2, g2, _, w2⟩ := DataW.trod_int hi t2
      obtain ⟨b3, g3, _⟩ := DataW.trod_bool hb t3
      simp at g0 g1 g2 g3
      exact ⟨(i0, i1, i2, b3), by rw [g0, g1, g2, g3], w2⟩
  obtain ⟨q, hq⟩ := Deep.choose_lt each
  refine ⟨ao, len, cap, fun k => (q k).1, fun k => (q k).2.1, fun k => (q k).2.2.1, fun k => (q k).2.2.2, rfl, hl, hm, fun k hk => ?_⟩
  obtain ⟨b, off, h1, h2, _, h3, _⟩ := hx k hk
  obtain ⟨g1, g2⟩ := hq k hk
  refine ⟨b, off, h1, h2, ?_, ?_, ?_, ?_, g2⟩
  · have := h3 0 (by omega); rw [g1] at this; simpa using this
  · have := h3 1 (by omega); rw [g1] at this; simpa [Nat.add_assoc] using this
  · have := h3 2 (by omega); rw [g1] at this; simpa [Nat.add_assoc] using this
  · have := h3 3 (by omega); rw [g1] at this; simpa [Nat.add_assoc] using this
end
end Go.Proofs.Ytipnfalmnoieiaa
