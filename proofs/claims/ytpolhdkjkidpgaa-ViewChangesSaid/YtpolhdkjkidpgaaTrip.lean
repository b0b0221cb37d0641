/- Slices of triples of numbers: as they came in, as a call owns them. -/
import Derived.Test.YtpolhdkjkidpgaaOwnV
import Derived.Test.YtpolhdkjkidpgaaOpenRows
import Derived.Test.YtpolhdkjkidpgaaBlk
import Derived.Below
import Derived.WideShapes
import Derived.Lib.Hide
import Derived.Test.YtpolhdkjkidpgaaCmpShelf
namespace Go.Proofs.Ytpolhdkjkidpgaa
open Go.ChangeShapes Go.WideShapes Go.ChangeAt Go.RowKit Go.Shelf Go.Lib Go.Sort

abbrev P3 := Int × Int × Int
/-- A triple's three cells. -/
def encT (x : P3) : List Value := [.int .i64 x.1, .int .i64 x.2.1, .int .i64 x.2.2]
def aggT (x : P3) : Value := .agg #[.int .i64 x.1, .int .i64 x.2.1, .int .i64 x.2.2]
def flatT (ps : List P3) : List Value := ps.flatMap encT
theorem flatT_length (ps : List P3) : (flatT ps).length = ps.length * 3 := by
  induction ps with
  | nil => rfl
  | cons p ps ih => show (encT p ++ flatT ps).length = _; rw [List.length_append, ih]; simp [encT]; omega
theorem flatT_append (a b : List P3) : flatT (a ++ b) = flatT a ++ flatT b := by simp [flatT]
theorem flatT_one (x y z : Int) : flatT [(x, y, z)] = [.int .i64 x, .int .i64 y, .int .i64 z] := rfl
theorem flatT_get : ∀ (ps : List P3) (j : Nat) (p : P3), ps[j]? = some p → (flatT ps)[j * 3]? = some (.int .i64 p.1) ∧ (flatT ps)[j * 3 + 1]? = some (.int .i64 p.2.1) ∧ (flatT ps)[j * 3 + 2]? = some (.int .i64 p.2.2)
  | [], j, p, h => by simp at h
  | q :: ps, 0, p, h => by
    obtain rfl : q = p := by simpa using h
    exact ⟨rfl, rfl, rfl⟩
  | q :: ps, j + 1, p, h => by
    have := flatT_get ps j p (by simpa using h)
    show (encT q ++ flatT ps)[(j + 1) * 3]? = _ ∧ (encT q ++ flatT ps)[(j + 1) * 3 + 1]? = _ ∧ (encT q ++ flatT ps)[(j + 1) * 3 + 2]? = _
    rw [List.getElem?_append_right (by simp [encT]; omega), List.getElem?_append_right (by simp [encT]; omega), List.getElem?_append_right (by simp [encT]; omega)]
    simp only [encT, List.length_cons, List.length_nil]
    rw [show (j + 1) * 3 - (0 + 1 + 1 + 1) = j * 3 from by omega, show (j + 1) * 3 + 1 - (0 + 1 + 1 + 1) = j * 3 + 1 from by omega, show (j + 1) * 3 + 2 - (0 + 1 + 1 + 1) = j * 3 + 2 from by omega]
    exact this
theorem flatT_cell (ps : List P3) : ∀ u ∈ flatT ps, u.oneCell' = true := by
  intro u hu
  obtain ⟨p, _, hp⟩ := List.mem_flatMap.1 hu
  simp [encT] at hp
  rcases hp with rfl | rfl | rfl <;> rfl

/-- A slice of triples: its elements are ps. -/
def SlT (w : World) (ao : Option Addr) (ps : List P3) : Prop :=
  ∀ k, k < ps.length → ∃ b off, ao = some ⟨b, off, none⟩ ∧ b < w.heap.size ∧ ∀ j p, ps[j]? = some p → w.cell? ⟨b, off + j * 3, none⟩ = some (.int .i64 p.1) ∧ w.cell? ⟨b, off + j * 3 + 1, none⟩ = some (.int .i64 p.2.1) ∧ w.cell? ⟨b, off + j * 3 + 2, none⟩ = some (.int .i64 p.2.2)

theorem SlT.nil (w : World) (ao : Option Addr) : SlT w ao [] := fun _ hk => absurd hk (Nat.not_lt_zero _)
/-- One element. -/
theorem SlT.get {w : World} {ao : Option Addr} {ps : List P3} (h : SlT w ao ps) (k : Nat) (hk : k < ps.length) :
    ∃ b off x y z, ao = some ⟨b, off, none⟩ ∧ b < w.heap.size ∧ w.cell? ⟨b, off + k * 3, none⟩ = some (.int .i64 x) ∧ w.cell? ⟨b, off + k * 3 + 1, none⟩ = some (.int .i64 y) ∧ w.cell? ⟨b, off + k * 3 + 2, none⟩ = some (.int .i64 z) ∧ Hid (ps[k]? = some (x, y, z)) := by
  obtain ⟨b, off, h1, h2, h3⟩ := h k hk
  have e : ps[k]? = some ps[k] := by simp [hk]
  obtain ⟨c0, c1, c2⟩ := h3 k _ e
  exact ⟨b, off, ps[k].1, ps[k].2.1, ps[k].2.2, h1, h2, c0, c1, c2, e⟩
theorem SlT.base {w : World} {ao : Option Addr} {ps : List P3} (h : SlT w ao ps) (hk : 0 < ps.length) : ∃ b off, ao = some ⟨b, off, none⟩ ∧ b < w.heap.size := by
  obtain ⟨b, off, h1, h2, _⟩ := h 0 hk
  exact ⟨b, off, h1, h2⟩
theorem SlT.none_len {w : World} {ps : List P3} (h : SlT w none ps) : ps.length = 0 := by
  rcases Nat.eq_zero_or_pos ps.length with h0 | h0
  · exact h0
  · obtain ⟨b, off, h1, _⟩ := h 0 h0; cases h1
theorem SlT.take {w : World} {ao : Option Addr} {ps : List P3} (n : Nat) (h : SlT w ao ps) : SlT w ao (ps.take n) := by
  intro k hk
  rw [List.length_take] at hk
  obtain ⟨b, off, h1, h2, h3⟩ := h k (by omega)
  refine ⟨b, off, h1, h2, fun j p hj => h3 j p ?_⟩
  rw [List.getElem?_take] at hj
  split at hj
  · exact hj
  · cases hj
theorem SlT.below {w w' : World} {ao : Option Addr} {ps : List P3} (h : SlT w ao ps) (hb : Below w.heap.size w w') : SlT w' ao ps := by
  intro k hk
  obtain ⟨b, off, h1, h2, h3⟩ := h k hk
  refine ⟨b, off, h1, Nat.lt_of_lt_of_le h2 hb.size, fun j p hj => ?_⟩
  rw [hb.cell (p := ⟨b, off + j * 3, none⟩) h2, hb.cell (p := ⟨b, off + j * 3 + 1, none⟩) h2, hb.cell (p := ⟨b, off + j * 3 + 2, none⟩) h2]
  exact h3 j p hj
theorem SlT.ofBlk {w : World} {b : Nat} {t : TypeId} {ps : List P3} (h : Blk w b (flatT ps).toArray t) : SlT w (some ⟨b, 0, none⟩) ps := by
  intro k _
  refine ⟨b, 0, rfl, h.lt, fun j p hj => ?_⟩
  obtain ⟨g0, g1, g2⟩ := flatT_get ps j p hj
  rw [h.cell, h.cell, h.cell, Nat.zero_add]
  simp only [List.getElem?_toArray]
  exact ⟨g0, g1, g2⟩
theorem SlT.drewN {w : World} {ao : Option Addr} {ps : List P3} (h : SlT w ao ps) (n : Nat) : SlT (w.drewN n) ao ps := h

/-- A row of triples that a call owns. -/
def OwnT (w : World) (base : Nat) (t : TypeId) (v : Value) (ps : List P3) : Prop := w.ownsRow base t 3 v ps.length (flatT ps)
theorem OwnT.nil (w : World) (base : Nat) (t : TypeId) : OwnT w base t (.slice none 0 0) [] := ⟨rfl, .inl ⟨rfl, rfl⟩⟩
theorem OwnT.sl {w : World} {base : Nat} {t : TypeId} {v : Value} {ps : List P3} (h : OwnT w base t v ps) :
    ∃ ao cap, v = .slice ao ps.length cap ∧ ps.length ≤ cap ∧ cap ≤ maxLen ∧ SlT w ao ps ∧ (ao = none → cap = 0) ∧ ∀ a, ao = some a → base ≤ a.block := by
  rcases h.2 with ⟨rfl, h0⟩ | ⟨g, cap, cur, rfl, hb, hg, hc, hm, _, ht⟩
  · exact ⟨none, 0, by rw [h0], by omega, Nat.zero_le _, (fun k hk => by omega), fun _ => rfl, fun a ha => by cases ha⟩
  · refine ⟨some ⟨g, 0, none⟩, cap, rfl, hc, hm, (fun k _ => ⟨g, 0, rfl, lt_of_block hg, fun j p hj => ?_⟩), fun e => (by cases e), fun a ha => by cases ha; exact hb⟩
    obtain ⟨e1, e2, e3⟩ := flatT_get ps j p hj
    have hlt : j < ps.length := by
      rcases Nat.lt_or_ge j ps.length with h | h
      · exact h
      · rw [List.getElem?_eq_none h] at hj; cases hj
    rw [← ht, List.getElem?_take, if_pos (by omega)] at e1 e2 e3
    rw [Nat.zero_add]
    simp only [Array.getElem?_toList] at e1 e2 e3
    simp [World.cell?, hg, e1, e2, e3]
theorem OwnT.alloc {w : World} {base : Nat} {t : TypeId} {v : Value} {ps : List P3} (h : OwnT w base t v ps) (o : Obj) : OwnT (w.alloc o) base t v ps := World.ownsRow.alloc h o
theorem OwnT.below {w w' : World} {base : Nat} {t : TypeId} {v : Value} {ps : List P3} (h : OwnT w base t v ps) (hb : Below w.heap.size w w') : OwnT w' base t v ps := own_below h hb
theorem OwnT.base {w : World} {base base' : Nat} {t : TypeId} {v : Value} {ps : List P3} (h : OwnT w base t v ps) (hb : base' ≤ base) : OwnT w base' t v ps := by
  refine ⟨h.1, ?_⟩
  rcases h.2 with h2 | ⟨g, cap, cur, h1, h2, h3⟩
  · exact .inl h2
  · exact .inr ⟨g, cap, cur, h1, Nat.le_trans hb h2, h3⟩
/-- The cells of a row, as an append wants them. -/
theorem SlT.news {w : World} {a : Addr} {ps : List P3} (h : SlT w (some a) ps) : ∀ j u, (flatT ps)[j]? = some u → w.cell? (a.add j) = some u := by
  intro j u hj
  have hlt : j < ps.length * 3 := by
    rcases Nat.lt_or_ge j (ps.length * 3) with h | h
    · exact h
    · rw [List.getElem?_eq_none (by rw [flatT_length]; exact h)] at hj; cases hj
  obtain ⟨b, off, h1, _, h3⟩ := h (j / 3) (by omega)
  cases h1
  have e : ps[j / 3]? = some (ps[j / 3]'(by omega)) := List.getElem?_eq_getElem _
  obtain ⟨g0, g1, g2⟩ := flatT_get ps (j / 3) _ e
  obtain ⟨c0, c1, c2⟩ := h3 (j / 3) _ e
  rw [add_plain]
  have hm : j % 3 = 0 ∨ j % 3 = 1 ∨ j % 3 = 2 := by omega
  rcases hm with hm | hm | hm
  · rw [show j / 3 * 3 = j from by omega] at g0 c0
    rw [c0, ← hj, g0]
  · rw [show j / 3 * 3 + 1 = j from by omega] at g1
    rw [show off + j / 3 * 3 + 1 = off + j from by omega] at c1
    rw [c1, ← hj, g1]
  · rw [show j / 3 * 3 + 2 = j from by omega] at g2
    rw [show off + j / 3 * 3 + 2 = off + j from by omega] at c2
    rw [c2, ← hj, g2]

section
variable {H : Type} {enc : TypeId × Value → H} {P : Program} {w : World} {base : Nat} {spare : Nat → Bool} {held : Bool}
/-- A slice of structs of three numbers that came in. -/
theorem open_trips {t e ti : TypeId} {f0 f1 f2 : Field} {v : Value} {d : DataW H} {ps : List MemPlace} (ht : P.underlying t = some (.slice e)) (he : P.underlying e = some (.struct #[f0, f1, f2])) (hc : P.cellsOf e = 3)
    (e0 : f0.type = ti ∧ f0.offset = 0) (e1 : f1.type = ti ∧ f1.offset = 1) (e2 : f2.type = ti ∧ f2.offset = 2) (hi : P.underlying ti = some (.int .i64)) (ci : P.cellsOf ti = 1)
    (h : DataW.Trod enc P w base spare held t v d ps) (hv : ∃ a len cap, v = .slice a len cap) :
    ∃ (ao : Option Addr) (len cap : Nat) (l : List P3), v = .slice ao len cap ∧ l.length = len ∧ len ≤ cap ∧ cap ≤ maxLen ∧ SlT w ao l := by
  obtain ⟨ao, len, cap, Cs, rfl, hl, hm, hx⟩ := open_rows ht hc (by omega) h hv
  have each : ∀ k, k < len → ∃ q : P3, Cs k = [.int .i64 q.1, .int .i64 q.2.1, .int .i64 q.2.2] := by
    intro k hk
    obtain ⟨b, off, _, _, hlen, _, n, x, hy⟩ := hx k hk
    obtain ⟨y0, y1, y2, m, _, _, t0, t1, t2⟩ := Deep.trod_struct3 he hy
    match hcs : Cs k, hlen with
    | [c0, c1, c2], _ =>
      rw [e0.1, e0.2, ci, hcs] at t0
      rw [e1.1, e1.2, ci, hcs] at t1
      rw [e2.1, e2.2, ci, hcs] at t2
      obtain ⟨i0, g0, _, _⟩ := DataW.trod_int hi t0
      obtain ⟨i1, g1, _, _⟩ := DataW.trod_int hi t1
      obtain ⟨i2, g2, _, _⟩ := DataW.trod_int hi t2
      simp at g0 g1 g2
      exact ⟨(i0, i1, i2), by rw [g0, g1, g2]⟩
  obtain ⟨q, hq⟩ := Deep.choose_lt each
  refine ⟨ao, len, cap, (List.range len).map q, rfl, by simp, hl, hm, fun k hk => ?_⟩
  rw [List.length_map, List.length_range] at hk
  obtain ⟨b, off, h1, h2, _⟩ := hx k hk
  refine ⟨b, off, h1, h2, fun j p hj => ?_⟩
  have hjl : j < len ∧ p = q j := by
    rw [List.getElem?_map] at hj
    rcases Nat.lt_or_ge j len with hlt | hge
    · rw [List.getElem?_range hlt] at hj
      simp at hj
      exact ⟨hlt, hj.symm⟩
    · rw [List.getElem?_eq_none (by simpa using hge)] at hj
      cases hj
  obtain ⟨hjl, rfl⟩ := hjl
  obtain ⟨b', off', h1', _, _, h3, _⟩ := hx j hjl
  rw [h1] at h1'
  cases h1'
  have g1 := hq j hjl
  have t0 := h3 0 (by omega)
  have t1 := h3 1 (by omega)
  have t2 := h3 2 (by omega)
  rw [g1] at t0 t1 t2
  exact ⟨by simpa using t0, by simpa [Nat.add_assoc] using t1, by simpa [Nat.add_assoc] using t2⟩
end

end Go.Proofs.Ytpolhdkjkidpgaa
