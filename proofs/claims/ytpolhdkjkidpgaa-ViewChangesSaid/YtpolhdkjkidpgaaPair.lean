/- Slices of pairs of numbers: as they came in, as a call owns them, as a sort holds them. -/
import Derived.Test.YtpolhdkjkidpgaaOwnV
import Derived.Test.YtpolhdkjkidpgaaOpenRows
import Derived.Test.YtpolhdkjkidpgaaBlk
import Derived.Test.YtpolhdkjkidpgaaPlainD
import Derived.Shelf.SlSortCmp.NoneTotal
namespace Go.Proofs.Ytpolhdkjkidpgaa
open Go.ChangeShapes Go.WideShapes Go.ChangeAt Go.RowKit Go.Shelf Go.Lib Go.Sort

/-- A pair's two cells. -/
def encD (x : Int × Int) : List Value := [.int .i64 x.1, .int .i64 x.2]
def flatD (ps : List (Int × Int)) : List Value := ps.flatMap encD
theorem flatD_length (ps : List (Int × Int)) : (flatD ps).length = ps.length * 2 := by
  induction ps with
  | nil => rfl
  | cons p ps ih => show (encD p ++ flatD ps).length = _; rw [List.length_append, ih]; simp [encD]; omega
theorem flatD_append (a b : List (Int × Int)) : flatD (a ++ b) = flatD a ++ flatD b := by simp [flatD]
theorem flatD_one (x y : Int) : flatD [(x, y)] = [.int .i64 x, .int .i64 y] := rfl
theorem flatD_get : ∀ (ps : List (Int × Int)) (j : Nat) (p : Int × Int), ps[j]? = some p → (flatD ps)[j * 2]? = some (.int .i64 p.1) ∧ (flatD ps)[j * 2 + 1]? = some (.int .i64 p.2)
  | [], j, p, h => by simp at h
  | q :: ps, 0, p, h => by
    obtain rfl : q = p := by simpa using h
    exact ⟨rfl, rfl⟩
  | q :: ps, j + 1, p, h => by
    have := flatD_get ps j p (by simpa using h)
    show (encD q ++ flatD ps)[(j + 1) * 2]? = _ ∧ (encD q ++ flatD ps)[(j + 1) * 2 + 1]? = _
    rw [List.getElem?_append_right (by simp [encD]; omega), List.getElem?_append_right (by simp [encD]; omega)]
    simp only [encD, List.length_cons, List.length_nil]
    rw [show (j + 1) * 2 - (0 + 1 + 1) = j * 2 from by omega, show (j + 1) * 2 + 1 - (0 + 1 + 1) = j * 2 + 1 from by omega]
    exact this
theorem flatD_cell (ps : List (Int × Int)) : ∀ u ∈ flatD ps, u.oneCell' = true := by
  intro u hu
  obtain ⟨p, _, hp⟩ := List.mem_flatMap.1 hu
  simp [encD] at hp
  rcases hp with rfl | rfl <;> rfl

/-- A slice of pairs: its elements are ps. -/
def SlP (w : World) (ao : Option Addr) (ps : List (Int × Int)) : Prop :=
  ∀ k, k < ps.length → ∃ b off, ao = some ⟨b, off, none⟩ ∧ b < w.heap.size ∧ ∀ j p, ps[j]? = some p → w.cell? ⟨b, off + j * 2, none⟩ = some (.int .i64 p.1) ∧ w.cell? ⟨b, off + j * 2 + 1, none⟩ = some (.int .i64 p.2)

theorem SlP.nil (w : World) (ao : Option Addr) : SlP w ao [] := fun _ hk => absurd hk (Nat.not_lt_zero _)
/-- One element. -/
theorem SlP.get {w : World} {ao : Option Addr} {ps : List (Int × Int)} (h : SlP w ao ps) (k : Nat) (hk : k < ps.length) :
    ∃ b off x y, ao = some ⟨b, off, none⟩ ∧ b < w.heap.size ∧ w.cell? ⟨b, off + k * 2, none⟩ = some (.int .i64 x) ∧ w.cell? ⟨b, off + k * 2 + 1, none⟩ = some (.int .i64 y) ∧ Hid (ps[k]? = some (x, y)) := by
  obtain ⟨b, off, h1, h2, h3⟩ := h k hk
  have e : ps[k]? = some ps[k] := by simp [hk]
  obtain ⟨c0, c1⟩ := h3 k _ e
  exact ⟨b, off, ps[k].1, ps[k].2, h1, h2, c0, c1, e⟩
theorem SlP.at {w : World} {b off : Nat} {ps : List (Int × Int)} (h : SlP w (some ⟨b, off, none⟩) ps) (k : Nat) (hk : k < ps.length) :
    b < w.heap.size ∧ ∃ x y, w.cell? ⟨b, off + k * 2, none⟩ = some (.int .i64 x) ∧ w.cell? ⟨b, off + k * 2 + 1, none⟩ = some (.int .i64 y) ∧ Hid (ps[k]? = some (x, y)) := by
  obtain ⟨b', off', x, y, h1, h2, h3⟩ := h.get k hk
  cases h1
  exact ⟨h2, x, y, h3⟩
theorem SlP.base {w : World} {ao : Option Addr} {ps : List (Int × Int)} (h : SlP w ao ps) (hk : 0 < ps.length) : ∃ b off, ao = some ⟨b, off, none⟩ ∧ b < w.heap.size := by
  obtain ⟨b, off, h1, h2, _⟩ := h 0 hk
  exact ⟨b, off, h1, h2⟩
theorem SlP.take {w : World} {ao : Option Addr} {ps : List (Int × Int)} (n : Nat) (h : SlP w ao ps) : SlP w ao (ps.take n) := by
  intro k hk
  rw [List.length_take] at hk
  obtain ⟨b, off, h1, h2, h3⟩ := h k (by omega)
  refine ⟨b, off, h1, h2, fun j p hj => h3 j p ?_⟩
  rw [List.getElem?_take] at hj
  split at hj
  · exact hj
  · cases hj
theorem SlP.below {w w' : World} {ao : Option Addr} {ps : List (Int × Int)} (h : SlP w ao ps) (hb : Below w.heap.size w w') : SlP w' ao ps := by
  intro k hk
  obtain ⟨b, off, h1, h2, h3⟩ := h k hk
  refine ⟨b, off, h1, Nat.lt_of_lt_of_le h2 hb.size, fun j p hj => ?_⟩
  rw [hb.cell (p := ⟨b, off + j * 2, none⟩) h2, hb.cell (p := ⟨b, off + j * 2 + 1, none⟩) h2]
  exact h3 j p hj
/-- A row that lies above what may turn is as it was. -/
theorem SlP.above {w w' : World} {ao : Option Addr} {ps : List (Int × Int)} {B : Nat} (h : SlP w ao ps) (hn : ∀ a, ao = some a → B ≤ a.block) (hs : w.heap.size ≤ w'.heap.size) (hk : ∀ k, k < w.heap.size → B ≤ k → w'.heap[k]? = w.heap[k]?) : SlP w' ao ps := by
  intro k hk'
  obtain ⟨b, off, h1, h2, h3⟩ := h k hk'
  refine ⟨b, off, h1, Nat.lt_of_lt_of_le h2 hs, fun j p hj => ?_⟩
  have e : ∀ o, w'.cell? ⟨b, o, none⟩ = w.cell? ⟨b, o, none⟩ := fun o => by simp only [World.cell?, hk b h2 (hn _ h1)]
  rw [e, e]
  exact h3 j p hj
theorem SlP.drop {w : World} {b off : Nat} {ps : List (Int × Int)} (n : Nat) (h : SlP w (some ⟨b, off, none⟩) ps) : SlP w (some ⟨b, off + n * 2, none⟩) (ps.drop n) := by
  intro k hk
  rw [List.length_drop] at hk
  obtain ⟨b', off', h1, h2, h3⟩ := h (n + k) (by omega)
  cases h1
  refine ⟨b, off + n * 2, rfl, h2, fun j p hj => ?_⟩
  have := h3 (n + j) p (by rw [List.getElem?_drop] at hj; exact hj)
  rw [show off + (n + j) * 2 = off + n * 2 + j * 2 from by omega] at this
  exact this
theorem SlP.drewN {w : World} {ao : Option Addr} {ps : List (Int × Int)} (h : SlP w ao ps) (n : Nat) : SlP (w.drewN n) ao ps := h
theorem SlP.drew {w : World} {ao : Option Addr} {ps : List (Int × Int)} (h : SlP w ao ps) : SlP w.drew ao ps := h

/-- A row of pairs that a call owns. -/
def OwnP (w : World) (base : Nat) (t : TypeId) (v : Value) (ps : List (Int × Int)) : Prop := w.ownsRow base t 2 v ps.length (flatD ps)
theorem OwnP.nil (w : World) (base : Nat) (t : TypeId) : OwnP w base t (.slice none 0 0) [] := ⟨rfl, .inl ⟨rfl, rfl⟩⟩
theorem OwnP.sl {w : World} {base : Nat} {t : TypeId} {v : Value} {ps : List (Int × Int)} (h : OwnP w base t v ps) :
    ∃ ao cap, v = .slice ao ps.length cap ∧ ps.length ≤ cap ∧ cap ≤ maxLen ∧ SlP w ao ps ∧ ∀ a, ao = some a → base ≤ a.block := by
  rcases h.2 with ⟨rfl, h0⟩ | ⟨g, cap, cur, rfl, hb, hg, hc, hm, _, ht⟩
  · exact ⟨none, 0, by rw [h0], by omega, Nat.zero_le _, (fun k hk => by omega), fun a ha => by cases ha⟩
  · refine ⟨some ⟨g, 0, none⟩, cap, rfl, hc, hm, (fun k _ => ⟨g, 0, rfl, lt_of_block hg, fun j p hj => ?_⟩), fun a ha => by cases ha; exact hb⟩
    obtain ⟨e1, e2⟩ := flatD_get ps j p hj
    have hlt : j < ps.length := by
      rcases Nat.lt_or_ge j ps.length with h | h
      · exact h
      · rw [List.getElem?_eq_none h] at hj; cases hj
    rw [← ht, List.getElem?_take, if_pos (by omega)] at e1 e2
    rw [Nat.zero_add]
    simp only [Array.getElem?_toList] at e1 e2
    simp [World.cell?, hg, e1, e2]
theorem OwnP.alloc {w : World} {base : Nat} {t : TypeId} {v : Value} {ps : List (Int × Int)} (h : OwnP w base t v ps) (o : Obj) : OwnP (w.alloc o) base t v ps := World.ownsRow.alloc h o
theorem OwnP.below {w w' : World} {base : Nat} {t : TypeId} {v : Value} {ps : List (Int × Int)} (h : OwnP w base t v ps) (hb : Below w.heap.size w w') : OwnP w' base t v ps := own_below h hb
theorem OwnP.base {w : World} {base base' : Nat} {t : TypeId} {v : Value} {ps : List (Int × Int)} (h : OwnP w base t v ps) (hb : base' ≤ base) : OwnP w base' t v ps := by
  refine ⟨h.1, ?_⟩
  rcases h.2 with h2 | ⟨g, cap, cur, h1, h2, h3⟩
  · exact .inl h2
  · exact .inr ⟨g, cap, cur, h1, Nat.le_trans hb h2, h3⟩
theorem OwnP.kept {w w' : World} {base : Nat} {t : TypeId} {v : Value} {ps : List (Int × Int)} {row : Option Nat} (h : OwnP w base t v ps) (hg : w.grownBy w' row) (hr : v.ownBlock = none ∨ v.ownBlock ≠ row) : OwnP w' base t v ps := World.ownsRow.kept h hg hr
/-- The cells of a piece of a row, as an append wants them. -/
theorem SlP.news {w : World} {b off : Nat} {ps : List (Int × Int)} (h : SlP w (some ⟨b, off, none⟩) ps) : ∀ j u, (flatD ps)[j]? = some u → w.cell? ((⟨b, off, none⟩ : Addr).add j) = some u := by
  intro j u hj
  have hlt : j < ps.length * 2 := by
    rcases Nat.lt_or_ge j (ps.length * 2) with h | h
    · exact h
    · rw [List.getElem?_eq_none (by rw [flatD_length]; exact h)] at hj; cases hj
  obtain ⟨b', off', h1, _, h3⟩ := h (j / 2) (by omega)
  cases h1
  have e : ps[j / 2]? = some (ps[j / 2]'(by omega)) := List.getElem?_eq_getElem _
  obtain ⟨g0, g1⟩ := flatD_get ps (j / 2) _ e
  obtain ⟨c0, c1⟩ := h3 (j / 2) _ e
  rw [add_plain]
  rcases Nat.mod_two_eq_zero_or_one j with hm | hm
  · rw [show j / 2 * 2 = j from by omega] at g0 c0
    rw [c0, ← hj, g0]
  · rw [show j / 2 * 2 + 1 = j from by omega] at g1
    rw [show off + j / 2 * 2 + 1 = off + j from by omega] at c1
    rw [c1, ← hj, g1]

section
variable {H : Type} {enc : TypeId × Value → H} {P : Program} {w : World} {base : Nat} {spare : Nat → Bool} {held : Bool}
/-- A slice of structs of two numbers that came in. -/
theorem open_pairs {t e ti : TypeId} {f0 f1 : Field} {v : Value} {d : DataW H} {ps : List MemPlace} (ht : P.underlying t = some (.slice e)) (he : P.underlying e = some (.struct #[f0, f1])) (hc : P.cellsOf e = 2)
    (e0 : f0.type = ti ∧ f0.offset = 0) (e1 : f1.type = ti ∧ f1.offset = 1) (hi : P.underlying ti = some (.int .i64)) (ci : P.cellsOf ti = 1)
    (h : DataW.Trod enc P w base spare held t v d ps) (hv : ∃ a len cap, v = .slice a len cap) :
    ∃ (ao : Option Addr) (len cap : Nat) (l : List (Int × Int)), v = .slice ao len cap ∧ l.length = len ∧ len ≤ cap ∧ cap ≤ maxLen ∧ SlP w ao l ∧ ∀ p ∈ l, -9223372036854775808 ≤ p.1 ∧ p.1 ≤ 9223372036854775807 ∧ -9223372036854775808 ≤ p.2 ∧ p.2 ≤ 9223372036854775807 := by
  obtain ⟨ao, len, cap, Cs, rfl, hl, hm, hx⟩ := open_rows ht hc (by omega) h hv
  have each : ∀ k, k < len → ∃ q : Int × Int, Cs k = [.int .i64 q.1, .int .i64 q.2] ∧ -9223372036854775808 ≤ q.1 ∧ q.1 ≤ 9223372036854775807 ∧ -9223372036854775808 ≤ q.2 ∧ q.2 ≤ 9223372036854775807 := by
    intro k hk
    obtain ⟨b, off, _, _, hlen, _, n, x, hy⟩ := hx k hk
    obtain ⟨y0, y1, m, _, _, t0, t1⟩ := ChangeShapes.trod_struct2 he hy
    match hcs : Cs k, hlen with
    | [c0, c1], _ =>
      rw [e0.1, e0.2, ci, hcs] at t0
      rw [e1.1, e1.2, ci, hcs] at t1
      obtain ⟨i0, g0, _, w0⟩ := DataW.trod_int hi t0
      obtain ⟨i1, g1, _, w1⟩ := DataW.trod_int hi t1
      simp at g0 g1
      refine ⟨(i0, i1), by rw [g0, g1], ?_⟩
      have a := Go.bounds_i64 w0
      have b := Go.bounds_i64 w1
      exact ⟨a.1, a.2, b.1, b.2⟩
  obtain ⟨q, hq⟩ := Deep.choose_lt each
  refine ⟨ao, len, cap, (List.range len).map q, rfl, by simp, hl, hm, fun k hk => ?_, fun p hp => ?_⟩
  · rw [List.length_map, List.length_range] at hk
    obtain ⟨b, off, h1, h2, _⟩ := hx k hk
    refine ⟨b, off, h1, h2, fun j p hj => ?_⟩
    have hjl : j < len ∧ p = q j := by
      rw [List.getElem?_map] at hj
      rcases Nat.lt_or_ge j len with hlt | hge
      · rw [List.getElem?_range hlt] at hj
        simp at hj
        exact ⟨hlt, hj.symm⟩
      · rw [List.getElem?_eq_none (by simpa using hge)] at hj
        cases hj
    obtain ⟨hjl, rfl⟩ := hjl
    obtain ⟨b', off', h1', _, _, h3, _⟩ := hx j hjl
    rw [h1] at h1'
    cases h1'
    obtain ⟨g1, _⟩ := hq j hjl
    have t0 := h3 0 (by omega)
    have t1 := h3 1 (by omega)
    rw [g1] at t0 t1
    exact ⟨by simpa using t0, by simpa [Nat.add_assoc] using t1⟩
  · obtain ⟨j, hj, rfl⟩ := List.mem_map.1 hp
    exact (hq j (List.mem_range.1 hj)).2
end

/-! ### A row of pairs as the library's sort holds it -/
theorem encD_len (x : Int × Int) : (encD x).length = 2 := rfl
theorem encD_one (x : Int × Int) : ∀ v ∈ encD x, v.oneCell' = true := by
  intro v hv
  simp [encD] at hv
  rcases hv with rfl | rfl <;> rfl
abbrev HoldsD (w : World) (b : Nat) (d : Array (Int × Int)) : Prop := HoldsK encD 2 w b 0 d
theorem flatK_get (d : Array (Int × Int)) (j : Nat) (hj : j < d.size) : (flatK encD 2 d)[j * 2]! = .int .i64 d[j]!.1 ∧ (flatK encD 2 d)[j * 2 + 1]! = .int .i64 d[j]!.2 := by
  rw [get_flatK _ _ _ _ (by omega), get_flatK _ _ _ _ (by omega), show j * 2 / 2 = j from by omega, show j * 2 % 2 = 0 from by omega, show (j * 2 + 1) / 2 = j from by omega, show (j * 2 + 1) % 2 = 1 from by omega]
  exact ⟨rfl, rfl⟩
theorem HoldsD.at {w : World} {b : Nat} {d : Array (Int × Int)} (h : HoldsD w b d) (j : Nat) (hj : j < d.size) :
    w.cell? ⟨b, j * 2, none⟩ = some (.int .i64 d[j]!.1) ∧ w.cell? ⟨b, j * 2 + 1, none⟩ = some (.int .i64 d[j]!.2) ∧ w.frozen? ⟨b, j * 2, none⟩ = false ∧ w.frozen? ⟨b, j * 2 + 1, none⟩ = false := by
  have h0 := h.cell (i := j) (c := 0) hj (by decide)
  have h1 := h.cell (i := j) (c := 1) hj (by decide)
  rw [Nat.zero_add] at h0 h1
  exact ⟨h0.1, h1.1, h0.2, h1.2⟩
theorem HoldsD.sl {w : World} {b : Nat} {d : Array (Int × Int)} (h : HoldsD w b d) (hb : b < w.heap.size) : SlP w (some ⟨b, 0, none⟩) d.toList := by
  intro k _
  refine ⟨b, 0, rfl, hb, fun j p hj => ?_⟩
  have hlt : j < d.size := by
    rcases Nat.lt_or_ge j d.size with h | h
    · exact h
    · rw [List.getElem?_eq_none (by simpa using h)] at hj; cases hj
  have e : d[j]! = p := by
    rw [getElem!_pos d j hlt]
    simpa [hlt] using hj
  obtain ⟨c0, c1, _⟩ := h.at j hlt
  rw [e] at c0 c1
  rw [Nat.zero_add]
  exact ⟨c0, c1⟩
theorem HoldsD.ofOwn {w : World} {base : Nat} {t : TypeId} {v : Value} {ps : List (Int × Int)} (h : OwnP w base t v ps) (hv : v ≠ .slice none 0 0) :
    ∃ g cap, v = .slice (some ⟨g, 0, none⟩) ps.length cap ∧ base ≤ g ∧ g < w.heap.size ∧ ps.length ≤ cap ∧ cap ≤ maxLen ∧ HoldsD w g ps.toArray := by
  rcases h.2 with ⟨rfl, _⟩ | ⟨g, cap, cur, rfl, hb, hg, hc, hm, hs, ht⟩
  · exact absurd rfl hv
  · refine ⟨g, cap, rfl, hb, lt_of_block hg, hc, hm, ?_⟩
    intro t0 ht0
    rw [size_flatK] at ht0
    have ht0' : t0 < ps.length * 2 := by simpa using ht0
    have hc1 : w.cell? ⟨g, 0 + t0, none⟩ = cur[t0]? := by rw [Nat.zero_add]; simp [World.cell?, hg]
    have hf1 : w.frozen? ⟨g, 0 + t0, none⟩ = false := by simp [World.frozen?, hg]
    refine ⟨?_, hf1⟩
    rw [hc1]
    have e3 : cur[t0]? = (flatD ps)[t0]? := by rw [← ht, List.getElem?_take, if_pos ht0']; simp
    rw [e3]
    have hd : ps[t0 / 2]? = some (ps[t0 / 2]'(by omega)) := List.getElem?_eq_getElem _
    obtain ⟨g0, g1⟩ := flatD_get ps (t0 / 2) _ hd
    obtain ⟨k0, k1⟩ := flatK_get ps.toArray (t0 / 2) (by simp; omega)
    have e4 : (ps.toArray)[t0 / 2]! = ps[t0 / 2]'(by omega) := by rw [getElem!_pos _ _ (by simp; omega)]; simp
    rw [e4] at k0 k1
    rcases Nat.mod_two_eq_zero_or_one t0 with hm2 | hm2
    · rw [show t0 / 2 * 2 = t0 from by omega] at g0 k0
      rw [g0, k0]; rfl
    · rw [show t0 / 2 * 2 + 1 = t0 from by omega] at g1 k1
      rw [g1, k1]; rfl
/-- What lay apart from the row is as it was. -/
theorem SWK.keptD {w W : World} {b : Nat} {d : Array (Int × Int)} (h : SWK encD 2 w b 0 d W) : Kept b w W := by
  obtain ⟨n, os, rfl⟩ := h
  refine ⟨rfl, rfl, rfl, ?_, fun k hk hne => ?_⟩
  · show w.heap.size ≤ ((w.heap.modify b _) ++ os).size
    simp
  · show ((w.heap.modify b _) ++ os)[k]? = w.heap[k]?
    rw [Array.getElem?_append_left (by simpa using hk), Array.getElem?_modify, if_neg (fun e => hne e.symm)]
/-- A pair is stored. -/
theorem setMany_one (d : Array (Int × Int)) (i : Nat) (hi : i < d.size) (p : Int × Int) : setMany (flatK encD 2 d) (i * 2) (encD p) = flatK encD 2 (d.setIfInBounds i p) := by
  refine ext_get! (by simp) fun t ht => ?_
  have ht' : t < d.size * 2 := by simpa using ht
  rw [get_setMany _ _ _ t (by simpa using ht'), get_flatK _ _ _ t ht', get_flatK _ _ _ t (by simpa using ht'), encD_len]
  by_cases e : i * 2 ≤ t ∧ t < i * 2 + 2
  · have h1 : t / 2 = i := by omega
    rw [if_pos e, h1, show t - i * 2 = t % 2 from by omega]
    have : (d.setIfInBounds i p)[i]! = p := by rw [getElem!_pos _ i (by simpa using hi)]; simp
    rw [this]
  · rw [if_neg e]
    have h1 : t / 2 ≠ i := by omega
    have : (d.setIfInBounds i p)[t / 2]! = d[t / 2]! := by
      simp only [getElem!_def, Array.getElem?_setIfInBounds]
      rw [if_neg (fun e => h1 e.symm)]
    rw [this]
theorem HoldsD.set {w : World} {b : Nat} {d : Array (Int × Int)} (h : HoldsD w b d) (i : Nat) (hi : i < d.size) (p : Int × Int) :
    HoldsD ((w.setCell ⟨b, i * 2, none⟩ (.int .i64 p.1)).setCell ⟨b, i * 2 + 1, none⟩ (.int .i64 p.2)) b (d.setIfInBounds i p) := by
  have := holds_setCells_c h (i * 2) (encD p) (by rw [encD_len, size_flatK]; omega)
  rw [setMany_one d i hi p, Nat.zero_add] at this
  exact this
end Go.Proofs.Ytpolhdkjkidpgaa
