/- Rows of numbers: read, owned, appended to (no layer's own). -/
import Derived.Test.YtpolhdkjkidpgaaSlices
import Derived.Test.YtpolhdkjkidpgaaOwnV
import Derived.Test.YtpolhdkjkidpgaaBlk
import Derived.Test.YtpolhdkjkidpgaaTrip
import Derived.Laws.AppendOwnNone
namespace Go.Proofs.Ytpolhdkjkidpgaa
open Go.RowKit Go.Shelf Go.Lib Go.Sort

theorem infoIntV : (Try.prog.info? 3).map (fun i => (i.zero, i.size, i.bytes)) = some (some (.int .i64 0), 1, 8) := by kernel_rfl
/-- Element k of a slice of numbers. -/
theorem SlAt.intV {w : World} {ao : Option Addr} {zs : List Int} (h : SlAt w ao (zs.map (Value.int .i64))) (k : Nat) (hk : k < zs.length) :
    ∃ b off, ao = some ⟨b, off, none⟩ ∧ b < w.heap.size ∧ w.cell? ⟨b, off + k, none⟩ = some (.int .i64 zs[k]) := by
  obtain ⟨b, off, h1, h2, h3⟩ := h k (by simpa using hk)
  refine ⟨b, off, h1, h2, ?_⟩
  rw [h3 k (by simpa using hk)]
  simp [hk]
/-- A row of numbers that a call owns. -/
def OwnZ (w : World) (base : Nat) (v : Value) (zs : List Int) : Prop := w.ownsRow base 3 1 v zs.length (zs.map (Value.int .i64))
theorem OwnZ.nil (w : World) (base : Nat) : OwnZ w base (.slice none 0 0) [] := ⟨rfl, .inl ⟨rfl, rfl⟩⟩
theorem OwnZ.alloc {w : World} {base : Nat} {v : Value} {zs : List Int} (h : OwnZ w base v zs) (cs : Array Value) (t : TypeId) : OwnZ (w.alloc (.cells cs t)) base v zs := World.ownsRow.alloc h _
theorem OwnZ.below {w w' : World} {base : Nat} {v : Value} {zs : List Int} (h : OwnZ w base v zs) (hb : Below w.heap.size w w') : OwnZ w' base v zs := own_below h hb
theorem SlAt.oneV (w : World) (z : Int) : SlAt (w.alloc (.cells #[.int .i64 z] 3)) (some ⟨w.heap.size, 0, none⟩) (([z] : List Int).map (Value.int .i64)) := by
  intro k _
  refine ⟨w.heap.size, 0, rfl, by simp, fun j hj => ?_⟩
  obtain rfl : j = 0 := by simp at hj; omega
  exact (Blk.new w _ _).cell 0
theorem SlAt.none_lenV {w : World} {xs : List Value} (h : SlAt w none xs) : xs.length = 0 := by
  rcases Nat.eq_zero_or_pos xs.length with h0 | h0
  · exact h0
  · obtain ⟨b, off, e, _⟩ := h 0 h0
    cases e
theorem SlAt.newsV {w : World} {a : Addr} {xs : List Value} (h : SlAt w (some a) xs) : ∀ j u, xs[j]? = some u → w.cell? (a.add j) = some u := by
  intro j u hj
  obtain ⟨g1, g2⟩ := List.getElem?_eq_some_iff.1 hj
  obtain ⟨b, off, e, _, h3⟩ := h j g1
  cases e
  have h4 : w.cell? ⟨b, off + j, none⟩ = some u := (h3 j g1).trans hj
  by_cases h0 : j = 0
  · subst h0; simpa [Addr.add] using h4
  · simpa [Addr.add, h0] using h4
theorem intsV_cell (zs : List Int) : ∀ u ∈ zs.map (Value.int .i64), u.oneCell' = true := by
  intro x hx
  obtain ⟨z, _, rfl⟩ := List.mem_map.1 hx
  rfl
theorem app_intsV {w : World} {ops : Array Oper} {rest : List Oper} {o : Oper} {a : Act} {Q : Exit → Act → World → Prop} (hgd : o.guard = none) (s x : Operand)
    (ho : o.op = .call { callee := .builtin .append, args := #[s, x], argTypes := #[40, 40] })
    (base : Nat) (v : Value) (ps : List Int) (hs : a.eval s = v) (hown : OwnZ w base v ps)
    (ao : Option Addr) (m c : Nat) (qs : List Int) (hx : a.eval x = .slice ao m c) (hq : qs.length = m) (hc : ao = none → c = 0) (hsl : SlAt w ao (qs.map (Value.int .i64))) (hb : ps.length + m ≤ 1000000000) (hbase : base ≤ w.heap.size)
    (h : ∀ v' w', OwnZ w' base v' (ps ++ qs) → w.grownBy w' v.ownBlock → wpList Try.prog ops Q rest (a.put o.dst v') w') : wpList Try.prog ops Q (o :: rest) a w := by
  obtain ⟨i0, hi, hz0, hz1, hz2⟩ := info_parts infoIntV
  cases ao with
  | none =>
    have h0 := hsl.none_lenV
    rw [List.length_map] at h0
    obtain rfl := hc rfl
    obtain rfl : m = 0 := hq.symm.trans h0
    obtain rfl := List.length_eq_zero_iff.1 h0
    refine wpList_append_own_none hgd s x _ ho base 3 i0 1 Try.underlying40 hi v ps.length (ps.map (Value.int .i64)) hs hown hx ?_
    refine h v w (by rw [List.append_nil]; exact hown) ⟨rfl, rfl, rfl, Nat.le_refl _, fun _ _ _ => rfl⟩
  | some ad =>
    refine wpList_append_own w hgd s x _ ho base 3 i0 _ 1 8 Try.underlying40 hi hz0 hz1 hz2 rfl (by decide) v ps.length (ps.map (Value.int .i64)) hs hown ad m c (qs.map (Value.int .i64)) hx (by rw [List.length_map, hq]; omega) hsl.newsV (intsV_cell qs) (by unfold maxLen; omega) (by omega) hbase ?_
    intro v' w' h1 h2 _
    refine h v' w' ?_ h2
    show w'.ownsRow _ _ _ _ _ _
    rw [List.map_append, List.length_append, hq]
    exact h1
end Go.Proofs.Ytpolhdkjkidpgaa
