/- Many times in a wheel; what is due is the row's beginning. -/
import Derived.Test.YtipnfalmnoieiaaWheelAwake
import Derived.Test.YtipnfalmnoieiaaBytes
import Derived.Test.YtipnfalmnoieiaaLaw
import Derived.IntWalk
namespace Go.Proofs.Ytipnfalmnoieiaa
open Go.RowKit Go.Shelf Go.Lib Go.Sort Go.Maps

/-- A wheel with the numbers from 0 on. -/
def FullL (L : List (Int × Int)) (n : Nat) : Prop := L.length = n ∧ ∀ x : Int, x ∈ idsL L ↔ 0 ≤ x ∧ x < (n : Int)
theorem fullL_nil : FullL [] 0 := ⟨rfl, fun x => by simp [idsL]⟩
theorem fullL_set {L : List (Int × Int)} {n : Nat} (h : FullL L n) (a : Int) : FullL (setL L a n) (n + 1) := by
  have hni : (n : Int) ∉ idsL L := fun e => by have := (h.2 n).1 e; omega
  refine ⟨by rw [set_length, out_none hni, h.1], fun x => ?_⟩
  have hp : (idsL (setL L a n)).Perm ((n : Int) :: idsL (outL L n)) := (set_perm L a n).map (f := fun y : Int × Int => y.2)
  rw [hp.mem_iff, out_none hni, List.mem_cons, h.2]
  constructor
  · rintro (h1 | h1) <;> omega
  · intro h1
    by_cases e : x = n
    · exact .inl e
    · exact .inr (by omega)
theorem next_is (p : Nat) (F : Nat → Prop) (L : List (Int × Int)) (n : Nat) (hn : Hid (L.length = n)) (clk : Int) (w0 w : World) (h : WB w0 w p F L clk) :
    Calls Try.prog 12 #[.pointer (some ⟨p, 0, none⟩)] w fun e w' => (∃ x1 x2 : Int, e = .returned (.tuple #[.agg #[.int .i64 x1, .int .i64 x2], .bool (decide (0 < n))]) ∧ (0 < n → L[0]? = some (x1, x2))) ∧ Below w.heap.size w w' := by
  rw [← hn.out]
  cases L with
  | nil => exact (next_none p F clk w h.whl).mono fun e w' ⟨h1, h2⟩ => ⟨⟨0, 0, h1, fun h => absurd h (by simp)⟩, h2⟩
  | cons x L =>
    obtain ⟨x1, x2⟩ := x
    exact (next_some p F L x1 x2 clk w h.whl).mono fun e w' ⟨h1, h2⟩ => ⟨⟨x1, x2, by rw [h1]; simp, fun _ => rfl⟩, h2⟩
theorem all_is (p : Nat) (F : Nat → Prop) (L : List (Int × Int)) (n : Nat) (hn : Hid (L.length = n)) (clk : Int) (w0 w : World) (h : WB w0 w p F L clk) :
    Calls Try.prog 14 #[.pointer (some ⟨p, 0, none⟩)] w fun e w' => (∃ ao cap, e = .returned (.slice ao n cap) ∧ SlF w' F ao L) ∧ Below w.heap.size w w' := by
  refine (all_any p F L clk w h.whl).mono ?_
  rintro e w' ⟨⟨ao, cap, rfl, hs, ha⟩, hB⟩
  rw [hn.out]
  exact ⟨⟨ao, cap, rfl, hs, fun a e => ⟨(ha a e).2, fun hF => by have := h.whl.lt _ hF; have := (ha a e).1; omega⟩⟩, hB⟩
theorem stop_is (p : Nat) (F : Nat → Prop) (L L' : List (Int × Int)) (clk id : Int) (b : Bool) (hwf : (Lit.int .i64 id).wf = true) (hL : Hid (outL L id = L')) (hb : Hid (decide (id ∈ idsL L) = b)) (w0 w : World) (h : WB w0 w p F L clk) :
    Calls Try.prog 15 #[.pointer (some ⟨p, 0, none⟩), .int .i64 id] w fun e w' => e = .returned (.bool b) ∧ WB w0 w' p F L' clk ∧ KeptS F w w' := by
  refine (stop_any p F L clk id hwf w h.whl).mono ?_
  rintro e w' ⟨rfl, h1, h2⟩
  rw [hb.out]
  rw [hL.out] at h1
  exact ⟨rfl, h.same h1 h2, h2⟩
/-- What is due is the row's beginning; what is left is the rest. -/
theorem due_take : ∀ {L : List (Int × Int)} (c : Int), Asc L → dueL L c = L.take (dueL L c).length ∧ restL L c = L.drop (dueL L c).length ∧
    (∀ i x, i < (dueL L c).length → L[i]? = some x → x.1 ≤ c) ∧ (∀ i x, (dueL L c).length ≤ i → L[i]? = some x → ¬ x.1 ≤ c)
  | [], c, _ => ⟨rfl, rfl, fun i x _ h => by simp at h, fun i x _ h => by simp at h⟩
  | x :: L, c, ha => by
    by_cases hx : x.1 ≤ c
    · obtain ⟨e1, e2⟩ := due_cons_le (L := L) hx
      obtain ⟨h1, h2, h3, h4⟩ := due_take c (List.pairwise_cons.1 ha).2
      rw [e1, e2, List.length_cons, List.take_succ_cons, List.drop_succ_cons]
      refine ⟨by rw [← h1], h2, fun i y hi hy => ?_, fun i y hi hy => ?_⟩
      · cases i with
        | zero => simp at hy; rw [← hy]; exact hx
        | succ i => exact h3 i y (by omega) (by simpa using hy)
      · cases i with
        | zero => omega
        | succ i => exact h4 i y (by omega) (by simpa using hy)
    · obtain ⟨e1, e2⟩ := due_cons_gt ha hx
      rw [e1, e2]
      refine ⟨rfl, rfl, fun i y hi => by simp at hi, fun i y _ hy => ?_⟩
      cases i with
      | zero => simp at hy; rw [← hy]; exact hx
      | succ i =>
        have hm : y ∈ L := List.mem_of_getElem? (by simpa using hy)
        have := (List.pairwise_cons.1 ha).1 y hm
        unfold ltP at this
        omega
/-- Element k of a slice of numbers. -/
theorem SlAt.int' {w : World} {ao : Option Addr} {zs : List Int} (h : SlAt w ao (zs.map (Value.int .i64))) (k : Nat) (hk : k < zs.length) :
    ∃ b off, ao = some ⟨b, off, none⟩ ∧ b < w.heap.size ∧ w.cell? ⟨b, off + k, none⟩ = some (.int .i64 zs[k]) := by
  obtain ⟨b, off, h1, h2, h3⟩ := h k (by simpa using hk)
  refine ⟨b, off, h1, h2, ?_⟩
  rw [h3 k (by simpa using hk)]
  simp [hk]
end Go.Proofs.Ytipnfalmnoieiaa
