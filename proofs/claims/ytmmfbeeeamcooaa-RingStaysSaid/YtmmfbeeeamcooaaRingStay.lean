/- RingStays: the plain law: a node more or less changes the order of no others. -/
import Derived.Test.YtmmfbeeeamcooaaRingD
namespace Go.Proofs.Ytmmfbeeeamcooaa
open Go.RowKit Go.Shelf Go.Lib Go.Sort

theorem dedF_filter (q : Int → Bool) (l : List Int) : dedF (l.filter q) = (dedF l).filter q := by
  have key : ∀ (l acc : List Int), (l.filter q).foldl (fun acc x => if x ∈ acc then acc else acc ++ [x]) (acc.filter q) = (l.foldl (fun acc x => if x ∈ acc then acc else acc ++ [x]) acc).filter q := by
    intro l
    induction l with
    | nil => intro acc; rfl
    | cons x l ih =>
      intro acc
      rw [List.foldl_cons]
      by_cases hq : q x = true
      · rw [List.filter_cons_of_pos hq, List.foldl_cons]
        by_cases hx : x ∈ acc
        · rw [if_pos hx, if_pos (List.mem_filter.2 ⟨hx, hq⟩)]; exact ih acc
        · rw [if_neg hx, if_neg (fun h => hx (List.mem_filter.1 h).1), ← ih, List.filter_append, List.filter_cons_of_pos hq]; rfl
      · rw [List.filter_cons_of_neg hq]
        by_cases hx : x ∈ acc
        · rw [if_pos hx]; exact ih acc
        · rw [if_neg hx, ← ih, List.filter_append, List.filter_cons_of_neg hq, List.filter_nil, List.append_nil]
  exact key l []

theorem firstP_split {part : Int} : ∀ {ps : List (Int × Int)}, Asc ps →
    ps.drop (firstP (fun p => decide (part ≤ p.1)) ps) = ps.filter (fun p => decide (part ≤ p.1)) ∧ ps.take (firstP (fun p => decide (part ≤ p.1)) ps) = ps.filter (fun p => ! decide (part ≤ p.1))
  | [], _ => ⟨rfl, rfl⟩
  | x :: l, h => by
    obtain ⟨h1, h2⟩ := List.pairwise_cons.1 h
    by_cases hx : part ≤ x.1
    · have hall : ∀ y ∈ l, part ≤ y.1 := fun y hy => by
        rcases h1 y hy with h | ⟨h, _⟩ <;> omega
      rw [firstP, if_pos (by simpa using hx)]
      constructor
      · rw [List.drop_zero, List.filter_eq_self.2]
        intro y hy
        rcases List.mem_cons.1 hy with rfl | hy
        · simpa using hx
        · simpa using hall y hy
      · rw [List.take_zero, eq_comm, List.filter_eq_nil_iff]
        intro y hy
        rcases List.mem_cons.1 hy with rfl | hy
        · simpa using hx
        · simpa using hall y hy
    · obtain ⟨g1, g2⟩ := firstP_split (part := part) h2
      rw [firstP, if_neg (by simpa using hx)]
      constructor
      · rw [List.drop_succ_cons, g1, List.filter_cons_of_neg (by simpa using hx)]
      · rw [List.take_succ_cons, g2, List.filter_cons_of_pos (by simpa using hx)]

theorem rotR_is (ps : List (Int × Int)) (part : Int) : rotR ps part = ((ps.drop (atR ps part)) ++ ps.take (atR ps part)).map (·.2) := by
  have ha := atR_le ps part
  apply List.ext_getElem
  · simp [rotR]; omega
  · intro k h1 h2
    have hk : k < ps.length := by simpa [rotR] using h1
    simp only [rotR, List.getElem_map, List.getElem_range]
    by_cases h : k < ps.length - atR ps part
    · rw [List.getElem_append_left (by simpa using h), List.getElem_drop]
      have : (atR ps part + k) % ps.length = atR ps part + k := Nat.mod_eq_of_lt (by omega)
      rw [this, getElem!_pos ps _ (by omega)]
    · rw [List.getElem_append_right (by simpa using h), List.getElem_take]
      have : (atR ps part + k) % ps.length = k - (ps.length - atR ps part) := by
        rw [show atR ps part + k = (k - (ps.length - atR ps part)) + ps.length from by omega, Nat.add_mod_right, Nat.mod_eq_of_lt (by omega)]
      rw [this, getElem!_pos ps _ (by omega)]
      simp
theorem rotR_split {ps : List (Int × Int)} (h : Asc ps) (part : Int) : rotR ps part = (ps.filter (fun p => decide (placeI part ≤ p.1)) ++ ps.filter (fun p => ! decide (placeI part ≤ p.1))).map (·.2) := by
  rw [rotR_is]
  obtain ⟨g1, g2⟩ := firstP_split (part := placeI part) h
  unfold atR
  split
  · rw [g1, g2]
  · rename_i hn
    have hl := firstP_le (fun p => decide (placeI part ≤ p.1)) ps
    rw [List.drop_eq_nil_of_le (by omega)] at g1
    rw [List.take_of_length_le (by omega)] at g2
    rw [← g1, ← g2, List.drop_zero, List.take_zero, List.append_nil, List.nil_append]
theorem ring_without (ids : List Int) (id : Int) : ringL (ids.filter (· != id)) = (ringL (ids ++ [id])).filter (fun p => p.2 != id) := by
  refine asc_unique (asc_sortD _) (List.Pairwise.filter _ (asc_sortD _)) fun x => ?_
  rw [List.mem_filter]
  unfold ringL
  rw [mem_sortD, mem_sortD, List.mem_flatMap, List.mem_flatMap]
  have hsn : ∀ z, x ∈ spotsL z → x.2 = z := by
    intro z hz
    simp only [spotsL, List.mem_cons, List.not_mem_nil, or_false] at hz
    rcases hz with rfl | rfl | rfl | rfl <;> rfl
  constructor
  · rintro ⟨z, hz, hx⟩
    obtain ⟨h1, h2⟩ := List.mem_filter.1 hz
    exact ⟨⟨z, by simp [h1], hx⟩, by rw [hsn z hx]; exact h2⟩
  · rintro ⟨⟨z, hz, hx⟩, h2⟩
    rw [hsn z hx] at h2
    refine ⟨z, List.mem_filter.2 ⟨?_, h2⟩, hx⟩
    rcases List.mem_append.1 hz with h | h
    · exact h
    · rw [List.mem_singleton] at h; subst h; simp at h2
/-- A node less: the order of the others is the same. -/
theorem order_without (ids : List Int) (id part : Int) : (orderL (ringL (ids ++ [id])) part).filter (· != id) = orderL (ringL (ids.filter (· != id))) part := by
  have ha : Asc (ringL (ids ++ [id])) := asc_sortD _
  unfold orderL
  rw [← dedF_filter, ring_without, rotR_split ha, rotR_split (List.Pairwise.filter _ ha), List.filter_map, List.filter_append]
  have e : ((fun x => x != id) ∘ fun p : Int × Int => p.2) = fun p : Int × Int => p.2 != id := rfl
  rw [e, List.filter_filter, List.filter_filter, List.filter_filter, List.filter_filter]
  simp only [Bool.and_comm]
end Go.Proofs.Ytmmfbeeeamcooaa
