/- Rings: the plain law of orders. -/
import Derived.Test.YtmmfbeeeamcooaaDoorRingC
namespace Go.Proofs.YtmmfbeeeamcooaaDoor
open Go.RowKit Go.Shelf Go.Lib Go.Sort

theorem dedF_both (l : List Int) : (dedF l).Nodup ∧ ∀ x, x ∈ dedF l ↔ x ∈ l := by
  have key : ∀ (l acc : List Int), acc.Nodup → (l.foldl (fun acc x => if x ∈ acc then acc else acc ++ [x]) acc).Nodup ∧ ∀ x, x ∈ (l.foldl (fun acc x => if x ∈ acc then acc else acc ++ [x]) acc) ↔ x ∈ acc ∨ x ∈ l := by
    intro l
    induction l with
    | nil => intro acc h; exact ⟨h, by simp⟩
    | cons a l ih =>
      intro acc h
      rw [List.foldl_cons]
      by_cases ha : a ∈ acc
      · rw [if_pos ha]
        refine ⟨(ih acc h).1, fun x => ?_⟩
        rw [(ih acc h).2 x, List.mem_cons]
        constructor
        · rintro (h | h)
          · exact .inl h
          · exact .inr (.inr h)
        · rintro (h | rfl | h)
          · exact .inl h
          · exact .inl ha
          · exact .inr h
      · rw [if_neg ha]
        have hn : (acc ++ [a]).Nodup := by
          rw [List.nodup_append]
          refine ⟨h, by simp, ?_⟩
          intro x hx y hy
          rw [List.mem_singleton] at hy
          subst hy
          intro e; subst e; exact ha hx
        refine ⟨(ih _ hn).1, fun x => ?_⟩
        rw [(ih _ hn).2 x, List.mem_append, List.mem_singleton, List.mem_cons, or_assoc]
  have := key l [] (by simp)
  exact ⟨this.1, fun x => by have h := this.2 x; simpa [dedF] using h⟩

theorem atR_le (ps : List (Int × Int)) (part : Int) : atR ps part ≤ ps.length := by
  unfold atR; split
  · exact firstP_le _ _
  · omega
theorem rotR_mem (ps : List (Int × Int)) (part x : Int) : x ∈ rotR ps part ↔ ∃ p ∈ ps, p.2 = x := by
  unfold rotR
  rw [List.mem_map]
  constructor
  · rintro ⟨k, hk, rfl⟩
    rw [List.mem_range] at hk
    have hm : (atR ps part + k) % ps.length < ps.length := Nat.mod_lt _ (by omega)
    refine ⟨ps[(atR ps part + k) % ps.length]!, ?_, rfl⟩
    rw [getElem!_pos ps _ hm]
    exact List.getElem_mem _
  · rintro ⟨p, hp, rfl⟩
    obtain ⟨i, hi, rfl⟩ := List.getElem_of_mem hp
    have ha := atR_le ps part
    have hn : 0 < ps.length := by omega
    refine ⟨(i + (ps.length - atR ps part)) % ps.length, by rw [List.mem_range]; exact Nat.mod_lt _ hn, ?_⟩
    have : (atR ps part + (i + (ps.length - atR ps part)) % ps.length) % ps.length = i := by
      rw [Nat.add_mod_mod, show atR ps part + (i + (ps.length - atR ps part)) = i + ps.length from by omega, Nat.add_mod_right, Nat.mod_eq_of_lt hi]
    rw [this, getElem!_pos ps i hi]
/-- The order of a ring has each node once, and no other. -/
theorem order_ring (ids : List Int) (part : Int) : (orderL (ringL ids) part).Nodup ∧ ∀ x, x ∈ orderL (ringL ids) part ↔ x ∈ ids := by
  refine ⟨(dedF_both _).1, fun x => ?_⟩
  unfold orderL
  rw [(dedF_both _).2, rotR_mem]
  constructor
  · rintro ⟨p, hp, rfl⟩; exact ringL_node hp
  · intro hx
    refine ⟨(spotAt x 0, x), ?_, rfl⟩
    unfold ringL
    rw [mem_sortD, List.mem_flatMap]
    exact ⟨x, hx, by simp [spotsL]⟩
theorem nodup_take {l : List Int} (h : l.Nodup) (i : Nat) (hi : i < l.length) (j : Nat) : (l[i] ∈ l.take j) ↔ i < j := by
  constructor
  · intro hm
    obtain ⟨m, hm1, hm2⟩ := List.getElem_of_mem hm
    rw [List.getElem_take] at hm2
    rw [List.length_take] at hm1
    have := (List.getElem_inj h).1 hm2
    omega
  · intro hij
    rw [List.mem_iff_getElem]
    exact ⟨i, by rw [List.length_take]; omega, by rw [List.getElem_take]⟩
end Go.Proofs.YtmmfbeeeamcooaaDoor
