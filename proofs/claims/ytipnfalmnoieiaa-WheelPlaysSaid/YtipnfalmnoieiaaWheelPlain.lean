/- The wheel as a row that rises: plain laws. -/
import Derived.Test.YtipnfalmnoieiaaHeap
namespace Go.Proofs.Ytipnfalmnoieiaa
open Go Go.Shelf Go.RowKit Go.Lib Go.Sort

def idsL (L : List (Int × Int)) : List Int := L.map (·.2)
def outL (L : List (Int × Int)) (id : Int) : List (Int × Int) := L.filter fun x => x.2 != id
def setL (L : List (Int × Int)) (at_ id : Int) : List (Int × Int) := insD (outL L id) (at_, id)
def dueL (L : List (Int × Int)) (c : Int) : List (Int × Int) := L.filter fun x => decide (x.1 ≤ c)
def restL (L : List (Int × Int)) (c : Int) : List (Int × Int) := L.filter fun x => !decide (x.1 ≤ c)

theorem insD_perm {L : List (Int × Int)} {x : Int × Int} (h : x ∉ L) : (insD L x).Perm (x :: L) := by
  unfold insD
  rw [if_neg h]
  refine List.perm_middle.trans (List.Perm.cons _ ?_)
  exact List.filter_append_perm _ L
theorem msD_perm_asc {l L : List (Int × Int)} (h : l.Perm L) (ha : Asc L) : msD l = L := by
  have hn : (msD l).Nodup := ((msD_perm l).trans h).nodup_iff.2 (asc_nodup ha)
  rw [msD_of_asc hn]
  exact asc_unique (asc_sortD l) ha fun x => by rw [mem_sortD]; exact h.mem_iff
theorem asc_out {L : List (Int × Int)} (h : Asc L) (id : Int) : Asc (outL L id) := h.filter _
theorem ids_out {L : List (Int × Int)} (h : (idsL L).Nodup) (id : Int) : (idsL (outL L id)).Nodup := (List.filter_sublist.map _).nodup h
theorem not_out (L : List (Int × Int)) (id : Int) : id ∉ idsL (outL L id) := by
  intro h
  obtain ⟨x, hx, e⟩ := List.mem_map.1 h
  have := (List.mem_filter.1 hx).2
  simp at this
  exact this e
theorem asc_set {L : List (Int × Int)} (h : Asc L) (a id : Int) : Asc (setL L a id) := asc_insD (asc_out h id) _
theorem not_mem_out (L : List (Int × Int)) (a id : Int) : (a, id) ∉ outL L id := fun h => not_out L id (List.mem_map.2 ⟨(a, id), h, rfl⟩)
theorem set_perm (L : List (Int × Int)) (a id : Int) : (setL L a id).Perm ((a, id) :: outL L id) := insD_perm (not_mem_out L a id)
theorem ids_set {L : List (Int × Int)} (h : (idsL L).Nodup) (a id : Int) : (idsL (setL L a id)).Nodup := by
  have := (set_perm L a id).map (·.2)
  refine this.nodup_iff.2 ?_
  rw [List.map_cons]
  exact List.nodup_cons.2 ⟨not_out L id, ids_out h id⟩
theorem set_length (L : List (Int × Int)) (a id : Int) : (setL L a id).length = (outL L id).length + 1 := by rw [(set_perm L a id).length_eq]; rfl
theorem out_none {L : List (Int × Int)} {id : Int} (h : id ∉ idsL L) : outL L id = L := by
  refine List.filter_eq_self.2 fun x hx => ?_
  have : x.2 ≠ id := fun e => h (List.mem_map.2 ⟨x, hx, e⟩)
  simpa using this
theorem out_length {L : List (Int × Int)} {id : Int} (hn : (idsL L).Nodup) (h : id ∈ idsL L) : (outL L id).length + 1 = L.length := by
  induction L with
  | nil => simp [idsL] at h
  | cons x L ih =>
    have h1 := List.nodup_cons.1 hn
    by_cases e : x.2 = id
    · have e2 : outL L id = L := out_none (by rw [← e]; exact h1.1)
      have e3 : outL (x :: L) id = outL L id := by unfold outL; rw [List.filter_cons_of_neg (by simp [e])]
      rw [e3, e2]; rfl
    · have e3 : outL (x :: L) id = x :: outL L id := by unfold outL; rw [List.filter_cons_of_pos (by simp [e])]
      have h2 : id ∈ idsL L := by
        rcases List.mem_cons.1 h with h | h
        · exact absurd h.symm e
        · exact h
      rw [e3, List.length_cons, List.length_cons, ih h1.2 h2]
/-- The heap with one taken out. -/
theorem out_perm {A : PA} {L : List (Int × Int)} (h : A.toList.Perm L) (hn : (idsA A).Nodup) {i : Nat} (hi : i < A.size) : (outA A i).toList.Perm (outL L A[i]!.2) := by
  have h1 := outA_perm A i hi
  obtain ⟨_, h2, _⟩ := idsA_out hn hi
  have h3 : (outA A i).toList = outL (outA A i).toList A[i]!.2 := (out_none h2).symm
  have h4 : outL (A[i]! :: (outA A i).toList) A[i]!.2 = outL (outA A i).toList A[i]!.2 := by
    unfold outL; rw [List.filter_cons_of_neg (by simp)]
  rw [h3, ← h4]
  exact (h1.symm.trans h).filter _
theorem ids_perm_L {A : PA} {L : List (Int × Int)} (h : A.toList.Perm L) : (idsA A).Perm (idsL L) := h.map _
/-- The heap's first is the row's first. -/
theorem first_head {A : PA} {x : Int × Int} {L : List (Int × Int)} (h : A.toList.Perm (x :: L)) (hp : Hp A) (ha : Asc (x :: L)) : A[0]! = x := by
  have hl : A.size = L.length + 1 := by have := h.length_eq; simpa using this
  have hx : x ∈ A.toList := h.mem_iff.2 (by simp)
  obtain ⟨j, hj, e⟩ := List.mem_iff_getElem.1 hx
  have hj' : j < A.size := by simpa using hj
  have e2 : A[j]! = x := by rw [getElem!_pos A j hj', ← e]; simp
  rcases hp_first hp j hj' with h1 | h1
  · subst h1; exact e2
  · exfalso
    rw [e2] at h1
    have h3 : A[0]! ∈ x :: L := h.mem_iff.1 (by rw [getElem!_pos A 0 (by omega)]; simp)
    rcases List.mem_cons.1 h3 with h4 | h4
    · rw [h4] at h1; exact ltP_irrefl _ h1
    · exact ltP_asymm ((List.pairwise_cons.1 ha).1 _ h4) h1
theorem out_head {x : Int × Int} {L : List (Int × Int)} (hn : (idsL (x :: L)).Nodup) : outL (x :: L) x.2 = L := by
  have h1 := List.nodup_cons.1 hn
  have : outL (x :: L) x.2 = outL L x.2 := by unfold outL; rw [List.filter_cons_of_neg (by simp)]
  rw [this]; exact out_none h1.1
theorem due_cons_le {x : Int × Int} {L : List (Int × Int)} {c : Int} (h : x.1 ≤ c) : dueL (x :: L) c = x :: dueL L c ∧ restL (x :: L) c = restL L c := by
  unfold dueL restL
  rw [List.filter_cons_of_pos (by simpa using h), List.filter_cons_of_neg (by simpa using h)]
  exact ⟨rfl, rfl⟩
theorem due_cons_gt {x : Int × Int} {L : List (Int × Int)} {c : Int} (ha : Asc (x :: L)) (h : ¬ x.1 ≤ c) : dueL (x :: L) c = [] ∧ restL (x :: L) c = x :: L := by
  have key : ∀ y ∈ x :: L, ¬ y.1 ≤ c := by
    intro y hy
    rcases List.mem_cons.1 hy with rfl | hy
    · exact h
    · have := (List.pairwise_cons.1 ha).1 y hy
      unfold ltP at this
      omega
  exact ⟨List.filter_eq_nil_iff.2 fun y hy => by simpa using key y hy, List.filter_eq_self.2 fun y hy => by simpa using key y hy⟩
end Go.Proofs.Ytipnfalmnoieiaa
