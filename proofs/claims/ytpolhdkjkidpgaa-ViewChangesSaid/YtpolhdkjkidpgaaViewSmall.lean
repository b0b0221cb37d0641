/- Small views in plain words: what joins and changes tell of an ID. -/
import Derived.Test.YtpolhdkjkidpgaaViewMade
namespace Go.Proofs.Ytpolhdkjkidpgaa
open Go.RowKit Go.Shelf Go.Lib Go.Sort

theorem vj_is {A B : List P3} (h : A.length + B.length ≤ 64) : vjoin A B = joinL A B :=
  List.take_of_length_le (Nat.le_trans (joinL_length B A) h)
theorem vw_is {A : List P3} {p : P3} (h : A.length ≤ 63) (hp : mayP p = true) : vwith A p = putL A p := by
  unfold vwith
  rw [if_pos hp, List.take_of_length_le (Nat.le_trans (putL_length A p) (by omega))]
theorem Vsm.put {A : List P3} (ha : Vsm A) {p : P3} (hp : okP p) : Vsm (putL A p) := ⟨putL_sort ha.sort p, putL_all ha.all hp⟩
theorem Vsm.vwith {A : List P3} (ha : Vsm A) {p : P3} (hp : okP p) : Vsm (vwith A p) := by
  rw [vw_is (by have := ha.len; omega) (okP_may hp)]; exact ha.put hp
theorem putL_ge (A : List P3) (p : P3) : A.length ≤ (putL A p).length := by
  induction A with
  | nil => simp
  | cons a A ih => unfold putL; split <;> (try split) <;> simp <;> omega
theorem laterP_lt {p q : P3} (h : q = p ∨ ageLt p q) : laterP p q = q := by
  rcases h with rfl | h
  · exact laterP_idem _
  · exact if_pos h
theorem laterP_abs (p q : P3) : laterP p (laterP p q) = laterP p q := by rw [← laterP_assoc, laterP_idem]
/-- A view, and what a change made of it. -/
theorem join_chg {A : List P3} (ha : SortT A) (f : P3 → P3) (id : Int) (hf : ∀ p, (f p).1 = p.1) (hl : ∀ p ∈ A, f p = p ∨ ageLt p (f p)) : joinL A (chgL f id A) = chgL f id A := by
  have hs := chgL_sort f id hf ha
  refine sortT_ext (joinL_sort ha _) hs fun x => ?_
  rw [fnd_join ha hs, fnd_chgL f id hf]
  by_cases hx : x = id
  · rw [if_pos hx]
    cases h : fnd A x with
    | none => rfl
    | some q => exact congrArg some (laterP_lt (hl q (fnd_some h).1))
  · rw [if_neg hx]; exact oMax_idem _
theorem join_put {A : List P3} (ha : SortT A) (p : P3) : joinL A (putL A p) = putL A p := by
  have hs := putL_sort ha p
  refine sortT_ext (joinL_sort ha _) hs fun x => ?_
  rw [fnd_join ha hs, fnd_putL ha]
  by_cases hx : x = p.1
  · rw [if_pos hx]
    cases h : fnd A x with
    | none => rfl
    | some q => exact congrArg some (laterP_abs q p)
  · rw [if_neg hx]; exact oMax_idem _
theorem susp_le (p : P3) : suspP p = p ∨ ageLt p (suspP p) := by
  unfold suspP
  split
  · rename_i h
    right
    unfold ageLt leftI
    simp [h]
  · exact .inl rfl
theorem refu_le (p : P3) : refuP p = p ∨ ageLt p (refuP p) := by
  unfold refuP
  split
  · rename_i h
    right
    unfold ageLt leftI
    simp [h.1]
    omega
  · exact .inl rfl
theorem leav_le (p : P3) : leavP p = p ∨ ageLt p (leavP p) := by
  unfold leavP
  by_cases h : p.2.2 = 2
  · exact .inl (Prod.ext rfl (Prod.ext rfl h.symm))
  · right
    unfold ageLt leftI
    simp [h]
theorem and3_is (x : Int) : bits .and .i64 x 3 = x % 4 := and_modV x 2 (by decide)
theorem and15_is (x : Int) : bits .and .i64 x 15 = x % 16 := and_modV x 4 (by decide)
theorem and1_is (x : Int) : bits .and .i64 x 1 = x % 2 := and_modV x 1 (by decide)
theorem and30_is (x : Int) : bits .and .i64 x 1073741823 = x % 1073741824 := and_modV x 30 (by decide)
end Go.Proofs.Ytpolhdkjkidpgaa
