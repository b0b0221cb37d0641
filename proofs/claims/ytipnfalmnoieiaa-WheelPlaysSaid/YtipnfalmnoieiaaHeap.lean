/- A heap of pairs in an array, and its index: plain laws. -/
import Derived.Test.YtipnfalmnoieiaaPlainD
import Derived.Maps.OwnSet
namespace Go.Proofs.Ytipnfalmnoieiaa
open Go

/-! A heap of pairs: the array A; the one at place i is under way. -/
abbrev PA := Array (Int × Int)
/-- A heap. -/
def Hp (A : PA) : Prop := ∀ j, 0 < j → j < A.size → ltP A[(j - 1) / 2]! A[j]!
/-- A heap but for the edge above i. -/
def UpInv (A : PA) (i : Nat) : Prop := (∀ j, 0 < j → j < A.size → j ≠ i → ltP A[(j - 1) / 2]! A[j]!) ∧ ∀ j, 0 < i → 0 < j → j < A.size → (j - 1) / 2 = i → ltP A[(i - 1) / 2]! A[j]!
/-- A heap but for the edges at i. -/
def DnInv (A : PA) (i : Nat) : Prop := (∀ j, 0 < j → j < A.size → j ≠ i → (j - 1) / 2 ≠ i → ltP A[(j - 1) / 2]! A[j]!) ∧ ∀ j, 0 < i → 0 < j → j < A.size → (j - 1) / 2 = i → ltP A[(i - 1) / 2]! A[j]!
/-- Two places exchanged. -/
def swp (A : PA) (i k : Nat) : PA := (A.setIfInBounds i A[k]!).setIfInBounds k A[i]!

theorem get_set (A : PA) (i j : Nat) (x : Int × Int) : (A.setIfInBounds i x)[j]! = if i = j ∧ i < A.size then x else A[j]! := by
  simp only [getElem!_def, Array.getElem?_setIfInBounds]
  by_cases h : i = j
  · subst h
    by_cases h2 : i < A.size
    · simp [h2]
    · simp [h2]
  · simp [h]
theorem swp_size (A : PA) (i k : Nat) : (swp A i k).size = A.size := by simp [swp]
theorem swp_get (A : PA) (i k j : Nat) (hi : i < A.size) (hk : k < A.size) : (swp A i k)[j]! = if j = k then A[i]! else if j = i then A[k]! else A[j]! := by
  unfold swp
  rw [get_set, get_set]
  simp only [Array.size_setIfInBounds, hi, hk, and_true]
  by_cases h1 : k = j
  · simp [h1]
  · by_cases h2 : i = j
    · simp [h1, h2, Ne.symm h1]
    · simp [h1, h2, Ne.symm h1, Ne.symm h2]

theorem up_done {A : PA} {i : Nat} (h : UpInv A i) (h0 : i = 0 ∨ ltP A[(i - 1) / 2]! A[i]!) : Hp A := by
  intro j h1 h2
  by_cases e : j = i
  · subst e
    rcases h0 with h0 | h0
    · omega
    · exact h0
  · exact h.1 j h1 h2 e
theorem up_step {A : PA} {i : Nat} (h : UpInv A i) (hi : i < A.size) (h0 : 0 < i) (hlt : ltP A[i]! A[(i - 1) / 2]!) : UpInv (swp A i ((i - 1) / 2)) ((i - 1) / 2) := by
  obtain ⟨p, hp⟩ : ∃ p, p = (i - 1) / 2 := ⟨_, rfl⟩
  rw [← hp] at hlt ⊢
  have hpi : p < i := by omega
  have g := fun j => swp_get A i p j hi (by omega)
  constructor
  · intro j h1 h2 h3
    rw [swp_size] at h2
    rw [g, g]
    rw [if_neg h3]
    by_cases e1 : j = i
    · subst e1
      rw [if_pos rfl, if_pos hp.symm]; exact hlt
    · rw [if_neg e1]
      by_cases e2 : (j - 1) / 2 = p
      · rw [if_pos e2]
        have := h.1 j h1 h2 e1
        rw [e2] at this
        exact ltP_trans hlt this
      · rw [if_neg e2]
        by_cases e3 : (j - 1) / 2 = i
        · rw [if_pos e3]
          have := h.2 j h0 h1 h2 e3
          rwa [← hp] at this
        · rw [if_neg e3]
          exact h.1 j h1 h2 e1
  · intro j h1 h2 h3 h4
    rw [swp_size] at h3
    have hpe := h.1 p h1 (by omega) (by omega)
    rw [g, g, if_neg (by omega), if_neg (by omega), if_neg (by omega)]
    by_cases e1 : j = i
    · subst e1
      rw [if_pos rfl]; exact hpe
    · rw [if_neg e1]
      have := h.1 j h2 h3 e1
      rw [h4] at this
      exact ltP_trans hpe this
theorem dn_done {A : PA} {i : Nat} (h : DnInv A i) (h0 : ∀ j, 0 < j → j < A.size → (j - 1) / 2 = i → ltP A[i]! A[j]!) : UpInv A i := by
  refine ⟨fun j h1 h2 h3 => ?_, h.2⟩
  by_cases e : (j - 1) / 2 = i
  · rw [e]; exact h0 j h1 h2 e
  · exact h.1 j h1 h2 h3 e
theorem dn_step {A : PA} {i k : Nat} (h : DnInv A i) (hk : k < A.size) (hk0 : 0 < k) (hki : (k - 1) / 2 = i) (hleast : ∀ j, 0 < j → j < A.size → (j - 1) / 2 = i → j ≠ k → ltP A[k]! A[j]!) : DnInv (swp A i k) k := by
  have hik : i < k := by omega
  have g := fun j => swp_get A i k j (by omega) hk
  constructor
  · intro j h1 h2 h3 h4
    rw [swp_size] at h2
    rw [g, g, if_neg h3, if_neg h4]
    by_cases e1 : j = i
    · subst e1
      rw [if_pos rfl, if_neg (by omega)]
      exact h.2 k h1 hk0 hk hki
    · rw [if_neg e1]
      by_cases e2 : (j - 1) / 2 = i
      · rw [if_pos e2]
        exact hleast j h1 h2 e2 h3
      · rw [if_neg e2]
        exact h.1 j h1 h2 e1 e2
  · intro j h1 h2 h3 h4
    rw [swp_size] at h3
    rw [g, g, hki, if_neg (by omega), if_pos rfl, if_neg (by omega), if_neg (by omega)]
    have := h.1 j h2 h3 (by omega) (by omega)
    rwa [h4] at this
/-- The first of a heap is its least. -/
theorem hp_first {A : PA} (h : Hp A) : ∀ j, j < A.size → j = 0 ∨ ltP A[0]! A[j]!
  | j, hj => by
    by_cases h0 : j = 0
    · exact .inl h0
    · have h1 := h j (by omega) hj
      rcases hp_first h ((j - 1) / 2) (by omega) with h2 | h2
      · rw [h2] at h1; exact .inr h1
      · exact .inr (ltP_trans h2 h1)
/-- One at the end. -/
theorem up_push {A : PA} (h : Hp A) (x : Int × Int) : UpInv (A.push x) A.size := by
  have g : ∀ j, j < A.size → (A.push x)[j]! = A[j]! := fun j hj => by
    rw [getElem!_pos _ j (by simp; omega), getElem!_pos _ j hj, Array.getElem_push_lt hj]
  constructor
  · intro j h1 h2 h3
    rw [Array.size_push] at h2
    rw [g j (by omega), g _ (by omega)]
    exact h j h1 (by omega)
  · intro j h0 h1 h2 h3
    rw [Array.size_push] at h2
    omega
/-- The last one taken off. -/
theorem hp_pop {A : PA} (h : Hp A) : Hp A.pop := by
  intro j h1 h2
  rw [Array.size_pop] at h2
  have g : ∀ j, j < A.size - 1 → A.pop[j]! = A[j]! := fun j hj => by
    rw [getElem!_pos _ j (by simp; omega), getElem!_pos _ j (by omega), Array.getElem_pop]
  rw [g j h2, g _ (by omega)]
  exact h j h1 (by omega)
/-- Another one at place i. -/
theorem dn_set {A : PA} (h : Hp A) (i : Nat) (x : Int × Int) : DnInv (A.setIfInBounds i x) i := by
  constructor
  · intro j h1 h2 h3 h4
    rw [Array.size_setIfInBounds] at h2
    rw [get_set, get_set, if_neg (by omega), if_neg (by omega)]
    exact h j h1 h2
  · intro j h0 h1 h2 h3
    rw [Array.size_setIfInBounds] at h2
    rw [get_set, get_set, if_neg (by omega), if_neg (by omega)]
    have e1 := h j h1 h2
    have e2 := h i h0 (by omega)
    rw [h3] at e1
    exact ltP_trans e2 e1

theorem swp_perm (A : PA) (i k : Nat) (hi : i < A.size) (hk : k < A.size) : (swp A i k).toList.Perm A.toList := by
  have e : swp A i k = A.swap i k hi hk := by
    apply Array.ext
    · simp [swp]
    · intro j h1 h2
      rw [Array.getElem_swap]
      have h3 : j < A.size := by simpa [swp] using h1
      have := swp_get A i k j hi hk
      rw [getElem!_pos _ j h1, getElem!_pos A i hi, getElem!_pos A k hk, getElem!_pos A j h3] at this
      rw [this]
      by_cases e1 : j = k
      · subst e1
        by_cases e2 : j = i
        · subst e2; simp
        · simp [e2]
      · by_cases e2 : j = i
        · subst e2; simp [e1]
        · simp [e1, e2]
  rw [e]
  exact Array.perm_iff_toList_perm.1 (Array.swap_perm hi hk)
/-- The one at place i taken out, the last one in its place. -/
def outA (A : PA) (i : Nat) : PA := A.pop.setIfInBounds i A[A.size - 1]!
theorem outA_size (A : PA) (i : Nat) : (outA A i).size = A.size - 1 := by simp [outA]
theorem outA_perm (A : PA) (i : Nat) (hi : i < A.size) : A.toList.Perm (A[i]! :: (outA A i).toList) := by
  have h1 := swp_perm A i (A.size - 1) hi (by omega)
  refine h1.symm.trans ?_
  have e : (swp A i (A.size - 1)).toList = (outA A i).toList ++ [A[i]!] := by
    have e2 : swp A i (A.size - 1) = (outA A i).push A[i]! := by
      apply Array.ext
      · simp [swp, outA]; omega
      · intro j h1 h2
        have h3 : j < A.size := by simpa [swp] using h1
        have := swp_get A i (A.size - 1) j hi (by omega)
        rw [getElem!_pos _ j h1] at this
        rw [this]
        by_cases e1 : j = A.size - 1
        · subst e1
          rw [if_pos rfl]
          have : A.size - 1 = (outA A i).size := (outA_size A i).symm
          rw [Array.getElem_push]
          rw [dif_neg (by rw [outA_size]; omega)]
        · rw [if_neg e1, Array.getElem_push_lt (by rw [outA_size]; omega)]
          have hpo : j < A.pop.size := by simp; omega
          have := get_set A.pop i j A[A.size - 1]!
          rw [getElem!_pos _ j (by simp; omega), getElem!_pos A.pop j hpo, Array.getElem_pop] at this
          unfold outA
          rw [this]
          by_cases e2 : j = i
          · subst e2; rw [if_pos rfl, if_pos ⟨rfl, hpo⟩]
          · rw [if_neg e2, if_neg (fun h => e2 h.1.symm), getElem!_pos A j h3]
    rw [e2, Array.toList_push]
  rw [e]
  exact List.perm_append_singleton _ _
theorem outA_last (A : PA) : outA A (A.size - 1) = A.pop := by
  unfold outA
  exact Array.setIfInBounds_eq_of_size_le (by simp)
theorem outA_get (A : PA) (i j : Nat) (hj : j < A.size - 1) : (outA A i)[j]! = if i = j then A[A.size - 1]! else A[j]! := by
  unfold outA
  rw [get_set]
  have hp : A.pop[j]! = A[j]! := by rw [getElem!_pos A.pop j (by simpa using hj), getElem!_pos A j (by omega), Array.getElem_pop]
  by_cases e : i = j
  · subst e; rw [if_pos ⟨rfl, by simpa using hj⟩, if_pos rfl]
  · rw [if_neg (fun h => e h.1), if_neg e, hp]
/-- The numbers. -/
def idsA (A : PA) : List Int := A.toList.map (·.2)
theorem ids_get {A : PA} (h : (idsA A).Nodup) {i j : Nat} (hi : i < A.size) (hj : j < A.size) (e : A[i]!.2 = A[j]!.2) : i = j := by
  have key : ∀ i j : Nat, i < j → j < A.size → A[i]!.2 ≠ A[j]!.2 := by
    intro i j hij hj e
    have h3 := List.pairwise_iff_getElem.1 h i j (by simp [idsA]; omega) (by simpa [idsA] using hj) hij
    rw [getElem!_pos A i (by omega), getElem!_pos A j hj] at e
    apply h3
    simpa [idsA] using e
  rcases Nat.lt_trichotomy i j with h3 | h3 | h3
  · exact absurd e (key i j h3 hj)
  · exact h3
  · exact absurd e.symm (key j i h3 hi)
theorem mem_ids {A : PA} {x : Int} : x ∈ idsA A ↔ ∃ j, j < A.size ∧ A[j]!.2 = x := by
  constructor
  · intro h
    obtain ⟨p, hp, rfl⟩ := List.mem_map.1 h
    obtain ⟨j, hj, e⟩ := List.mem_iff_getElem.1 hp
    have hj' : j < A.size := by simpa using hj
    exact ⟨j, hj', by rw [getElem!_pos A j hj', ← e]; simp⟩
  · rintro ⟨j, hj, rfl⟩
    exact List.mem_map.2 ⟨A[j]!, by rw [getElem!_pos A j hj]; simp, rfl⟩
theorem ids_perm {A B : PA} (h : A.toList.Perm B.toList) : (idsA A).Perm (idsA B) := h.map _
theorem ne_of_ids {A : PA} (h : (idsA A).Nodup) {i j : Nat} (hi : i < A.size) (hj : j < A.size) (hij : i ≠ j) : A[i]! ≠ A[j]! := fun e => hij (ids_get h hi hj (by rw [e]))
theorem swp_nodup {A : PA} (h : (idsA A).Nodup) {i k : Nat} (hi : i < A.size) (hk : k < A.size) : (idsA (swp A i k)).Nodup := (ids_perm (swp_perm A i k hi hk)).nodup_iff.2 h

/-! The index: where each number lies in the heap. -/
abbrev IL (x : Int) : Lit := .int .i64 x
theorem il_key (x : Int) : WideAt.IsKeyLit (IL x) := trivial
theorem il_ne {x y : Int} (h : x ≠ y) : IL x ≠ IL y := by intro e; injection e with _ e; exact h e
/-- The index of a heap, but for place i. -/
structure IdxBut (D : DataW Unit) (A : PA) (i : Nat) : Prop where
  tidy : Maps.Tidy D
  at_ : ∀ j, j < A.size → j ≠ i → ∀ z, D.atKey (IL A[j]!.2) z = .lit (.int .i64 j)
  has_ : ∀ x, Maps.has D (IL x) = true → x ∈ idsA A
  room : Maps.size D + (if Maps.has D (IL A[i]!.2) then 0 else 1) ≤ A.size
structure Idx (D : DataW Unit) (A : PA) : Prop where
  tidy : Maps.Tidy D
  at_ : ∀ j, j < A.size → ∀ z, D.atKey (IL A[j]!.2) z = .lit (.int .i64 j)
  has_ : ∀ x, Maps.has D (IL x) = true → x ∈ idsA A
  room : Maps.size D ≤ A.size
theorem Idx.hasAt {D : DataW Unit} {A : PA} (h : Idx D A) {j : Nat} (hj : j < A.size) : Maps.has D (IL A[j]!.2) = true := Maps.has_true_of_atKey (h.at_ j hj)
theorem Idx.has_iff {D : DataW Unit} {A : PA} (h : Idx D A) (x : Int) : Maps.has D (IL x) = decide (x ∈ idsA A) := by
  by_cases e : x ∈ idsA A
  · obtain ⟨j, hj, rfl⟩ := mem_ids.1 e
    rw [h.hasAt hj]; exact (decide_eq_true e).symm
  · rw [decide_eq_false e]
    cases hh : Maps.has D (IL x)
    · rfl
    · exact absurd (h.has_ x hh) e
theorem idx_nil : Idx (.map []) #[] := ⟨Maps.tidy_empty, (fun j hj => by simp at hj), (fun x hx => by cases hx), Nat.le_refl _⟩
theorem Idx.but {D : DataW Unit} {A : PA} (h : Idx D A) {i : Nat} (hi : i < A.size) : IdxBut D A i :=
  ⟨h.tidy, fun j hj _ => h.at_ j hj, h.has_, by rw [h.hasAt hi]; exact h.room⟩
theorem IdxBut.put {D : DataW Unit} {A : PA} {i : Nat} (h : IdxBut D A i) (hi : i < A.size) (hn : (idsA A).Nodup) : Idx (D.put (IL A[i]!.2) (.lit (.int .i64 i))) A := by
  refine ⟨h.tidy.put (il_key _) _, fun j hj z => ?_, fun x hx => ?_, ?_⟩
  · by_cases e : j = i
    · subst e; exact Maps.atKey_put_same h.tidy.isMap (il_key _) _ _
    · rw [Maps.atKey_put_other (il_ne fun e2 => e (ids_get hn hj hi e2))]
      exact h.at_ j hj e z
  · by_cases e : x = A[i]!.2
    · subst e; exact mem_ids.2 ⟨i, hi, rfl⟩
    · rw [Maps.has_put_other (il_ne e)] at hx
      exact h.has_ x hx
  · rw [Maps.size_put h.tidy]
    have := h.room
    split <;> rename_i e <;> simp [e] at this <;> omega
theorem IdxBut.step {D : DataW Unit} {A : PA} {i k : Nat} (h : IdxBut D A i) (hi : i < A.size) (hk : k < A.size) (hki : k ≠ i) (hn : (idsA A).Nodup) : IdxBut (D.put (IL A[k]!.2) (.lit (.int .i64 i))) (swp A i k) k := by
  have g := fun j => swp_get A i k j hi hk
  have hhk : Maps.has D (IL A[k]!.2) = true := Maps.has_true_of_atKey (h.at_ k hk hki)
  have hne : A[i]!.2 ≠ A[k]!.2 := fun e => hki (ids_get hn hk hi e.symm)
  refine ⟨h.tidy.put (il_key _) _, fun j hj hjk z => ?_, fun x hx => ?_, ?_⟩
  · rw [swp_size] at hj
    rw [g, if_neg hjk]
    by_cases e : j = i
    · subst e
      rw [if_pos rfl]; exact Maps.atKey_put_same h.tidy.isMap (il_key _) _ _
    · rw [if_neg e, Maps.atKey_put_other (il_ne fun e2 => hjk (ids_get hn hj hk e2))]
      exact h.at_ j hj e z
  · have hp := (ids_perm (swp_perm A i k hi hk)).mem_iff (a := x)
    rw [hp]
    by_cases e : x = A[k]!.2
    · subst e; exact mem_ids.2 ⟨k, hk, rfl⟩
    · rw [Maps.has_put_other (il_ne e)] at hx
      exact h.has_ x hx
  · rw [Maps.size_put h.tidy, if_pos hhk, g, if_pos rfl, Maps.has_put_other (il_ne hne), swp_size]
    exact h.room
theorem Idx.push {D : DataW Unit} {A : PA} (h : Idx D A) {x : Int × Int} (hx : Maps.has D (IL x.2) = false) : IdxBut D (A.push x) A.size := by
  have g : ∀ j, j < A.size → (A.push x)[j]! = A[j]! := fun j hj => by
    rw [getElem!_pos _ j (by simp; omega), getElem!_pos _ j hj, Array.getElem_push_lt hj]
  have gl : (A.push x)[A.size]! = x := by rw [getElem!_pos _ _ (by simp)]; simp
  refine ⟨h.tidy, fun j hj hji z => ?_, fun y hy => ?_, ?_⟩
  · rw [Array.size_push] at hj
    rw [g j (by omega)]
    exact h.at_ j (by omega) z
  · have := h.has_ y hy
    simp only [idsA, Array.toList_push, List.map_append, List.mem_append]
    exact .inl this
  · rw [gl, hx, Array.size_push]
    have := h.room
    simp; exact this
theorem idsA_out {A : PA} (hn : (idsA A).Nodup) {i : Nat} (hi : i < A.size) : (idsA (outA A i)).Nodup ∧ A[i]!.2 ∉ idsA (outA A i) ∧ ∀ x, x ∈ idsA (outA A i) ↔ x ∈ idsA A ∧ x ≠ A[i]!.2 := by
  have hp := (outA_perm A i hi).map (·.2)
  have hq : (idsA A).Perm (A[i]!.2 :: idsA (outA A i)) := hp
  have h1 := List.nodup_cons.1 (hq.nodup_iff.1 hn)
  refine ⟨h1.2, h1.1, fun x => ?_⟩
  rw [hq.mem_iff, List.mem_cons]
  constructor
  · intro h
    exact ⟨.inr h, fun e => h1.1 (e ▸ h)⟩
  · rintro ⟨h | h, h2⟩
    · exact absurd h h2
    · exact h
/-- The last one taken out. -/
theorem Idx.last {D : DataW Unit} {A : PA} (h : Idx D A) (hn : (idsA A).Nodup) (h0 : 0 < A.size) : Idx (D.del (IL A[A.size - 1]!.2)) (outA A (A.size - 1)) := by
  obtain ⟨h1, h2, h3⟩ := idsA_out hn (i := A.size - 1) (by omega)
  have hh := h.hasAt (j := A.size - 1) (by omega)
  have hs := Maps.size_del h.tidy (k := IL A[A.size - 1]!.2)
  rw [hh] at hs
  refine ⟨h.tidy.del _, fun j hj z => ?_, fun x hx => ?_, ?_⟩
  · rw [outA_size] at hj
    rw [outA_get _ _ _ hj, if_neg (by omega), Maps.atKey_del_other (il_ne fun e => by have := ids_get hn (by omega) (by omega) e; omega)]
    exact h.at_ j (by omega) z
  · by_cases e : x = A[A.size - 1]!.2
    · subst e; rw [Maps.has_del_same] at hx; cases hx
    · rw [Maps.has_del_other (il_ne e)] at hx
      exact (h3 x).2 ⟨h.has_ x hx, e⟩
  · rw [outA_size]
    have := h.room
    simp at hs; omega
/-- One taken out in the midst, the last one laid in its place. -/
theorem Idx.mid {D : DataW Unit} {A : PA} (h : Idx D A) (hn : (idsA A).Nodup) {i : Nat} (hi : i < A.size - 1) : Idx ((D.del (IL A[i]!.2)).put (IL A[A.size - 1]!.2) (.lit (.int .i64 i))) (outA A i) := by
  obtain ⟨h1, h2, h3⟩ := idsA_out hn (i := i) (by omega)
  have hh := h.hasAt (j := i) (by omega)
  have hl := h.hasAt (j := A.size - 1) (by omega)
  have hne : A[A.size - 1]!.2 ≠ A[i]!.2 := fun e => by have := ids_get hn (by omega) (by omega) e; omega
  have hs := Maps.size_del h.tidy (k := IL A[i]!.2)
  rw [hh] at hs
  have ht := h.tidy.del (IL A[i]!.2)
  refine ⟨ht.put (il_key _) _, fun j hj z => ?_, fun x hx => ?_, ?_⟩
  · rw [outA_size] at hj
    rw [outA_get _ _ _ hj]
    by_cases e : i = j
    · subst e
      rw [if_pos rfl]; exact Maps.atKey_put_same ht.isMap (il_key _) _ _
    · rw [if_neg e, Maps.atKey_put_other (il_ne fun e2 => by have := ids_get hn (by omega) (by omega) e2; omega), Maps.atKey_del_other (il_ne fun e2 => e (ids_get hn (by omega) (by omega) e2).symm)]
      exact h.at_ j (by omega) z
  · rw [h3]
    by_cases e : x = A[A.size - 1]!.2
    · subst e; exact ⟨mem_ids.2 ⟨A.size - 1, by omega, rfl⟩, hne⟩
    · rw [Maps.has_put_other (il_ne e)] at hx
      by_cases e2 : x = A[i]!.2
      · subst e2; rw [Maps.has_del_same] at hx; cases hx
      · rw [Maps.has_del_other (il_ne e2)] at hx
        exact ⟨h.has_ x hx, e2⟩
  · rw [Maps.size_put ht, Maps.has_del_other (il_ne hne), if_pos hl, outA_size]
    have := h.room
    simp at hs; omega
end Go.Proofs.Ytipnfalmnoieiaa
