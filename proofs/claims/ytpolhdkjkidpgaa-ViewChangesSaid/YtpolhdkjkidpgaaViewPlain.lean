/- Views in plain words: the later one of two, a row that rises by IDs, what is known of an ID, joins. -/
import Derived.Test.YtpolhdkjkidpgaaTrip
namespace Go.Proofs.Ytpolhdkjkidpgaa
open Go.Shelf Go.RowKit Go.Lib Go.Sort

def leftI (p : P3) : Int := if p.2.2 = 2 then 1 else 0
/-- An age is below another. -/
def ageLt (a b : P3) : Prop := leftI a < leftI b ∨ leftI a = leftI b ∧ (a.2.1 < b.2.1 ∨ a.2.1 = b.2.1 ∧ a.2.2 < b.2.2)
instance (a b : P3) : Decidable (ageLt a b) := by unfold ageLt; exact inferInstance
/-- The later one of two. -/
def laterP (a b : P3) : P3 := if ageLt a b then b else a
theorem laterP_fst {a b : P3} (h : a.1 = b.1) : (laterP a b).1 = a.1 := by unfold laterP; split <;> simp [h]
theorem laterP_idem (a : P3) : laterP a a = a := by unfold laterP; split <;> rfl
theorem ageLt_tot {a b : P3} (h : a.1 = b.1) (h1 : ¬ ageLt a b) (h2 : ¬ ageLt b a) : a = b := by
  unfold ageLt at h1 h2
  have e1 : a.2.1 = b.2.1 := by omega
  have e2 : a.2.2 = b.2.2 := by omega
  exact Prod.ext h (Prod.ext e1 e2)
theorem ageLt_asymm {a b : P3} (h1 : ageLt a b) : ¬ ageLt b a := by unfold ageLt at *; omega
theorem ageLt_trans {a b c : P3} (h1 : ageLt a b) (h2 : ageLt b c) : ageLt a c := by unfold ageLt at *; omega
theorem ageLt_ntrans {a b c : P3} (h1 : ¬ ageLt a b) (h2 : ¬ ageLt b c) : ¬ ageLt a c := by unfold ageLt at *; omega
theorem laterP_comm {a b : P3} (h : a.1 = b.1) : laterP a b = laterP b a := by
  unfold laterP
  by_cases h1 : ageLt a b
  · rw [if_pos h1, if_neg (ageLt_asymm h1)]
  · by_cases h2 : ageLt b a
    · rw [if_neg h1, if_pos h2]
    · rw [if_neg h1, if_neg h2]; exact ageLt_tot h h1 h2
theorem laterP_assoc (a b c : P3) : laterP (laterP a b) c = laterP a (laterP b c) := by
  unfold laterP
  by_cases h1 : ageLt a b
  · rw [if_pos h1]
    by_cases h2 : ageLt b c
    · rw [if_pos h2, if_pos (ageLt_trans h1 h2)]
    · rw [if_neg h2, if_pos h1]
  · rw [if_neg h1]
    by_cases h2 : ageLt b c
    · rw [if_pos h2]
    · rw [if_neg h2, if_neg h1, if_neg (ageLt_ntrans h1 h2)]

/-- By rising IDs. -/
def SortT (l : List P3) : Prop := l.Pairwise fun x y => x.1 < y.1
/-- What is known of an ID. -/
def fnd (l : List P3) (x : Int) : Option P3 := l.find? fun p => p.1 == x
theorem fnd_nil (x : Int) : fnd [] x = none := rfl
theorem fnd_cons (p : P3) (l : List P3) (x : Int) : fnd (p :: l) x = if p.1 = x then some p else fnd l x := by
  unfold fnd
  rw [List.find?_cons]
  by_cases h : p.1 = x
  · simp [h]
  · have : (p.1 == x) = false := by simpa using h
    rw [this, if_neg h]
theorem fnd_some {l : List P3} {x : Int} {p : P3} (h : fnd l x = some p) : p ∈ l ∧ p.1 = x := by
  unfold fnd at h
  exact ⟨List.mem_of_find?_eq_some h, by simpa using List.find?_some h⟩
theorem fnd_none {l : List P3} {x : Int} : fnd l x = none ↔ ∀ p ∈ l, p.1 ≠ x := by
  unfold fnd
  rw [List.find?_eq_none]
  simp
theorem fnd_mem {l : List P3} (hs : SortT l) {p : P3} (h : p ∈ l) : fnd l p.1 = some p := by
  induction l with
  | nil => cases h
  | cons q l ih =>
    obtain ⟨h1, h2⟩ := List.pairwise_cons.1 hs
    rw [fnd_cons]
    rcases List.mem_cons.1 h with rfl | h
    · rw [if_pos rfl]
    · rw [if_neg (by have := h1 p h; omega), ih h2 h]
theorem sortT_ext {a b : List P3} (ha : SortT a) (hb : SortT b) (h : ∀ x, fnd a x = fnd b x) : a = b := by
  have hm : ∀ p, p ∈ a ↔ p ∈ b := fun p =>
    ⟨fun hp => (fnd_some ((h p.1).symm.trans (fnd_mem ha hp))).1, fun hp => (fnd_some ((h p.1).trans (fnd_mem hb hp))).1⟩
  have nd : ∀ {l : List P3}, SortT l → l.Nodup := fun hl => hl.imp fun h e => by rw [e] at h; omega
  refine List.Perm.eq_of_pairwise (le := fun x y : P3 => x.1 < y.1) (fun x y _ _ h1 h2 => by omega) ha hb ((List.perm_ext_iff_of_nodup (nd ha) (nd hb)).2 hm)

/-- What is known of one more. -/
def more (q : Option P3) (p : P3) : P3 := match q with | none => p | some q => laterP q p
/-- A view with a peer. -/
def putL : List P3 → P3 → List P3
  | [], p => [p]
  | x :: l, p => if x.1 = p.1 then laterP x p :: l else if p.1 < x.1 then p :: x :: l else x :: putL l p
theorem putL_ids (l : List P3) (p : P3) (x : Int) : (∃ q ∈ putL l p, q.1 = x) ↔ x = p.1 ∨ ∃ q ∈ l, q.1 = x := by
  induction l with
  | nil => simp [putL, eq_comm]
  | cons a l ih =>
    unfold putL
    split
    · rename_i h
      constructor
      · rintro ⟨q, hq, e⟩
        rcases List.mem_cons.1 hq with rfl | hq
        · exact .inl (by rw [← e, laterP_fst h, h])
        · exact .inr ⟨q, List.mem_cons_of_mem _ hq, e⟩
      · rintro (e | ⟨q, hq, e⟩)
        · exact ⟨laterP a p, by simp, by rw [laterP_fst h, h, e]⟩
        · rcases List.mem_cons.1 hq with rfl | hq
          · exact ⟨laterP q p, by simp, by rw [laterP_fst h, e]⟩
          · exact ⟨q, List.mem_cons_of_mem _ hq, e⟩
    · split
      · constructor
        · rintro ⟨q, hq, e⟩
          rcases List.mem_cons.1 hq with rfl | hq
          · exact .inl e.symm
          · exact .inr ⟨q, hq, e⟩
        · rintro (e | ⟨q, hq, e⟩)
          · exact ⟨p, by simp, e.symm⟩
          · exact ⟨q, List.mem_cons_of_mem _ hq, e⟩
      · constructor
        · rintro ⟨q, hq, e⟩
          rcases List.mem_cons.1 hq with rfl | hq
          · exact .inr ⟨q, by simp, e⟩
          · rcases ih.1 ⟨q, hq, e⟩ with e | ⟨r, hr, e⟩
            · exact .inl e
            · exact .inr ⟨r, List.mem_cons_of_mem _ hr, e⟩
        · rintro (e | ⟨q, hq, e⟩)
          · obtain ⟨r, hr, e'⟩ := ih.2 (.inl e)
            exact ⟨r, List.mem_cons_of_mem _ hr, e'⟩
          · rcases List.mem_cons.1 hq with rfl | hq
            · exact ⟨q, by simp, e⟩
            · obtain ⟨r, hr, e'⟩ := ih.2 (.inr ⟨q, hq, e⟩)
              exact ⟨r, List.mem_cons_of_mem _ hr, e'⟩
theorem putL_sort {l : List P3} (hs : SortT l) (p : P3) : SortT (putL l p) := by
  induction l with
  | nil => exact List.pairwise_singleton _ _
  | cons a l ih =>
    obtain ⟨h1, h2⟩ := List.pairwise_cons.1 hs
    unfold putL
    split
    · rename_i h
      exact List.pairwise_cons.2 ⟨fun q hq => by rw [laterP_fst h]; exact h1 q hq, h2⟩
    · split
      · rename_i h h3
        exact List.pairwise_cons.2 ⟨fun q hq => by
          rcases List.mem_cons.1 hq with rfl | hq
          · exact h3
          · have := h1 q hq; omega, hs⟩
      · rename_i h h3
        refine List.pairwise_cons.2 ⟨fun q hq => ?_, ih h2⟩
        rcases (putL_ids l p q.1).1 ⟨q, hq, rfl⟩ with e | ⟨r, hr, e⟩
        · omega
        · have := h1 r hr; omega
theorem fnd_putL {l : List P3} (hs : SortT l) (p : P3) (x : Int) : fnd (putL l p) x = if x = p.1 then some (more (fnd l x) p) else fnd l x := by
  induction l with
  | nil =>
    unfold putL
    rw [fnd_cons, fnd_nil]
    by_cases h : x = p.1
    · rw [if_pos h.symm, if_pos h]; rfl
    · rw [if_neg (fun e => h e.symm), if_neg h]
  | cons a l ih =>
    obtain ⟨h1, h2⟩ := List.pairwise_cons.1 hs
    unfold putL
    split
    · rename_i h
      rw [fnd_cons, laterP_fst h, fnd_cons]
      by_cases hx : x = p.1
      · rw [if_pos (by omega), if_pos hx, if_pos (by omega)]; rfl
      · rw [if_neg (by omega), if_neg hx, if_neg (by omega)]
    · split
      · rename_i h h3
        rw [fnd_cons]
        by_cases hx : x = p.1
        · rw [if_pos hx.symm, if_pos hx]
          have : fnd (a :: l) x = none := fnd_none.2 fun q hq => by
            rcases List.mem_cons.1 hq with rfl | hq
            · omega
            · have := h1 q hq; omega
          rw [this]; rfl
        · rw [if_neg (fun e => hx e.symm), if_neg hx]
      · rename_i h h3
        rw [fnd_cons, fnd_cons, ih h2]
        by_cases hx : x = p.1
        · rw [if_neg (by omega), if_pos hx, if_pos hx, if_neg (by omega)]
        · rw [if_neg hx, if_neg hx]
/-- What both know. -/
def joinL (a b : List P3) : List P3 := b.foldl putL a
theorem joinL_sort {a : List P3} (ha : SortT a) (b : List P3) : SortT (joinL a b) := by
  unfold joinL
  induction b generalizing a with
  | nil => exact ha
  | cons p b ih => exact ih (putL_sort ha p)
def oMax (q p : Option P3) : Option P3 := match q, p with
  | none, p => p
  | some q, none => some q
  | some q, some p => some (laterP q p)
theorem fnd_join {a b : List P3} (ha : SortT a) (hb : SortT b) (x : Int) : fnd (joinL a b) x = oMax (fnd a x) (fnd b x) := by
  unfold joinL
  induction b generalizing a with
  | nil => rw [List.foldl_nil, fnd_nil]; cases fnd a x <;> rfl
  | cons p b ih =>
    obtain ⟨h1, h2⟩ := List.pairwise_cons.1 hb
    rw [List.foldl_cons, ih (putL_sort ha p) h2, fnd_putL ha, fnd_cons]
    by_cases hx : x = p.1
    · have : fnd b x = none := fnd_none.2 fun q hq => by have := h1 q hq; omega
      rw [if_pos hx, if_pos hx.symm, this]
      cases fnd a x <;> rfl
    · rw [if_neg hx, if_neg (fun e => hx e.symm)]
theorem sort_nil : SortT [] := List.Pairwise.nil
theorem joinL_nil {a : List P3} (ha : SortT a) : joinL [] a = a :=
  sortT_ext (joinL_sort sort_nil a) ha fun x => by rw [fnd_join sort_nil ha, fnd_nil]; rfl
theorem joinL_append {a : List P3} (ha : SortT a) (b : List P3) : joinL [] (a ++ b) = joinL a b := by
  have : joinL [] (a ++ b) = joinL (joinL [] a) b := by unfold joinL; rw [List.foldl_append]
  rw [this, joinL_nil ha]
theorem oMax_comm {a b : Option P3} (h : ∀ p q, a = some p → b = some q → p.1 = q.1) : oMax a b = oMax b a := by
  cases a <;> cases b <;> try rfl
  rename_i p q
  exact congrArg some (laterP_comm (h p q rfl rfl))
theorem oMax_assoc (a b c : Option P3) : oMax (oMax a b) c = oMax a (oMax b c) := by
  cases a <;> cases b <;> cases c <;> try rfl
  exact congrArg some (laterP_assoc _ _ _)
theorem oMax_idem (a : Option P3) : oMax a a = a := by
  cases a
  · rfl
  · exact congrArg some (laterP_idem _)
theorem fnd_same {a b : List P3} {x : Int} : ∀ p q, fnd a x = some p → fnd b x = some q → p.1 = q.1 := fun _ _ h1 h2 => (fnd_some h1).2.trans (fnd_some h2).2.symm
theorem joinL_comm {a b : List P3} (ha : SortT a) (hb : SortT b) : joinL a b = joinL b a :=
  sortT_ext (joinL_sort ha b) (joinL_sort hb a) fun x => by rw [fnd_join ha hb, fnd_join hb ha]; exact oMax_comm fnd_same
theorem joinL_assoc {a b c : List P3} (ha : SortT a) (hb : SortT b) (hc : SortT c) : joinL (joinL a b) c = joinL a (joinL b c) :=
  sortT_ext (joinL_sort (joinL_sort ha b) c) (joinL_sort ha _) fun x => by rw [fnd_join (joinL_sort ha b) hc, fnd_join ha hb, fnd_join ha (joinL_sort hb c), fnd_join hb hc, oMax_assoc]
theorem joinL_idem {a : List P3} (ha : SortT a) : joinL a a = a :=
  sortT_ext (joinL_sort ha a) ha fun x => by rw [fnd_join ha ha]; exact oMax_idem _
theorem putL_length (l : List P3) (p : P3) : (putL l p).length ≤ l.length + 1 := by
  induction l with
  | nil => simp [putL]
  | cons a l ih => unfold putL; split <;> (try split) <;> simp <;> omega
theorem joinL_length : ∀ (b a : List P3), (joinL a b).length ≤ a.length + b.length
  | [], a => by simp [joinL]
  | p :: b, a => by
    have h1 := joinL_length b (putL a p)
    have h2 := putL_length a p
    show (joinL (putL a p) b).length ≤ _
    simp; omega
theorem sort_few {n : Nat} : ∀ {l : List P3} {a : Int}, SortT l → (∀ p ∈ l, a ≤ p.1 ∧ p.1 < a + n) → l.length ≤ n
  | [], _, _, _ => Nat.zero_le _
  | p :: l, a, hs, hb => by
    obtain ⟨h1, h2⟩ := List.pairwise_cons.1 hs
    have hp := hb p (by simp)
    match n, hp with
    | n + 1, hp =>
      have hle : l.length ≤ n := by
        -- the others lie above p
        refine sort_few (n := n) (a := a + 1) h2 fun q hq => ?_
        have := h1 q hq
        have h3 := hb q (by simp [hq])
        omega
      simp; omega
    | 0, hp => omega
/-- What holds of all. -/
theorem putL_all {Q : P3 → Prop} {l : List P3} {p : P3} (h : ∀ q ∈ l, Q q) (hp : Q p) : ∀ q ∈ putL l p, Q q := by
  induction l with
  | nil => intro q hq; simp [putL] at hq; rw [hq]; exact hp
  | cons a l ih =>
    intro q hq
    unfold putL at hq
    split at hq
    · rcases List.mem_cons.1 hq with rfl | hq
      · unfold laterP; split
        · exact hp
        · exact h a (by simp)
      · exact h q (by simp [hq])
    · split at hq
      · rcases List.mem_cons.1 hq with rfl | hq
        · exact hp
        · exact h q hq
      · rcases List.mem_cons.1 hq with rfl | hq
        · exact h _ (by simp)
        · exact ih (fun q hq => h q (by simp [hq])) q hq
theorem joinL_all {Q : P3 → Prop} : ∀ {b a : List P3}, (∀ q ∈ a, Q q) → (∀ q ∈ b, Q q) → ∀ q ∈ joinL a b, Q q
  | [], _, ha, _ => ha
  | p :: b, a, ha, hb => joinL_all (b := b) (putL_all ha (hb p (by simp))) fun q hq => hb q (by simp [hq])

end Go.Proofs.Ytpolhdkjkidpgaa
