/- Names in order: by their node, then by their number: a strict weak order; the row that rises, made of any names. -/
import Derived.Shelf.SlSortCmp.Insertion
import Derived.Lib.SlicesCompact
namespace Go.Proofs.Ytpolhdkjkidpgaa
open Go.Shelf Go.RowKit Go.Lib Go.Sort

/-- Two pairs, compared: by the first, then by the second. -/
def cmpD (x y : Int × Int) : Int := if Lib.compareInt x.1 y.1 = 0 then Lib.compareInt x.2 y.2 else Lib.compareInt x.1 y.1
theorem cmpInt_neg (a b : Int) : Lib.compareInt a b < 0 ↔ a < b := by
  unfold Lib.compareInt
  by_cases h1 : a < b
  · simp [h1]
  · by_cases h2 : b < a <;> simp [h1, h2]
theorem cmpInt_zero (a b : Int) : Lib.compareInt a b = 0 ↔ a = b := by
  unfold Lib.compareInt
  by_cases h1 : a < b
  · simp [h1]; omega
  · by_cases h2 : b < a
    · simp [h1, h2]; omega
    · simp [h1, h2]; omega
def ltP (x y : Int × Int) : Prop := x.1 < y.1 ∨ x.1 = y.1 ∧ x.2 < y.2
instance (x y : Int × Int) : Decidable (ltP x y) := by unfold ltP; exact inferInstance
theorem cmpD_neg (x y : Int × Int) : cmpD x y < 0 ↔ ltP x y := by
  unfold cmpD ltP
  split
  · rename_i h
    have := (cmpInt_zero _ _).1 h
    rw [cmpInt_neg]
    omega
  · rename_i h
    have h2 : x.1 ≠ y.1 := fun e => h ((cmpInt_zero _ _).2 e)
    rw [cmpInt_neg]
    omega
theorem ltD (x y : Int × Int) : ltOf cmpD x y = decide (ltP x y) := by
  unfold ltOf
  exact decide_eq_decide.2 (cmpD_neg x y)
theorem ltP_irrefl (x : Int × Int) : ¬ ltP x x := by unfold ltP; omega
theorem ltP_trans {x y z : Int × Int} (h1 : ltP x y) (h2 : ltP y z) : ltP x z := by unfold ltP at *; omega
theorem ltP_asymm {x y : Int × Int} (h1 : ltP x y) : ¬ ltP y x := fun h => ltP_irrefl x (ltP_trans h1 h)
theorem ltP_total (x y : Int × Int) : ltP x y ∨ x = y ∨ ltP y x := by
  by_cases h : x = y
  · exact .inr (.inl h)
  · obtain ⟨a, b⟩ := x
    obtain ⟨c, d⟩ := y
    have : ¬ (a = c ∧ b = d) := fun ⟨h1, h2⟩ => h (by rw [h1, h2])
    unfold ltP
    simp only
    omega
theorem ltP_ntrans {x y z : Int × Int} (h1 : ¬ ltP x y) (h2 : ¬ ltP y z) : ¬ ltP x z := by unfold ltP at *; omega
theorem swoD : SWO (ltOf cmpD) where
  irrefl x := by rw [ltD]; simpa using ltP_irrefl x
  trans x y z h1 h2 := by rw [ltD] at *; simp only [decide_eq_true_eq] at *; exact ltP_trans h1 h2
  ntrans x y z h1 h2 := by rw [ltD] at *; simp only [decide_eq_false_iff_not] at *; exact ltP_ntrans h1 h2
theorem totD (x y : Int × Int) (h1 : (ltOf cmpD) x y = false) (h2 : (ltOf cmpD) y x = false) : x = y := by
  rw [ltD] at *
  simp only [decide_eq_false_iff_not] at *
  rcases ltP_total x y with h | h | h
  · exact absurd h h1
  · exact h
  · exact absurd h h2

/-- A row that rises. -/
def Asc (l : List (Int × Int)) : Prop := l.Pairwise ltP
instance (l : List (Int × Int)) : Decidable (Asc l) := by unfold Asc; exact inferInstance
theorem asc_unique : ∀ {a b : List (Int × Int)}, Asc a → Asc b → (∀ x, x ∈ a ↔ x ∈ b) → a = b
  | [], [], _, _, _ => rfl
  | [], y :: b, _, _, h => by have := (h y).2 (by simp); simp at this
  | x :: a, [], _, _, h => by have := (h x).1 (by simp); simp at this
  | x :: a, y :: b, ha, hb, h => by
    have ha' := List.pairwise_cons.1 ha
    have hb' := List.pairwise_cons.1 hb
    have e : x = y := by
      rcases List.mem_cons.1 ((h x).1 (by simp)) with e | e
      · exact e
      · rcases List.mem_cons.1 ((h y).2 (by simp)) with e2 | e2
        · exact e2.symm
        · exact absurd (hb'.1 x e) (ltP_asymm (ha'.1 y e2))
    subst e
    have : a = b := by
      refine asc_unique ha'.2 hb'.2 fun z => ⟨fun hz => ?_, fun hz => ?_⟩
      · rcases List.mem_cons.1 ((h z).1 (by simp [hz])) with e | e
        · subst e; exact absurd (ha'.1 z hz) (ltP_irrefl z)
        · exact e
      · rcases List.mem_cons.1 ((h z).2 (by simp [hz])) with e | e
        · subst e; exact absurd (hb'.1 z hz) (ltP_irrefl z)
        · exact e
    rw [this]

/-- A pair at its place in a row that rises. -/
def insD (l : List (Int × Int)) (x : Int × Int) : List (Int × Int) := if x ∈ l then l else l.filter (fun y => decide (ltP y x)) ++ x :: l.filter (fun y => !decide (ltP y x))
theorem mem_insD (l : List (Int × Int)) (x z : Int × Int) : z ∈ insD l x ↔ z = x ∨ z ∈ l := by
  unfold insD
  split
  · rename_i h
    exact ⟨fun hz => .inr hz, fun hz => by rcases hz with rfl | hz <;> assumption⟩
  · simp only [List.mem_append, List.mem_filter, List.mem_cons]
    by_cases hl : ltP z x <;> simp [hl]
    · constructor
      · rintro (h | h)
        · exact .inr h
        · exact .inl h
      · rintro (h | h)
        · exact .inr h
        · exact .inl h
theorem asc_insD {l : List (Int × Int)} (h : Asc l) (x : Int × Int) : Asc (insD l x) := by
  unfold insD
  split
  · exact h
  · rename_i hx
    refine List.pairwise_append.2 ⟨h.filter _, List.pairwise_cons.2 ⟨fun y hy => ?_, h.filter _⟩, fun a ha b hb => ?_⟩
    · rw [List.mem_filter] at hy
      rcases ltP_total y x with e | e | e
      · simp [e] at hy
      · subst e; exact absurd hy.1 hx
      · exact e
    · rw [List.mem_filter] at ha
      have ha2 : ltP a x := by simpa using ha.2
      rcases List.mem_cons.1 hb with rfl | hb
      · exact ha2
      · rw [List.mem_filter] at hb
        have hb2 : ¬ ltP b x := by simpa using hb.2
        rcases ltP_total b x with e | e | e
        · exact absurd e hb2
        · subst e; exact ha2
        · exact ltP_trans ha2 e

/-- Of any pairs the row that rises. -/
def sortD (l : List (Int × Int)) : List (Int × Int) := l.foldl insD []
theorem foldl_insD : ∀ (l acc : List (Int × Int)), Asc acc → Asc (l.foldl insD acc) ∧ ∀ z, z ∈ l.foldl insD acc ↔ z ∈ acc ∨ z ∈ l
  | [], acc, h => ⟨h, fun z => by simp⟩
  | x :: l, acc, h => by
    obtain ⟨h1, h2⟩ := foldl_insD l (insD acc x) (asc_insD h x)
    refine ⟨h1, fun z => ?_⟩
    rw [List.foldl_cons, h2, mem_insD, List.mem_cons]
    constructor
    · rintro ((h | h) | h)
      · exact .inr (.inl h)
      · exact .inl h
      · exact .inr (.inr h)
    · rintro (h | h | h)
      · exact .inl (.inr h)
      · exact .inl (.inl h)
      · exact .inr h
theorem asc_sortD (l : List (Int × Int)) : Asc (sortD l) := (foldl_insD l [] List.Pairwise.nil).1
theorem mem_sortD (l : List (Int × Int)) (z : Int × Int) : z ∈ sortD l ↔ z ∈ l := by
  have := (foldl_insD l [] List.Pairwise.nil).2 z
  simpa [sortD] using this
theorem sortD_of_asc {l : List (Int × Int)} (h : Asc l) : sortD l = l := asc_unique (asc_sortD l) h (mem_sortD l)
theorem asc_nodup {l : List (Int × Int)} (h : Asc l) : l.Nodup := List.Pairwise.imp (S := fun a b => a ≠ b) (fun {a b} (hab : ltP a b) (e : a = b) => ltP_irrefl b (by rw [e] at hab; exact hab)) h
theorem insD_length (l : List (Int × Int)) (x : Int × Int) : (insD l x).length ≤ l.length + 1 := by
  unfold insD
  split
  · omega
  · have key : ∀ l : List (Int × Int), (l.filter (fun y => decide (ltP y x))).length + (l.filter (fun y => !decide (ltP y x))).length = l.length := by
      intro l
      induction l with
      | nil => rfl
      | cons a l ih =>
        by_cases h : ltP a x
        · simp only [List.filter_cons, h, decide_true, if_true, Bool.not_true, List.length_cons]
          simp only [Bool.false_eq_true, if_false]
          omega
        · simp only [List.filter_cons, h, decide_false, Bool.not_false, if_true, List.length_cons]
          simp only [Bool.false_eq_true, if_false]
          omega
    have := key l
    simp only [List.length_append, List.length_cons]
    omega
theorem foldl_insD_length : ∀ (l acc : List (Int × Int)), (l.foldl insD acc).length ≤ acc.length + l.length
  | [], _ => by simp
  | x :: l, acc => by
    have h1 := foldl_insD_length l (insD acc x)
    have h2 := insD_length acc x
    simp only [List.foldl_cons, List.length_cons]
    omega
theorem sortD_length (l : List (Int × Int)) : (sortD l).length ≤ l.length := by
  have := foldl_insD_length l []
  simpa [sortD] using this

/-- What a sort that keeps doubles gives. -/
def msD (l : List (Int × Int)) : List (Int × Int) := l.mergeSort fun x y => !(ltOf cmpD) y x
theorem msD_perm (l : List (Int × Int)) : (msD l).Perm l := List.mergeSort_perm l _
theorem msD_sorted (l : List (Int × Int)) : (msD l).Pairwise fun x y => ¬ ltP y x := by
  have h := List.pairwise_mergeSort (le := fun x y => !(ltOf cmpD) y x) (fun a b c h1 h2 => by
    simp only [ltD, Bool.not_eq_true', decide_eq_false_iff_not] at *
    exact ltP_ntrans h2 h1) (fun a b => by
    simp only [ltD, Bool.or_eq_true, Bool.not_eq_true', decide_eq_false_iff_not]
    by_cases h : ltP b a
    · exact .inr (ltP_asymm h)
    · exact .inl h) l
  exact h.imp fun {a b} h => by simpa [ltD] using h
theorem msD_length (l : List (Int × Int)) : (msD l).length = l.length := (msD_perm l).length_eq
theorem msD_of_asc {l : List (Int × Int)} (h : (msD l).Nodup) : msD l = sortD l := by
  have ha : Asc (msD l) := by
    have h2 := (msD_sorted l).and h
    refine List.Pairwise.imp (fun {a b} hab => ?_) h2
    rcases ltP_total a b with e | e | e
    · exact e
    · exact absurd e hab.2
    · exact absurd e hab.1
  exact asc_unique ha (asc_sortD l) fun x => by rw [mem_sortD]; exact (msD_perm l).mem_iff

/-- Doubles struck out of what is sorted: the row that rises. -/
theorem compact_inv (d : Array (Int × Int)) (hs : d.toList.Pairwise fun x y => ¬ ltP y x) : ∀ m, m ≤ d.size →
    Asc (compactUpTo d m) ∧ ∀ z, z ∈ compactUpTo d m ↔ ∃ j, j < m ∧ z = d[j]!
  | 0, _ => by
    refine ⟨List.Pairwise.nil, fun z => ?_⟩
    simp [compactUpTo]
  | m + 1, hm => by
    obtain ⟨h1, h2⟩ := compact_inv d hs m (by omega)
    have hle : ∀ i j, i < j → j < d.size → ¬ ltP d[j]! d[i]! := by
      intro i j hij hj
      have := List.pairwise_iff_getElem.1 hs i j (by simp; omega) (by simpa using hj) hij
      rw [getElem!_pos d j hj, getElem!_pos d i (by omega)]
      simpa using this
    rw [compactUpTo_succ]
    by_cases hk : keeps d m = true
    · rw [if_pos hk]
      refine ⟨List.pairwise_append.2 ⟨h1, List.pairwise_singleton _ _, fun a ha b hb => ?_⟩, fun z => ?_⟩
      · obtain ⟨j, hj, rfl⟩ := (h2 a).1 ha
        obtain rfl : b = d[m]! := by simpa using hb
        have hne : d[m]! ≠ d[m - 1]! := by
          unfold keeps at hk
          simp only [decide_eq_true_eq] at hk
          rcases hk with hk | hk
          · omega
          · exact hk
        have h3 := hle (m - 1) m (by omega) (by omega)
        have h4 : ltP d[m - 1]! d[m]! := by
          rcases ltP_total d[m - 1]! d[m]! with e | e | e
          · exact e
          · exact absurd e.symm hne
          · exact absurd e h3
        by_cases e : j = m - 1
        · subst e; exact h4
        · have h5 := hle j (m - 1) (by omega) (by omega)
          rcases ltP_total d[j]! d[m - 1]! with e | e | e
          · exact ltP_trans e h4
          · rw [e]; exact h4
          · exact absurd e h5
      · rw [List.mem_append, h2]
        constructor
        · rintro (⟨j, hj, rfl⟩ | hz)
          · exact ⟨j, by omega, rfl⟩
          · exact ⟨m, by omega, by simpa using hz⟩
        · rintro ⟨j, hj, rfl⟩
          by_cases e : j = m
          · subst e; exact .inr (by simp)
          · exact .inl ⟨j, by omega, rfl⟩
    · rw [if_neg hk, List.append_nil]
      refine ⟨h1, fun z => ?_⟩
      rw [h2]
      have he : m ≠ 0 ∧ d[m]! = d[m - 1]! := by
        unfold keeps at hk
        simp only [decide_eq_true_eq, not_or, Classical.not_not] at hk
        exact hk
      constructor
      · rintro ⟨j, hj, rfl⟩; exact ⟨j, by omega, rfl⟩
      · rintro ⟨j, hj, rfl⟩
        by_cases e : j = m
        · subst e; exact ⟨j - 1, by omega, he.2⟩
        · exact ⟨j, by omega, rfl⟩
theorem compact_sortD (l : List (Int × Int)) : compactUpTo (msD l).toArray (msD l).toArray.size = sortD l := by
  obtain ⟨h1, h2⟩ := compact_inv (msD l).toArray (by simpa using msD_sorted l) _ (Nat.le_refl _)
  refine asc_unique h1 (asc_sortD l) fun z => ?_
  rw [h2, mem_sortD, ← (msD_perm l).mem_iff]
  constructor
  · rintro ⟨j, hj, rfl⟩
    rw [getElem!_pos _ j hj]
    simp
  · intro hz
    obtain ⟨j, hj, rfl⟩ := List.mem_iff_getElem.1 hz
    refine ⟨j, by simpa using hj, ?_⟩
    rw [getElem!_pos _ j (by simpa using hj)]
    simp

/-- How many of a row are less than a pair. -/
def lowD (l : List (Int × Int)) (x : Int × Int) : Nat := (l.filter fun y => decide (ltP y x)).length
theorem lowD_le (l : List (Int × Int)) (x : Int × Int) : lowD l x ≤ l.length := List.length_filter_le _ _
/-- Of a row that rises: the place at which all before are less and none behind is. -/
theorem lowD_of (l : List (Int × Int)) (x : Int × Int) : ∀ k, k ≤ l.length → (∀ i, i < k → ltP l[i]! x) → (∀ i, k ≤ i → i < l.length → ¬ ltP l[i]! x) → k = lowD l x := by
  intro k hk h1 h2
  have e : l = l.take k ++ l.drop k := (List.take_append_drop k l).symm
  unfold lowD
  conv => rhs; rw [e]
  rw [List.filter_append, List.length_append]
  have e1 : (l.take k).filter (fun y => decide (ltP y x)) = l.take k := by
    refine List.filter_eq_self.2 fun y hy => ?_
    obtain ⟨i, hi, rfl⟩ := List.mem_iff_getElem.1 hy
    have hi' : i < k ∧ i < l.length := by rw [List.length_take] at hi; omega
    have := h1 i hi'.1
    rw [getElem!_pos l i hi'.2] at this
    simpa using this
  have e2 : (l.drop k).filter (fun y => decide (ltP y x)) = [] := by
    refine List.filter_eq_nil_iff.2 fun y hy => ?_
    obtain ⟨i, hi, rfl⟩ := List.mem_iff_getElem.1 hy
    have hi' : i < l.length - k := by simpa using hi
    have := h2 (k + i) (by omega) (by omega)
    rw [getElem!_pos l (k + i) (by omega)] at this
    simpa using this
  rw [e1, e2]
  simp; omega

end Go.Proofs.Ytpolhdkjkidpgaa
