/- Views as values; views that may be; what changes make of them. -/
import Derived.Test.YtpolhdkjkidpgaaViewPlain
namespace Go.Proofs.Ytpolhdkjkidpgaa
open Go.RowKit Go.Shelf Go.Lib Go.Sort

/-- May a peer be? -/
def mayP (p : P3) : Bool := decide (1 ≤ p.1 ∧ p.1 ≤ 1099511627776) && (decide (0 ≤ p.2.1 ∧ p.2.1 ≤ 1073741824) && decide (0 ≤ p.2.2 ∧ p.2.2 ≤ 2))
theorem mayP_is {p : P3} (h : mayP p = true) : 1 ≤ p.1 ∧ p.1 ≤ 1099511627776 ∧ 0 ≤ p.2.1 ∧ p.2.1 ≤ 1073741824 ∧ 0 ≤ p.2.2 ∧ p.2.2 ≤ 2 := by
  unfold mayP at h
  simp only [Bool.and_eq_true, decide_eq_true_eq] at h
  omega
theorem mayP_mk {p : P3} (h : 1 ≤ p.1 ∧ p.1 ≤ 1099511627776 ∧ 0 ≤ p.2.1 ∧ p.2.1 ≤ 1073741824 ∧ 0 ≤ p.2.2 ∧ p.2.2 ≤ 2) : mayP p = true := by
  unfold mayP
  simp only [Bool.and_eq_true, decide_eq_true_eq]
  omega
/-- Rows that may be a view. -/
structure Vok (L : List P3) : Prop where
  sort : SortT L
  may : ∀ p ∈ L, mayP p = true
  len : L.length ≤ 64
theorem Vok.nil : Vok [] := ⟨sort_nil, (fun p h => by cases h), by simp⟩
theorem Vok.wf {L : List P3} (h : Vok L) : ∀ p ∈ L, (Lit.int .i64 p.1).wf = true := fun p hp => by
  have := mayP_is (h.may p hp)
  have h1 : IntKind.i64.min = -9223372036854775808 := by decide
  have h2 : IntKind.i64.max = 9223372036854775807 := by decide
  simp [Lit.wf]
  omega
theorem sortT_take {L : List P3} (h : SortT L) (n : Nat) : SortT (L.take n) := List.Pairwise.sublist (List.take_sublist n L) h
/-- What both know; a view with one more. -/
def vjoin (A B : List P3) : List P3 := (joinL A B).take 64
def vwith (A : List P3) (p : P3) : List P3 := if mayP p = true then (putL A p).take 64 else A
theorem Vok.join {A B : List P3} (ha : Vok A) (hb : Vok B) : Vok (vjoin A B) :=
  ⟨sortT_take (joinL_sort ha.sort B) 64, (fun p hp => joinL_all ha.may hb.may p (List.mem_of_mem_take hp)), by unfold vjoin; rw [List.length_take]; omega⟩
theorem Vok.with {A : List P3} (ha : Vok A) (p : P3) : Vok (vwith A p) := by
  unfold vwith
  split
  · rename_i h
    exact ⟨sortT_take (putL_sort ha.sort p) 64, (fun q hq => putL_all ha.may h q (List.mem_of_mem_take hq)), by rw [List.length_take]; omega⟩
  · exact ha
/-- A view of which one is changed. -/
def chgL (f : P3 → P3) (id : Int) : List P3 → List P3
  | [] => []
  | p :: l => if p.1 = id then f p :: l else p :: chgL f id l
theorem chgL_length (f : P3 → P3) (id : Int) (l : List P3) : (chgL f id l).length = l.length := by
  induction l with
  | nil => rfl
  | cons p l ih => unfold chgL; split <;> simp [ih]
theorem chgL_none (f : P3 → P3) (id : Int) {l : List P3} (h : ∀ p ∈ l, p.1 ≠ id) : chgL f id l = l := by
  induction l with
  | nil => rfl
  | cons p l ih => unfold chgL; rw [if_neg (h p (by simp)), ih fun q hq => h q (by simp [hq])]
theorem chgL_at (f : P3 → P3) (id : Int) : ∀ (l : List P3) (k : Nat) (p : P3), l[k]? = some p → p.1 = id → (∀ j q, j < k → l[j]? = some q → q.1 ≠ id) → chgL f id l = l.set k (f p)
  | [], k, p, h, _, _ => by simp at h
  | q :: l, 0, p, h, e, _ => by
    obtain rfl : q = p := by simpa using h
    unfold chgL; rw [if_pos e]; rfl
  | q :: l, k + 1, p, h, e, hn => by
    unfold chgL
    rw [if_neg (hn 0 q (by omega) rfl), chgL_at f id l k p (by simpa using h) e fun j r hj hr => hn (j + 1) r (by omega) (by simpa using hr)]
    rfl
theorem chgL_ids (f : P3 → P3) (id : Int) (hf : ∀ p, (f p).1 = p.1) (l : List P3) : (chgL f id l).map (·.1) = l.map (·.1) := by
  induction l with
  | nil => rfl
  | cons p l ih =>
    unfold chgL
    split
    · simp [hf]
    · simp [ih]
theorem chgL_sort (f : P3 → P3) (id : Int) (hf : ∀ p, (f p).1 = p.1) {l : List P3} (h : SortT l) : SortT (chgL f id l) := by
  unfold SortT at *
  rw [← List.pairwise_map (f := fun p : P3 => p.1) (R := (· < ·))] at *
  rw [chgL_ids f id hf]
  exact h
theorem chgL_all {Q : P3 → Prop} {f : P3 → P3} {id : Int} {l : List P3} (h : ∀ p ∈ l, Q p) (hf : ∀ p ∈ l, Q p → Q (f p)) : ∀ p ∈ chgL f id l, Q p := by
  induction l with
  | nil => intro p hp; cases hp
  | cons q l ih =>
    intro p hp
    unfold chgL at hp
    split at hp
    · rcases List.mem_cons.1 hp with rfl | hp
      · exact hf q (by simp) (h q (by simp))
      · exact h p (by simp [hp])
    · rcases List.mem_cons.1 hp with rfl | hp
      · exact h _ (by simp)
      · exact ih (fun r hr => h r (by simp [hr])) (fun r hr => hf r (by simp [hr])) p hp
theorem fnd_chgL (f : P3 → P3) (id : Int) (hf : ∀ p, (f p).1 = p.1) (l : List P3) (x : Int) : fnd (chgL f id l) x = if x = id then (fnd l x).map f else fnd l x := by
  induction l with
  | nil => unfold chgL; rw [fnd_nil]; split <;> rfl
  | cons p l ih =>
    unfold chgL
    split
    · rename_i h
      rw [fnd_cons, fnd_cons, hf]
      by_cases hx : x = id
      · rw [if_pos (by omega), if_pos hx, if_pos (by omega)]; rfl
      · rw [if_neg (by omega), if_neg hx, if_neg (by omega)]
    · rename_i h
      rw [fnd_cons, fnd_cons, ih]
      by_cases hx : x = id
      · rw [if_neg (by omega), if_pos hx, if_pos hx, if_neg (by omega)]
      · rw [if_neg hx, if_neg hx]
/-- The changes. -/
def suspP (p : P3) : P3 := if p.2.2 = 0 then (p.1, p.2.1, 1) else p
def refuP (p : P3) : P3 := if p.2.2 = 1 ∧ p.2.1 < 1073741824 then (p.1, p.2.1 + 1, 0) else p
def leavP (p : P3) : P3 := (p.1, p.2.1, 2)
theorem suspP_fst (p : P3) : (suspP p).1 = p.1 := by unfold suspP; split <;> rfl
theorem refuP_fst (p : P3) : (refuP p).1 = p.1 := by unfold refuP; split <;> rfl
theorem leavP_fst (p : P3) : (leavP p).1 = p.1 := rfl
theorem suspP_may {p : P3} (h : mayP p = true) : mayP (suspP p) = true := by
  have := mayP_is h
  unfold suspP; split
  · exact mayP_mk (by simp; omega)
  · exact h
theorem refuP_may {p : P3} (h : mayP p = true) : mayP (refuP p) = true := by
  have := mayP_is h
  unfold refuP; split
  · exact mayP_mk (by simp; omega)
  · exact h
theorem leavP_may {p : P3} (h : mayP p = true) : mayP (leavP p) = true := by
  have := mayP_is h
  exact mayP_mk (by simp [leavP]; omega)
theorem Vok.chg {A : List P3} (ha : Vok A) {f : P3 → P3} (hf : ∀ p, (f p).1 = p.1) (hm : ∀ p, mayP p = true → mayP (f p) = true) (id : Int) : Vok (chgL f id A) :=
  ⟨chgL_sort f id hf ha.sort, chgL_all ha.may fun p _ h => hm p h, by rw [chgL_length]; exact ha.len⟩

/-- A value that is a view. -/
def Vw (w : World) (v : Value) (L : List P3) : Prop := ∃ ao cap, v = .slice ao L.length cap ∧ L.length ≤ cap ∧ (ao = none → cap = 0) ∧ SlT w ao L
theorem Vw.nil (w : World) : Vw w (.slice none 0 0) [] := ⟨none, 0, rfl, Nat.le_refl _, fun _ => rfl, SlT.nil _ _⟩
theorem Vw.below {w w' : World} {v : Value} {L : List P3} (h : Vw w v L) (hb : Below w.heap.size w w') : Vw w' v L := by
  obtain ⟨ao, cap, h1, h2, h3, h4⟩ := h
  exact ⟨ao, cap, h1, h2, h3, h4.below hb⟩
theorem Vw.drewN {w : World} {v : Value} {L : List P3} (h : Vw w v L) (n : Nat) : Vw (w.drewN n) v L := h
theorem Vw.eq {w : World} {v : Value} {L M : List P3} (h : Vw w v L) (e : L = M) : Vw w v M := e ▸ h
theorem Vw.ofOwn {w : World} {base : Nat} {t : TypeId} {v : Value} {L : List P3} (h : OwnT w base t v L) : Vw w v L := by
  obtain ⟨ao, cap, rfl, h1, _, h3, h4, _⟩ := h.sl
  exact ⟨ao, cap, rfl, h1, h4, h3⟩
end Go.Proofs.Ytpolhdkjkidpgaa
