/- Both readers, one state; how large what is left is. -/
import Derived.Test.YtnahdhhojjicjaaReaderRefN
import Derived.Test.YtnahdhhojjicjaaMintAwake
namespace Go.Proofs.Ytnahdhhojjicjaa
open Go.RowKit

theorem Rd.text_le (r : Rd) (m : Int) : (r.text m).1.left.size ≤ r.left.size := by
  have := (r.int_lt m).2.1
  unfold Rd.text
  split
  · exact this
  · simp only [ByteArray.size_extract]; omega
theorem Rd.items_le (most : Int) : ∀ (k : Nat) (r : Rd), (Rd.items most k r).1.left.size ≤ r.left.size
  | 0, _ => Nat.le_refl _
  | k + 1, r => by
    have h1 := (r.int_lt most).2.1
    rw [Rd.items]
    split
    · exact h1
    · exact Nat.le_trans (Rd.items_le most k _) h1
theorem Rd.nums_le (r : Rd) (a b : Int) : (r.nums a b).1.left.size ≤ r.left.size := Nat.le_trans (Rd.items_le _ _ _) (r.int_lt a).2.1

theorem Rd.items_len (most : Int) : ∀ (k : Nat) (r : Rd) (l : List Int), (Rd.items most k r).2 = some l → l.length ≤ r.left.size
  | 0, _, l, h => by cases h; exact Nat.zero_le _
  | k + 1, r, l, h => by
    have h1 := r.int_uses most
    rw [Rd.items] at h
    split at h
    · cases h
    · rename_i ht
      have ht2 : (r.int most).1.torn = false := by simpa using ht
      have h2 := (h1 ht2).2
      simp only at h
      cases h3 : (Rd.items most k (r.int most).1).2 with
      | none => rw [h3] at h; cases h
      | some l2 =>
        rw [h3] at h
        cases h
        have := Rd.items_len most k _ l2 h3
        simp only [List.length_cons]
        omega
theorem Rd.nums_len (r : Rd) (a b : Int) : (r.nums a b).2.length ≤ r.left.size := by
  unfold Rd.nums
  simp only
  cases h : (Rd.items b (r.int a).2 (r.int a).1).2 with
  | none => exact Nat.zero_le _
  | some l => exact Nat.le_trans (Rd.items_len b _ _ l h) (r.int_lt a).2.1

/-- Both readers are the same one, in two blocks. -/
structure Two (w w' : World) (b c : Nat) (r : Rd) : Prop where
  ne : b ≠ c
  lb : w.heap.size ≤ b
  lc : w.heap.size ≤ c
  rd : IsRd w' b r
  rr : IsRr w' c r
  old : Below w.heap.size w w'

theorem Two.first {w w1 w2 : World} {b c : Nat} {d d1 : Rd} (h : Two w w1 b c d) (h1 : IsRd w2 b d1) (hk : Kept b w1 w2) : IsRr w2 c d ∧ IsRd w2 b d1 ∧ Below w.heap.size w w2 :=
  ⟨hk.blk h.rr (Ne.symm h.ne), h1, bKept h.old hk h.lb⟩
theorem Two.second {w w1 w2 w3 : World} {b c : Nat} {d d1 : Rd} (h : Two w w1 b c d) (h1 : IsRd w2 b d1) (hB : Below w.heap.size w w2) (h2 : IsRr w3 c d1) (hk : Kept c w2 w3) : Two w w3 b c d1 :=
  ⟨h.ne, h.lb, h.lc, hk.blk h1 h.ne, h2, bKept hB hk h.lc⟩
theorem Two.drewN {w w1 : World} {b c : Nat} {d : Rd} (h : Two w w1 b c d) (n : Nat) : Two w (w1.drewN n) b c d :=
  ⟨h.ne, h.lb, h.lc, h.rd.drewN n, h.rr.drewN n, below_drewN h.old n⟩

/-- A row of ints does not lie in a reader's block. -/
theorem SlAt.keptRr {w w' : World} {c : Nat} {r : Rd} {ao : Option Addr} {zs : List Int} (h : SlAt w ao (zs.map (Value.int .i64))) (hr : IsRr w c r) (hk : Kept c w w') : SlAt w' ao (zs.map (Value.int .i64)) := by
  intro k hk'
  obtain ⟨b, off, h1, h2, h3⟩ := h k hk'
  refine ⟨b, off, h1, Nat.lt_of_lt_of_le h2 hk.size, fun j hj => ?_⟩
  have hne : b ≠ c := by
    rintro rfl
    have h4 := h3 j hj
    rw [Blk.cell hr] at h4
    rw [List.length_map] at hj
    rw [List.getElem?_map, List.getElem?_eq_getElem hj] at h4
    rcases h5 : off + j with _ | _ | n
    · rw [h5] at h4; simp [Rd.cells] at h4
    · rw [h5] at h4; simp [Rd.cells] at h4
    · rw [h5] at h4; simp [Rd.cells] at h4
  rw [← h3 j hj]
  simp only [World.cell?, hk.block b h2 hne]

theorem rleft_any2 (b : Nat) (r : Rd) (w : World) (hr : IsRd w b r) :
    Calls Try.prog 32 #[.pointer (some ⟨b, 0, none⟩)] w fun e w' => e = .returned (.string r.rest) ∧ w' = w := (rleft_any b r w hr).mono fun _ _ ⟨h, k⟩ => ⟨h, k.symm⟩
theorem rend_any2 (b : Nat) (r : Rd) (w : World) (hr : IsRd w b r) :
    Calls Try.prog 34 #[.pointer (some ⟨b, 0, none⟩)] w fun e w' => e = .returned (.int .i64 r.fin) ∧ w' = w := (rend_any b r w hr).mono fun _ _ ⟨h, k⟩ => ⟨h, k.symm⟩
theorem fine_any2 (b : Nat) (r : Rd) (w : World) (hr : IsRd w b r) :
    Calls Try.prog 31 #[.pointer (some ⟨b, 0, none⟩)] w fun e w' => e = .returned (.bool (!r.torn)) ∧ w' = w := (fine_any b r w hr).mono fun _ _ ⟨h, k⟩ => ⟨h, k.symm⟩
theorem refrleft_any2 (b : Nat) (r : Rd) (w : World) (hr : IsRr w b r) :
    Calls Try.prog 33 #[.pointer (some ⟨b, 0, none⟩)] w fun e w' => e = .returned (.string r.rest) ∧ w' = w := (refrleft_any b r w hr).mono fun _ _ ⟨h, k⟩ => ⟨h, k.symm⟩
theorem refrend_any2 (b : Nat) (r : Rd) (w : World) (hr : IsRr w b r) :
    Calls Try.prog 35 #[.pointer (some ⟨b, 0, none⟩)] w fun e w' => e = .returned (.int .i64 r.fin) ∧ w' = w := (refrend_any b r w hr).mono fun _ _ ⟨h, k⟩ => ⟨h, k.symm⟩

end Go.Proofs.Ytnahdhhojjicjaa
