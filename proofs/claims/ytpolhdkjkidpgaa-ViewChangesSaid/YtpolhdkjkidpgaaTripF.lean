/- Rows of triples whose first numbers say the other two, as the library's sort holds them; the row sorted. -/
import Derived.Test.YtpolhdkjkidpgaaViewPlain
import Derived.Shelf.SlSortCmp.NoneTotal
namespace Go.Proofs.Ytpolhdkjkidpgaa
open Go.ChangeShapes Go.WideShapes Go.ChangeAt Go.RowKit Go.Shelf Go.Lib Go.Sort

/-! ### A row of triples whose first numbers say the other two, as the library's sort holds it: the elements are the first numbers -/
def encF (f : Int → Int × Int) (x : Int) : List Value := encT (x, f x)
theorem encF_len (f : Int → Int × Int) (x : Int) : (encF f x).length = 3 := rfl
theorem encF_one (f : Int → Int × Int) (x : Int) : ∀ v ∈ encF f x, v.oneCell' = true := by
  intro v hv
  simp [encF, encT] at hv
  rcases hv with rfl | rfl | rfl <;> rfl
abbrev HoldsF (f : Int → Int × Int) (w : World) (b : Nat) (d : Array Int) : Prop := HoldsK (encF f) 3 w b 0 d
theorem flatF_get (f : Int → Int × Int) (d : Array Int) (j : Nat) (hj : j < d.size) : (flatK (encF f) 3 d)[j * 3]! = .int .i64 d[j]! ∧ (flatK (encF f) 3 d)[j * 3 + 1]! = .int .i64 (f d[j]!).1 ∧ (flatK (encF f) 3 d)[j * 3 + 2]! = .int .i64 (f d[j]!).2 := by
  rw [get_flatK _ _ _ _ (by omega), get_flatK _ _ _ _ (by omega), get_flatK _ _ _ _ (by omega), show j * 3 / 3 = j from by omega, show j * 3 % 3 = 0 from by omega, show (j * 3 + 1) / 3 = j from by omega, show (j * 3 + 1) % 3 = 1 from by omega, show (j * 3 + 2) / 3 = j from by omega, show (j * 3 + 2) % 3 = 2 from by omega]
  exact ⟨rfl, rfl, rfl⟩
theorem HoldsF.at {f : Int → Int × Int} {w : World} {b : Nat} {d : Array Int} (h : HoldsF f w b d) (j : Nat) (hj : j < d.size) :
    w.cell? ⟨b, j * 3, none⟩ = some (.int .i64 d[j]!) ∧ w.cell? ⟨b, j * 3 + 1, none⟩ = some (.int .i64 (f d[j]!).1) ∧ w.cell? ⟨b, j * 3 + 2, none⟩ = some (.int .i64 (f d[j]!).2) := by
  have h0 := h.cell (i := j) (c := 0) hj (by decide)
  have h1 := h.cell (i := j) (c := 1) hj (by decide)
  have h2 := h.cell (i := j) (c := 2) hj (by decide)
  rw [Nat.zero_add] at h0 h1 h2
  exact ⟨h0.1, h1.1, h2.1⟩
theorem HoldsF.sl {f : Int → Int × Int} {w : World} {b : Nat} {d : Array Int} (h : HoldsF f w b d) (hb : b < w.heap.size) : SlT w (some ⟨b, 0, none⟩) (d.toList.map fun x => (x, f x)) := by
  intro k _
  refine ⟨b, 0, rfl, hb, fun j p hj => ?_⟩
  rw [List.getElem?_map] at hj
  have hlt : j < d.size := by
    rcases Nat.lt_or_ge j d.size with h | h
    · exact h
    · rw [List.getElem?_eq_none (by simpa using h)] at hj; cases hj
  have e : p = (d[j]!, f d[j]!) := by
    rw [getElem!_pos d j hlt]
    rw [List.getElem?_eq_getElem (by simpa using hlt)] at hj
    simp at hj
    exact hj.symm
  obtain ⟨c0, c1, c2⟩ := h.at j hlt
  rw [e, Nat.zero_add]
  exact ⟨c0, c1, c2⟩
theorem HoldsF.ofOwn {f : Int → Int × Int} {w : World} {base : Nat} {t : TypeId} {v : Value} {ks : List Int} (h : OwnT w base t v (ks.map fun x => (x, f x))) (hv : v ≠ .slice none 0 0) :
    ∃ g cap, v = .slice (some ⟨g, 0, none⟩) ks.length cap ∧ base ≤ g ∧ g < w.heap.size ∧ ks.length ≤ cap ∧ cap ≤ maxLen ∧ HoldsF f w g ks.toArray := by
  rcases h.2 with ⟨rfl, _⟩ | ⟨g, cap, cur, rfl, hb, hg, hc, hm, hs, ht⟩
  · exact absurd rfl hv
  · rw [List.length_map] at hc ht ⊢
    refine ⟨g, cap, rfl, hb, lt_of_block hg, hc, hm, ?_⟩
    intro t0 ht0
    rw [size_flatK] at ht0
    have ht0' : t0 < ks.length * 3 := by simpa using ht0
    have hc1 : w.cell? ⟨g, 0 + t0, none⟩ = cur[t0]? := by rw [Nat.zero_add]; simp [World.cell?, hg]
    have hf1 : w.frozen? ⟨g, 0 + t0, none⟩ = false := by simp [World.frozen?, hg]
    refine ⟨?_, hf1⟩
    rw [hc1]
    have e3 : cur[t0]? = (flatT (ks.map fun x => (x, f x)))[t0]? := by rw [← ht, List.getElem?_take, if_pos ht0']; simp
    rw [e3]
    have hd : (ks.map fun x => (x, f x))[t0 / 3]? = some (ks[t0 / 3]'(by omega), f (ks[t0 / 3]'(by omega))) := by
      rw [List.getElem?_map, List.getElem?_eq_getElem (by omega)]; rfl
    obtain ⟨g0, g1, g2⟩ := flatT_get _ (t0 / 3) _ hd
    obtain ⟨k0, k1, k2⟩ := flatF_get f ks.toArray (t0 / 3) (by simp; omega)
    have e4 : (ks.toArray)[t0 / 3]! = ks[t0 / 3]'(by omega) := by rw [getElem!_pos _ _ (by simp; omega)]; simp
    rw [e4] at k0 k1 k2
    have hm2 : t0 % 3 = 0 ∨ t0 % 3 = 1 ∨ t0 % 3 = 2 := by omega
    rcases hm2 with hm2 | hm2 | hm2
    · rw [show t0 / 3 * 3 = t0 from by omega] at g0 k0
      rw [g0, k0]; rfl
    · rw [show t0 / 3 * 3 + 1 = t0 from by omega] at g1 k1
      rw [g1, k1]; rfl
    · rw [show t0 / 3 * 3 + 2 = t0 from by omega] at g2 k2
      rw [g2, k2]; rfl
/-- What lay apart from the row is as it was. -/
theorem SWK.keptF {f : Int → Int × Int} {w W : World} {b : Nat} {d : Array Int} (h : SWK (encF f) 3 w b 0 d W) : Kept b w W := by
  obtain ⟨n, os, rfl⟩ := h
  refine ⟨rfl, rfl, rfl, ?_, fun k hk hne => ?_⟩
  · show w.heap.size ≤ ((w.heap.modify b _) ++ os).size
    simp
  · show ((w.heap.modify b _) ++ os)[k]? = w.heap[k]?
    rw [Array.getElem?_append_left (by simpa using hk), Array.getElem?_modify, if_neg (fun e => hne e.symm)]
/-! ### The row sorted: by its first numbers -/
def msZ (l : List Int) : List Int := l.mergeSort fun x y => !(ltOf Lib.compareInt) y x
theorem ltZ (x y : Int) : ltOf Lib.compareInt x y = decide (x < y) := by
  unfold ltOf Lib.compareInt
  by_cases h1 : x < y
  · simp [h1]
  · by_cases h2 : y < x <;> simp [h1, h2]
theorem swoZ : SWO (ltOf Lib.compareInt) where
  irrefl x := by rw [ltZ]; simp
  trans x y z h1 h2 := by rw [ltZ] at *; simp only [decide_eq_true_eq] at *; omega
  ntrans x y z h1 h2 := by rw [ltZ] at *; simp only [decide_eq_false_iff_not] at *; omega
theorem totZ (x y : Int) (h1 : (ltOf Lib.compareInt) x y = false) (h2 : (ltOf Lib.compareInt) y x = false) : x = y := by
  rw [ltZ] at *; simp only [decide_eq_false_iff_not] at *; omega
/-- Rows of the same first numbers, each once, sorted: the row that rises. -/
theorem msZ_is {ks : List Int} {S : List P3} (hs : SortT S) (hn : ks.Nodup) (hm : ∀ x, x ∈ ks ↔ ∃ p ∈ S, p.1 = x) : msZ ks = S.map (·.1) := by
  have hsm : (S.map (·.1)).Pairwise (· < ·) := List.pairwise_map.2 hs
  have hnd : (S.map (·.1)).Nodup := hsm.imp fun h e => by omega
  have tr : ∀ a b c : Int, (fun x y => !(ltOf Lib.compareInt) y x) a b = true → (fun x y => !(ltOf Lib.compareInt) y x) b c = true → (fun x y => !(ltOf Lib.compareInt) y x) a c = true := by
    intro a b c h1 h2
    simp only [ltZ] at *
    simp at *
    omega
  have to : ∀ a b : Int, ((fun x y => !(ltOf Lib.compareInt) y x) a b || (fun x y => !(ltOf Lib.compareInt) y x) b a) = true := by
    intro a b
    simp only [ltZ]
    simp
    omega
  have hp : (msZ ks).Perm (S.map (·.1)) := (List.mergeSort_perm ks _).trans ((List.perm_ext_iff_of_nodup hn hnd).2 fun x => by rw [hm, List.mem_map])
  refine List.Perm.eq_of_pairwise (le := fun a b : Int => a ≤ b) (fun a b _ _ h1 h2 => by omega) ?_ (hsm.imp fun h => by omega) hp
  refine (List.pairwise_mergeSort tr to ks).imp fun {a b} h => ?_
  rw [ltZ] at h
  simp at h
  exact h
end Go.Proofs.Ytpolhdkjkidpgaa
