/- A map of peers, by IDs, as a row that rises. -/
import Derived.Test.YtpolhdkjkidpgaaViewIter
import Derived.Test.YtpolhdkjkidpgaaViewLater
namespace Go.Proofs.Ytpolhdkjkidpgaa
open Go.RowKit Go.Maps Go.Sort Go.Shelf Go.Lib

/-- Block b is the map of the row S. -/
structure PM (w : World) (b n : Nat) (D : DataW Unit) (S : List P3) : Prop where
  own : w.ownsMap Try.prog 3 peerEl b n D
  ismap : IsMap D
  has : ∀ x : Int, Maps.has D (.int .i64 x) = (fnd S x).isSome
  val : ∀ (x : Int) (p : P3), fnd S x = some p → ∀ zd, D.atKey (.int .i64 x) zd = datT p
  sort : SortT S
theorem PM.made (w : World) : PM (w.alloc (.map #[] 0)) w.heap.size 0 (.map []) [] :=
  ⟨World.ownsMap_made _ _ _ _, ⟨_, rfl⟩, fun _ => rfl, (fun x p h => by cases h), sort_nil⟩
theorem PM.kept {w w' : World} {b n : Nat} {D : DataW Unit} {S : List P3} (h : PM w b n D S) (hk : w'.heap[b]? = w.heap[b]?) : PM w' b n D S := by
  obtain ⟨es, clock, hb, F, hs, hD⟩ := h.own
  exact ⟨⟨es, clock, hk.trans hb, F, hs, hD⟩, h.ismap, h.has, h.val, h.sort⟩
theorem PM.fits {w : World} {b n : Nat} {D : DataW Unit} {S : List P3} (h : PM w b n D S) : Fits D := by
  intro x p hat
  have h1 := has_true_of_atKey hat
  rw [h.has] at h1
  obtain ⟨q, hq⟩ := Option.isSome_iff_exists.1 h1
  have h2 := h.val x q hq (.lit (.bool false))
  rw [hat] at h2
  rw [datT_inj h2]
  exact (fnd_some hq).2
theorem peer_zero (w : World) : (zeroValue 32).run Try.prog w = .ok (aggT (0, 0, 0)) w := by
  have := Try.zeroValue32 w
  exact this
/-- 'had, is := all[x]'. -/
theorem PM.look {w : World} {b n : Nat} {D : DataW Unit} {S : List P3} (h : PM w b n D S) (x : Int) (hwf : (Lit.int .i64 x).wf = true) :
    (fnd S x = none ∧ (Instr.lookup 50 (.map (some b)) (.int .i64 x) true).run Try.prog w = .ok (.tuple #[aggT (0, 0, 0), .bool false]) w) ∨
    ∃ q, fnd S x = some q ∧ (Instr.lookup 50 (.map (some b)) (.int .i64 x) true).run Try.prog w = .ok (.tuple #[aggT q, .bool true]) w := by
  have hkey : keyOf Try.prog 3 (.int .i64 x) = some (.int .i64 x) := keyOf_int_mk Try.underlying3 hwf
  obtain ⟨es, clock, hb, F, hs, hD⟩ := h.own
  rcases Maps.fit_look true keyInt Try.underlying50 (peer_zero w) hb F hkey with ⟨hrun, _, hat⟩ | ⟨e0, y, _, _, hrun, hRv, hat, _⟩
  · refine .inl ⟨?_, hrun⟩
    rw [← hD] at hat
    have h1 := has_false_of_atKey hat
    rw [h.has] at h1
    cases hf : fnd S x with
    | none => rfl
    | some q => rw [hf] at h1; cases h1
  · obtain ⟨p, hv, hy⟩ := peerEl_inv hRv
    rw [← hD] at hat
    have h1 := has_true_of_atKey hat
    rw [h.has] at h1
    obtain ⟨q, hq⟩ := Option.isSome_iff_exists.1 h1
    have h2 := h.val x q hq (.lit (.bool false))
    rw [hat, hy] at h2
    obtain rfl : p = q := datT_inj h2
    exact .inr ⟨p, hq, by rw [hrun, hv]; rfl⟩
theorem PM.put {w w' : World} {b n : Nat} {D : DataW Unit} {S : List P3} (h : PM w b n D S) (p q : P3) (hq : q = more (fnd S p.1) p) (hwf : (Lit.int .i64 p.1).wf = true) (hown : w'.ownsMap Try.prog 3 peerEl b (n + 1) (D.put (.int .i64 p.1) (datT q))) :
    PM w' b (n + 1) (D.put (.int .i64 p.1) (datT q)) (putL S p) := by
  have hkey : keyOf Try.prog 3 (.int .i64 p.1) = some (.int .i64 p.1) := keyOf_int_mk Try.underlying3 hwf
  refine ⟨hown, h.ismap.put _ _, fun x => ?_, fun x r hr zd => ?_, putL_sort h.sort p⟩
  · rw [fnd_putL h.sort]
    by_cases e : x = p.1
    · subst e
      rw [has_put_same h.ismap (keyInt.key hkey), if_pos rfl]; rfl
    · rw [has_put_other (by intro h; cases h; exact e rfl), if_neg e, h.has]
  · rw [fnd_putL h.sort] at hr
    by_cases e : x = p.1
    · subst e
      rw [if_pos rfl] at hr
      rw [atKey_put_same h.ismap (keyInt.key hkey), hq]
      rw [Option.some.inj hr]
    · rw [if_neg e] at hr
      rw [atKey_put_other (by intro h; cases h; exact e rfl)]
      exact h.val x r hr zd
end Go.Proofs.Ytpolhdkjkidpgaa
