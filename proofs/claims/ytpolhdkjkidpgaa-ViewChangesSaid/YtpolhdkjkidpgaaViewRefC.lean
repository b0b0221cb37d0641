/- The document's views: May, Find, With, changed, Suspect, Refute, Leave, Members, Alive. -/
import Derived.Test.YtpolhdkjkidpgaaViewRefB
import Derived.Test.YtpolhdkjkidpgaaViewFind
import Derived.Test.YtpolhdkjkidpgaaViewIds
import Derived.BigQuiet
import Derived.Deep.QuietTactic
namespace Go.Proofs.Ytpolhdkjkidpgaa
open Go.RowKit Go.Shelf Go.Lib Go.Sort

/-! ### Plain -/
theorem chgL_fix {A : List P3} {id : Int} {p : P3} (f : P3 → P3) (h : fnd A id = some p) (hp : f p = p) : chgL f id A = A := by
  induction A with
  | nil => rfl
  | cons q A ih =>
    rw [fnd_cons] at h
    unfold chgL
    split at h
    · rename_i e
      rw [if_pos e, Option.some.inj h, hp]
    · rename_i e
      rw [if_neg e, ih h]
theorem chgL_const {A : List P3} {id : Int} {p : P3} (f : P3 → P3) (h : fnd A id = some p) : chgL (fun _ => f p) id A = chgL f id A := by
  induction A with
  | nil => rfl
  | cons q A ih =>
    rw [fnd_cons] at h
    unfold chgL
    split at h
    · rename_i e
      rw [if_pos e, if_pos e, Option.some.inj h]
    · rename_i e
      rw [if_neg e, if_neg e, ih h]
/-- The document's change. -/
def mapC (r : P3) (A : List P3) : List P3 := A.map fun q => if q.1 = r.1 then r else q
theorem mapC_is {A : List P3} (h : SortT A) (r : P3) : mapC r A = chgL (fun _ => r) r.1 A := by
  induction A with
  | nil => rfl
  | cons q A ih =>
    obtain ⟨h1, h2⟩ := List.pairwise_cons.1 h
    unfold mapC chgL
    rw [List.map_cons]
    by_cases e : q.1 = r.1
    · rw [if_pos e, if_pos e]
      congr 1
      conv => rhs; rw [← List.map_id A]
      exact List.map_congr_left fun p hp => by
        have := h1 p hp
        rw [if_neg (by omega)]; rfl
    · rw [if_neg e, if_neg e]
      congr 1
      exact ih h2
theorem mapC_snoc (r : P3) (A : List P3) (q : P3) : mapC r (A ++ [q]) = mapC r A ++ [if q.1 = r.1 then r else q] := by
  unfold mapC; rw [List.map_append]; rfl
theorem mapC_length (r : P3) (A : List P3) : (mapC r A).length = A.length := by unfold mapC; rw [List.length_map]

/-! ### May -/
set_option maxRecDepth 100000 in
set_option maxHeartbeats 4000000 in
theorem refmay_any (x y z : Int) (w : World) :
    Calls Try.prog 52 #[.agg #[.int .i64 x, .int .i64 y, .int .i64 z]] w fun e w' => e = .returned (.bool (mayP (x, y, z))) ∧ w' = w.alloc (.cells #[.int .i64 x, .int .i64 y, .int .i64 z] 32) := by
  by_cases h0 : x ≥ 1
  · by_cases h1 : x ≤ 1099511627776
    · by_cases h2 : y ≥ 0
      · by_cases h3 : y ≤ 1073741824
        · by_cases h4 : z ≥ 0
          · by_cases h5 : z ≤ 2
            · have hE : mayP (x, y, z) = true := mayP_mk (by simp only; omega)
              rw [hE]
              clear hE
              go_enter Try.func52, Try.ntmps52
              go_wp2_with fail
              go_ret
              exact ⟨rfl, rfl⟩
            · have hE : mayP (x, y, z) = false := by
                cases hm : mayP (x, y, z) with
                | false => rfl
                | true => have := mayP_is hm; simp only at this; omega
              have g5 : decide (z ≤ 2) = false := decide_eq_false h5
              rw [hE]
              clear hE
              go_enter Try.func52, Try.ntmps52
              go_wp2_with fail
              go_ret
              exact ⟨rfl, rfl⟩
          · have hE : mayP (x, y, z) = false := by
              cases hm : mayP (x, y, z) with
              | false => rfl
              | true => have := mayP_is hm; simp only at this; omega
            have g4 : decide (z ≥ 0) = false := decide_eq_false h4
            rw [hE]
            clear hE
            go_enter Try.func52, Try.ntmps52
            go_wp2_with fail
            go_ret
            exact ⟨rfl, rfl⟩
        · have hE : mayP (x, y, z) = false := by
            cases hm : mayP (x, y, z) with
            | false => rfl
            | true => have := mayP_is hm; simp only at this; omega
          have g3 : decide (y ≤ 1073741824) = false := decide_eq_false h3
          rw [hE]
          clear hE
          go_enter Try.func52, Try.ntmps52
          go_wp2_with fail
          go_ret
          exact ⟨rfl, rfl⟩
      · have hE : mayP (x, y, z) = false := by
          cases hm : mayP (x, y, z) with
          | false => rfl
          | true => have := mayP_is hm; simp only at this; omega
        have g2 : decide (y ≥ 0) = false := decide_eq_false h2
        rw [hE]
        clear hE
        go_enter Try.func52, Try.ntmps52
        go_wp2_with fail
        go_ret
        exact ⟨rfl, rfl⟩
    · have hE : mayP (x, y, z) = false := by
        cases hm : mayP (x, y, z) with
        | false => rfl
        | true => have := mayP_is hm; simp only at this; omega
      have g1 : decide (x ≤ 1099511627776) = false := decide_eq_false h1
      rw [hE]
      clear hE
      go_enter Try.func52, Try.ntmps52
      go_wp2_with fail
      go_ret
      exact ⟨rfl, rfl⟩
  · have hE : mayP (x, y, z) = false := by
      cases hm : mayP (x, y, z) with
      | false => rfl
      | true => have := mayP_is hm; simp only at this; omega
    have g0 : decide (x ≥ 1) = false := decide_eq_false h0
    rw [hE]
    clear hE
    go_enter Try.func52, Try.ntmps52
    go_wp2_with fail
    go_ret
    exact ⟨rfl, rfl⟩

/-! ### With -/
set_option maxRecDepth 100000 in
set_option maxHeartbeats 1000000 in
theorem refwith_any (A : List P3) (hA : Vok A) (x y z : Int) (v : Value) (w : World) (hv : Vw w v A) :
    Calls Try.prog 21 #[v, .agg #[.int .i64 x, .int .i64 y, .int .i64 z]] w fun e w' => ∃ v', e = .returned v' ∧ Vw w' v' (vwith A (x, y, z)) ∧ Below w.heap.size w w' := by
  obtain ⟨b, hb⟩ := nm (mayP (x, y, z))
  have HM : Hid (∀ w, Calls Try.prog 52 #[.agg #[.int .i64 x, .int .i64 y, .int .i64 z]] w fun e w' => e = .returned (.bool b) ∧ w' = w.alloc (.cells #[.int .i64 x, .int .i64 y, .int .i64 z] 32)) := by intro w; rw [hb.out]; exact refmay_any x y z w
  have HV := Lib.hid hv
  obtain ⟨w0, hw0⟩ := nm ((w.alloc (.cells #[.int .i64 x, .int .i64 y, .int .i64 z] 32)).alloc (.cells #[.int .i64 x, .int .i64 y, .int .i64 z] 32))
  have HB0 : Hid (Below w.heap.size w w0) := by rw [hw0.out]; exact bNew (bOld _) _
  have hbk : Blk w0 w.heap.size #[.int .i64 x, .int .i64 y, .int .i64 z] 32 := by rw [hw0.out]; exact (Blk.new w _ _).alloc _
  have d0 : w0.cell? ⟨w.heap.size, 0, none⟩ = some (.int .i64 x) := hbk.cell 0
  have d1 : w0.cell? ⟨w.heap.size, 1, none⟩ = some (.int .i64 y) := hbk.cell 1
  have d2 : w0.cell? ⟨w.heap.size, 2, none⟩ = some (.int .i64 z) := hbk.cell 2
  have HV0 := Lib.hid (HV.out.below HB0.out)
  clear hv hbk
  cases b
  · have HE : Hid (vwith A (x, y, z) = A) := by show _ = _; unfold vwith; rw [← hb.out]; rfl
    go_enter Try.func21, Try.ntmps21
    go_wp2_with (go_at_call 52; with_reducible (refine (HM.out _).mono ?_); rintro e w2 ⟨rfl, rfl⟩; try rw [← hw0.out])
    go_ret
    rw [HE.out]
    exact ⟨_, rfl, HV0.out, HB0.out⟩
  · have hm : mayP (x, y, z) = true := hb.out.symm
    have HE : Hid (vwith A (x, y, z) = (rput (x, y, z) false A).take 64) := by show _ = _; unfold vwith; rw [if_pos hm, rput_is hA.sort]
    have HP := Lib.hid (refput_any A A.length rfl (by have := hA.len; omega) x y z v w0 HV0.out)
    clear hm
    go_enter Try.func21, Try.ntmps21
    go_wp2_with (go_at_call 52; with_reducible (refine (HM.out _).mono ?_); rintro e w2 ⟨rfl, rfl⟩; try rw [← hw0.out])
    refine HP.out.mono ?_; rintro e w1 ⟨v1, rfl, h1, h2⟩
    have HF := Lib.hid (reffew_any _ v1 w1 h1)
    have HB := Lib.hid (bNext HB0.out h2)
    clear h1 h2 d0 d1 d2
    go_wp2_with fail
    refine HF.out.mono ?_; rintro e w2 ⟨v2, rfl, h3, rfl, _⟩
    have HR := Lib.hid h3
    clear h3
    go_wp2_with fail
    go_ret
    rw [HE.out]
    exact ⟨v2, rfl, HR.out, HB.out⟩
end Go.Proofs.Ytpolhdkjkidpgaa
