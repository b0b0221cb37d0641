/- More walks of chapter 3: Check, the document's Check, Rises and Find. -/
import Derived.Test.YthhcooabfgegaaaPairAppend
import Derived.BigQuiet
import Derived.Deep.QuietTactic
namespace Go.Proofs.Ythhcooabfgegaaa
open Go.RowKit Go.Shelf Go.Lib Go.Sort

/-- May a name be? -/
def okD (x y : Int) : Bool := decide (1 ≤ x ∧ x ≤ 1099511627776 ∧ 1 ≤ y ∧ y ≤ 1099511627776)

set_option maxRecDepth 100000 in
set_option maxHeartbeats 400000 in
theorem may_any (x : Int) (r : Bool) (hr : Hid (r = decide (1 ≤ x ∧ x ≤ 1099511627776))) (w : World) :
    Calls Try.prog 43 #[.int .i64 x] w fun e w' => e = .returned (.bool r) ∧ w = w' := by
  have hr2 := hr.out
  by_cases h1 : 1 ≤ x
  · have h1' : decide (1 ≤ x) = true := decide_eq_true h1
    have h2 : decide (x ≤ 1099511627776) = r := by rw [hr2]; exact decide_eq_decide.2 ⟨fun h => ⟨h1, h⟩, fun h => h.2⟩
    clear hr2
    go_enter Try.func43, Try.ntmps43
    go_wp2_with fail
    go_ret
    exact ⟨rfl, rfl⟩
  · have h1' : decide (1 ≤ x) = false := decide_eq_false h1
    obtain rfl : r = false := by rw [hr2]; exact decide_eq_false (fun h => h1 h.1)
    clear hr2
    go_enter Try.func43, Try.ntmps43
    go_wp2_with fail
    go_ret
    exact ⟨rfl, rfl⟩

set_option maxRecDepth 100000 in
set_option maxHeartbeats 400000 in
theorem check_any (x y : Int) (r : Bool) (hr : Hid (r = okD x y)) (w : World) :
    Calls Try.prog 21 #[.agg #[.int .i64 x, .int .i64 y]] w fun e w' => e = .returned (.bool r) ∧ Below w.heap.size w w' := by
  obtain ⟨A, hA⟩ := nm (decide (1 ≤ x ∧ x ≤ 1099511627776))
  obtain ⟨B, hB⟩ := nm (decide (1 ≤ y ∧ y ≤ 1099511627776))
  have hR : Hid (r = (A && B)) := by
    show _ = _
    rw [hr.out, hA.out, hB.out, okD, ← Bool.decide_and]
    exact decide_eq_decide.2 ⟨fun h => ⟨⟨h.1, h.2.1⟩, h.2.2⟩, fun h => ⟨h.1.1, h.1.2, h.2⟩⟩
  cases A
  · obtain rfl : r = false := by rw [hR.out]; rfl
    go_enter Try.func21, Try.ntmps21
    go_wp2_with fail
    refine (may_any x false hA _).mono ?_; rintro e w2 ⟨rfl, rfl⟩
    go_wp2_with fail
    go_ret
    exact ⟨rfl, bOld _⟩
  · obtain rfl : r = B := by rw [hR.out]; simp
    go_enter Try.func21, Try.ntmps21
    go_wp2_with fail
    refine (may_any x true hA _).mono ?_; rintro e w2 ⟨rfl, rfl⟩
    go_wp2_with fail
    refine (may_any y r hB _).mono ?_; rintro e w2 ⟨rfl, rfl⟩
    go_wp2_with fail
    go_ret
    exact ⟨rfl, bOld _⟩

set_option maxRecDepth 100000 in
set_option maxHeartbeats 1000000 in
theorem refcheck_any (x y : Int) (r : Bool) (hr : Hid (r = okD x y)) (w : World) :
    Calls Try.prog 22 #[.agg #[.int .i64 x, .int .i64 y]] w fun e w' => e = .returned (.bool r) ∧ Below w.heap.size w w' := by
  have hr2 := hr.out
  unfold okD at hr2
  obtain ⟨A, hA⟩ := nm (decide (1 ≤ x))
  obtain ⟨B, hB⟩ := nm (decide (x ≤ 1099511627776))
  obtain ⟨C, hC⟩ := nm (decide (1 ≤ y))
  obtain ⟨D, hD⟩ := nm (decide (y ≤ 1099511627776))
  have hR : Hid (r = (A && (B && (C && D)))) := by
    show _ = _
    rw [hr2, hA.out, hB.out, hC.out, hD.out]
    simp only [Bool.decide_and]
  have h1 := hA.out.symm
  have h2 := hB.out.symm
  have h3 := hC.out.symm
  have h4 := hD.out.symm
  clear hr2 hA hB hC hD hr
  cases A <;> cases B <;> cases C
  all_goals
    have hR2 := hR.out
    simp only [Bool.true_and, Bool.and_false, Bool.false_and] at hR2
    subst hR2
    clear hR
    go_enter Try.func22, Try.ntmps22
    go_wp2_with fail
    go_ret
    exact ⟨rfl, bOld _⟩

set_option maxRecDepth 100000 in
set_option maxHeartbeats 1000000 in
theorem refrises_any (ao : Option Addr) (ps : List (Int × Int)) (n cap : Nat) (hn : Hid (ps.length = n)) (hm : n ≤ 1000000000) (w : World) (hs : SlP w ao ps) (r : Bool) (hr : Hid (r = decide (Asc ps))) :
    Calls Try.prog 24 #[.slice ao n cap] w fun e w' => e = .returned (.bool r) ∧ Below w.heap.size w w' := by
  have HS := Lib.hid hs
  clear hs
  go_enter Try.func24, Try.ntmps24
  go_wp2_with fail
  go_loopw [3] (fun i wr => ∃ k : Nat, 1 ≤ k ∧ (k ≤ n ∨ k = 1) ∧ i = .int .i64 (k : Int) ∧ Below w.heap.size w wr ∧ Hid (Asc (ps.take k))) (fun i _ => n - (intOf i).toNat)
  case atStart =>
    refine ⟨1, by omega, .inr rfl, rfl, Below.refl _ _, ?_⟩
    show Asc _
    cases ps <;> simp [Asc]
  case round =>
    obtain ⟨k, hk1, hk, rfl, hB, hI⟩ := hrel
    by_cases hlt : k < n
    · obtain ⟨b, off, u, v, rfl, hbl, c0, c1, hpk⟩ := HS.out.get k (by rw [hn.out]; exact hlt)
      have d0 : wr.cell? ⟨b, off + k * 2, none⟩ = some (.int .i64 u) := (hB.cell (p := ⟨b, off + k * 2, none⟩) hbl).trans c0
      have d1 : wr.cell? ⟨b, off + k * 2 + 1, none⟩ = some (.int .i64 v) := (hB.cell (p := ⟨b, off + k * 2 + 1, none⟩) hbl).trans c1
      clear c0 c1
      obtain ⟨b', off', u1, v1, e', hbl', c2, c3, hpj⟩ := HS.out.get (k - 1) (by rw [hn.out]; omega)
      cases e'
      have d2 : wr.cell? ⟨b, off + (k - 1) * 2, none⟩ = some (.int .i64 u1) := (hB.cell (p := ⟨b, off + (k - 1) * 2, none⟩) hbl).trans c2
      have d3 : wr.cell? ⟨b, off + (k - 1) * 2 + 1, none⟩ = some (.int .i64 v1) := (hB.cell (p := ⟨b, off + (k - 1) * 2 + 1, none⟩) hbl).trans c3
      clear c2 c3
      obtain ⟨B, hBB⟩ := nm (decide (ltP (u1, v1) (u, v)))
      have hw1 : IntKind.i64.wrap ((k : Int) - 1) = ((k - 1 : Nat) : Int) := by rw [IntWalk.i64_in _ (by omega)]; omega
      have hw2 : k - 1 < n := by omega
      clear hk
      go_wp2_with fail
      refine wp_region_still_tail 9 (by kernel_rfl) (by kernel_rfl) ?_
      simp only [List.take_succ_cons, List.take_zero, List.drop_succ_cons, List.drop_zero]
      change wpStill _ _ (World.drew _) (fun a' => wpList _ _ _ _ a' (World.drew _)) _ _
      repeat still_step
      refine wpStill_nil ?_
      clear d0 d1 d2 d3 hw1
      have htk : ps.take k = ps.take (k - 1) ++ [(u1, v1)] := by
        have := take_snocP hpj.out
        rwa [show k - 1 + 1 = k from by omega] at this
      have HTK := Lib.hid htk
      have HTS := Lib.hid (take_snocP hpk.out)
      clear htk
      go_wp2_with fail
      refine (refless_any u1 v1 u v B hBB _).mono ?_; rintro e w3 ⟨rfl, hB3⟩
      have hB4 : Below w.heap.size w w3 := bNext (below_drewN hB 1) hB3
      cases B
      · have HE : Hid (r = false) := by
          show _ = _
          rw [hr.out]
          refine decide_eq_false fun ha => ?_
          obtain ⟨g1, g2⟩ := get_of hpk.out
          obtain ⟨g3, g4⟩ := get_of hpj.out
          have := asc_mono ha (show k - 1 < k by omega) g1
          rw [g2, g4] at this
          exact absurd this (by simpa using hBB.out.symm)
        go_wp2_with fail
        go_ret
        rw [HE.out]
        exact ⟨rfl, hB4⟩
      · have HI : Hid (Asc (ps.take (k + 1))) := by
          show Asc _
          rw [HTS.out, HTK.out]
          have h1 := hI.out
          rw [HTK.out] at h1
          exact asc_snoc h1 (by simpa using hBB.out.symm)
        go_wp2_with fail
        go_roundw
        case rel => exact ⟨k + 1, by omega, .inl (by omega), by go_num, hB4, HI⟩
        case measure => simp [intOf]; omega
    · have HE : Hid (r = true) := by
        show _ = _
        rw [hr.out]
        refine decide_eq_true ?_
        have := hI.out
        rwa [List.take_of_length_le (by rw [hn.out]; omega)] at this
      clear hk
      go_wp2_with fail
      go_ret
      rw [HE.out]
      exact ⟨rfl, hB⟩

set_option maxRecDepth 100000 in
set_option maxHeartbeats 1000000 in
theorem reffind_any (ao : Option Addr) (ps : List (Int × Int)) (n cap : Nat) (hn : Hid (ps.length = n)) (hm : n ≤ 1000000000) (x y : Int) (w : World) (hs : SlP w ao ps) (ha : Hid (Asc ps)) :
    Calls Try.prog 20 #[.slice ao n cap, .agg #[.int .i64 x, .int .i64 y]] w fun e w' =>
      e = .returned (.tuple #[.int .i64 (lowD ps (x, y) : Int), .bool (decide (ps[lowD ps (x, y)]? = some (x, y)))]) ∧ Below w.heap.size w w' := by
  have HS := Lib.hid hs
  clear hs
  have hb0 : Blk (w.alloc (.cells #[.int .i64 x, .int .i64 y] 23)) w.heap.size #[.int .i64 x, .int .i64 y] 23 := Blk.new _ _ _
  obtain ⟨w1, hw1⟩ := nm (w.alloc (.cells #[.int .i64 x, .int .i64 y] 23))
  rw [← hw1.out] at hb0
  have hB0 : Below w.heap.size w w1 := by rw [hw1.out]; exact bOld _
  obtain ⟨p, hp⟩ := nm w.heap.size
  rw [← hp.out] at hb0
  have HBX := Lib.hid hb0
  have HB0 := Lib.hid hB0
  obtain ⟨L, hL⟩ := nm (lowD ps (x, y))
  rw [← hL.out]
  obtain ⟨R, hR⟩ := nm (decide (ps[L]? = some (x, y)))
  rw [← hR.out]
  clear hB0 hb0
  go_enter Try.func20, Try.ntmps20
  go_wp2_with fail
  rw [← hp.out, ← hw1.out]
  go_loopw [6] (fun i wr => ∃ k : Nat, k ≤ n ∧ i = .int .i64 (k : Int) ∧ Below w1.heap.size w1 wr ∧ Hid (∀ j, j < k → ltP ps[j]! (x, y))) (fun i _ => n - (intOf i).toNat)
  case atStart => exact ⟨0, by omega, rfl, Below.refl _ _, by show ∀ j, _; intro j hj; omega⟩
  case round =>
    obtain ⟨k, hk, rfl, hB, hI⟩ := hrel
    have hbx : Blk wr p #[.int .i64 x, .int .i64 y] 23 := HBX.out.below hB HBX.out.lt
    have b0 : wr.cell? ⟨p, 0, none⟩ = some (.int .i64 x) := hbx.cell 0
    have b1 : wr.cell? ⟨p, 1, none⟩ = some (.int .i64 y) := hbx.cell 1
    clear hbx
    by_cases hlt : k < n
    · obtain ⟨b, off, u, v, rfl, hbl, c0, c1, hpk⟩ := HS.out.get k (by rw [hn.out]; exact hlt)
      have d0 : wr.cell? ⟨b, off + k * 2, none⟩ = some (.int .i64 u) := ((bNext HB0.out hB).cell (p := ⟨b, off + k * 2, none⟩) hbl).trans c0
      have d1 : wr.cell? ⟨b, off + k * 2 + 1, none⟩ = some (.int .i64 v) := ((bNext HB0.out hB).cell (p := ⟨b, off + k * 2 + 1, none⟩) hbl).trans c1
      obtain ⟨B, hBB⟩ := nm (decide (ltP (u, v) (x, y)))
      go_wp2_with fail
      refine wp_region_still_tail 5 (by kernel_rfl) (by kernel_rfl) ?_
      simp only [List.take_succ_cons, List.take_zero, List.drop_succ_cons, List.drop_zero]
      change wpStill _ _ (World.drew _) (fun a' => wpList _ _ _ _ a' (World.drew _)) _ _
      repeat still_step
      refine wpStill_nil ?_
      clear d0 d1 b0 b1
      go_wp2_with fail
      refine (refless_any u v x y B hBB _).mono ?_; rintro e w3 ⟨rfl, hB3⟩
      have hB4 : Below w1.heap.size w1 w3 := bNext (below_drewN hB 1) hB3
      have hbx : Blk w3 p #[.int .i64 x, .int .i64 y] 23 := HBX.out.below hB4 HBX.out.lt
      have b0 : w3.cell? ⟨p, 0, none⟩ = some (.int .i64 x) := hbx.cell 0
      have b1 : w3.cell? ⟨p, 1, none⟩ = some (.int .i64 y) := hbx.cell 1
      have d0 : w3.cell? ⟨b, off + k * 2, none⟩ = some (.int .i64 u) := ((bNext HB0.out hB4).cell (p := ⟨b, off + k * 2, none⟩) hbl).trans c0
      have d1 : w3.cell? ⟨b, off + k * 2 + 1, none⟩ = some (.int .i64 v) := ((bNext HB0.out hB4).cell (p := ⟨b, off + k * 2 + 1, none⟩) hbl).trans c1
      clear c0 c1 hbx
      cases B
      · have hkL : k = L := by
          rw [hL.out]
          refine lowD_of ps (x, y) k (by rw [hn.out]; omega) hI.out fun i hi hil => ?_
          exact asc_notlt ha.out hpk.out hil hi (by simpa using hBB.out.symm)
        have heq := fun w => eqlD u v x y R (by rw [hR.out, ← hkL, hpk.out]; simp) w
        have hgd := fun (a b : Operand) (w : World) => guardD .eql a b #[.int .i64 u, .int .i64 v] #[.int .i64 x, .int .i64 y] w
        have HK := Lib.hid hkL
        clear hkL
        go_wp2_with fail
        go_quiet (fail)
        clear heq hgd
        go_wp2_with fail
        go_ret2
        exact ⟨by rw [← HK.out]; rfl, below_drewN (bNext HB0.out hB4) _⟩
      · have HI : Hid (∀ j, j < k + 1 → ltP ps[j]! (x, y)) := by
          show ∀ j, _
          intro j hj
          exact asc_lt ha.out hpk.out (by omega) (by simpa using hBB.out.symm)
        clear d0 d1 b0 b1
        go_wp2_with fail
        go_roundw
        case rel => exact ⟨k + 1, by omega, by go_num, hB4, HI⟩
        case measure => simp [intOf]; omega
    · obtain rfl : k = n := by omega
      have HK : Hid (k = L) := by
        show _ = _
        rw [hL.out]
        exact lowD_of ps (x, y) k (by rw [hn.out]; omega) hI.out fun i hi hil => by rw [hn.out] at hil; omega
      have HR : Hid (R = false) := by
        show _ = _
        rw [hR.out, ← HK.out, List.getElem?_eq_none (by rw [hn.out]; omega)]
        simp
      go_wp2_with fail
      go_ret2
      rw [HR.out, ← HK.out]
      exact ⟨rfl, bNext HB0.out hB⟩
end Go.Proofs.Ythhcooabfgegaaa
