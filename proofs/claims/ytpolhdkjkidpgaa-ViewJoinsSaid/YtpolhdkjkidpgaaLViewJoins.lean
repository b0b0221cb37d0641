/- ViewJoins: for any three rows of peers the law returns true. -/
import Derived.Test.YtpolhdkjkidpgaaViewAwake
import Derived.Test.YtpolhdkjkidpgaaViewMade
import Derived.Test.YtpolhdkjkidpgaaViewCheck
namespace Go.Proofs.Ytpolhdkjkidpgaa
open Go.RowKit Go.Shelf Go.Lib Go.Sort

theorem vj_comm {A B : List P3} (ha : Vsm A) (hb : Vsm B) : vjoin A B = vjoin B A := by
  rw [ha.vjoin_is hb, hb.vjoin_is ha, joinL_comm ha.sort hb.sort]
theorem vj_assoc {A B C : List P3} (ha : Vsm A) (hb : Vsm B) (hc : Vsm C) : vjoin (vjoin A B) C = vjoin A (vjoin B C) := by
  rw [(ha.vjoin hb).vjoin_is hc, ha.vjoin_is (hb.vjoin hc), ha.vjoin_is hb, hb.vjoin_is hc, joinL_assoc ha.sort hb.sort hc.sort]
theorem vj_idem {A : List P3} (ha : Vsm A) : vjoin A A = A := by
  rw [ha.vjoin_is ha, joinL_idem ha.sort]
/-- Same, of two views that are the same row. -/
theorem same_b {A B : List P3} (hl : A.length ≤ 1000) (he : A = B) {va vb : Value} {w : World} (ha : Vw w va A) (hb : Vw w vb B) :
    Calls Try.prog 12 #[va, vb] w fun e w' => e = .returned (.bool true) ∧ Below w.heap.size w w' :=
  (same_yes A B hl he va vb w ha hb).mono fun _ _ ⟨h1, q, h2⟩ => ⟨h1, h2 ▸ bDrewN (Below.refl _ _) q⟩

set_option maxRecDepth 100000 in
set_option maxHeartbeats 4000000 in
theorem viewJoins_walk (a0 a1 a2 : Option Addr) (A B C : List P3) (n0 n1 n2 c0 c1 c2 : Nat) (h0 : A.length = n0) (h1 : B.length = n1) (h2 : C.length = n2) (w : World) (s0 : SlT w a0 A) (s1 : SlT w a1 B) (s2 : SlT w a2 C) :
    Calls Try.prog 3 #[.slice a0 n0 c0, .slice a1 n1 c1, .slice a2 n2 c2] w fun e w' => e = .returned (.bool true) ∧ Below w.heap.size w w' := by
  obtain ⟨X, hX⟩ := nm (madeL (A.take 12))
  obtain ⟨Y, hY⟩ := nm (madeL (B.take 12))
  obtain ⟨Z, hZ⟩ := nm (madeL (C.take 12))
  have x : Hid (Vsm X) := by show Vsm X; rw [hX.out]; exact madeL_sm _
  have y : Hid (Vsm Y) := by show Vsm Y; rw [hY.out]; exact madeL_sm _
  have z : Hid (Vsm Z) := by show Vsm Z; rw [hZ.out]; exact madeL_sm _
  have S0 := Lib.hid s0
  have S1 := Lib.hid s1
  have S2 := Lib.hid s2
  clear s0 s1 s2
  go_enter Try.func3, Try.ntmps3
  go_wp2_with fail
  refine (awake_any _).mono ?_; rintro e w1 ⟨rfl, hB⟩
  replace S0 := Lib.hid (S0.out.below hB)
  replace S1 := Lib.hid (S1.out.below hB)
  replace S2 := Lib.hid (S2.out.below hB)
  have HB := Lib.hid (hB)
  clear hB
  go_wp2_with fail
  refine (made_any A n0 c0 h0 a0 _ S0.out).mono ?_; rintro e w2 ⟨vx, rfl, hv, hB⟩
  replace S0 := Lib.hid (S0.out.below hB)
  replace S1 := Lib.hid (S1.out.below hB)
  replace S2 := Lib.hid (S2.out.below hB)
  replace HB := Lib.hid (bNext HB.out hB)
  have HX := Lib.hid (hv.eq (hX.out.symm))
  clear hB hv
  clear S0
  go_wp2_with fail
  refine (made_any B n1 c1 h1 a1 _ S1.out).mono ?_; rintro e w3 ⟨vy, rfl, hv, hB⟩
  replace S1 := Lib.hid (S1.out.below hB)
  replace S2 := Lib.hid (S2.out.below hB)
  replace HX := Lib.hid (HX.out.below hB)
  replace HB := Lib.hid (bNext HB.out hB)
  have HY := Lib.hid (hv.eq (hY.out.symm))
  clear hB hv
  clear S1
  go_wp2_with fail
  refine (made_any C n2 c2 h2 a2 _ S2.out).mono ?_; rintro e w4 ⟨vz, rfl, hv, hB⟩
  replace S2 := Lib.hid (S2.out.below hB)
  replace HX := Lib.hid (HX.out.below hB)
  replace HY := Lib.hid (HY.out.below hB)
  replace HB := Lib.hid (bNext HB.out hB)
  have HZ := Lib.hid (hv.eq (hZ.out.symm))
  clear hB hv
  clear S2
  go_wp2_with fail
  refine (join_ok x.out.ok y.out.ok HX.out HY.out).mono ?_; rintro e w5 ⟨vxy, rfl, hv, hB⟩
  replace HX := Lib.hid (HX.out.below hB)
  replace HY := Lib.hid (HY.out.below hB)
  replace HZ := Lib.hid (HZ.out.below hB)
  replace HB := Lib.hid (bNext HB.out hB)
  have HXY := Lib.hid (hv)
  clear hB hv
  go_wp2_with fail
  refine (refjoin_any X Y x.out.sort (by have := x.out.len; omega) (by have := y.out.len; omega) vx vy _ HX.out HY.out).mono ?_; rintro e w6 ⟨vr, rfl, hv, hB⟩
  replace HX := Lib.hid (HX.out.below hB)
  replace HY := Lib.hid (HY.out.below hB)
  replace HZ := Lib.hid (HZ.out.below hB)
  replace HXY := Lib.hid (HXY.out.below hB)
  replace HB := Lib.hid (bNext HB.out hB)
  have HR := Lib.hid (hv)
  clear hB hv
  go_wp2_with fail
  refine (same_b (by have := (x.out.vjoin y.out).len; omega) rfl HXY.out HR.out).mono ?_; rintro e w7 ⟨rfl, hB⟩
  replace HX := Lib.hid (HX.out.below hB)
  replace HY := Lib.hid (HY.out.below hB)
  replace HZ := Lib.hid (HZ.out.below hB)
  replace HXY := Lib.hid (HXY.out.below hB)
  replace HR := Lib.hid (HR.out.below hB)
  replace HB := Lib.hid (bNext HB.out hB)
  clear hB
  clear HR
  go_wp2_with fail
  refine (join_ok y.out.ok x.out.ok HY.out HX.out).mono ?_; rintro e w8 ⟨vyx, rfl, hv, hB⟩
  replace HX := Lib.hid (HX.out.below hB)
  replace HY := Lib.hid (HY.out.below hB)
  replace HZ := Lib.hid (HZ.out.below hB)
  replace HXY := Lib.hid (HXY.out.below hB)
  replace HB := Lib.hid (bNext HB.out hB)
  have HYX := Lib.hid (hv)
  clear hB hv
  go_wp2_with fail
  refine (same_b (by have := (x.out.vjoin y.out).len; omega) (vj_comm x.out y.out) HXY.out HYX.out).mono ?_; rintro e w9 ⟨rfl, hB⟩
  replace HX := Lib.hid (HX.out.below hB)
  replace HY := Lib.hid (HY.out.below hB)
  replace HZ := Lib.hid (HZ.out.below hB)
  replace HXY := Lib.hid (HXY.out.below hB)
  replace HYX := Lib.hid (HYX.out.below hB)
  replace HB := Lib.hid (bNext HB.out hB)
  clear hB
  clear HYX
  go_wp2_with fail
  refine (join_ok (x.out.vjoin y.out).ok z.out.ok HXY.out HZ.out).mono ?_; rintro e w10 ⟨vp, rfl, hv, hB⟩
  replace HX := Lib.hid (HX.out.below hB)
  replace HY := Lib.hid (HY.out.below hB)
  replace HZ := Lib.hid (HZ.out.below hB)
  replace HXY := Lib.hid (HXY.out.below hB)
  replace HB := Lib.hid (bNext HB.out hB)
  have HP := Lib.hid (hv)
  clear hB hv
  go_wp2_with fail
  refine (join_ok y.out.ok z.out.ok HY.out HZ.out).mono ?_; rintro e w11 ⟨vq, rfl, hv, hB⟩
  replace HX := Lib.hid (HX.out.below hB)
  replace HY := Lib.hid (HY.out.below hB)
  replace HZ := Lib.hid (HZ.out.below hB)
  replace HXY := Lib.hid (HXY.out.below hB)
  replace HP := Lib.hid (HP.out.below hB)
  replace HB := Lib.hid (bNext HB.out hB)
  have HQ := Lib.hid (hv)
  clear hB hv
  go_wp2_with fail
  refine (join_ok x.out.ok (y.out.vjoin z.out).ok HX.out HQ.out).mono ?_; rintro e w12 ⟨vt, rfl, hv, hB⟩
  replace HX := Lib.hid (HX.out.below hB)
  replace HY := Lib.hid (HY.out.below hB)
  replace HZ := Lib.hid (HZ.out.below hB)
  replace HXY := Lib.hid (HXY.out.below hB)
  replace HP := Lib.hid (HP.out.below hB)
  replace HQ := Lib.hid (HQ.out.below hB)
  replace HB := Lib.hid (bNext HB.out hB)
  have HT := Lib.hid (hv)
  clear hB hv
  go_wp2_with fail
  refine (same_b (by have := ((x.out.vjoin y.out).vjoin z.out).len; omega) (vj_assoc x.out y.out z.out) HP.out HT.out).mono ?_; rintro e w13 ⟨rfl, hB⟩
  replace HX := Lib.hid (HX.out.below hB)
  replace HY := Lib.hid (HY.out.below hB)
  replace HZ := Lib.hid (HZ.out.below hB)
  replace HXY := Lib.hid (HXY.out.below hB)
  replace HP := Lib.hid (HP.out.below hB)
  replace HQ := Lib.hid (HQ.out.below hB)
  replace HT := Lib.hid (HT.out.below hB)
  replace HB := Lib.hid (bNext HB.out hB)
  clear hB
  clear HP HQ HT
  go_wp2_with fail
  refine (join_ok x.out.ok x.out.ok HX.out HX.out).mono ?_; rintro e w14 ⟨vxx, rfl, hv, hB⟩
  replace HX := Lib.hid (HX.out.below hB)
  replace HY := Lib.hid (HY.out.below hB)
  replace HZ := Lib.hid (HZ.out.below hB)
  replace HXY := Lib.hid (HXY.out.below hB)
  replace HB := Lib.hid (bNext HB.out hB)
  have HXX := Lib.hid (hv)
  clear hB hv
  go_wp2_with fail
  refine (same_b (by have := (x.out.vjoin x.out).len; omega) (vj_idem x.out) HXX.out HX.out).mono ?_; rintro e w15 ⟨rfl, hB⟩
  replace HX := Lib.hid (HX.out.below hB)
  replace HY := Lib.hid (HY.out.below hB)
  replace HZ := Lib.hid (HZ.out.below hB)
  replace HXY := Lib.hid (HXY.out.below hB)
  replace HXX := Lib.hid (HXX.out.below hB)
  replace HB := Lib.hid (bNext HB.out hB)
  clear hB
  clear HXX
  go_wp2_with fail
  refine (check_any (vjoin X Y) (x.out.vjoin y.out).ok vxy _ HXY.out).mono ?_; rintro e w16 ⟨rfl, hB⟩
  replace HX := Lib.hid (HX.out.below hB)
  replace HY := Lib.hid (HY.out.below hB)
  replace HZ := Lib.hid (HZ.out.below hB)
  replace HXY := Lib.hid (HXY.out.below hB)
  replace HB := Lib.hid (bNext HB.out hB)
  clear hB
  go_wp2_with fail
  go_ret
  exact ⟨rfl, HB.out⟩

namespace LViewJoins
open Go.ChangeShapes Go.WideShapes Go.ChangeAt
open Go.ChangeMaps (open_string shut_string)

set_option maxRecDepth 100000 in
theorem contract (H : Type) (enc : TypeId × Value → H) (W : World) (base : Nat) (args : Array Value) (ds gs : List (DataW H)) (before : List MemPlace)
    (hval : ∀ (j : Nat) t v, Try.f3.params[j]? = some t → args[j]? = some v → Value.okWide Try.prog W .any base t v)
    (hW : DataW.Whole enc Try.prog Try.f3.params.toList Rows.viewJoinsSpec.vars false W args.toList ds gs before)
    (_hsz : (DataW.weightsEach Try.prog (Try.f3.params.toList ++ (OpenSpec.ofChange Rows.viewJoinsSpec).bare.plain.varTypes Try.prog) (ds ++ gs)).all (fun x => decide (x ≤ reachBytes)) = true) :
    Calls Try.prog 3 args W fun e W' => ∃ v, e = .returned v ∧ Rows.viewJoinsSpec.post enc Try.prog Try.f3 false true false false W args v W' := by
  have hW' := hW
  obtain ⟨p, q, hA0, hV, rfl, hfz, hnd⟩ := hW
  have hA : DataW.TrodAll enc Try.prog W 0 (fun _ => true) true Try.f3.params.toList args.toList ds p := hA0
  rw [Try.params3] at hA hval
  obtain ⟨v0, vs0, d0, ds0, p0, q0, hargs, rfl, rfl, h0, r0⟩ := trodAll_cons hA
  obtain ⟨v1, vs1, d1, ds1, p1, q1, rfl, rfl, rfl, h1, r1⟩ := trodAll_cons r0
  obtain ⟨v2, vs2, d2, ds2, p2, q2, rfl, rfl, rfl, h2, r2⟩ := trodAll_cons r1
  obtain ⟨rfl, rfl, rfl⟩ := trodAll_nil r2
  obtain rfl : args = #[v0, v1, v2] := by cases args; simp_all
  obtain ⟨rfl, rfl⟩ := trodVars_none hV
  obtain ⟨ao0, len0, cap0, l0, rfl, hl0, hlc0, hcm0, hat0⟩ := open_trips Try.underlying22 Try.underlying32 (show Try.prog.cellsOf 32 = 3 by kernel_rfl) ⟨rfl, rfl⟩ ⟨rfl, rfl⟩ ⟨rfl, rfl⟩ Try.underlying3 (show Try.prog.cellsOf 3 = 1 by kernel_rfl) h0 (okWide_slice Try.underlying22 (hval 0 22 v0 rfl rfl))
  obtain ⟨ao1, len1, cap1, l1, rfl, hl1, hlc1, hcm1, hat1⟩ := open_trips Try.underlying22 Try.underlying32 (show Try.prog.cellsOf 32 = 3 by kernel_rfl) ⟨rfl, rfl⟩ ⟨rfl, rfl⟩ ⟨rfl, rfl⟩ Try.underlying3 (show Try.prog.cellsOf 3 = 1 by kernel_rfl) h1 (okWide_slice Try.underlying22 (hval 1 22 v1 rfl rfl))
  obtain ⟨ao2, len2, cap2, l2, rfl, hl2, hlc2, hcm2, hat2⟩ := open_trips Try.underlying22 Try.underlying32 (show Try.prog.cellsOf 32 = 3 by kernel_rfl) ⟨rfl, rfl⟩ ⟨rfl, rfl⟩ ⟨rfl, rfl⟩ Try.underlying3 (show Try.prog.cellsOf 3 = 1 by kernel_rfl) h2 (okWide_slice Try.underlying22 (hval 2 22 v2 rfl rfl))
  clear hA0
  refine (viewJoins_walk ao0 ao1 ao2 l0 l1 l2 len0 len1 len2 cap0 cap1 cap2 hl0 hl1 hl2 W hat0 hat1 hat2).mono fun e W' ⟨he, hb⟩ => ?_
  subst he
  exact ⟨_, rfl, law_post laidOut Try.underlying4 rfl (by kernel_rfl) rfl rfl rfl rfl hW' hb⟩

theorem reads (os : Os) {H : Type} (enc : TypeId × Value → H) : ∃ places, DataW.whole enc Try.prog ((World.holding Try.prog os ⟨#[], #[], []⟩).forCall (fun _ _ => 0) ⟨#[], #[.slice none 0 0, .slice none 0 0, .slice none 0 0], []⟩).memory Try.f3.params.toList Rows.viewJoinsSpec.vars false (#[.slice none 0 0, .slice none 0 0, .slice none 0 0] : Array Value).toList 8 = some ([.nil, .nil, .nil], [], places) :=
  ⟨[], by kernel_rfl⟩
theorem laid_met (os : Os) : laidMet Try.prog Rows.viewJoinsRow.laid ((World.holding Try.prog os ⟨#[], #[], []⟩).forCall (fun _ _ => 0) ⟨#[], #[.slice none 0 0, .slice none 0 0, .slice none 0 0], []⟩).memory :=
  laidMet_of_run' 8 (by kernel_rfl) (by kernel_rfl)

set_option maxRecDepth 100000 in
theorem lifted (os : Os) (started : os.Started) (H : Type) (enc : TypeId × Value → H) (F : Stop.Interp) :
    ReturnsInHanded {} Try.checked os 3 .any ((OpenSpec.ofChange Rows.viewJoinsSpec).preRow enc Try.prog Try.f3 Rows.viewJoinsRow.domain false Rows.viewJoinsRow.laid) (((OpenSpec.ofChange Rows.viewJoinsSpec).at F).post enc Try.prog Try.f3 false true false false) := by
  obtain ⟨places, hx⟩ := reads os enc
  refine returnsInHanded_of_row (C := Try.checked) (s := OpenSpec.ofChange Rows.viewJoinsSpec) own started (by kernel_rfl) Try.func3
    (witness_row_at (enc := enc) (C := Try.checked) false (World.holding Try.prog os ⟨#[], #[], []⟩) #[.slice none 0 0, .slice none 0 0, .slice none 0 0] rfl (by kernel_rfl) (by kernel_rfl) (by kernel_rfl)
      (OpenSpec.preRow_of_cond 8 hx (by kernel_rfl) (fun k hk => by cases hk) (by kernel_rfl) (laid_met os))) ?_
  intro W base args ds gs before hval hW _ _ hsz hL _ _
  exact contract H enc W base args ds gs before hval hW hsz

theorem said : Rows.ViewJoinsSaid :=
  OpenClaim.holds_of_cond 3 Try.f3 rfl rfl rfl rfl rfl rfl rfl ⟨rfl, rfl, rfl, rfl, rfl⟩ rfl rfl rfl rfl rfl (by kernel_rfl) Try.func3 (by kernel_rfl)
    (of_decide_eq_true (by kernel_rfl)) (by unfold Func.isWrapper; first | (rw [if_pos (by decide +kernel)]; kernel_rfl) | (rw [if_neg (by decide +kernel)]; exact ⟨rfl, rfl⟩))
    (fun os started H enc _ F => by rw [OpenClaim.pre_eq_preRow]; exact lifted os started H enc F)
end LViewJoins
end Go.Proofs.Ytpolhdkjkidpgaa
