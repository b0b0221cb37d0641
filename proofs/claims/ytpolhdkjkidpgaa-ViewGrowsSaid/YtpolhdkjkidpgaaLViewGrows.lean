/- ViewGrows: for any row of peers, any peer and any change the law returns true. -/
import Derived.Test.YtpolhdkjkidpgaaViewAwake
import Derived.Test.YtpolhdkjkidpgaaViewSmall
import Derived.Test.YtpolhdkjkidpgaaViewCheck
namespace Go.Proofs.Ytpolhdkjkidpgaa
open Go.RowKit Go.Shelf Go.Lib Go.Sort

/-- Same, of two views that are the same row. -/
theorem same_b {A B : List P3} (hl : A.length ≤ 1000) (he : A = B) {va vb : Value} {w : World} (ha : Vw w va A) (hb : Vw w vb B) :
    Calls Try.prog 12 #[va, vb] w fun e w' => e = .returned (.bool true) ∧ Below w.heap.size w w' :=
  (same_yes A B hl he va vb w ha hb).mono fun _ _ ⟨h1, q, h2⟩ => ⟨h1, h2 ▸ bDrewN (Below.refl _ _) q⟩

set_option maxRecDepth 100000 in
set_option maxHeartbeats 8000000 in
theorem viewGrows_walk (a0 : Option Addr) (A : List P3) (n0 c0 : Nat) (h0 : A.length = n0) (x y z kind : Int) (w : World) (s0 : SlT w a0 A) :
    Calls Try.prog 5 #[.slice a0 n0 c0, .agg #[.int .i64 x, .int .i64 y, .int .i64 z], .int .i64 kind] w fun e w' => e = .returned (.bool true) ∧ Below w.heap.size w w' := by
  obtain ⟨M, hM⟩ := nm (madeL (A.take 12))
  have m : Hid (Vsm M) := by show Vsm M; rw [hM.out]; exact madeL_sm _
  have m8 : Hid (M.length ≤ 8) := m.out.len
  obtain ⟨i, hi⟩ := nm (bits .and .i64 x 7)
  obtain ⟨i0, i7⟩ : 0 ≤ i ∧ i < 8 := by rw [hi.out, and7_is]; omega
  have ei : bits .and .i64 x 7 = i := hi.out.symm
  have wi : IntKind.i64.wrap (1 + i) = 1 + i := by rw [IntKind.wrap_i64]; omega
  obtain ⟨u, hu⟩ := nm (bits .and .i64 y 15)
  have eu : bits .and .i64 y 15 = u := hu.out.symm
  have ub : Hid (0 ≤ u ∧ u < 16) := by show _ ∧ _; rw [hu.out, and15_is]; omega
  obtain ⟨t, ht⟩ := nm (bits .and .i64 z 1)
  have et : bits .and .i64 z 1 = t := ht.out.symm
  have tb : Hid (0 ≤ t ∧ t < 2) := by show _ ∧ _; rw [ht.out, and1_is]; omega
  have hk : bits .and .i64 kind 3 = 0 ∨ bits .and .i64 kind 3 = 1 ∨ bits .and .i64 kind 3 = 2 ∨ bits .and .i64 kind 3 = 3 := by rw [and3_is]; omega
  have S0 := Lib.hid s0
  obtain ⟨bp, hbp⟩ := nm w.heap.size
  obtain ⟨wb, hwb⟩ := nm (w.alloc (.cells #[.int .i64 x, .int .i64 y, .int .i64 z] 32))
  have HK : Hid (Blk wb bp #[.int .i64 x, .int .i64 y, .int .i64 z] 32) := by show Blk _ _ _ _; rw [hwb.out, hbp.out]; exact Blk.new _ _ _
  have HB0 : Hid (Below w.heap.size w wb) := by rw [hwb.out]; exact bOld _
  replace S0 := Lib.hid (S0.out.below HB0.out)
  clear s0
  go_enter Try.func5, Try.ntmps5
  go_upto_region 1 with fail
  rw [← hwb.out, ← hbp.out]
  go_wp2_with fail
  refine (awake_any _).mono ?_; rintro e w1 ⟨rfl, hB⟩
  replace HK := Lib.hid (Blk.below HK.out hB HK.out.lt)
  replace S0 := Lib.hid (S0.out.below hB)
  have HB := Lib.hid (bNext HB0.out hB)
  clear hB
  go_wp2_with fail
  refine (made_any A n0 c0 h0 a0 _ S0.out).mono ?_; rintro e w2 ⟨vm, rfl, hv, hB⟩
  replace HK := Lib.hid (Blk.below HK.out hB HK.out.lt)
  replace S0 := Lib.hid (S0.out.below hB)
  replace HB := Lib.hid (bNext HB.out hB)
  have HM := Lib.hid (hv.eq hM.out.symm)
  clear hB hv
  clear S0
  have q0 : w2.cell? ⟨bp, 0, none⟩ = some (.int .i64 x) := HK.out.cell 0
  have q1 : w2.cell? ⟨bp, 1, none⟩ = some (.int .i64 y) := HK.out.cell 1
  have q2 : w2.cell? ⟨bp, 2, none⟩ = some (.int .i64 z) := HK.out.cell 2
  rcases hk with hk | hk | hk | hk
  · have pm : Hid (mayP (1 + i, u, t) = true) := by show _ = _; have := ub.out; have := tb.out; exact mayP_mk (by simp only; omega)
    go_wp2_with fail
    refine (with_any M m.out.ok (1 + i) u t vm _ HM.out).mono ?_; rintro e w3 ⟨vn, rfl, hv, hB⟩
    replace HM := Lib.hid (HM.out.below hB)
    replace HB := Lib.hid (bNext HB.out hB)
    have HN := Lib.hid (hv)
    clear hB hv
    have ok : Hid (Vok (vwith M (1 + i, u, t))) := m.out.ok.with _
    have nl : Hid (M.length ≤ (vwith M (1 + i, u, t)).length ∧ (vwith M (1 + i, u, t)).length ≤ 9) := by show _ ∧ _; have := m8.out; rw [vw_is (by omega) pm.out]; exact ⟨putL_ge _ _, by have := putL_length M (1 + i, u, t); omega⟩
    clear q0 q1 q2
    go_wp2_with fail
    refine (join_ok m.out.ok ok.out HM.out HN.out).mono ?_; rintro e w4 ⟨vj, rfl, hv, hB⟩
    replace HM := Lib.hid (HM.out.below hB)
    replace HN := Lib.hid (HN.out.below hB)
    replace HB := Lib.hid (bNext HB.out hB)
    have HJ := Lib.hid (hv)
    clear hB hv
    go_wp2_with fail
    refine (same_b (by have := (Vok.join m.out.ok ok.out).len; omega) (by rw [vj_is (by have := m8.out; have := nl.out; omega), vw_is (by have := m8.out; omega) pm.out]; exact join_put m.out.sort _) HJ.out HN.out).mono ?_; rintro e w5 ⟨rfl, hB⟩
    replace HM := Lib.hid (HM.out.below hB)
    replace HN := Lib.hid (HN.out.below hB)
    replace HJ := Lib.hid (HJ.out.below hB)
    replace HB := Lib.hid (bNext HB.out hB)
    clear hB
    clear HJ
    obtain ⟨am, cm, rfl, _, _, _⟩ := HM.out
    obtain ⟨an, cn, rfl, _, _, _⟩ := HN.out
    obtain ⟨lm, hlm⟩ := nm M.length
    obtain ⟨ln, hln⟩ := nm (vwith M (1 + i, u, t)).length
    rw [← hlm.out] at HM
    rw [← hln.out] at HN
    have hle : lm ≤ ln := by rw [hlm.out, hln.out]; exact nl.out.1
    rw [← hlm.out, ← hln.out]
    go_wp2_with fail
    refine (check_any (vwith M (1 + i, u, t)) ok.out _ _ HN.out).mono ?_; rintro e w6 ⟨rfl, hB⟩
    replace HM := Lib.hid (HM.out.below hB)
    replace HN := Lib.hid (HN.out.below hB)
    replace HB := Lib.hid (bNext HB.out hB)
    clear hB
    go_wp2_with fail
    go_ret
    exact ⟨rfl, HB.out⟩
  · go_wp2_with fail
    refine (suspect_any M m.out.ok (1 + i) vm _ HM.out).mono ?_; rintro e w3 ⟨vn, rfl, hv, hB⟩
    replace HM := Lib.hid (HM.out.below hB)
    replace HB := Lib.hid (bNext HB.out hB)
    have HN := Lib.hid (hv)
    clear hB hv
    have ok : Hid (Vok (chgL suspP (1 + i) M)) := m.out.ok.chg suspP_fst (fun _ => suspP_may) _
    have nl : Hid (M.length ≤ (chgL suspP (1 + i) M).length ∧ (chgL suspP (1 + i) M).length ≤ 9) := by show _ ∧ _; have := m8.out; rw [chgL_length]; omega
    clear q0 q1 q2
    go_wp2_with fail
    refine (join_ok m.out.ok ok.out HM.out HN.out).mono ?_; rintro e w4 ⟨vj, rfl, hv, hB⟩
    replace HM := Lib.hid (HM.out.below hB)
    replace HN := Lib.hid (HN.out.below hB)
    replace HB := Lib.hid (bNext HB.out hB)
    have HJ := Lib.hid (hv)
    clear hB hv
    go_wp2_with fail
    refine (same_b (by have := (Vok.join m.out.ok ok.out).len; omega) (by rw [vj_is (by have := m8.out; have := nl.out; omega)]; exact join_chg m.out.sort suspP _ suspP_fst fun p _ => susp_le p) HJ.out HN.out).mono ?_; rintro e w5 ⟨rfl, hB⟩
    replace HM := Lib.hid (HM.out.below hB)
    replace HN := Lib.hid (HN.out.below hB)
    replace HJ := Lib.hid (HJ.out.below hB)
    replace HB := Lib.hid (bNext HB.out hB)
    clear hB
    clear HJ
    obtain ⟨am, cm, rfl, _, _, _⟩ := HM.out
    obtain ⟨an, cn, rfl, _, _, _⟩ := HN.out
    obtain ⟨lm, hlm⟩ := nm M.length
    obtain ⟨ln, hln⟩ := nm (chgL suspP (1 + i) M).length
    rw [← hlm.out] at HM
    rw [← hln.out] at HN
    have hle : lm ≤ ln := by rw [hlm.out, hln.out]; exact nl.out.1
    rw [← hlm.out, ← hln.out]
    go_wp2_with fail
    refine (check_any (chgL suspP (1 + i) M) ok.out _ _ HN.out).mono ?_; rintro e w6 ⟨rfl, hB⟩
    replace HM := Lib.hid (HM.out.below hB)
    replace HN := Lib.hid (HN.out.below hB)
    replace HB := Lib.hid (bNext HB.out hB)
    clear hB
    go_wp2_with fail
    go_ret
    exact ⟨rfl, HB.out⟩
  · go_wp2_with fail
    refine (refute_any M m.out.ok (1 + i) vm _ HM.out).mono ?_; rintro e w3 ⟨vn, rfl, hv, hB⟩
    replace HM := Lib.hid (HM.out.below hB)
    replace HB := Lib.hid (bNext HB.out hB)
    have HN := Lib.hid (hv)
    clear hB hv
    have ok : Hid (Vok (chgL refuP (1 + i) M)) := m.out.ok.chg refuP_fst (fun _ => refuP_may) _
    have nl : Hid (M.length ≤ (chgL refuP (1 + i) M).length ∧ (chgL refuP (1 + i) M).length ≤ 9) := by show _ ∧ _; have := m8.out; rw [chgL_length]; omega
    clear q0 q1 q2
    go_wp2_with fail
    refine (join_ok m.out.ok ok.out HM.out HN.out).mono ?_; rintro e w4 ⟨vj, rfl, hv, hB⟩
    replace HM := Lib.hid (HM.out.below hB)
    replace HN := Lib.hid (HN.out.below hB)
    replace HB := Lib.hid (bNext HB.out hB)
    have HJ := Lib.hid (hv)
    clear hB hv
    go_wp2_with fail
    refine (same_b (by have := (Vok.join m.out.ok ok.out).len; omega) (by rw [vj_is (by have := m8.out; have := nl.out; omega)]; exact join_chg m.out.sort refuP _ refuP_fst fun p _ => refu_le p) HJ.out HN.out).mono ?_; rintro e w5 ⟨rfl, hB⟩
    replace HM := Lib.hid (HM.out.below hB)
    replace HN := Lib.hid (HN.out.below hB)
    replace HJ := Lib.hid (HJ.out.below hB)
    replace HB := Lib.hid (bNext HB.out hB)
    clear hB
    clear HJ
    obtain ⟨am, cm, rfl, _, _, _⟩ := HM.out
    obtain ⟨an, cn, rfl, _, _, _⟩ := HN.out
    obtain ⟨lm, hlm⟩ := nm M.length
    obtain ⟨ln, hln⟩ := nm (chgL refuP (1 + i) M).length
    rw [← hlm.out] at HM
    rw [← hln.out] at HN
    have hle : lm ≤ ln := by rw [hlm.out, hln.out]; exact nl.out.1
    rw [← hlm.out, ← hln.out]
    go_wp2_with fail
    refine (check_any (chgL refuP (1 + i) M) ok.out _ _ HN.out).mono ?_; rintro e w6 ⟨rfl, hB⟩
    replace HM := Lib.hid (HM.out.below hB)
    replace HN := Lib.hid (HN.out.below hB)
    replace HB := Lib.hid (bNext HB.out hB)
    clear hB
    go_wp2_with fail
    go_ret
    exact ⟨rfl, HB.out⟩
  · go_wp2_with fail
    refine (leave_any M m.out.ok (1 + i) vm _ HM.out).mono ?_; rintro e w3 ⟨vn, rfl, hv, hB⟩
    replace HM := Lib.hid (HM.out.below hB)
    replace HB := Lib.hid (bNext HB.out hB)
    have HN := Lib.hid (hv)
    clear hB hv
    have ok : Hid (Vok (chgL leavP (1 + i) M)) := m.out.ok.chg leavP_fst (fun _ => leavP_may) _
    have nl : Hid (M.length ≤ (chgL leavP (1 + i) M).length ∧ (chgL leavP (1 + i) M).length ≤ 9) := by show _ ∧ _; have := m8.out; rw [chgL_length]; omega
    clear q0 q1 q2
    go_wp2_with fail
    refine (join_ok m.out.ok ok.out HM.out HN.out).mono ?_; rintro e w4 ⟨vj, rfl, hv, hB⟩
    replace HM := Lib.hid (HM.out.below hB)
    replace HN := Lib.hid (HN.out.below hB)
    replace HB := Lib.hid (bNext HB.out hB)
    have HJ := Lib.hid (hv)
    clear hB hv
    go_wp2_with fail
    refine (same_b (by have := (Vok.join m.out.ok ok.out).len; omega) (by rw [vj_is (by have := m8.out; have := nl.out; omega)]; exact join_chg m.out.sort leavP _ leavP_fst fun p _ => leav_le p) HJ.out HN.out).mono ?_; rintro e w5 ⟨rfl, hB⟩
    replace HM := Lib.hid (HM.out.below hB)
    replace HN := Lib.hid (HN.out.below hB)
    replace HJ := Lib.hid (HJ.out.below hB)
    replace HB := Lib.hid (bNext HB.out hB)
    clear hB
    clear HJ
    obtain ⟨am, cm, rfl, _, _, _⟩ := HM.out
    obtain ⟨an, cn, rfl, _, _, _⟩ := HN.out
    obtain ⟨lm, hlm⟩ := nm M.length
    obtain ⟨ln, hln⟩ := nm (chgL leavP (1 + i) M).length
    rw [← hlm.out] at HM
    rw [← hln.out] at HN
    have hle : lm ≤ ln := by rw [hlm.out, hln.out]; exact nl.out.1
    rw [← hlm.out, ← hln.out]
    go_wp2_with fail
    refine (check_any (chgL leavP (1 + i) M) ok.out _ _ HN.out).mono ?_; rintro e w6 ⟨rfl, hB⟩
    replace HM := Lib.hid (HM.out.below hB)
    replace HN := Lib.hid (HN.out.below hB)
    replace HB := Lib.hid (bNext HB.out hB)
    clear hB
    go_wp2_with fail
    go_ret
    exact ⟨rfl, HB.out⟩

namespace LViewGrows
open Go.ChangeShapes Go.WideShapes Go.ChangeAt
open Go.ChangeMaps (open_string shut_string)

set_option maxRecDepth 100000 in
theorem contract (H : Type) (enc : TypeId × Value → H) (W : World) (base : Nat) (args : Array Value) (ds gs : List (DataW H)) (before : List MemPlace)
    (hval : ∀ (j : Nat) t v, Try.f5.params[j]? = some t → args[j]? = some v → Value.okWide Try.prog W .any base t v)
    (hW : DataW.Whole enc Try.prog Try.f5.params.toList Rows.viewGrowsSpec.vars false W args.toList ds gs before)
    (_hsz : (DataW.weightsEach Try.prog (Try.f5.params.toList ++ (OpenSpec.ofChange Rows.viewGrowsSpec).bare.plain.varTypes Try.prog) (ds ++ gs)).all (fun x => decide (x ≤ reachBytes)) = true) :
    Calls Try.prog 5 args W fun e W' => ∃ v, e = .returned v ∧ Rows.viewGrowsSpec.post enc Try.prog Try.f5 false true false false W args v W' := by
  have hW' := hW
  obtain ⟨p, q, hA0, hV, rfl, hfz, hnd⟩ := hW
  have hA : DataW.TrodAll enc Try.prog W 0 (fun _ => true) true Try.f5.params.toList args.toList ds p := hA0
  rw [Try.params5] at hA hval
  obtain ⟨v0, vs0, d0, ds0, p0, q0, hargs, rfl, rfl, h0, r0⟩ := trodAll_cons hA
  obtain ⟨v1, vs1, d1, ds1, p1, q1, rfl, rfl, rfl, h1, r1⟩ := trodAll_cons r0
  obtain ⟨v2, vs2, d2, ds2, p2, q2, rfl, rfl, rfl, h2, r2⟩ := trodAll_cons r1
  obtain ⟨rfl, rfl, rfl⟩ := trodAll_nil r2
  obtain rfl : args = #[v0, v1, v2] := by cases args; simp_all
  obtain ⟨rfl, rfl⟩ := trodVars_none hV
  obtain ⟨ao0, len0, cap0, l0, rfl, hl0, hlc0, hcm0, hat0⟩ := open_trips Try.underlying22 Try.underlying32 (show Try.prog.cellsOf 32 = 3 by kernel_rfl) ⟨rfl, rfl⟩ ⟨rfl, rfl⟩ ⟨rfl, rfl⟩ Try.underlying3 (show Try.prog.cellsOf 3 = 1 by kernel_rfl) h0 (okWide_slice Try.underlying22 (hval 0 22 v0 rfl rfl))
  obtain ⟨c0, c1, c2, y0, y1, y2, m1, rfl, rfl, rfl, hy0, hy1, hy2⟩ := Joins.open_agg3 Try.underlying32 (by kernel_rfl) (show Try.prog.cellsOf 32 = 3 by kernel_rfl) (hval 1 32 v1 rfl rfl) h1
  obtain ⟨z1_0, e0, _, wf1_0⟩ := DataW.trod_int Try.underlying3 hy0
  obtain ⟨z1_1, e1, _, wf1_1⟩ := DataW.trod_int Try.underlying3 hy1
  obtain ⟨z1_2, e2, _, wf1_2⟩ := DataW.trod_int Try.underlying3 hy2
  simp at e0 e1 e2
  subst e0 e1 e2
  obtain ⟨x2, rfl, rfl, rfl, k2⟩ := open_int Try.underlying3 (hval 2 3 v2 rfl rfl) h2
  clear hA0
  refine (viewGrows_walk ao0 l0 len0 cap0 hl0 z1_0 z1_1 z1_2 x2 W hat0).mono fun e W' ⟨he, hb⟩ => ?_
  subst he
  exact ⟨_, rfl, law_post laidOut Try.underlying4 rfl (by kernel_rfl) rfl rfl rfl rfl hW' hb⟩

theorem reads (os : Os) {H : Type} (enc : TypeId × Value → H) : ∃ places, DataW.whole enc Try.prog ((World.holding Try.prog os ⟨#[], #[], []⟩).forCall (fun _ _ => 0) ⟨#[], #[.slice none 0 0, .agg #[.int .i64 0, .int .i64 0, .int .i64 0], .int .i64 0], []⟩).memory Try.f5.params.toList Rows.viewGrowsSpec.vars false (#[.slice none 0 0, .agg #[.int .i64 0, .int .i64 0, .int .i64 0], .int .i64 0] : Array Value).toList 8 = some ([.nil, .agg [.lit (.int .i64 0), .lit (.int .i64 0), .lit (.int .i64 0)], .lit (.int .i64 0)], [], places) :=
  ⟨[], by kernel_rfl⟩
theorem laid_met (os : Os) : laidMet Try.prog Rows.viewGrowsRow.laid ((World.holding Try.prog os ⟨#[], #[], []⟩).forCall (fun _ _ => 0) ⟨#[], #[.slice none 0 0, .agg #[.int .i64 0, .int .i64 0, .int .i64 0], .int .i64 0], []⟩).memory :=
  laidMet_of_run' 8 (by kernel_rfl) (by kernel_rfl)

set_option maxRecDepth 100000 in
theorem lifted (os : Os) (started : os.Started) (H : Type) (enc : TypeId × Value → H) (F : Stop.Interp) :
    ReturnsInHanded {} Try.checked os 5 .any ((OpenSpec.ofChange Rows.viewGrowsSpec).preRow enc Try.prog Try.f5 Rows.viewGrowsRow.domain false Rows.viewGrowsRow.laid) (((OpenSpec.ofChange Rows.viewGrowsSpec).at F).post enc Try.prog Try.f5 false true false false) := by
  obtain ⟨places, hx⟩ := reads os enc
  refine returnsInHanded_of_row (C := Try.checked) (s := OpenSpec.ofChange Rows.viewGrowsSpec) own started (by kernel_rfl) Try.func5
    (witness_row_at (enc := enc) (C := Try.checked) false (World.holding Try.prog os ⟨#[], #[], []⟩) #[.slice none 0 0, .agg #[.int .i64 0, .int .i64 0, .int .i64 0], .int .i64 0] rfl (by kernel_rfl) (by kernel_rfl) (by kernel_rfl)
      (OpenSpec.preRow_of_cond 8 hx (by kernel_rfl) (fun k hk => by cases hk) (by kernel_rfl) (laid_met os))) ?_
  intro W base args ds gs before hval hW _ _ hsz hL _ _
  exact contract H enc W base args ds gs before hval hW hsz

theorem said : Rows.ViewGrowsSaid :=
  OpenClaim.holds_of_cond 5 Try.f5 rfl rfl rfl rfl rfl rfl rfl ⟨rfl, rfl, rfl, rfl, rfl⟩ rfl rfl rfl rfl rfl (by kernel_rfl) Try.func5 (by kernel_rfl)
    (of_decide_eq_true (by kernel_rfl)) (by unfold Func.isWrapper; first | (rw [if_pos (by decide +kernel)]; kernel_rfl) | (rw [if_neg (by decide +kernel)]; exact ⟨rfl, rfl⟩))
    (fun os started H enc _ F => by rw [OpenClaim.pre_eq_preRow]; exact lifted os started H enc F)
end LViewGrows
end Go.Proofs.Ytpolhdkjkidpgaa
