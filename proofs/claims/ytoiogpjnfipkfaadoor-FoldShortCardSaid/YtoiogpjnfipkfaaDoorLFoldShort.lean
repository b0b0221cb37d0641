/- FoldShort: for every body and every place the law returns true (the table of four doublings lying in its variable as the program's text lays it). -/
import Derived.Test.YtoiogpjnfipkfaaDoorFoldAwake
import Derived.Test.YtoiogpjnfipkfaaDoorFoldLaid
import Derived.Test.YtoiogpjnfipkfaaDoorCut
import Derived.Test.YtoiogpjnfipkfaaDoorCards
import Derived.Test.YtoiogpjnfipkfaaDoorTie
import Derived.Deep.RegionHeld3
namespace Go.Proofs.YtoiogpjnfipkfaaDoor
open Go.RowKit

theorem cut_is {b : List UInt8} {n : Nat} {x : Int} (s : ByteArray) (w w0 : World) (hw : w = w0.drew) (hs : s.size ≤ 1000000) (ht : Tab w0) (h : cutL (bl s) = (b, n, x)) :
    Calls Tryd.prog 15 #[.string s] w fun e w' => e = .returned (.tuple #[.string (ofL b), .int .i64 (n : Nat), .int .i64 x]) ∧ Below w0.heap.size w0 w' := by
  subst hw
  refine (cut_any s w0.drew hs ⟨ht.cells, ht.size⟩).mono ?_
  rintro e w' ⟨rfl, hB⟩
  rw [h]
  exact ⟨rfl, (Below.refl _ _).drew.trans hB⟩
theorem cut_is0 {b : List UInt8} {n : Nat} {x : Int} (s : ByteArray) (w : World) (hs : s.size ≤ 1000000) (ht : Tab w) (h : cutL (bl s) = (b, n, x)) :
    Calls Tryd.prog 15 #[.string s] w fun e w' => e = .returned (.tuple #[.string (ofL b), .int .i64 (n : Nat), .int .i64 x]) ∧ Below w.heap.size w w' := by
  refine (cut_any s w hs ht).mono ?_
  rintro e w' ⟨rfl, hB⟩
  rw [h]
  exact ⟨rfl, hB⟩

set_option maxRecDepth 100000 in
set_option maxHeartbeats 4000000 in
theorem foldShort_walk (s : ByteArray) (at_ : Int) (k1 : (Lit.int .i64 at_).wf = true) (w : World) (ht : Tab w) :
    Calls Tryd.prog 5 #[.string s, .int .i64 at_] w fun e w' => e = .returned (.bool true) ∧ Below w.heap.size w w' := by
  have HT : Hid (Tab w) := ht
  clear ht
  have hat := Go.bounds_i64 k1
  clear k1
  obtain ⟨ha1, ha2⟩ := hat
  obtain ⟨a, ha⟩ := nm ((bl s).take 200)
  have hal : a.length ≤ 200 := by rw [ha.out]; exact List.length_take_le _ _
  have sa : (ofL a).size = a.length := ofL_size _
  have hfl := frame_length a
  have hnd : Pl.nd a.length ≤ 2 := by
    by_cases h : a.length < 128
    · rw [nd_one h]; omega
    · rw [nd_two h (by omega)]; omega
  obtain ⟨F, hF⟩ := nm (ofL (frameL a))
  have hFs : F.size = (frameL a).length := by rw [hF.out, ofL_size]
  have hF1 : 1 ≤ F.size := by omega
  have hF2 : F.size ≤ 300 := by omega
  obtain ⟨K, hK⟩ := nm (at_.tmod (F.size : Nat)).natAbs
  have hKlt : K < F.size := by
    rw [hK.out]
    have := Int.tmod_lt_of_pos at_ (b := ((F.size : Nat) : Int)) (by omega)
    have := Int.lt_tmod_of_pos at_ (b := ((F.size : Nat) : Int)) (by omega)
    omega
  obtain ⟨R, hR⟩ := nm (at_.tmod (F.size : Nat))
  have hRK : (R < 0 ∧ -R = (K : Int)) ∨ (¬ R < 0 ∧ R = (K : Int)) := by
    rw [hK.out, ← hR.out]; omega
  have hRb : -300 < R ∧ R < 300 := by omega
  have C1 : Hid (cutL (bl (F.extract 0 K)) = ([], 0, 12)) := by
    show _ = _
    rw [hF.out, bl_extract, bl_ofL, List.drop_zero, Nat.sub_zero]
    exact cut_short a K (by omega) (by omega)
  have hjoin : F.extract 0 K ++ F.extract K F.size = F := by
    refine bl_inj ?_
    rw [bl_append, bl_extract, bl_extract, List.drop_zero, Nat.sub_zero, List.take_of_length_le (l := (bl F).drop K) (by rw [List.length_drop, bl_length]; exact Nat.le_refl _)]
    exact List.take_append_drop _ _
  have C2 : Hid (cutL (bl F) = (a, F.size, 0)) := by
    show _ = _
    have := cut_back a [] (by omega)
    rw [List.append_nil] at this
    rw [hF.out, bl_ofL, this, ofL_size]
  have hx1 : (F.extract 0 K).size ≤ 1000000 := by rw [ByteArray.size_extract]; omega
  have hk0 : (0 : Int) ≤ (K : Int) := by omega
  have hk1 : (K : Int) ≤ (F.size : Int) := by omega
  clear hfl hnd hFs
  have hcat : ¬ (9223372036854775807 < min K F.size + (F.size - K)) := by omega
  have e0 : (ofL []).toList = [] := toList_ofL _
  go_enter Tryd.func5, Tryd.ntmps5
  go_wp2_with fail
  refine (awake_any _ HT.out).mono ?_; rintro e w1 ⟨rfl, hb1⟩
  go_wp2_with fail
  refine (short_any s 200 _).mono ?_; rintro e w2 ⟨rfl, rfl⟩
  rw [← ha.out]
  go_wp2_with fail
  refine (wrap_any _ _ (by omega) (HT.out.below hb1)).mono ?_; rintro e w2 ⟨rfl, hb2⟩
  replace hb2 := bNext hb1 hb2
  rw [bl_ofL, wrapL_yes (by omega), wrapE_yes (by omega), ← hF.out]
  clear hb1
  go_upto_region 6 with fail
  go_cut [8] (fun s8 wx => s8 = .int .i64 R ∧ w2 = wx)
  case first =>
    go_wp2_with fail
    go_meet
    exact ⟨congrArg _ (by rw [hR.out]; try simp), rfl⟩
  obtain ⟨rfl, rfl⟩ := hcut
  go_upto_if 35 with fail
  go_cut [8] (fun s8 wx => s8 = .int .i64 (K : Int) ∧ w2 = wx)
  case first =>
    rcases hRK with ⟨h1, h2⟩ | ⟨h1, h2⟩
    all_goals
      go_wp2_with fail
      go_meet
      first | exact ⟨rfl, rfl⟩ | exact ⟨congrArg _ h2, rfl⟩
  obtain ⟨rfl, rfl⟩ := hcut
  clear hRK hRb
  go_wp2_with fail
  refine (cut_is0 _ _ hx1 (HT.out.below hb2) C1.out).mono ?_; rintro e w3 ⟨rfl, hb3⟩
  replace hb3 := bNext hb2 hb3
  clear hb2
  go_wp2_with fail
  go_region_held3 (fun _ => True) (trivial)
    ((go_at_call 15; refine (cut_is _ _ w3 rfl (by omega) (HT.out.below hb3) C2.out).mono ?_; rintro e w4 ⟨rfl, hb4⟩))
  all_goals
    replace hb4 := bNext hb3 hb4
    go_wp2_with fail
    go_ret
    exact ⟨rfl, hb4⟩

namespace LFoldShort
open Go.ChangeShapes Go.WideShapes Go.ChangeAt
open Go.ChangeMaps (open_string shut_string)

theorem contract (H : Type) (enc : TypeId × Value → H) (W : World) (base : Nat) (args : Array Value) (ds gs : List (DataW H)) (before : List MemPlace)
    (hval : ∀ (j : Nat) t v, Tryd.f5.params[j]? = some t → args[j]? = some v → Value.okWide Tryd.prog W .any base t v)
    (hW : DataW.Whole enc Tryd.prog Tryd.f5.params.toList Rows.foldShortSpec.vars false W args.toList ds gs before)
    (hL : laidMetH Tryd.prog Rows.foldShortRow.laid W)
    (_hsz : (DataW.weightsEach Tryd.prog (Tryd.f5.params.toList ++ (OpenSpec.ofChange Rows.foldShortSpec).bare.plain.varTypes Tryd.prog) (ds ++ gs)).all (fun x => decide (x ≤ reachBytes)) = true) :
    Calls Tryd.prog 5 args W fun e W' => ∃ v, e = .returned v ∧ Rows.foldShortSpec.post enc Tryd.prog Tryd.f5 false true false false W args v W' := by
  have hW' := hW
  obtain ⟨p, q, hA0, hV, rfl, hfz, hnd⟩ := hW
  have hA : DataW.TrodAll enc Tryd.prog W 0 (fun _ => true) true Tryd.f5.params.toList args.toList ds p := hA0
  rw [Tryd.params5] at hA hval
  obtain ⟨v0, vs0, d0, ds0, p0, q0, hargs, rfl, rfl, h0, r0⟩ := trodAll_cons hA
  obtain ⟨v1, vs1, d1, ds1, p1, q1, rfl, rfl, rfl, h1, r1⟩ := trodAll_cons r0
  obtain ⟨rfl, rfl, rfl⟩ := trodAll_nil r1
  obtain rfl : args = #[v0, v1] := by cases args; simp_all
  obtain ⟨rfl, rfl⟩ := trodVars_none hV
  obtain ⟨x0, rfl, rfl, rfl, k0⟩ := open_string Tryd.underlying9 (hval 0 9 v0 rfl rfl) h0
  obtain ⟨x1, rfl, rfl, rfl, k1⟩ := open_int Tryd.underlying3 (hval 1 3 v1 rfl rfl) h1
  clear hA0
  refine (foldShort_walk x0 x1 k1 W (tab_of hL)).mono fun e W' ⟨he, hb⟩ => ?_
  subst he
  exact ⟨_, rfl, law_post laidOut Tryd.underlying4 rfl (by kernel_rfl) rfl rfl rfl rfl hW' hb⟩

theorem reads (os : Os) {H : Type} (enc : TypeId × Value → H) : ∃ places, DataW.whole enc Tryd.prog ((laidWorld os).forCall (fun _ _ => 0) ⟨#[], #[.string .empty, .int .i64 0], []⟩).memory Tryd.f5.params.toList Rows.foldShortSpec.vars false (#[.string .empty, .int .i64 0] : Array Value).toList 8 = some ([.lit (.string []), .lit (.int .i64 0)], [], places) :=
  ⟨[], by kernel_rfl⟩
theorem laid_met (os : Os) : laidMet Tryd.prog Rows.foldShortRow.laid ((laidWorld os).forCall (fun _ _ => 0) ⟨#[], #[.string .empty, .int .i64 0], []⟩).memory :=
  laidMet_of_run' 8 (by kernel_rfl) (by kernel_rfl)

set_option maxRecDepth 100000 in
theorem lifted (os : Os) (started : os.Started) (H : Type) (enc : TypeId × Value → H) (F : Stop.Interp) :
    ReturnsInHanded {} Tryd.checked os 5 .any ((OpenSpec.ofChange Rows.foldShortSpec).preRow enc Tryd.prog Tryd.f5 Rows.foldShortRow.domain false Rows.foldShortRow.laid) (((OpenSpec.ofChange Rows.foldShortSpec).at F).post enc Tryd.prog Tryd.f5 false true false false) := by
  obtain ⟨places, hx⟩ := reads os enc
  refine returnsInHanded_of_row (C := Tryd.checked) (s := OpenSpec.ofChange Rows.foldShortSpec) own started (by kernel_rfl) Tryd.func5
    (witness_row_at (enc := enc) (C := Tryd.checked) false (laidWorld os) #[.string .empty, .int .i64 0] rfl (by kernel_rfl) (by kernel_rfl) (by kernel_rfl)
      (OpenSpec.preRow_of_cond 8 hx (by kernel_rfl) (fun k hk => by cases hk) (by kernel_rfl) (laid_met os))) ?_
  intro W base args ds gs before hval hW _ _ hsz hL _ _
  exact contract H enc W base args ds gs before hval hW hL hsz

theorem said : Rows.FoldShortSaid :=
  OpenClaim.holds_of_cond 5 Tryd.f5 rfl rfl rfl rfl rfl rfl rfl ⟨rfl, rfl, rfl, rfl, rfl⟩ rfl rfl rfl rfl rfl (by kernel_rfl) Tryd.func5 (by kernel_rfl)
    (of_decide_eq_true (by kernel_rfl)) (by unfold Func.isWrapper; first | (rw [if_pos (by decide +kernel)]; kernel_rfl) | (rw [if_neg (by decide +kernel)]; exact ⟨rfl, rfl⟩))
    (fun os started H enc _ F => by rw [OpenClaim.pre_eq_preRow]; exact lifted os started H enc F)

theorem plain (f : FuncId) (fn : Func) (hf : Tryd.pinned.checked.prog.funcNamed "caravan/caravanlaw02.FoldShort" = some f) (hfn : Tryd.pinned.checked.prog.funcs[f]? = some fn) :
    false = Tryd.pinned.checked.prog.looks [] ∧ ∀ (j : Nat) t, fn.params[j]? = some t → Tryd.pinned.checked.prog.wantsStandIn t = false := by
  obtain rfl : f = 5 := Option.some.inj ((show Tryd.prog.funcNamed "caravan/caravanlaw02.FoldShort" = some 5 by kernel_rfl).symm.trans hf) |>.symm
  obtain rfl : fn = Tryd.f5 := (Option.some.inj (Tryd.func5.symm.trans hfn)).symm
  refine ⟨by kernel_rfl, fun j t ht => ?_⟩
  have hm : t ∈ Tryd.f5.params.toList := Array.mem_toList_iff.2 (Array.mem_of_getElem? ht)
  have hall : (Tryd.f5.params.toList.all fun t => Tryd.prog.wantsStandIn t == false) = true := by kernel_rfl
  have := List.all_eq_true.1 hall t hm
  exact (show Tryd.prog.wantsStandIn t = false by simpa using this)

theorem card : Rows.FoldShortCardSaid :=
  Claim7.holds_tied_plain_at .later [] _ _ _ _ said (fun _ h => by cases h) (by kernel_rfl) (fun _ h => by cases h) foldShort_row_tie rfl ⟨rfl, rfl⟩ (by kernel_rfl) rfl plain (by kernel_rfl)
end LFoldShort
end Go.Proofs.YtoiogpjnfipkfaaDoor
