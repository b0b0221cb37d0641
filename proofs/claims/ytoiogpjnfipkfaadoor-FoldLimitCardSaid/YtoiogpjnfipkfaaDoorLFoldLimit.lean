/- FoldLimit: for every number the law returns true (the table of four doublings lying in its variable as the program's text lays it). -/
import Derived.Test.YtoiogpjnfipkfaaDoorFoldAwake
import Derived.Test.YtoiogpjnfipkfaaDoorFoldLaid
import Derived.Test.YtoiogpjnfipkfaaDoorCutIs
import Derived.Test.YtoiogpjnfipkfaaDoorBytes
import Derived.Test.YtoiogpjnfipkfaaDoorCards
import Derived.Test.YtoiogpjnfipkfaaDoorTie
namespace Go.Proofs.YtoiogpjnfipkfaaDoor
open Go.RowKit

theorem cut_above : cutL (bl ⟨#[190, 65]⟩) = ([], 0, 10) := by decide +kernel

theorem mk_is (n : Nat) (x : Int) (hx : x = (n : Int)) (hn : n ≤ 281474976710656) (w : World) : (Instr.makeSlice 24 (.int .i64 x) (.int .i64 x)).run Tryd.prog w = .ok (.slice (some ⟨w.heap.size, 0, none⟩) n n) (w.alloc (.cells (madeCells #[.int .u8 0] n) 5)) := by
  subst hx; exact make_bytes n hn w

set_option maxRecDepth 100000 in
set_option maxHeartbeats 4000000 in
theorem foldLimit_walk (more : Int) (w : World) (ht : Tab w) :
    Calls Tryd.prog 7 #[.int .i64 more] w fun e w' => e = .returned (.bool true) ∧ Below w.heap.size w w' := by
  have HT : Hid (Tab w) := ht
  clear ht
  have hm1 : -4 < more.tmod 4 := by have := Int.tmod_lt_of_pos (-more) (b := 4) (by decide); rw [Int.neg_tmod] at this; omega
  have hm2 : more.tmod 4 < 4 := Int.tmod_lt_of_pos _ (by decide)
  have hj : ∃ j : Nat, j ≤ 3 ∧ (more.tmod 4 = (j : Int) ∨ (more.tmod 4 = -(j : Int) ∧ 0 < j)) := ⟨(more.tmod 4).natAbs, by omega, by omega⟩
  clear hm1 hm2
  obtain ⟨j, hj4, hj⟩ := hj
  obtain ⟨Z, hZ⟩ := nm (List.replicate (8000 + j) (0 : UInt8))
  have hZl : Z.length = 8000 + j := by rw [hZ.out, List.length_replicate]
  have hZs : (ofL Z).size = Z.length := ofL_size Z
  have e0 : (ofL []).toList = [] := toList_ofL _
  have hfl : Hid ((ofL (frameL Z)).size = Pl.nd Z.length + Z.length + 2) := by show _ = _; rw [ofL_size, frame_length]
  have hnd : Hid (Pl.nd Z.length = 2) := by show _ = _; rw [nd_two (by omega) (by omega)]
  have hcb := cut_back Z [] 
  rw [List.append_nil] at hcb
  have HCB := Lib.hid hcb
  clear hcb
  go_enter Tryd.func7, Tryd.ntmps7
  go_wp2_with fail
  refine (awake_any _ HT.out).mono ?_; rintro e w1 ⟨rfl, hb1⟩
  go_upto_if 18 with fail
  go_cut [4] (fun s4 wx => s4 = .int .i64 (j : Int) ∧ w1 = wx)
  case first =>
    rcases hj with hj | ⟨hj, hj0⟩
    all_goals
      go_wp2_with fail
      go_meet
      first | exact ⟨rfl, rfl⟩ | exact ⟨congrArg _ hj, rfl⟩
  obtain ⟨rfl, rfl⟩ := hcut
  clear hj
  by_cases h0 : j = 0
  · subst h0
    have hmk := mk_is (8000) 8000 (by simp) (by omega)
    have hcv : ∀ w : World, _ := fun w => conv_new (P := Tryd.prog) w 24 5 9 5 Tryd.underlying24 Tryd.underlying5 Tryd.underlying9 (8000) (8000) (List.replicate (8000) 0) _ (by simp) (zeroCells (8000))
    rw [← hZ.out] at hcv
    have hZ8 : Z.length = 8000 := by omega
    have hl8 := hfl.out
    rw [hnd.out] at hl8
    obtain ⟨F, hF⟩ := nm (ofL (frameL Z))
    rw [← hF.out] at hl8
    have C2 : Hid (cutL (bl F) = (Z, F.size, 0)) := by
      show _ = _
      rw [hF.out, bl_ofL, HCB.out (by omega), ofL_size]
    go_wp2_with fail
    refine (wrap_any (ofL Z) _ (by omega) (HT.out.below (bNew hb1 _))).mono ?_; rintro e w2 ⟨rfl, hb2⟩
    replace hb2 := bNext (bNew hb1 _) hb2
    rw [bl_ofL, wrapL_yes (by omega), wrapE_yes (by omega), ← hF.out]
    go_wp2_with fail
    refine (cut_is0 _ _ (by decide) (HT.out.below hb2) cut_above).mono ?_; rintro e w3 ⟨rfl, hb3⟩
    replace hb3 := bNext hb2 hb3
    go_wp2_with fail
    refine (cut_is0 F _ (by omega) (HT.out.below hb3) C2.out).mono ?_; rintro e w4 ⟨rfl, hb4⟩
    replace hb4 := bNext hb3 hb4
    clear hl8 hZ8 hZl
    go_wp2_with fail
    go_ret
    exact ⟨rfl, hb4⟩
  · have hyi : (0 : Int) < (j : Int) := by omega
    have hmk := mk_is (8000 + j) (8000 + (j : Int)) (by simp) (by omega)
    have hcv : ∀ w : World, _ := fun w => conv_new (P := Tryd.prog) w 24 5 9 5 Tryd.underlying24 Tryd.underlying5 Tryd.underlying9 (8000 + j) (8000 + j) (List.replicate (8000 + j) 0) _ (by simp) (zeroCells (8000 + j))
    rw [← hZ.out] at hcv
    go_wp2_with fail
    refine (wrap_any (ofL Z) _ (by omega) (HT.out.below (bNew hb1 _))).mono ?_; rintro e w2 ⟨rfl, hb2⟩
    replace hb2 := bNext (bNew hb1 _) hb2
    rw [bl_ofL, wrapL_no (by omega), wrapE_no (by omega)]
    go_wp2_with fail
    refine (cut_is0 _ _ (by decide) (HT.out.below hb2) cut_above).mono ?_; rintro e w3 ⟨rfl, hb3⟩
    replace hb3 := bNext hb2 hb3
    go_wp2_with fail
    go_ret
    exact ⟨rfl, hb3⟩
namespace LFoldLimit
open Go.ChangeShapes Go.WideShapes Go.ChangeAt
open Go.ChangeMaps (open_string shut_string)

theorem contract (H : Type) (enc : TypeId × Value → H) (W : World) (base : Nat) (args : Array Value) (ds gs : List (DataW H)) (before : List MemPlace)
    (hval : ∀ (j : Nat) t v, Tryd.f7.params[j]? = some t → args[j]? = some v → Value.okWide Tryd.prog W .any base t v)
    (hW : DataW.Whole enc Tryd.prog Tryd.f7.params.toList Rows.foldLimitSpec.vars false W args.toList ds gs before)
    (hL : laidMetH Tryd.prog Rows.foldLimitRow.laid W)
    (_hsz : (DataW.weightsEach Tryd.prog (Tryd.f7.params.toList ++ (OpenSpec.ofChange Rows.foldLimitSpec).bare.plain.varTypes Tryd.prog) (ds ++ gs)).all (fun x => decide (x ≤ reachBytes)) = true) :
    Calls Tryd.prog 7 args W fun e W' => ∃ v, e = .returned v ∧ Rows.foldLimitSpec.post enc Tryd.prog Tryd.f7 false true false false W args v W' := by
  have hW' := hW
  obtain ⟨p, q, hA0, hV, rfl, hfz, hnd⟩ := hW
  have hA : DataW.TrodAll enc Tryd.prog W 0 (fun _ => true) true Tryd.f7.params.toList args.toList ds p := hA0
  rw [Tryd.params7] at hA hval
  obtain ⟨v0, vs0, d0, ds0, p0, q0, hargs, rfl, rfl, h0, r0⟩ := trodAll_cons hA
  obtain ⟨rfl, rfl, rfl⟩ := trodAll_nil r0
  obtain rfl : args = #[v0] := by cases args; simp_all
  obtain ⟨rfl, rfl⟩ := trodVars_none hV
  obtain ⟨x0, rfl, rfl, rfl, k0⟩ := open_int Tryd.underlying3 (hval 0 3 v0 rfl rfl) h0
  clear hA0
  refine (foldLimit_walk x0 W (tab_of hL)).mono fun e W' ⟨he, hb⟩ => ?_
  subst he
  exact ⟨_, rfl, law_post laidOut Tryd.underlying4 rfl (by kernel_rfl) rfl rfl rfl rfl hW' hb⟩

theorem reads (os : Os) {H : Type} (enc : TypeId × Value → H) : ∃ places, DataW.whole enc Tryd.prog ((laidWorld os).forCall (fun _ _ => 0) ⟨#[], #[.int .i64 0], []⟩).memory Tryd.f7.params.toList Rows.foldLimitSpec.vars false (#[.int .i64 0] : Array Value).toList 8 = some ([.lit (.int .i64 0)], [], places) :=
  ⟨[], by kernel_rfl⟩
theorem laid_met (os : Os) : laidMet Tryd.prog Rows.foldLimitRow.laid ((laidWorld os).forCall (fun _ _ => 0) ⟨#[], #[.int .i64 0], []⟩).memory :=
  laidMet_of_run' 8 (by kernel_rfl) (by kernel_rfl)

set_option maxRecDepth 100000 in
theorem lifted (os : Os) (started : os.Started) (H : Type) (enc : TypeId × Value → H) (F : Stop.Interp) :
    ReturnsInHanded {} Tryd.checked os 7 .any ((OpenSpec.ofChange Rows.foldLimitSpec).preRow enc Tryd.prog Tryd.f7 Rows.foldLimitRow.domain false Rows.foldLimitRow.laid) (((OpenSpec.ofChange Rows.foldLimitSpec).at F).post enc Tryd.prog Tryd.f7 false true false false) := by
  obtain ⟨places, hx⟩ := reads os enc
  refine returnsInHanded_of_row (C := Tryd.checked) (s := OpenSpec.ofChange Rows.foldLimitSpec) own started (by kernel_rfl) Tryd.func7
    (witness_row_at (enc := enc) (C := Tryd.checked) false (laidWorld os) #[.int .i64 0] rfl (by kernel_rfl) (by kernel_rfl) (by kernel_rfl)
      (OpenSpec.preRow_of_cond 8 hx (by kernel_rfl) (fun k hk => by cases hk) (by kernel_rfl) (laid_met os))) ?_
  intro W base args ds gs before hval hW _ _ hsz hL _ _
  exact contract H enc W base args ds gs before hval hW hL hsz

theorem said : Rows.FoldLimitSaid :=
  OpenClaim.holds_of_cond 7 Tryd.f7 rfl rfl rfl rfl rfl rfl rfl ⟨rfl, rfl, rfl, rfl, rfl⟩ rfl rfl rfl rfl rfl (by kernel_rfl) Tryd.func7 (by kernel_rfl)
    (of_decide_eq_true (by kernel_rfl)) (by unfold Func.isWrapper; first | (rw [if_pos (by decide +kernel)]; kernel_rfl) | (rw [if_neg (by decide +kernel)]; exact ⟨rfl, rfl⟩))
    (fun os started H enc _ F => by rw [OpenClaim.pre_eq_preRow]; exact lifted os started H enc F)

theorem plain (f : FuncId) (fn : Func) (hf : Tryd.pinned.checked.prog.funcNamed "caravan/caravanlaw02.FoldLimit" = some f) (hfn : Tryd.pinned.checked.prog.funcs[f]? = some fn) :
    false = Tryd.pinned.checked.prog.looks [] ∧ ∀ (j : Nat) t, fn.params[j]? = some t → Tryd.pinned.checked.prog.wantsStandIn t = false := by
  obtain rfl : f = 7 := Option.some.inj ((show Tryd.prog.funcNamed "caravan/caravanlaw02.FoldLimit" = some 7 by kernel_rfl).symm.trans hf) |>.symm
  obtain rfl : fn = Tryd.f7 := (Option.some.inj (Tryd.func7.symm.trans hfn)).symm
  refine ⟨by kernel_rfl, fun j t ht => ?_⟩
  have hm : t ∈ Tryd.f7.params.toList := Array.mem_toList_iff.2 (Array.mem_of_getElem? ht)
  have hall : (Tryd.f7.params.toList.all fun t => Tryd.prog.wantsStandIn t == false) = true := by kernel_rfl
  have := List.all_eq_true.1 hall t hm
  exact (show Tryd.prog.wantsStandIn t = false by simpa using this)

theorem card : Rows.FoldLimitCardSaid :=
  Claim7.holds_tied_plain_at .later [] _ _ _ _ said (fun _ h => by cases h) (by kernel_rfl) (fun _ h => by cases h) foldLimit_row_tie rfl ⟨rfl, rfl⟩ (by kernel_rfl) rfl plain (by kernel_rfl)
end LFoldLimit
end Go.Proofs.YtoiogpjnfipkfaaDoor
