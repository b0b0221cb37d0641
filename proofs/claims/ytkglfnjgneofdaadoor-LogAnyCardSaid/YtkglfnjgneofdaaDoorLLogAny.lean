/- LogAny: for every text the law returns true (the table of four doublings lying in its variable as the program's text lays it). -/
import Derived.Test.YtkglfnjgneofdaaDoorLogC
import Derived.Test.YtkglfnjgneofdaaDoorRefCut
import Derived.Test.YtkglfnjgneofdaaDoorCards
import Derived.Test.YtkglfnjgneofdaaDoorTie
import Derived.BigQuiet
import Derived.Deep.QuietTactic
namespace Go.Proofs.YtkglfnjgneofdaaDoor
open Go.RowKit

theorem open_text (u : ByteArray) (h : u.size ≤ 300) : ∃ st2 : Int, (Dk.mk ⟨#[]⟩ u 400 1 true false 0).open = (⟨u.extract 0 (allN u), ⟨#[]⟩, 400, st2, true, false, 0⟩, 0) := by
  have hN := allN_le u
  by_cases hlt : allN u < u.size
  · refine ⟨3, ?_⟩
    have e1 : (Dk.mk ⟨#[]⟩ u 400 1 true false 0).open1 = (⟨u.extract 0 (allN u), ⟨#[]⟩, 400, 2, true, false, 0⟩, 0) := by
      unfold Dk.open1
      simp only [nil_append]
      rw [if_pos hlt]
      exact swap_free _ _ rfl rfl (by simp only [ByteArray.size_extract]; omega)
    rw [Dk.open, e1]
    simp only
    rw [if_pos trivial, sync_free _ rfl rfl (by show (0 : Int) ≤ 400; decide)]
    simp only [append_nil]
    rfl
  · refine ⟨2, ?_⟩
    have e1 : (Dk.mk ⟨#[]⟩ u 400 1 true false 0).open1 = (⟨⟨#[]⟩, u, 400, 1, true, false, 0⟩, 0) := by
      unfold Dk.open1
      simp only [nil_append]
      rw [if_neg hlt]
    rw [Dk.open, e1]
    simp only
    rw [if_pos trivial, sync_free _ rfl rfl (by show (0 : Int) ≤ 400; decide), extract_all u _ (by omega)]
    simp only [nil_append]
    rfl

set_option maxRecDepth 100000 in
set_option maxHeartbeats 8000000 in
theorem logAny_walk (s : ByteArray) (w : World) (ht : Tab w) :
    Calls Tryd.prog 3 #[.string s] w fun e w' => e = .returned (.bool true) ∧ Below w.heap.size w w' := by
  have HT : Hid (Tab w) := ht
  clear ht
  have hc := cutB_le s 300
  obtain ⟨u, hu⟩ := nm (cutB s 300)
  rw [← hu.out] at hc
  obtain ⟨st2, hop⟩ := open_text u hc
  have HOP := Lib.hid hop
  clear hop
  obtain ⟨X, hX⟩ := nm (allB u)
  obtain ⟨n, hn⟩ := nm (allN u)
  have hns : n ≤ u.size := by rw [hn.out]; exact allN_le u
  have hXl : X.length ≤ 300 := by rw [hX.out]; exact Nat.le_trans (allB_len u) hc
  rw [← hn.out] at HOP
  have HX : Hid (allB u = X ∧ (allL (bl u)).2 = n) := ⟨hX.out.symm, hn.out.symm⟩
  have hap : (Dk.new 400).append u = (⟨⟨#[]⟩, u, 400, 1, true, false, 0⟩, 0) := by
    rw [append_free _ _ rfl rfl (by show ¬ (400 : Int) < _; simp only [Dk.new, nil_size]; omega)]
    simp only [Dk.new, nil_append]
    rfl
  have HAP := Lib.hid hap
  have hS : (u.extract 0 n).size ≤ 300 := by rw [ByteArray.size_extract]; omega
  clear hap hX hn
  go_enter Tryd.func3, Tryd.ntmps3
  go_wp2_with fail
  refine (awake_any _ HT.out).mono ?_; rintro e w1 ⟨rfl, hB⟩
  go_wp2_with fail
  refine (short_any s 300 _ (by decide)).mono ?_; rintro e w2 ⟨rfl, rfl⟩
  rw [← hu.out]
  go_wp2_with fail
  refine (whole_any u _ (by omega) (HT.out.below hB)).mono ?_; rintro e w2 ⟨ao, cap, rfl, hcap, hsl, hB1, -⟩
  rw [HX.out.1] at hsl ⊢
  rw [HX.out.2]
  replace hB := bNext hB hB1; clear hB1
  go_wp2_with fail
  refine (refall_any u _ (by omega)).mono ?_; rintro e w3 ⟨ao2, cap2, rfl, hcap2, hsl2, hB1, -⟩
  rw [HX.out.1] at hsl2 ⊢
  rw [HX.out.2]
  replace hsl := hsl.below hB1
  replace hB := bNext hB hB1; clear hB1
  go_wp2_with fail
  refine (sametexts_any ao ao2 cap cap2 X X _ (by omega) hsl hsl2).mono ?_; rintro e w4 ⟨rfl, q1, rfl⟩
  (first | rw [show decide (X = X) = true from decide_eq_true rfl] | rw [show decide True = true from rfl])
  replace hB := below_drewN hB q1
  replace hsl : SlAt (w3.drewN q1) ao (X.map Value.string) := hsl.below (below_drewN (Below.refl _ _) q1)
  clear hsl2
  go_wp2_with fail
  refine (dnew2_any 400 _ (by decide) (by decide)).mono ?_; rintro e w5 ⟨b, rfl, hb, hd, hB1⟩
  have hBA := hB1
  have hbw := Nat.le_trans hB.size hb
  replace hB := bNext hB hB1; clear hB1
  have HSL := Lib.hid hsl
  clear hsl
  go_wp2_with fail
  refine (dappend_any b _ u _ hd (by simp only [Dk.new, nil_size]; omega) (by decide) (by decide)).mono ?_; rintro e w6 ⟨rfl, hd6, hk⟩
  rw [HAP.out] at hd6 ⊢
  replace hBA := bKept hBA hk hb
  replace hB := bKept hB hk hbw
  clear hk hd
  go_wp2_with fail
  refine (lopen_ok b _ _ X n w _ hbw hB hd6 (fit_of (by rw [nil_size]; omega) (by decide) (by decide)) HT.out HOP.out (by rw [nil_append]; exact HX.out.1) (by rw [nil_append]; exact HX.out.2)).mono ?_; rintro e w7 ⟨g, ao3, cap3, rfl, hL, hc3, hs3, -, -, hk⟩
  replace hBA := bKept hBA hk hb
  clear hk hB hd6
  go_wp2_with fail
  refine (sametexts_any ao ao3 cap cap3 X X _ (by omega) (HSL.out.below hBA) hs3).mono ?_; rintro e w8 ⟨rfl, q2, rfl⟩
  (first | rw [show decide (X = X) = true from decide_eq_true rfl] | rw [show decide True = true from rfl])
  replace hL := hL.drewN q2
  clear hs3 hBA
  have hk0 : (0 : Int) ≤ (n : Int) := by omega
  have hk1 : (n : Int) ≤ (u.size : Int) := by omega
  go_wp2_with fail
  generalize w7.drewN q2 = w9 at hL ⊢
  go_quiet ((first
    | (go_at_call 17; exact Calls.quiet_of (dbytes_is b _ (u.extract 0 n) _ hL.id (append_nil _) (by omega)))
    | (go_at_call 18; exact Calls.quiet_of_same (lsize_any g b _ _ hL.il))))
  replace hL := hL.drewN nq
  go_wp2_with fail
  go_ret
  exact ⟨rfl, hL.old⟩

namespace LLogAny
open Go.ChangeShapes Go.WideShapes Go.ChangeAt
open Go.ChangeMaps (open_string shut_string)

set_option maxRecDepth 100000 in
theorem contract (H : Type) (enc : TypeId × Value → H) (W : World) (base : Nat) (args : Array Value) (ds gs : List (DataW H)) (before : List MemPlace)
    (hval : ∀ (j : Nat) t v, Tryd.f3.params[j]? = some t → args[j]? = some v → Value.okWide Tryd.prog W .any base t v)
    (hW : DataW.Whole enc Tryd.prog Tryd.f3.params.toList Rows.logAnySpec.vars false W args.toList ds gs before)
    (hL : laidMetH Tryd.prog Rows.logAnyRow.laid W)
    (_hsz : (DataW.weightsEach Tryd.prog (Tryd.f3.params.toList ++ (OpenSpec.ofChange Rows.logAnySpec).bare.plain.varTypes Tryd.prog) (ds ++ gs)).all (fun x => decide (x ≤ reachBytes)) = true) :
    Calls Tryd.prog 3 args W fun e W' => ∃ v, e = .returned v ∧ Rows.logAnySpec.post enc Tryd.prog Tryd.f3 false true false false W args v W' := by
  have hW' := hW
  obtain ⟨p, q, hA0, hV, rfl, hfz, hnd⟩ := hW
  have hA : DataW.TrodAll enc Tryd.prog W 0 (fun _ => true) true Tryd.f3.params.toList args.toList ds p := hA0
  rw [Tryd.params3] at hA hval
  obtain ⟨v0, vs0, d0, ds0, p0, q0, hargs, rfl, rfl, h0, r0⟩ := trodAll_cons hA
  obtain ⟨rfl, rfl, rfl⟩ := trodAll_nil r0
  obtain rfl : args = #[v0] := by cases args; simp_all
  obtain ⟨rfl, rfl⟩ := trodVars_none hV
  obtain ⟨x0, rfl, rfl, rfl, k0⟩ := open_string Tryd.underlying9 (hval 0 9 v0 rfl rfl) h0
  clear hA0
  refine (logAny_walk x0 W (tab_of hL)).mono fun e W' ⟨he, hb⟩ => ?_
  subst he
  exact ⟨_, rfl, law_post laidOut Tryd.underlying4 rfl (by kernel_rfl) rfl rfl rfl rfl hW' hb⟩

theorem reads (os : Os) {H : Type} (enc : TypeId × Value → H) : ∃ places, DataW.whole enc Tryd.prog ((laidWorld os).forCall (fun _ _ => 0) ⟨#[], #[.string .empty], []⟩).memory Tryd.f3.params.toList Rows.logAnySpec.vars false (#[.string .empty] : Array Value).toList 8 = some ([.lit (.string [])], [], places) :=
  ⟨[], by kernel_rfl⟩
theorem laid_met (os : Os) : laidMet Tryd.prog Rows.logAnyRow.laid ((laidWorld os).forCall (fun _ _ => 0) ⟨#[], #[.string .empty], []⟩).memory :=
  laidMet_of_run' 8 (by kernel_rfl) (by kernel_rfl)

set_option maxRecDepth 100000 in
theorem lifted (os : Os) (started : os.Started) (H : Type) (enc : TypeId × Value → H) (F : Stop.Interp) :
    ReturnsInHanded {} Tryd.checked os 3 .any ((OpenSpec.ofChange Rows.logAnySpec).preRow enc Tryd.prog Tryd.f3 Rows.logAnyRow.domain false Rows.logAnyRow.laid) (((OpenSpec.ofChange Rows.logAnySpec).at F).post enc Tryd.prog Tryd.f3 false true false false) := by
  obtain ⟨places, hx⟩ := reads os enc
  refine returnsInHanded_of_row (C := Tryd.checked) (s := OpenSpec.ofChange Rows.logAnySpec) own started (by kernel_rfl) Tryd.func3
    (witness_row_at (enc := enc) (C := Tryd.checked) false (laidWorld os) #[.string .empty] rfl (by kernel_rfl) (by kernel_rfl) (by kernel_rfl)
      (OpenSpec.preRow_of_cond 8 hx (by kernel_rfl) (fun k hk => by cases hk) (by kernel_rfl) (laid_met os))) ?_
  intro W base args ds gs before hval hW _ _ hsz hL _ _
  exact contract H enc W base args ds gs before hval hW hL hsz

theorem said : Rows.LogAnySaid :=
  OpenClaim.holds_of_cond 3 Tryd.f3 rfl rfl rfl rfl rfl rfl rfl ⟨rfl, rfl, rfl, rfl, rfl⟩ rfl rfl rfl rfl rfl (by kernel_rfl) Tryd.func3 (by kernel_rfl)
    (of_decide_eq_true (by kernel_rfl)) (by unfold Func.isWrapper; first | (rw [if_pos (by decide +kernel)]; kernel_rfl) | (rw [if_neg (by decide +kernel)]; exact ⟨rfl, rfl⟩))
    (fun os started H enc _ F => by rw [OpenClaim.pre_eq_preRow]; exact lifted os started H enc F)

theorem plain (f : FuncId) (fn : Func) (hf : Tryd.pinned.checked.prog.funcNamed "caravan/caravanlaw14.LogAny" = some f) (hfn : Tryd.pinned.checked.prog.funcs[f]? = some fn) :
    false = Tryd.pinned.checked.prog.looks [] ∧ ∀ (j : Nat) t, fn.params[j]? = some t → Tryd.pinned.checked.prog.wantsStandIn t = false := by
  obtain rfl : f = 3 := Option.some.inj ((show Tryd.prog.funcNamed "caravan/caravanlaw14.LogAny" = some 3 by kernel_rfl).symm.trans hf) |>.symm
  obtain rfl : fn = Tryd.f3 := (Option.some.inj (Tryd.func3.symm.trans hfn)).symm
  refine ⟨by kernel_rfl, fun j t ht => ?_⟩
  have hm : t ∈ Tryd.f3.params.toList := Array.mem_toList_iff.2 (Array.mem_of_getElem? ht)
  have hall : (Tryd.f3.params.toList.all fun t => Tryd.prog.wantsStandIn t == false) = true := by kernel_rfl
  have := List.all_eq_true.1 hall t hm
  exact (show Tryd.prog.wantsStandIn t = false by simpa using this)

theorem card : Rows.LogAnyCardSaid :=
  Claim7.holds_tied_plain_at .later [] _ _ _ _ said (fun _ h => by cases h) (by kernel_rfl) (fun _ h => by cases h) logAny_row_tie rfl ⟨rfl, rfl⟩ (by kernel_rfl) rfl plain (by kernel_rfl)
end LLogAny
end Go.Proofs.YtkglfnjgneofdaaDoor
