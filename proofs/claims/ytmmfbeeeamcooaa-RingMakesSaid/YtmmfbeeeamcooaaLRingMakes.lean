/- RingMakes: for every list of nodes the law returns true. -/
import Derived.Test.YtmmfbeeeamcooaaRingD
import Derived.Test.YtmmfbeeeamcooaaRingRefNew
import Derived.Test.YtmmfbeeeamcooaaSpotSame
import Derived.Test.YtmmfbeeeamcooaaLaw
import Derived.Deep.RegionHeld3
import Derived.Outline
namespace Go.Proofs.Ytmmfbeeeamcooaa
open Go.RowKit Go.Shelf Go.Lib Go.Sort

set_option maxRecDepth 100000 in
set_option maxHeartbeats 4000000 in
theorem ringMakes_walk (ao : Option Addr) (zs0 : List Int) (len cap : Nat) (hl : zs0.length = len) (hlc : len ≤ cap) (w : World) (hat : SlAt w ao (zs0.map (Value.int .i64))) :
    Calls Try.prog 3 #[.slice ao len cap] w fun e w' => e = .returned (.bool true) ∧ Below w.heap.size w w' := by
  obtain ⟨N, hN⟩ := nm (min len 8)
  have hN8 : N ≤ 8 := by rw [hN.out]; omega
  have HL0 := Lib.hid hlc
  obtain ⟨zs, hzs⟩ := nm (zs0.take 8)
  have hzl : Hid (zs.length = N) := by show _ = _; rw [hzs.out, List.length_take, hl, hN.out]; omega
  have HAT : Hid (SlAt w ao (zs.map (Value.int .i64))) := by show SlAt _ _ _; rw [hzs.out, List.map_take]; exact hat.take 8
  obtain ⟨R, hR⟩ := nm (ringL zs)
  obtain ⟨M, hM⟩ := nm R.length
  have hM4 : M ≤ 4 * N := by rw [hM.out, hR.out]; have := ringL_length zs; rw [hzl.out] at this; omega
  clear hl hlc hat
  go_enter Try.func3, Try.ntmps3
  go_wp2_with fail
  refine (awake_any _).mono ?_; rintro e w1 ⟨rfl, hB1⟩
  go_wp2_with fail
  refine (few_any ao len cap HL0.out _).mono ?_; rintro e w2 ⟨rfl, rfl⟩
  rw [← hN.out]
  have HB1 := Lib.hid hB1
  clear hB1
  go_wp2_with fail
  go_loopw [5] (fun i wr => ∃ k : Nat, k ≤ N ∧ i = .int .i64 (k : Int) ∧ Below w.heap.size w wr) (fun i _ => N - (intOf i).toNat)
  case atStart => exact ⟨0, by omega, rfl, HB1.out⟩
  case round =>
    obtain ⟨k, hk, rfl, hB⟩ := hrel
    by_cases hlt : k < N
    · obtain ⟨b, off, rfl, hbl, c0⟩ := SlAt.int' HAT.out k (by rw [hzl.out]; exact hlt)
      obtain ⟨z, hz⟩ := nm (zs[k]'(by rw [hzl.out]; exact hlt))
      rw [← hz.out] at c0
      have HD : Hid (∀ w9 : World, Below w.heap.size w w9 → w9.cell? ⟨b, off + k, none⟩ = some (.int .i64 z)) := fun w9 h => (h.cell (p := ⟨b, off + k, none⟩) hbl).trans c0
      have d0 := HD.out _ hB
      have hBd : Below w.heap.size w wr.drew := below_drewN hB 1
      have hk0 : (0 : Int) ≤ (k : Int) := by omega
      have hk1 : (k : Int) < (N : Int) := by omega
      obtain ⟨Z, hZ⟩ := nm (spotsL z)
      have hZl : Hid (Z.length = 4) := by show _ = _; rw [hZ.out]; rfl
      clear c0
      go_wp2_with fail
      go_region_held3 (fun w' => w'.cell? ⟨b, off + k, none⟩ = some (.int .i64 z)) (first | assumption | go_keep)
        (first
          | (go_at_call 11; (refine (spots_any z _).mono ?_); rintro e wa ⟨a1, c1, rfl, hno1, hs1, hBa⟩; have hBa2 := bNext hBd hBa; have ga := HD.out _ hBa2)
          | (go_at_call 12; (refine (refspots_any z _).mono ?_); rintro e wb ⟨a2, c2, rfl, hno2, hs2, hBb⟩; have hBb2 := bNext hBa2 hBb; have gb := HD.out _ hBb2)
          | (go_at_call 10; (refine (same_any a1 a2 c1 c2 4 4 (spotsL z) (spotsL z) (by show _ = _; rfl) (by show _ = _; rfl) _ (by omega) (hs1.below hBb) hs2 true (by show _ = _; exact (decide_eq_true rfl).symm)).mono ?_); rintro e wc ⟨rfl, q, rfl⟩))
      have hBf : Below w.heap.size w (wb.drewN q) := below_drewN hBb2 q
      clear hB hBd hBa hBb hBa2 hBb2 hs1 hs2 ga gb d0
      go_wp2_with fail
      go_roundw
      case rel => exact ⟨k + 1, by omega, by go_num, hBf⟩
      case measure => simp [intOf]; omega
    · obtain rfl : k = N := by omega
      have HA2 := Lib.hid (HAT.out.below hB)
      have HB2 := Lib.hid hB
      clear hB
      go_wp2_with fail
      refine (new_any ao zs k cap hzl (by omega) R M (hidSymm hR) (hidSymm hM) _ HA2.out).mono ?_; rintro e w3 ⟨ar, capr, rfl, hsr, hB3⟩
      have HSR := Lib.hid hsr
      have HB3 := Lib.hid (bNext HB2.out hB3)
      have HA3 := Lib.hid (HAT.out.below HB3.out)
      clear hsr hB3
      go_wp2_with fail
      refine (refnew_any ao zs k cap hzl (by omega) R M (hidSymm hR) (hidSymm hM) _ HA3.out).mono ?_; rintro e w4 ⟨ar2, capr2, rfl, hsr2, hB4⟩
      have HSR2 := Lib.hid hsr2
      have HSR1 := Lib.hid (HSR.out.below hB4)
      have HB4 := Lib.hid (bNext HB3.out hB4)
      clear hsr2 hB4
      go_wp2_with fail
      refine (same_any ar ar2 capr capr2 M M R R (hidSymm hM) (hidSymm hM) _ (by omega) HSR1.out HSR2.out true (by show _ = _; exact (decide_eq_true rfl).symm)).mono ?_; rintro e w5 ⟨rfl, q, rfl⟩
      go_wp2_with fail
      go_ret
      exact ⟨rfl, below_drewN HB4.out q⟩
namespace LRingMakes
open Go.ChangeShapes Go.WideShapes Go.ChangeAt
open Go.ChangeMaps (open_string shut_string)

set_option maxRecDepth 100000 in
theorem contract (H : Type) (enc : TypeId × Value → H) (W : World) (base : Nat) (args : Array Value) (ds gs : List (DataW H)) (before : List MemPlace)
    (hval : ∀ (j : Nat) t v, Try.f3.params[j]? = some t → args[j]? = some v → Value.okWide Try.prog W .any base t v)
    (hW : DataW.Whole enc Try.prog Try.f3.params.toList Rows.ringMakesSpec.vars false W args.toList ds gs before)
    (_hsz : (DataW.weightsEach Try.prog (Try.f3.params.toList ++ (OpenSpec.ofChange Rows.ringMakesSpec).bare.plain.varTypes Try.prog) (ds ++ gs)).all (fun x => decide (x ≤ reachBytes)) = true) :
    Calls Try.prog 3 args W fun e W' => ∃ v, e = .returned v ∧ Rows.ringMakesSpec.post enc Try.prog Try.f3 false true false false W args v W' := by
  have hW' := hW
  obtain ⟨p, q, hA0, hV, rfl, hfz, hnd⟩ := hW
  have hA : DataW.TrodAll enc Try.prog W 0 (fun _ => true) true Try.f3.params.toList args.toList ds p := hA0
  rw [Try.params3] at hA hval
  obtain ⟨v0, vs0, d0, ds0, p0, q0, hargs, rfl, rfl, h0, r0⟩ := trodAll_cons hA
  obtain ⟨rfl, rfl, rfl⟩ := trodAll_nil r0
  obtain rfl : args = #[v0] := by cases args; simp_all
  obtain ⟨rfl, rfl⟩ := trodVars_none hV
  obtain ⟨ao0, len0, cap0, ss0, rfl, hl0, hlc0, hcm0, hat0, wf0⟩ := open_ints2 Try.underlying22 Try.underlying3 (show Try.prog.cellsOf 3 = 1 by kernel_rfl) h0 (okWide_slice Try.underlying22 (hval 0 22 v0 rfl rfl))
  clear hA0
  refine (ringMakes_walk ao0 ss0 len0 cap0 hl0 hlc0 W hat0).mono fun e W' ⟨he, hb⟩ => ?_
  subst he
  exact ⟨_, rfl, law_post laidOut Try.underlying4 rfl (by kernel_rfl) rfl rfl rfl rfl hW' hb⟩

theorem reads (os : Os) {H : Type} (enc : TypeId × Value → H) : ∃ places, DataW.whole enc Try.prog ((World.holding Try.prog os ⟨#[], #[], []⟩).forCall (fun _ _ => 0) ⟨#[], #[.slice none 0 0], []⟩).memory Try.f3.params.toList Rows.ringMakesSpec.vars false (#[.slice none 0 0] : Array Value).toList 8 = some ([.nil], [], places) :=
  ⟨[], by kernel_rfl⟩
theorem laid_met (os : Os) : laidMet Try.prog Rows.ringMakesRow.laid ((World.holding Try.prog os ⟨#[], #[], []⟩).forCall (fun _ _ => 0) ⟨#[], #[.slice none 0 0], []⟩).memory :=
  laidMet_of_run' 8 (by kernel_rfl) (by kernel_rfl)

set_option maxRecDepth 100000 in
theorem lifted (os : Os) (started : os.Started) (H : Type) (enc : TypeId × Value → H) (F : Stop.Interp) :
    ReturnsInHanded {} Try.checked os 3 .any ((OpenSpec.ofChange Rows.ringMakesSpec).preRow enc Try.prog Try.f3 Rows.ringMakesRow.domain false Rows.ringMakesRow.laid) (((OpenSpec.ofChange Rows.ringMakesSpec).at F).post enc Try.prog Try.f3 false true false false) := by
  obtain ⟨places, hx⟩ := reads os enc
  refine returnsInHanded_of_row (C := Try.checked) (s := OpenSpec.ofChange Rows.ringMakesSpec) own started (by kernel_rfl) Try.func3
    (witness_row_at (enc := enc) (C := Try.checked) false (World.holding Try.prog os ⟨#[], #[], []⟩) #[.slice none 0 0] rfl (by kernel_rfl) (by kernel_rfl) (by kernel_rfl)
      (OpenSpec.preRow_of_cond 8 hx (by kernel_rfl) (fun k hk => by cases hk) (by kernel_rfl) (laid_met os))) ?_
  intro W base args ds gs before hval hW _ _ hsz hL _ _
  exact contract H enc W base args ds gs before hval hW hsz

theorem said : Rows.RingMakesSaid :=
  OpenClaim.holds_of_cond 3 Try.f3 rfl rfl rfl rfl rfl rfl rfl ⟨rfl, rfl, rfl, rfl, rfl⟩ rfl rfl rfl rfl rfl (by kernel_rfl) Try.func3 (by kernel_rfl)
    (of_decide_eq_true (by kernel_rfl)) (by unfold Func.isWrapper; first | (rw [if_pos (by decide +kernel)]; kernel_rfl) | (rw [if_neg (by decide +kernel)]; exact ⟨rfl, rfl⟩))
    (fun os started H enc _ F => by rw [OpenClaim.pre_eq_preRow]; exact lifted os started H enc F)
end LRingMakes
end Go.Proofs.Ytmmfbeeeamcooaa
