/- RingParts: for every queue's name, every nodes and every part the law returns true (the table of four doublings lying in its variable as the program's text lays it). -/
import Derived.Test.YtmmfbeeeamcooaaDoorRingPart
import Derived.Test.YtmmfbeeeamcooaaDoorRingSame
import Derived.Test.YtmmfbeeeamcooaaDoorOpenInts
import Derived.Test.YtmmfbeeeamcooaaDoorSumLaid
import Derived.Deep.DeepCutAuto
import Derived.Test.YtmmfbeeeamcooaaDoorCards
import Derived.Test.YtmmfbeeeamcooaaDoorTie
namespace Go.Proofs.YtmmfbeeeamcooaaDoor
open Go.RowKit Go.Shelf Go.Lib Go.Sort

theorem orderL_mod (R : List (Int × Int)) (a b : Int) (h : a % 16 = b % 16) : orderL R a = orderL R b := by
  unfold orderL rotR atR placeI
  rw [h]

set_option maxRecDepth 100000 in
set_option maxHeartbeats 4000000 in
theorem ringParts_walk (s : ByteArray) (ao : Option Addr) (zs0 : List Int) (len cap : Nat) (hl : zs0.length = len) (hlc : len ≤ cap) (hwf0 : ∀ n ∈ zs0, (Lit.int .i64 n).wf = true) (part : Int) (w : World) (ht : Tab w) (hat : SlAt w ao (zs0.map (Value.int .i64))) :
    Calls Tryd.prog 3 #[.string s, .slice ao len cap, .int .i64 part] w fun e w' => e = .returned (.bool true) ∧ Below w.heap.size w w' := by
  obtain ⟨N, hN⟩ := nm (min len 8)
  have hN8 : N ≤ 8 := by rw [hN.out]; omega
  have HL0 := Lib.hid hlc
  obtain ⟨zs, hzs⟩ := nm (zs0.take 8)
  have hzl : Hid (zs.length = N) := by show _ = _; rw [hzs.out, List.length_take, hl, hN.out]; omega
  have HAT : Hid (SlAt w ao (zs.map (Value.int .i64))) := by show SlAt _ _ _; rw [hzs.out, List.map_take]; exact hat.take 8
  obtain ⟨R, hR⟩ := nm (ringL zs)
  obtain ⟨M, hM⟩ := nm R.length
  have hM4 : M ≤ 4 * N := by rw [hM.out, hR.out]; have := ringL_length zs; rw [hzl.out] at this; omega
  have HW1 : Hid (∀ p ∈ R, (Lit.int .i64 p.2).wf = true) := by
    intro p hp; rw [hR.out] at hp
    have h := ringL_node hp
    rw [hzs.out] at h
    exact hwf0 _ (List.mem_of_mem_take h)
  obtain ⟨k, hk1, hk2⟩ := and_mask part 15 (by decide)
  have hk3 : bits .and .i64 part 15 = (k : Int) := hk2
  obtain ⟨O, hO⟩ := nm (orderL R k)
  have hO2 : Hid (orderL R ((k : Int) + 16) = O) := by show _ = _; rw [hO.out]; exact orderL_mod R _ _ (by omega)
  obtain ⟨J, hJ⟩ := nm (min (3 : Int).toNat O.length)
  have hJ3 : J ≤ 3 := by rw [hJ.out]; have : (3 : Int).toNat = 3 := rfl; omega
  have hcut := cutB_cases s 60
  obtain ⟨S, hS⟩ := nm (cutB s 60)
  have hS60 : S.size ≤ 60 := by rw [hS.out]; exact cutB_le _ _
  rw [← hS.out] at hcut
  obtain ⟨P, hP⟩ := nm (Pl.crc (bl S) % 16)
  have hP16 : P < 16 := by rw [hP.out]; exact Nat.mod_lt _ (by decide)
  obtain ⟨pl, hpl⟩ := nm (placeI part)
  have hpl0 : 0 ≤ pl := by rw [hpl.out]; unfold placeI; omega
  have hpl1 : pl ≤ 61440 := by rw [hpl.out]; unfold placeI; omega
  have hpl2 : pl % 4096 = 0 := by rw [hpl.out]; unfold placeI; omega
  have HPL : Hid (∀ w, Calls Tryd.prog 11 #[.int .i64 part] w fun e w' => e = .returned (.int .i64 pl) ∧ w = w') := by
    intro w; rw [hpl.out]; exact place_any part w
  have HT : Hid (Tab w) := ht
  have HPL2 := Lib.hid hpl2
  clear hl hlc hat ht hk2 hwf0 hpl2
  go_enter Tryd.func3, Tryd.ntmps3
  go_wp2_with fail
  refine (awake_any _).mono ?_; rintro e w1 ⟨rfl, hB1⟩
  have HA1 := Lib.hid (HAT.out.below hB1)
  have HB1 := Lib.hid hB1
  clear hB1
  go_upto_if 17 with fail
  go_cut [0] (fun s0 wx => s0 = .string S ∧ wx = w1)
  case first =>
    rcases hcut with ⟨h1, h2⟩ | ⟨h1, h2⟩
    · have H2 := Lib.hid h2
      have hd : decide (60 < s.size) = true := decide_eq_true h1
      clear h2
      go_wp2_with fail
      go_meet
      exact ⟨by rw [← H2.out], rfl⟩
    · have H2 := Lib.hid h2
      have hd : decide (60 < s.size) = false := decide_eq_false h1
      clear h2
      go_wp2_with fail
      go_meet
      exact ⟨by rw [← H2.out], rfl⟩
  obtain ⟨rfl, hwc⟩ := hcut
  obtain rfl := hwc.symm
  go_wp2_with fail
  refine (few_any ao len cap HL0.out _).mono ?_; rintro e w2 ⟨rfl, rfl⟩
  rw [← hN.out]
  go_wp2_with fail
  refine (new_any ao zs N cap hzl (by omega) R M (hidSymm hR) (hidSymm hM) _ HA1.out).mono ?_; rintro e w2 ⟨ar, capr, rfl, hsr, hB2⟩
  have HB2 := Lib.hid (bNext HB1.out hB2)
  have HSR := Lib.hid hsr
  clear hB2 hsr
  go_wp2_with fail
  refine (part_any S P hP (by omega) _ (HT.out.below HB2.out)).mono ?_; rintro e w3 ⟨rfl, rfl⟩
  go_wp2_with fail
  refine (owners_any ar R M capr (hidSymm hM) (by omega) HW1 k 3 (by decide) O J (hidSymm hO) (hidSymm hJ) _ HSR.out).mono ?_; rintro e w3 ⟨a1, c1, rfl, hc1, hs1, hB3⟩
  have HB3 := Lib.hid (bNext HB2.out hB3)
  have HSR3 := Lib.hid (HSR.out.below hB3)
  have HS1 := Lib.hid hs1
  clear hB3 hs1
  go_wp2_with fail
  refine (owners_any ar R M capr (hidSymm hM) (by omega) HW1 ((k : Int) + 16) 3 (by decide) O J hO2 (hidSymm hJ) _ HSR3.out).mono ?_; rintro e w4 ⟨a2, c2, rfl, hc2, hs2, hB4⟩
  have HB4 := Lib.hid (bNext HB3.out hB4)
  have HS14 := Lib.hid (HS1.out.below hB4)
  have HJl : Hid ((O.take J).length = J) := by show _ = _; rw [List.length_take, hJ.out]; omega
  have hsame := sameI_any a1 a2 c1 c2 (O.take J) (O.take J) w4 (by rw [HJl.out]; omega) HS14.out hs2
  rw [HJl.out, decide_eq_true rfl] at hsame
  have HSAME := Lib.hid hsame
  clear hB4 hs2 hsame
  go_wp2_with fail
  refine HSAME.out.mono ?_; rintro e w5 ⟨rfl, q, rfl⟩
  have hpd : decide (P < 16) = true := decide_eq_true hP16
  go_wp2_with fail
  refine (HPL.out _).mono ?_; rintro e w6 ⟨rfl, rfl⟩
  go_wp2_with fail
  refine (HPL.out _).mono ?_; rintro e w6 ⟨rfl, rfl⟩
  go_wp2_with fail
  refine (HPL.out _).mono ?_; rintro e w6 ⟨rfl, rfl⟩
  have he : (pl % 4096 == 0) = true := by rw [HPL2.out]; rfl
  go_wp2_with fail
  go_ret
  exact ⟨rfl, below_drewN HB4.out q⟩
namespace LRingParts
open Go.ChangeShapes Go.WideShapes Go.ChangeAt
open Go.ChangeMaps (open_string shut_string)

set_option maxRecDepth 100000 in
theorem contract (H : Type) (enc : TypeId × Value → H) (W : World) (base : Nat) (args : Array Value) (ds gs : List (DataW H)) (before : List MemPlace)
    (hval : ∀ (j : Nat) t v, Tryd.f3.params[j]? = some t → args[j]? = some v → Value.okWide Tryd.prog W .any base t v)
    (hW : DataW.Whole enc Tryd.prog Tryd.f3.params.toList Rows.ringPartsSpec.vars false W args.toList ds gs before)
    (hL : laidMetH Tryd.prog Rows.ringPartsRow.laid W)
    (_hsz : (DataW.weightsEach Tryd.prog (Tryd.f3.params.toList ++ (OpenSpec.ofChange Rows.ringPartsSpec).bare.plain.varTypes Tryd.prog) (ds ++ gs)).all (fun x => decide (x ≤ reachBytes)) = true) :
    Calls Tryd.prog 3 args W fun e W' => ∃ v, e = .returned v ∧ Rows.ringPartsSpec.post enc Tryd.prog Tryd.f3 false true false false W args v W' := by
  have hW' := hW
  obtain ⟨p, q, hA0, hV, rfl, hfz, hnd⟩ := hW
  have hA : DataW.TrodAll enc Tryd.prog W 0 (fun _ => true) true Tryd.f3.params.toList args.toList ds p := hA0
  rw [Tryd.params3] at hA hval
  obtain ⟨v0, vs0, d0, ds0, p0, q0, hargs, rfl, rfl, h0, r0⟩ := trodAll_cons hA
  obtain ⟨v1, vs1, d1, ds1, p1, q1, rfl, rfl, rfl, h1, r1⟩ := trodAll_cons r0
  obtain ⟨v2, vs2, d2, ds2, p2, q2, rfl, rfl, rfl, h2, r2⟩ := trodAll_cons r1
  obtain ⟨rfl, rfl, rfl⟩ := trodAll_nil r2
  obtain rfl : args = #[v0, v1, v2] := by cases args; simp_all
  obtain ⟨rfl, rfl⟩ := trodVars_none hV
  obtain ⟨x0, rfl, rfl, rfl, k0⟩ := open_string Tryd.underlying9 (hval 0 9 v0 rfl rfl) h0
  obtain ⟨ao1, len1, cap1, ss1, rfl, hl1, hlc1, hcm1, hat1, wf1⟩ := open_ints2 Tryd.underlying22 Tryd.underlying3 (show Tryd.prog.cellsOf 3 = 1 by kernel_rfl) h1 (okWide_slice Tryd.underlying22 (hval 1 22 v1 rfl rfl))
  obtain ⟨x2, rfl, rfl, rfl, k2⟩ := open_int Tryd.underlying3 (hval 2 3 v2 rfl rfl) h2
  clear hA0
  refine (ringParts_walk x0 ao1 ss1 len1 cap1 hl1 hlc1 wf1 x2 W (tab_of hL) hat1).mono fun e W' ⟨he, hb⟩ => ?_
  subst he
  exact ⟨_, rfl, law_post laidOut Tryd.underlying4 rfl (by kernel_rfl) rfl rfl rfl rfl hW' hb⟩

theorem reads (os : Os) {H : Type} (enc : TypeId × Value → H) : ∃ places, DataW.whole enc Tryd.prog ((laidWorld os).forCall (fun _ _ => 0) ⟨#[], #[.string .empty, .slice none 0 0, .int .i64 0], []⟩).memory Tryd.f3.params.toList Rows.ringPartsSpec.vars false (#[.string .empty, .slice none 0 0, .int .i64 0] : Array Value).toList 8 = some ([.lit (.string []), .nil, .lit (.int .i64 0)], [], places) :=
  ⟨[], by kernel_rfl⟩
theorem laid_met (os : Os) : laidMet Tryd.prog Rows.ringPartsRow.laid ((laidWorld os).forCall (fun _ _ => 0) ⟨#[], #[.string .empty, .slice none 0 0, .int .i64 0], []⟩).memory :=
  laidMet_of_run' 8 (by kernel_rfl) (by kernel_rfl)

set_option maxRecDepth 100000 in
theorem lifted (os : Os) (started : os.Started) (H : Type) (enc : TypeId × Value → H) (F : Stop.Interp) :
    ReturnsInHanded {} Tryd.checked os 3 .any ((OpenSpec.ofChange Rows.ringPartsSpec).preRow enc Tryd.prog Tryd.f3 Rows.ringPartsRow.domain false Rows.ringPartsRow.laid) (((OpenSpec.ofChange Rows.ringPartsSpec).at F).post enc Tryd.prog Tryd.f3 false true false false) := by
  obtain ⟨places, hx⟩ := reads os enc
  refine returnsInHanded_of_row (C := Tryd.checked) (s := OpenSpec.ofChange Rows.ringPartsSpec) own started (by kernel_rfl) Tryd.func3
    (witness_row_at (enc := enc) (C := Tryd.checked) false (laidWorld os) #[.string .empty, .slice none 0 0, .int .i64 0] rfl (by kernel_rfl) (by kernel_rfl) (by kernel_rfl)
      (OpenSpec.preRow_of_cond 8 hx (by kernel_rfl) (fun k hk => by cases hk) (by kernel_rfl) (laid_met os))) ?_
  intro W base args ds gs before hval hW _ _ hsz hL _ _
  exact contract H enc W base args ds gs before hval hW hL hsz

theorem said : Rows.RingPartsSaid :=
  OpenClaim.holds_of_cond 3 Tryd.f3 rfl rfl rfl rfl rfl rfl rfl ⟨rfl, rfl, rfl, rfl, rfl⟩ rfl rfl rfl rfl rfl (by kernel_rfl) Tryd.func3 (by kernel_rfl)
    (of_decide_eq_true (by kernel_rfl)) (by unfold Func.isWrapper; first | (rw [if_pos (by decide +kernel)]; kernel_rfl) | (rw [if_neg (by decide +kernel)]; exact ⟨rfl, rfl⟩))
    (fun os started H enc _ F => by rw [OpenClaim.pre_eq_preRow]; exact lifted os started H enc F)

theorem plain (f : FuncId) (fn : Func) (hf : Tryd.pinned.checked.prog.funcNamed "caravan/caravanlaw08.RingParts" = some f) (hfn : Tryd.pinned.checked.prog.funcs[f]? = some fn) :
    false = Tryd.pinned.checked.prog.looks [] ∧ ∀ (j : Nat) t, fn.params[j]? = some t → Tryd.pinned.checked.prog.wantsStandIn t = false := by
  obtain rfl : f = 3 := Option.some.inj ((show Tryd.prog.funcNamed "caravan/caravanlaw08.RingParts" = some 3 by kernel_rfl).symm.trans hf) |>.symm
  obtain rfl : fn = Tryd.f3 := (Option.some.inj (Tryd.func3.symm.trans hfn)).symm
  refine ⟨by kernel_rfl, fun j t ht => ?_⟩
  have hm : t ∈ Tryd.f3.params.toList := Array.mem_toList_iff.2 (Array.mem_of_getElem? ht)
  have hall : (Tryd.f3.params.toList.all fun t => Tryd.prog.wantsStandIn t == false) = true := by kernel_rfl
  have := List.all_eq_true.1 hall t hm
  exact (show Tryd.prog.wantsStandIn t = false by simpa using this)

theorem card : Rows.RingPartsCardSaid :=
  Claim7.holds_tied_plain_at .later [] _ _ _ _ said (fun _ h => by cases h) (by kernel_rfl) (fun _ h => by cases h) ringParts_row_tie rfl ⟨rfl, rfl⟩ (by kernel_rfl) rfl plain (by kernel_rfl)
end LRingParts
end Go.Proofs.YtmmfbeeeamcooaaDoor
