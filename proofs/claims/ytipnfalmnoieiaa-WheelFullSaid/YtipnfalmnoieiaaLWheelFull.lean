/- WheelFull: for every two numbers the law returns true. -/
import Derived.Test.YtipnfalmnoieiaaWheelAwake
import Derived.Test.YtipnfalmnoieiaaBytes
import Derived.Test.YtipnfalmnoieiaaLaw
import Derived.IntWalk
namespace Go.Proofs.Ytipnfalmnoieiaa
open Go.RowKit Go.Shelf Go.Lib Go.Sort Go.Maps

/-- A wheel with the numbers from 0 on. -/
def FullL (L : List (Int × Int)) (n : Nat) : Prop := L.length = n ∧ ∀ x : Int, x ∈ idsL L ↔ 0 ≤ x ∧ x < (n : Int)
theorem fullL_nil : FullL [] 0 := ⟨rfl, fun x => by simp [idsL]⟩
theorem fullL_set {L : List (Int × Int)} {n : Nat} (h : FullL L n) (a : Int) : FullL (setL L a n) (n + 1) := by
  have hni : (n : Int) ∉ idsL L := fun e => by have := (h.2 n).1 e; omega
  refine ⟨by rw [set_length, out_none hni, h.1], fun x => ?_⟩
  have hp : (idsL (setL L a n)).Perm ((n : Int) :: idsL (outL L n)) := (set_perm L a n).map (f := fun y : Int × Int => y.2)
  rw [hp.mem_iff, out_none hni, List.mem_cons, h.2]
  constructor
  · rintro (h1 | h1) <;> omega
  · intro h1
    by_cases e : x = n
    · exact .inl e
    · exact .inr (by omega)
theorem next_is (p : Nat) (F : Nat → Prop) (L : List (Int × Int)) (clk : Int) (w : World) (h : WL w p F L clk) (hL : L ≠ []) :
    Calls Try.prog 12 #[.pointer (some ⟨p, 0, none⟩)] w fun e w' => (∃ x1 x2 : Int, e = .returned (.tuple #[.agg #[.int .i64 x1, .int .i64 x2], .bool true])) ∧ Below w.heap.size w w' := by
  cases L with
  | nil => exact absurd rfl hL
  | cons x L =>
    obtain ⟨x1, x2⟩ := x
    exact (next_some p F L x1 x2 clk w h).mono fun e w' ⟨h1, h2⟩ => ⟨⟨x1, x2, h1⟩, h2⟩

set_option maxRecDepth 100000 in
set_option maxHeartbeats 4000000 in
theorem wheelFull_walk (n a : Int) (w : World) :
    Calls Try.prog 3 #[.int .i64 n, .int .i64 a] w fun e w' => e = .returned (.bool true) ∧ Below w.heap.size w w' := by
  have hr1 : -16 < n.tmod 16 := Int.lt_tmod_of_pos n (by decide)
  have hr2 : n.tmod 16 < 16 := Int.tmod_lt_of_pos n (by decide)
  obtain ⟨M, hM⟩ : ∃ M : Nat, (n.tmod 16 + 16) % 16 = (M : Int) := ⟨((n.tmod 16 + 16) % 16).toNat, by omega⟩
  have hM15 : M ≤ 15 := by omega
  obtain ⟨K, hK⟩ := nm (4090 + M)
  have hsum : 4090 + (M : Int) = (K : Int) := by rw [hK.out]; omega
  have hK1 : 4090 ≤ K := by rw [hK.out]; omega
  have hK2 : K ≤ 4105 := by rw [hK.out]; omega
  obtain ⟨T, hT1, hT2⟩ := and_mask a 1023 (by decide)
  have hT3 : bits .and .i64 a 1023 = (T : Int) := hT2
  clear hT2
  go_enter Try.func3, Try.ntmps3
  go_wp2_with fail
  refine (awake_any _).mono ?_; rintro e w1 ⟨rfl, hB⟩
  have HB1 := Lib.hid hB
  clear hB
  go_wp2_with fail
  refine (new_any _).mono ?_; rintro e w2 ⟨rfl, hW, hB⟩
  have H1 : Hid (WB w w2 w1.heap.size (fun k => k = w1.heap.size) [] 0) := ⟨hW, bNext HB1.out hB, fun k e => by rw [e]; exact HB1.out.size⟩
  obtain ⟨p, hp⟩ := nm w1.heap.size
  obtain ⟨F1, hF1⟩ := nm (fun k => k = w1.heap.size)
  rw [← hp.out]
  rw [← hF1.out, ← hp.out] at H1
  clear hW hB HB1
  go_upto_region 5 with fail
  go_cut [7] (fun c wx => c = .int .i64 (K : Int) ∧ wx = w2)
  case first =>
    go_wp2_with fail
    go_meet
    exact ⟨rfl, rfl⟩
  clear hM hsum hr1 hr2
  obtain ⟨rfl, hwc⟩ := hcut
  obtain rfl := hwc.symm
  go_wp2_with fail
  go_loopw [8] (fun iv wr => ∃ (k j : Nat) (F : Nat → Prop) (L : List (Int × Int)), k ≤ K ∧ iv = .int .i64 (k : Int) ∧ Hid (j = min k 4096) ∧ WB w wr p F L 0 ∧ FullL L j) (fun iv _ => K - (intOf iv).toNat)
  case atStart => exact ⟨0, 0, F1, [], by omega, rfl, by show _ = _; omega, H1.out, fullL_nil⟩
  case round =>
    obtain ⟨k, j, F, L, hk, rfl, hj, hW, hL⟩ := hrel
    have HW := Lib.hid hW
    have HL := Lib.hid hL
    clear hW hL
    by_cases hlt : k < K
    · obtain ⟨P, hP⟩ := nm (T * k)
      have hP1 : P ≤ 1023 * 4105 := by rw [hP.out]; exact Nat.mul_le_mul hT1 (by omega)
      have hwm : IntKind.i64.wrap ((T : Int) * (k : Int)) = (P : Int) := by
        have e : (T : Int) * (k : Int) = (P : Int) := by rw [hP.out]; simp
        rw [e]; exact IntWalk.i64_in _ (by omega)
      obtain ⟨Q, hQ⟩ := nm (P % 5000)
      have hQ1 : Q < 5000 := by rw [hQ.out]; exact Nat.mod_lt _ (by decide)
      have hPQ : (P : Int) % 5000 = (Q : Int) := by rw [hQ.out]; omega
      have hwk : (Lit.int .i64 (k : Int)).wf = true := WalkArith.wf_i64 ⟨by omega, by omega⟩
      by_cases h4 : k < 4096
      · have hjk : j = k := by rw [hj.out]; omega
        have h4d : decide ((k : Int) < 4096) = true := decide_eq_true (by omega)
        have h4n : decide (k < 4096) = true := decide_eq_true h4
        subst hjk
        have hS := set_is p F L (setL L Q j) 0 Q j hwk (by omega) (by omega) (.inr (by rw [HL.out.1]; exact h4)) rfl w
        have HS := Lib.hid hS
        have hL2 : Hid (FullL (setL L Q j) (j + 1)) := fullL_set HL.out _
        clear hS hwk
        go_wp2_with fail
        refine (HS.out _ HW.out).mono ?_; rintro e w3 ⟨rfl, F3, hH, hk3, hf3⟩
        have HH := Lib.hid hH
        clear hH hk3 hf3 hwm hPQ
        go_wp2_with fail
        go_roundw
        case rel => exact ⟨j + 1, j + 1, F3, _, by omega, by go_num, by show _ = _; omega, HH.out, hL2.out⟩
        case measure => simp [intOf]; omega
      · have hjk : j = 4096 := by rw [hj.out]; omega
        have h4d : decide ((k : Int) < 4096) = false := decide_eq_false (by omega)
        have h4n : decide (k < 4096) = false := decide_eq_false h4
        have hS := set_full p F L 0 Q k hwk (by omega) (by omega) (fun e => by have := (HL.out.2 k).1 e; omega) (by rw [HL.out.1]; exact hjk)
        have HS := Lib.hid hS
        clear hS hwk hjk
        go_wp2_with fail
        refine (HS.out _ HW.out.whl).mono ?_; rintro e w3 ⟨rfl, rfl⟩
        clear hwm hPQ
        go_wp2_with fail
        go_roundw
        case rel => exact ⟨k + 1, j, F, L, by omega, by go_num, by show _ = _; rw [hj.out]; omega, HW.out, HL.out⟩
        case measure => simp [intOf]; omega
    · have h5 : (5 : Int) ∈ idsL L := (HL.out.2 5).2 ⟨by decide, by have := hj.out; omega⟩
      have H5 := Lib.hid h5
      clear h5
      go_wp2_with fail
      refine (set_is p F L (setL L 9 5) 0 9 5 (by decide) (by decide) (by decide) (.inl H5.out) rfl w _ HW.out).mono ?_; rintro e w3 ⟨rfl, F3, hH, hk3, hf3⟩
      have HH := Lib.hid hH
      clear hH hk3 hf3
      go_wp2_with fail
      refine (next_is p F3 (setL L 9 5) 0 _ HH.out.whl (fun e => by have := set_length L 9 5; rw [e] at this; simp at this)).mono ?_; rintro e w4 ⟨⟨x1, x2, rfl⟩, hB⟩
      have HH4 := Lib.hid (HH.out.more hB)
      have HH5 := Lib.hid (HH4.out.more (bOld (w := w4) (.cells #[.int .i64 x1, .int .i64 x2] 28)))
      clear hB
      go_wp2_with fail
      refine (set_time p F3 (setL L 9 5) 0 (-1) 5 (by decide) (.inl (by decide)) _ HH5.out.whl).mono ?_; rintro e w5 ⟨rfl, rfl⟩
      go_wp2_with fail
      refine (set_time p F3 (setL L 9 5) 0 1125899906842625 5 (by decide) (.inr (by decide)) _ HH5.out.whl).mono ?_; rintro e w5 ⟨rfl, rfl⟩
      go_wp2_with fail
      go_ret
      exact ⟨rfl, HH5.out.below⟩
namespace LWheelFull
open Go.ChangeShapes Go.WideShapes Go.ChangeAt
open Go.ChangeMaps (open_string shut_string)

set_option maxRecDepth 100000 in
theorem contract (H : Type) (enc : TypeId × Value → H) (W : World) (base : Nat) (args : Array Value) (ds gs : List (DataW H)) (before : List MemPlace)
    (hval : ∀ (j : Nat) t v, Try.f3.params[j]? = some t → args[j]? = some v → Value.okWide Try.prog W .any base t v)
    (hW : DataW.Whole enc Try.prog Try.f3.params.toList Rows.wheelFullSpec.vars false W args.toList ds gs before)
    (_hsz : (DataW.weightsEach Try.prog (Try.f3.params.toList ++ (OpenSpec.ofChange Rows.wheelFullSpec).bare.plain.varTypes Try.prog) (ds ++ gs)).all (fun x => decide (x ≤ reachBytes)) = true) :
    Calls Try.prog 3 args W fun e W' => ∃ v, e = .returned v ∧ Rows.wheelFullSpec.post enc Try.prog Try.f3 false true false false W args v W' := by
  have hW' := hW
  obtain ⟨p, q, hA0, hV, rfl, hfz, hnd⟩ := hW
  have hA : DataW.TrodAll enc Try.prog W 0 (fun _ => true) true Try.f3.params.toList args.toList ds p := hA0
  rw [Try.params3] at hA hval
  obtain ⟨v0, vs0, d0, ds0, p0, q0, hargs, rfl, rfl, h0, r0⟩ := trodAll_cons hA
  obtain ⟨v1, vs1, d1, ds1, p1, q1, rfl, rfl, rfl, h1, r1⟩ := trodAll_cons r0
  obtain ⟨rfl, rfl, rfl⟩ := trodAll_nil r1
  obtain rfl : args = #[v0, v1] := by cases args; simp_all
  obtain ⟨rfl, rfl⟩ := trodVars_none hV
  obtain ⟨x0, rfl, rfl, rfl, k0⟩ := open_int Try.underlying3 (hval 0 3 v0 rfl rfl) h0
  obtain ⟨x1, rfl, rfl, rfl, k1⟩ := open_int Try.underlying3 (hval 1 3 v1 rfl rfl) h1
  clear hA0
  refine (wheelFull_walk x0 x1 W).mono fun e W' ⟨he, hb⟩ => ?_
  subst he
  exact ⟨_, rfl, law_post laidOut Try.underlying4 rfl (by kernel_rfl) rfl rfl rfl rfl hW' hb⟩

theorem reads (os : Os) {H : Type} (enc : TypeId × Value → H) : ∃ places, DataW.whole enc Try.prog ((World.holding Try.prog os ⟨#[], #[], []⟩).forCall (fun _ _ => 0) ⟨#[], #[.int .i64 0, .int .i64 0], []⟩).memory Try.f3.params.toList Rows.wheelFullSpec.vars false (#[.int .i64 0, .int .i64 0] : Array Value).toList 8 = some ([.lit (.int .i64 0), .lit (.int .i64 0)], [], places) :=
  ⟨[], by kernel_rfl⟩
theorem laid_met (os : Os) : laidMet Try.prog Rows.wheelFullRow.laid ((World.holding Try.prog os ⟨#[], #[], []⟩).forCall (fun _ _ => 0) ⟨#[], #[.int .i64 0, .int .i64 0], []⟩).memory :=
  laidMet_of_run' 8 (by kernel_rfl) (by kernel_rfl)

set_option maxRecDepth 100000 in
theorem lifted (os : Os) (started : os.Started) (H : Type) (enc : TypeId × Value → H) (F : Stop.Interp) :
    ReturnsInHanded {} Try.checked os 3 .any ((OpenSpec.ofChange Rows.wheelFullSpec).preRow enc Try.prog Try.f3 Rows.wheelFullRow.domain false Rows.wheelFullRow.laid) (((OpenSpec.ofChange Rows.wheelFullSpec).at F).post enc Try.prog Try.f3 false true false false) := by
  obtain ⟨places, hx⟩ := reads os enc
  refine returnsInHanded_of_row (C := Try.checked) (s := OpenSpec.ofChange Rows.wheelFullSpec) own started (by kernel_rfl) Try.func3
    (witness_row_at (enc := enc) (C := Try.checked) false (World.holding Try.prog os ⟨#[], #[], []⟩) #[.int .i64 0, .int .i64 0] rfl (by kernel_rfl) (by kernel_rfl) (by kernel_rfl)
      (OpenSpec.preRow_of_cond 8 hx (by kernel_rfl) (fun k hk => by cases hk) (by kernel_rfl) (laid_met os))) ?_
  intro W base args ds gs before hval hW _ _ hsz hL _ _
  exact contract H enc W base args ds gs before hval hW hsz

theorem said : Rows.WheelFullSaid :=
  OpenClaim.holds_of_cond 3 Try.f3 rfl rfl rfl rfl rfl rfl rfl ⟨rfl, rfl, rfl, rfl, rfl⟩ rfl rfl rfl rfl rfl (by kernel_rfl) Try.func3 (by kernel_rfl)
    (of_decide_eq_true (by kernel_rfl)) (by unfold Func.isWrapper; first | (rw [if_pos (by decide +kernel)]; kernel_rfl) | (rw [if_neg (by decide +kernel)]; exact ⟨rfl, rfl⟩))
    (fun os started H enc _ F => by rw [OpenClaim.pre_eq_preRow]; exact lifted os started H enc F)
end LWheelFull
end Go.Proofs.Ytipnfalmnoieiaa
