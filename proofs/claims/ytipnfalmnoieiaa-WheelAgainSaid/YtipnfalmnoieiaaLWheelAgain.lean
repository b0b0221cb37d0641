/- WheelAgain: for every two times and every number the law returns true. -/
import Derived.Test.YtipnfalmnoieiaaWheelAwake
import Derived.Test.YtipnfalmnoieiaaBytes
import Derived.Test.YtipnfalmnoieiaaLaw
namespace Go.Proofs.Ytipnfalmnoieiaa
open Go.RowKit Go.Shelf Go.Lib Go.Sort Go.Maps

theorem setL_nil (a id : Int) : setL [] a id = [(a, id)] := by simp [setL, outL, insD]
theorem setL_one (a b id : Int) : setL [(a, id)] b id = [(b, id)] := by simp [setL, outL, insD]
theorem stop_is (p : Nat) (F : Nat → Prop) (L L' : List (Int × Int)) (clk id : Int) (b : Bool) (hwf : (Lit.int .i64 id).wf = true) (hL : Hid (outL L id = L')) (hb : Hid (decide (id ∈ idsL L) = b)) (w0 w : World) (h : WB w0 w p F L clk) :
    Calls Try.prog 15 #[.pointer (some ⟨p, 0, none⟩), .int .i64 id] w fun e w' => e = .returned (.bool b) ∧ WB w0 w' p F L' clk ∧ KeptS F w w' := by
  refine (stop_any p F L clk id hwf w h.whl).mono ?_
  rintro e w' ⟨rfl, h1, h2⟩
  rw [hb.out]
  rw [hL.out] at h1
  exact ⟨rfl, h.same h1 h2, h2⟩
theorem all_is (p : Nat) (F : Nat → Prop) (L : List (Int × Int)) (n : Nat) (hn : Hid (L.length = n)) (clk : Int) (w0 w : World) (h : WB w0 w p F L clk) :
    Calls Try.prog 14 #[.pointer (some ⟨p, 0, none⟩)] w fun e w' => (∃ ao cap, e = .returned (.slice ao n cap) ∧ SlF w' F ao L) ∧ Below w.heap.size w w' := by
  refine (all_any p F L clk w h.whl).mono ?_
  rintro e w' ⟨⟨ao, cap, rfl, hs, ha⟩, hB⟩
  rw [hn.out]
  exact ⟨⟨ao, cap, rfl, hs, fun a e => ⟨(ha a e).2, fun hF => by have := h.whl.lt _ hF; have := (ha a e).1; omega⟩⟩, hB⟩

set_option maxRecDepth 100000 in
set_option maxHeartbeats 4000000 in
theorem wheelAgain_walk (a b id : Int) (hwf : (Lit.int .i64 id).wf = true) (w : World) :
    Calls Try.prog 5 #[.int .i64 a, .int .i64 b, .int .i64 id] w fun e w' => e = .returned (.bool true) ∧ Below w.heap.size w w' := by
  obtain ⟨X, hX1, hX2⟩ := and_mask a 1125899906842623 (by decide)
  obtain ⟨Y, hY1, hY2⟩ := and_mask b 1125899906842623 (by decide)
  have hX3 : bits .and .i64 a 1125899906842623 = (X : Int) := hX2
  have hY3 : bits .and .i64 b 1125899906842623 = (Y : Int) := hY2
  clear hX2 hY2
  go_enter Try.func5, Try.ntmps5
  go_wp2_with fail
  refine (awake_any _).mono ?_; rintro e w1 ⟨rfl, hB⟩
  have HB1 := Lib.hid hB
  clear hB
  go_wp2_with fail
  refine (new_any _).mono ?_; rintro e w2 ⟨rfl, hW, hB⟩
  have H1 : Hid (WB w w2 w1.heap.size (fun k => k = w1.heap.size) [] 0) := ⟨hW, bNext HB1.out hB, fun k e => by rw [e]; exact HB1.out.size⟩
  obtain ⟨p, hp⟩ := nm w1.heap.size
  obtain ⟨F1, hF1⟩ := nm (fun k => k = w1.heap.size)
  rw [← hp.out]
  rw [← hF1.out, ← hp.out] at H1
  clear hW hB HB1
  go_wp2_with fail
  refine (set_is p F1 [] [((X : Int), id)] 0 X id hwf (by omega) (by omega) (.inr (by decide)) (setL_nil _ _) w _ H1.out).mono ?_; rintro e w3 ⟨rfl, F2, hH, hk, hf⟩
  have H2 := Lib.hid hH
  clear hH hk hf
  go_wp2_with fail
  refine (set_is p F2 [((X : Int), id)] [((Y : Int), id)] 0 Y id hwf (by omega) (by omega) (.inr (by simp)) (setL_one _ _ _) w _ H2.out).mono ?_; rintro e w4 ⟨rfl, F3, hH, hk, hf⟩
  have H3 := Lib.hid hH
  clear hH hk hf
  go_wp2_with fail
  refine (all_is p F3 [((Y : Int), id)] 1 (by show _ = _; rfl) 0 w _ H3.out).mono ?_; rintro e w5 ⟨⟨al, cl, rfl, hSl⟩, hB⟩
  have H4 := Lib.hid (H3.out.more hB)
  have HSL := Lib.hid hSl
  obtain ⟨bl, ol, rfl, hbl, h3⟩ := hSl.1 0 (by simp)
  obtain ⟨d0, d1⟩ := h3 0 (Y, id) rfl
  simp only [Nat.zero_mul, Nat.add_zero] at d0 d1
  have hn1 : ((Y : Int) != (Y : Int)) = false := by simp
  have hn2 : (id != id) = false := by simp
  clear hB hSl h3
  go_upto_region 12 with fail
  go_cut [72] (fun c wx => c = .bool false ∧ ∃ C : Int, Hid (dueC C Y = Y) ∧ WB w wx p F3 [((Y : Int), id)] C ∧ SlF wx F3 (some ⟨bl, ol, none⟩) [((Y : Int), id)])
  case first =>
    by_cases hy : 0 < Y
    · have hyd : decide (0 < Y) = true := decide_eq_true hy
      have hyi : decide ((0 : Int) < (Y : Int)) = true := decide_eq_true (by omega)
      have hC1 : Hid (dueC 0 ((Y : Int) - 1) = (Y : Int) - 1) := by show _ = _; unfold dueC; rw [if_pos (by omega)]; omega
      have hD1 : Hid (dueL [((Y : Int), id)] ((Y : Int) - 1) = []) := by show _ = _; simp [dueL]; omega
      have hR1 : Hid (restL [((Y : Int), id)] ((Y : Int) - 1) = [((Y : Int), id)]) := by show _ = _; simp [restL]; omega
      have hC2 : Hid (dueC ((Y : Int) - 1) Y = Y) := by show _ = _; unfold dueC; rw [if_pos (by omega)]; omega
      clear d0 d1 hn1 hn2
      go_wp2_with fail
      refine (due_is p F3 _ [] _ 0 ((Y : Int) - 1) _ 0 hC1 hD1 hR1 (by show _ = _; rfl) w _ H4.out).mono ?_; rintro e w6 ⟨⟨a6, c6, rfl, hc6, hS6⟩, hH, hk⟩
      have H6 := Lib.hid hH
      have HS6 := Lib.hid (HSL.out.same hk)
      clear hH hk hS6
      go_wp2_with fail
      go_meet
      exact ⟨rfl, _, hC2, H6.out, HS6.out⟩
    · have hyd : decide (0 < Y) = false := decide_eq_false hy
      have hyi : decide ((0 : Int) < (Y : Int)) = false := decide_eq_false (by omega)
      have hC2 : Hid (dueC 0 Y = Y) := by show _ = _; unfold dueC; rw [if_pos (by omega)]; omega
      go_wp2_with fail
      go_meet
      exact ⟨rfl, 0, hC2, H4.out, HSL.out⟩
  obtain ⟨rfl, C, hC, hW, hS⟩ := hcut
  have H5 := Lib.hid hW
  have HS5 := Lib.hid hS
  have hD2 : Hid (dueL [((Y : Int), id)] Y = [((Y : Int), id)]) := by show _ = _; simp [dueL]
  have hR2 : Hid (restL [((Y : Int), id)] Y = []) := by show _ = _; simp [restL]
  clear hW hS d0 d1 hn1 hn2
  go_wp2_with fail
  refine (due_is p F3 _ [((Y : Int), id)] [] C Y Y 1 hC hD2 hR2 (by show _ = _; rfl) w _ H5.out).mono ?_; rintro e w6 ⟨⟨am, cm, rfl, hcm, hSm⟩, hH, hk⟩
  have H6 := Lib.hid hH
  have HS6 := Lib.hid (HS5.out.same hk)
  have HM6 := Lib.hid hSm
  clear hH hk hSm
  go_wp2_with fail
  refine (set_is p F3 [] [((Y : Int), id)] Y Y id hwf (by omega) (by omega) (.inr (by decide)) (setL_nil _ _) w _ H6.out).mono ?_; rintro e w7 ⟨rfl, F7, hH, hk, hf⟩
  have H7 := Lib.hid hH
  have HS7 := Lib.hid (HS6.out.set hk hf)
  have HM7 := Lib.hid (HM6.out.set hk hf)
  clear hH hk hf
  go_wp2_with fail
  refine (stop_is p F7 [((Y : Int), id)] [] Y id true hwf (by show _ = _; simp [outL]) (by show _ = _; simp [idsL]) w _ H7.out).mono ?_; rintro e w8 ⟨rfl, hH, hk⟩
  have H8 := Lib.hid hH
  have HS8 := Lib.hid (HS7.out.same hk)
  have HM8 := Lib.hid (HM7.out.same hk)
  clear hH hk
  go_wp2_with fail
  refine (stop_is p F7 [] [] Y id false hwf (by show _ = _; simp [outL]) (by show _ = _; simp [idsL]) w _ H8.out).mono ?_; rintro e w9 ⟨rfl, hH, hk⟩
  have HS9 := HS8.out.same hk
  have HM9 := HM8.out.same hk
  obtain ⟨bm, om, rfl, hbm, h3⟩ := HM9.1 0 (by simp)
  obtain ⟨e0, e1⟩ := h3 0 (Y, id) rfl
  obtain ⟨bl', ol', hll, hbl', h4⟩ := HS9.1 0 (by simp)
  obtain ⟨rfl, rfl⟩ : bl = bl' ∧ ol = ol' := by simpa using hll
  obtain ⟨d0, d1⟩ := h4 0 (Y, id) rfl
  simp only [Nat.zero_mul, Nat.add_zero] at d0 d1 e0 e1
  have H9 := Lib.hid hH
  have heq := fun w => eqlD (Y : Int) id Y id true (by simp) w
  have hgd := fun (a b : Operand) (w : World) => guardD .eql a b #[.int .i64 (Y : Int), .int .i64 id] #[.int .i64 (Y : Int), .int .i64 id] w
  have hC9 : Hid (dueC Y 1125899906842624 = 1125899906842624) := by show _ = _; unfold dueC; rw [if_pos (by omega)]; omega
  have HD9 : Hid (WB w w9.drew p F7 [] Y) := H9.out.more (below_drewN (Below.refl _ _) 1)
  clear hH hk HS9 HM9 h3 h4 hll
  go_wp2_with fail
  refine wp_region_still_tail 28 (by kernel_rfl) (by kernel_rfl) ?_
  simp only [List.take_succ_cons, List.take_zero, List.drop_succ_cons, List.drop_zero]
  change wpStill _ _ (World.drew _) (fun a' => wpList _ _ _ _ a' (World.drew _)) _ _
  repeat still_step
  refine wpStill_nil ?_
  clear d0 d1 e0 e1 heq hgd
  go_wp2_with fail
  refine (due_is p F7 [] [] [] Y 1125899906842624 1125899906842624 0 hC9 (by show _ = _; rfl) (by show _ = _; rfl) (by show _ = _; rfl) w _ HD9.out).mono ?_; rintro e w10 ⟨⟨a10, c10, rfl, hc10, hS10⟩, hH, hk⟩
  have HE := Lib.hid hH.below
  clear hH hk hS10
  go_wp2_with fail
  go_ret
  exact ⟨rfl, HE.out⟩
namespace LWheelAgain
open Go.ChangeShapes Go.WideShapes Go.ChangeAt
open Go.ChangeMaps (open_string shut_string)

set_option maxRecDepth 100000 in
theorem contract (H : Type) (enc : TypeId × Value → H) (W : World) (base : Nat) (args : Array Value) (ds gs : List (DataW H)) (before : List MemPlace)
    (hval : ∀ (j : Nat) t v, Try.f5.params[j]? = some t → args[j]? = some v → Value.okWide Try.prog W .any base t v)
    (hW : DataW.Whole enc Try.prog Try.f5.params.toList Rows.wheelAgainSpec.vars false W args.toList ds gs before)
    (_hsz : (DataW.weightsEach Try.prog (Try.f5.params.toList ++ (OpenSpec.ofChange Rows.wheelAgainSpec).bare.plain.varTypes Try.prog) (ds ++ gs)).all (fun x => decide (x ≤ reachBytes)) = true) :
    Calls Try.prog 5 args W fun e W' => ∃ v, e = .returned v ∧ Rows.wheelAgainSpec.post enc Try.prog Try.f5 false true false false W args v W' := by
  have hW' := hW
  obtain ⟨p, q, hA0, hV, rfl, hfz, hnd⟩ := hW
  have hA : DataW.TrodAll enc Try.prog W 0 (fun _ => true) true Try.f5.params.toList args.toList ds p := hA0
  rw [Try.params5] at hA hval
  obtain ⟨v0, vs0, d0, ds0, p0, q0, hargs, rfl, rfl, h0, r0⟩ := trodAll_cons hA
  obtain ⟨v1, vs1, d1, ds1, p1, q1, rfl, rfl, rfl, h1, r1⟩ := trodAll_cons r0
  obtain ⟨v2, vs2, d2, ds2, p2, q2, rfl, rfl, rfl, h2, r2⟩ := trodAll_cons r1
  obtain ⟨rfl, rfl, rfl⟩ := trodAll_nil r2
  obtain rfl : args = #[v0, v1, v2] := by cases args; simp_all
  obtain ⟨rfl, rfl⟩ := trodVars_none hV
  obtain ⟨x0, rfl, rfl, rfl, k0⟩ := open_int Try.underlying3 (hval 0 3 v0 rfl rfl) h0
  obtain ⟨x1, rfl, rfl, rfl, k1⟩ := open_int Try.underlying3 (hval 1 3 v1 rfl rfl) h1
  obtain ⟨x2, rfl, rfl, rfl, k2⟩ := open_int Try.underlying3 (hval 2 3 v2 rfl rfl) h2
  clear hA0
  refine (wheelAgain_walk x0 x1 x2 k2 W).mono fun e W' ⟨he, hb⟩ => ?_
  subst he
  exact ⟨_, rfl, law_post laidOut Try.underlying4 rfl (by kernel_rfl) rfl rfl rfl rfl hW' hb⟩

theorem reads (os : Os) {H : Type} (enc : TypeId × Value → H) : ∃ places, DataW.whole enc Try.prog ((World.holding Try.prog os ⟨#[], #[], []⟩).forCall (fun _ _ => 0) ⟨#[], #[.int .i64 0, .int .i64 0, .int .i64 0], []⟩).memory Try.f5.params.toList Rows.wheelAgainSpec.vars false (#[.int .i64 0, .int .i64 0, .int .i64 0] : Array Value).toList 8 = some ([.lit (.int .i64 0), .lit (.int .i64 0), .lit (.int .i64 0)], [], places) :=
  ⟨[], by kernel_rfl⟩
theorem laid_met (os : Os) : laidMet Try.prog Rows.wheelAgainRow.laid ((World.holding Try.prog os ⟨#[], #[], []⟩).forCall (fun _ _ => 0) ⟨#[], #[.int .i64 0, .int .i64 0, .int .i64 0], []⟩).memory :=
  laidMet_of_run' 8 (by kernel_rfl) (by kernel_rfl)

set_option maxRecDepth 100000 in
theorem lifted (os : Os) (started : os.Started) (H : Type) (enc : TypeId × Value → H) (F : Stop.Interp) :
    ReturnsInHanded {} Try.checked os 5 .any ((OpenSpec.ofChange Rows.wheelAgainSpec).preRow enc Try.prog Try.f5 Rows.wheelAgainRow.domain false Rows.wheelAgainRow.laid) (((OpenSpec.ofChange Rows.wheelAgainSpec).at F).post enc Try.prog Try.f5 false true false false) := by
  obtain ⟨places, hx⟩ := reads os enc
  refine returnsInHanded_of_row (C := Try.checked) (s := OpenSpec.ofChange Rows.wheelAgainSpec) own started (by kernel_rfl) Try.func5
    (witness_row_at (enc := enc) (C := Try.checked) false (World.holding Try.prog os ⟨#[], #[], []⟩) #[.int .i64 0, .int .i64 0, .int .i64 0] rfl (by kernel_rfl) (by kernel_rfl) (by kernel_rfl)
      (OpenSpec.preRow_of_cond 8 hx (by kernel_rfl) (fun k hk => by cases hk) (by kernel_rfl) (laid_met os))) ?_
  intro W base args ds gs before hval hW _ _ hsz hL _ _
  exact contract H enc W base args ds gs before hval hW hsz

theorem said : Rows.WheelAgainSaid :=
  OpenClaim.holds_of_cond 5 Try.f5 rfl rfl rfl rfl rfl rfl rfl ⟨rfl, rfl, rfl, rfl, rfl⟩ rfl rfl rfl rfl rfl (by kernel_rfl) Try.func5 (by kernel_rfl)
    (of_decide_eq_true (by kernel_rfl)) (by unfold Func.isWrapper; first | (rw [if_pos (by decide +kernel)]; kernel_rfl) | (rw [if_neg (by decide +kernel)]; exact ⟨rfl, rfl⟩))
    (fun os started H enc _ F => by rw [OpenClaim.pre_eq_preRow]; exact lifted os started H enc F)
end LWheelAgain
end Go.Proofs.Ytipnfalmnoieiaa
