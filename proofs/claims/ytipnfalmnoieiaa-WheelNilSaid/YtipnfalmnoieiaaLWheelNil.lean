/- WheelNil: for every number the law returns true. -/
import Derived.Test.YtipnfalmnoieiaaWheelAwake
import Derived.Test.YtipnfalmnoieiaaLaw
namespace Go.Proofs.Ytipnfalmnoieiaa
open Go.RowKit Go.Shelf Go.Lib Go.Sort Go.Maps

set_option maxRecDepth 100000 in
theorem nil_set (a id : Int) (w : World) : Calls Try.prog 11 #[.pointer none, .int .i64 a, .int .i64 id] w fun e w' => e = .returned (.int .i64 1) ∧ w = w' := by
  go_enter Try.func11, Try.ntmps11
  go_wp2_with fail
  go_ret
  exact ⟨rfl, rfl⟩
set_option maxRecDepth 100000 in
theorem nil_stop (id : Int) (w : World) : Calls Try.prog 15 #[.pointer none, .int .i64 id] w fun e w' => e = .returned (.bool false) ∧ w = w' := by
  go_enter Try.func15, Try.ntmps15
  go_wp2_with fail
  go_ret
  exact ⟨rfl, rfl⟩
set_option maxRecDepth 100000 in
theorem nil_due (n : Int) (w : World) : Calls Try.prog 13 #[.pointer none, .int .i64 n] w fun e w' => e = .returned (.slice none 0 0) ∧ w = w' := by
  go_enter Try.func13, Try.ntmps13
  go_wp2_with fail
  go_ret
  exact ⟨rfl, rfl⟩
set_option maxRecDepth 100000 in
theorem nil_all (w : World) : Calls Try.prog 14 #[.pointer none] w fun e w' => e = .returned (.slice none 0 0) ∧ w = w' := by
  go_enter Try.func14, Try.ntmps14
  go_wp2_with fail
  go_ret
  exact ⟨rfl, rfl⟩
set_option maxRecDepth 100000 in
theorem nil_clock (w : World) : Calls Try.prog 20 #[.pointer none] w fun e w' => e = .returned (.int .i64 0) ∧ w = w' := by
  go_enter Try.func20, Try.ntmps20
  go_wp2_with fail
  go_ret
  exact ⟨rfl, rfl⟩
set_option maxRecDepth 100000 in
theorem nil_next (w : World) : Calls Try.prog 12 #[.pointer none] w fun e w' => e = .returned (.tuple #[.agg #[.int .i64 0, .int .i64 0], .bool false]) ∧ Below w.heap.size w w' := by
  go_enter Try.func12, Try.ntmps12
  go_wp2_with fail
  exact bodyPost_ret (v := .tuple #[.agg #[.int .i64 0, .int .i64 0], .bool false]) (by simp [results, Try.results12, go_sem]) rfl ⟨rfl, bOld _⟩
theorem all_is (p : Nat) (F : Nat → Prop) (L : List (Int × Int)) (n : Nat) (hn : Hid (L.length = n)) (clk : Int) (w0 w : World) (h : WB w0 w p F L clk) :
    Calls Try.prog 14 #[.pointer (some ⟨p, 0, none⟩)] w fun e w' => (∃ ao cap, e = .returned (.slice ao n cap) ∧ SlF w' F ao L) ∧ Below w.heap.size w w' := by
  refine (all_any p F L clk w h.whl).mono ?_
  rintro e w' ⟨⟨ao, cap, rfl, hs, ha⟩, hB⟩
  rw [hn.out]
  exact ⟨⟨ao, cap, rfl, hs, fun a e => ⟨(ha a e).2, fun hF => by have := h.whl.lt _ hF; have := (ha a e).1; omega⟩⟩, hB⟩
theorem stop_is (p : Nat) (F : Nat → Prop) (L L' : List (Int × Int)) (clk id : Int) (b : Bool) (hwf : (Lit.int .i64 id).wf = true) (hL : Hid (outL L id = L')) (hb : Hid (decide (id ∈ idsL L) = b)) (w0 w : World) (h : WB w0 w p F L clk) :
    Calls Try.prog 15 #[.pointer (some ⟨p, 0, none⟩), .int .i64 id] w fun e w' => e = .returned (.bool b) ∧ WB w0 w' p F L' clk ∧ KeptS F w w' := by
  refine (stop_any p F L clk id hwf w h.whl).mono ?_
  rintro e w' ⟨rfl, h1, h2⟩
  rw [hb.out]
  rw [hL.out] at h1
  exact ⟨rfl, h.same h1 h2, h2⟩

set_option maxRecDepth 100000 in
set_option maxHeartbeats 4000000 in
theorem wheelNil_walk (a : Int) (w : World) :
    Calls Try.prog 8 #[.int .i64 a] w fun e w' => e = .returned (.bool true) ∧ Below w.heap.size w w' := by
  go_enter Try.func8, Try.ntmps8
  go_upto_region 3 with fail
  have hW0 : WL (w.alloc (.cells #[.slice none 0 0, .map none, .int .i64 0] 52)) w.heap.size (fun k => k = w.heap.size) [] 0 :=
    ⟨List.Pairwise.nil, by simp [idsL], (fun x hx => by cases hx), by simp, .inl ⟨rfl, Blk.new _ _ _, fun _ => Iff.rfl⟩⟩
  have H1 : Hid (WB w (w.alloc (.cells #[.slice none 0 0, .map none, .int .i64 0] 52)) w.heap.size (fun k => k = w.heap.size) [] 0) := ⟨hW0, bOld _, fun k e => Nat.le_of_eq e.symm⟩
  obtain ⟨p, hp⟩ := nm w.heap.size
  obtain ⟨F1, hF1⟩ := nm (fun k => k = w.heap.size)
  obtain ⟨w1, hw1⟩ := nm (w.alloc (.cells #[.slice none 0 0, .map none, .int .i64 0] 52))
  rw [← hw1.out, ← hF1.out, ← hp.out] at H1
  rw [← hw1.out, ← hp.out]
  clear hW0
  go_wp2_with fail
  refine (nil_next _).mono ?_; rintro e w2 ⟨rfl, hB⟩
  have H2 := Lib.hid ((H1.out.more hB).more (bOld (w := w2) (.cells #[.int .i64 0, .int .i64 0] 28)))
  clear hB
  go_wp2_with fail
  refine (next_none p F1 0 _ H2.out.whl).mono ?_; rintro e w3 ⟨rfl, hB⟩
  have H3 := Lib.hid ((H2.out.more hB).more (bOld (w := w3) (.cells #[.int .i64 0, .int .i64 0] 28)))
  clear hB
  go_wp2_with fail
  refine (awake_any _).mono ?_; rintro e w4 ⟨rfl, hB⟩
  have H4 := Lib.hid (H3.out.more hB)
  clear hB
  go_wp2_with fail
  refine (nil_set a 1 _).mono ?_; rintro e w5 ⟨rfl, rfl⟩
  go_wp2_with fail
  refine (nil_stop 1 _).mono ?_; rintro e w5 ⟨rfl, rfl⟩
  go_wp2_with fail
  refine (stop_is p F1 [] [] 0 1 false (by decide) (by show _ = _; rfl) (by show _ = _; simp [idsL]) w _ H4.out).mono ?_; rintro e w5 ⟨rfl, hH, hk⟩
  have H5 := Lib.hid hH
  clear hH hk
  go_wp2_with fail
  refine (nil_due a _).mono ?_; rintro e w6 ⟨rfl, rfl⟩
  go_wp2_with fail
  refine (nil_all _).mono ?_; rintro e w6 ⟨rfl, rfl⟩
  go_wp2_with fail
  refine (nil_clock _).mono ?_; rintro e w6 ⟨rfl, rfl⟩
  go_wp2_with fail
  refine (all_is p F1 [] 0 (by show _ = _; rfl) 0 w _ H5.out).mono ?_; rintro e w6 ⟨⟨al, cl, rfl, hSl⟩, hB⟩
  have H6 := Lib.hid (H5.out.more hB)
  clear hB hSl
  go_wp2_with fail
  refine (set_is p F1 [] [(1, 1)] 0 1 1 (by decide) (by decide) (by decide) (.inr (by decide)) (by show _ = _; decide) w _ H6.out).mono ?_; rintro e w7 ⟨rfl, F7, hH, hk, hf⟩
  have H7 := Lib.hid hH
  clear hH hk hf
  go_wp2_with fail
  refine (due_is p F7 [(1, 1)] [(1, 1)] [] 0 1 1 1 (by show _ = _; decide) (by show _ = _; decide) (by show _ = _; decide) (by show _ = _; rfl) w _ H7.out).mono ?_; rintro e w8 ⟨⟨a2, c2, rfl, hc2, hS2⟩, hH, hk⟩
  have HE := Lib.hid hH.below
  clear hS2 hH hk
  go_wp2_with fail
  go_ret
  exact ⟨rfl, HE.out⟩
namespace LWheelNil
open Go.ChangeShapes Go.WideShapes Go.ChangeAt
open Go.ChangeMaps (open_string shut_string)

set_option maxRecDepth 100000 in
theorem contract (H : Type) (enc : TypeId × Value → H) (W : World) (base : Nat) (args : Array Value) (ds gs : List (DataW H)) (before : List MemPlace)
    (hval : ∀ (j : Nat) t v, Try.f8.params[j]? = some t → args[j]? = some v → Value.okWide Try.prog W .any base t v)
    (hW : DataW.Whole enc Try.prog Try.f8.params.toList Rows.wheelNilSpec.vars false W args.toList ds gs before)
    (_hsz : (DataW.weightsEach Try.prog (Try.f8.params.toList ++ (OpenSpec.ofChange Rows.wheelNilSpec).bare.plain.varTypes Try.prog) (ds ++ gs)).all (fun x => decide (x ≤ reachBytes)) = true) :
    Calls Try.prog 8 args W fun e W' => ∃ v, e = .returned v ∧ Rows.wheelNilSpec.post enc Try.prog Try.f8 false true false false W args v W' := by
  have hW' := hW
  obtain ⟨p, q, hA0, hV, rfl, hfz, hnd⟩ := hW
  have hA : DataW.TrodAll enc Try.prog W 0 (fun _ => true) true Try.f8.params.toList args.toList ds p := hA0
  rw [Try.params8] at hA hval
  obtain ⟨v0, vs0, d0, ds0, p0, q0, hargs, rfl, rfl, h0, r0⟩ := trodAll_cons hA
  obtain ⟨rfl, rfl, rfl⟩ := trodAll_nil r0
  obtain rfl : args = #[v0] := by cases args; simp_all
  obtain ⟨rfl, rfl⟩ := trodVars_none hV
  obtain ⟨x0, rfl, rfl, rfl, k0⟩ := open_int Try.underlying3 (hval 0 3 v0 rfl rfl) h0
  clear hA0
  refine (wheelNil_walk x0 W).mono fun e W' ⟨he, hb⟩ => ?_
  subst he
  exact ⟨_, rfl, law_post laidOut Try.underlying4 rfl (by kernel_rfl) rfl rfl rfl rfl hW' hb⟩

theorem reads (os : Os) {H : Type} (enc : TypeId × Value → H) : ∃ places, DataW.whole enc Try.prog ((World.holding Try.prog os ⟨#[], #[], []⟩).forCall (fun _ _ => 0) ⟨#[], #[.int .i64 0], []⟩).memory Try.f8.params.toList Rows.wheelNilSpec.vars false (#[.int .i64 0] : Array Value).toList 8 = some ([.lit (.int .i64 0)], [], places) :=
  ⟨[], by kernel_rfl⟩
theorem laid_met (os : Os) : laidMet Try.prog Rows.wheelNilRow.laid ((World.holding Try.prog os ⟨#[], #[], []⟩).forCall (fun _ _ => 0) ⟨#[], #[.int .i64 0], []⟩).memory :=
  laidMet_of_run' 8 (by kernel_rfl) (by kernel_rfl)

set_option maxRecDepth 100000 in
theorem lifted (os : Os) (started : os.Started) (H : Type) (enc : TypeId × Value → H) (F : Stop.Interp) :
    ReturnsInHanded {} Try.checked os 8 .any ((OpenSpec.ofChange Rows.wheelNilSpec).preRow enc Try.prog Try.f8 Rows.wheelNilRow.domain false Rows.wheelNilRow.laid) (((OpenSpec.ofChange Rows.wheelNilSpec).at F).post enc Try.prog Try.f8 false true false false) := by
  obtain ⟨places, hx⟩ := reads os enc
  refine returnsInHanded_of_row (C := Try.checked) (s := OpenSpec.ofChange Rows.wheelNilSpec) own started (by kernel_rfl) Try.func8
    (witness_row_at (enc := enc) (C := Try.checked) false (World.holding Try.prog os ⟨#[], #[], []⟩) #[.int .i64 0] rfl (by kernel_rfl) (by kernel_rfl) (by kernel_rfl)
      (OpenSpec.preRow_of_cond 8 hx (by kernel_rfl) (fun k hk => by cases hk) (by kernel_rfl) (laid_met os))) ?_
  intro W base args ds gs before hval hW _ _ hsz hL _ _
  exact contract H enc W base args ds gs before hval hW hsz

theorem said : Rows.WheelNilSaid :=
  OpenClaim.holds_of_cond 8 Try.f8 rfl rfl rfl rfl rfl rfl rfl ⟨rfl, rfl, rfl, rfl, rfl⟩ rfl rfl rfl rfl rfl (by kernel_rfl) Try.func8 (by kernel_rfl)
    (of_decide_eq_true (by kernel_rfl)) (by unfold Func.isWrapper; first | (rw [if_pos (by decide +kernel)]; kernel_rfl) | (rw [if_neg (by decide +kernel)]; exact ⟨rfl, rfl⟩))
    (fun os started H enc _ F => by rw [OpenClaim.pre_eq_preRow]; exact lifted os started H enc F)
end LWheelNil
end Go.Proofs.Ytipnfalmnoieiaa
