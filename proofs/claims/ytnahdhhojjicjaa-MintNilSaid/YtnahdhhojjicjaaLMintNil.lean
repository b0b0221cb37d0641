/- MintNil: for every number the law returns true. -/
import Derived.Test.YtnahdhhojjicjaaMintAwake
import Derived.Test.YtnahdhhojjicjaaLaw
namespace Go.Proofs.Ytnahdhhojjicjaa
open Go.RowKit

set_option maxRecDepth 100000 in
set_option maxHeartbeats 400000 in
theorem nfine (w : World) :
    Calls Try.prog 31 #[.pointer none] w fun e w' => e = .returned (.bool false) ∧ w = w' := by
  go_enter Try.func31, Try.ntmps31
  go_wp2
  go_ret
  exact ⟨rfl, rfl⟩

set_option maxRecDepth 100000 in
set_option maxHeartbeats 400000 in
theorem ntears (w : World) :
    Calls Try.prog 40 #[.pointer none] w fun e w' => e = .returned (.tuple #[]) ∧ w = w' := by
  go_enter Try.func40, Try.ntmps40
  go_wp2
  go_end0
  exact ⟨rfl, rfl⟩

set_option maxRecDepth 100000 in
set_option maxHeartbeats 400000 in
theorem nnum (w : World) :
    Calls Try.prog 23 #[.pointer none] w fun e w' => e = .returned (.int .u64 0) ∧ w = w' := by
  go_enter Try.func23, Try.ntmps23
  go_wp2_with fail
  go_step3
  go_wp2_with (go_at_call 31; refine (nfine w).mono ?_; rintro e w1 ⟨rfl, rfl⟩)
  first | go_ret | (rw [Exit.noGoto_ret]; go_ret)
  exact ⟨rfl, rfl⟩

set_option maxRecDepth 100000 in
set_option maxHeartbeats 400000 in
theorem nint (most : Int) (w : World) (hm : most ≤ 9223372036854775807) :
    Calls Try.prog 25 #[.pointer none, .int .i64 most] w fun e w' => e = .returned (.int .i64 0) ∧ w = w' := by
  by_cases h0 : most < 0
  · go_enter Try.func25, Try.ntmps25
    go_wp2_with fail
    refine (nnum w).mono ?_; rintro e w1 ⟨rfl, rfl⟩
    go_wp2_with fail
    refine (ntears w).mono ?_; rintro e w1 ⟨rfl, rfl⟩
    go_wp2_with fail
    go_ret
    exact ⟨rfl, rfl⟩
  · obtain ⟨M, rfl⟩ : ∃ M : Nat, most = M := ⟨most.toNat, by omega⟩
    go_enter Try.func25, Try.ntmps25
    go_wp2_with fail
    refine (nnum w).mono ?_; rintro e w1 ⟨rfl, rfl⟩
    go_wp2_with fail
    go_ret
    exact ⟨rfl, rfl⟩

set_option maxRecDepth 100000 in
set_option maxHeartbeats 400000 in
theorem ntext (most : Int) (w : World) (hm : most ≤ 9223372036854775807) :
    Calls Try.prog 27 #[.pointer none, .int .i64 most] w fun e w' => e = .returned (.string ⟨#[]⟩) ∧ w = w' := by
  go_enter Try.func27, Try.ntmps27
  go_wp2_with fail
  refine (nint most w hm).mono ?_; rintro e w1 ⟨rfl, rfl⟩
  go_wp2_with (go_at_call 31; refine (nfine w).mono ?_; rintro e w1 ⟨rfl, rfl⟩)
  refine (ntears w).mono ?_; rintro e w1 ⟨rfl, rfl⟩
  go_wp2_with fail
  go_ret
  exact ⟨rfl, rfl⟩

set_option maxRecDepth 100000 in
set_option maxHeartbeats 400000 in
theorem nleft (w : World) :
    Calls Try.prog 32 #[.pointer none] w fun e w' => e = .returned (.string ⟨#[]⟩) ∧ w = w' := by
  go_enter Try.func32, Try.ntmps32
  go_wp2_with (go_at_call 31; refine (nfine w).mono ?_; rintro e w1 ⟨rfl, rfl⟩)
  go_ret
  exact ⟨rfl, rfl⟩

set_option maxRecDepth 100000 in
set_option maxHeartbeats 400000 in
theorem nend (w : World) :
    Calls Try.prog 34 #[.pointer none] w fun e w' => e = .returned (.int .i64 10) ∧ w = w' := by
  go_enter Try.func34, Try.ntmps34
  go_wp2_with (go_at_call 31; refine (nfine w).mono ?_; rintro e w1 ⟨rfl, rfl⟩)
  go_ret
  exact ⟨rfl, rfl⟩

set_option maxRecDepth 100000 in
set_option maxHeartbeats 400000 in
theorem nnums (many most : Int) (w : World) (hm : many ≤ 9223372036854775807) :
    Calls Try.prog 29 #[.pointer none, .int .i64 many, .int .i64 most] w fun e w' => e = .returned (.slice none 0 0) ∧ Below w.heap.size w w' := by
  go_enter Try.func29, Try.ntmps29
  go_wp2_with fail
  refine (nint many _ hm).mono ?_; rintro e w1 ⟨rfl, rfl⟩
  go_wp2_with fail
  go_loop [13] (fun i => i = .int .i64 0) (fun _ => 0)
  case atStart => rfl
  case round =>
    obtain rfl := hrel
    go_wp2_with fail
    go_ret
    exact ⟨rfl, ((bOld _).alloc (by simp) _).alloc (by simp <;> omega) _⟩

set_option maxRecDepth 100000 in
set_option maxHeartbeats 4000000 in
theorem mintNil_walk (most : Int) (hm : most ≤ 9223372036854775807) (w : World) :
    Calls Try.prog 7 #[.int .i64 most] w fun e w' => e = .returned (.bool true) ∧ Below w.heap.size w w' := by
  go_enter Try.func7, Try.ntmps7
  have hz : IsRd (w.alloc (.cells (Rd.cells ⟨⟨#[]⟩, false⟩) 50)) w.heap.size ⟨⟨#[]⟩, false⟩ := Blk.new _ _ _
  have hB := bOld (w := w) (.cells (Rd.cells ⟨⟨#[]⟩, false⟩) 50)
  have r0 : (Rd.mk ⟨#[]⟩ false).num = (⟨⟨#[]⟩, true⟩, 0) := by kernel_rfl
  have f0 : (Rd.mk ⟨#[]⟩ false).fin = 0 := by kernel_rfl
  have R0 := Lib.hid r0
  have F0 := Lib.hid f0
  clear r0 f0
  go_wp2_with fail
  refine (nnum _).mono ?_; rintro e w1 ⟨rfl, rfl⟩
  go_wp2_with fail
  refine (nint most _ hm).mono ?_; rintro e w1 ⟨rfl, rfl⟩
  go_wp2_with fail
  refine (ntext most _ hm).mono ?_; rintro e w1 ⟨rfl, rfl⟩
  go_wp2_with fail
  refine (nnums most most _ hm).mono ?_; rintro e w1 ⟨rfl, hB1⟩
  replace hz := Blk.below hz hB1 hz.lt
  replace hB := bNext hB hB1
  clear hB1
  go_wp2_with fail
  refine (awake_any _).mono ?_; rintro e w2 ⟨rfl, hB1⟩
  replace hz := Blk.below hz hB1 hz.lt
  replace hB := bNext hB hB1
  clear hB1
  go_wp2_with fail
  refine (nleft _).mono ?_; rintro e w3 ⟨rfl, rfl⟩
  go_wp2_with fail
  refine (nfine _).mono ?_; rintro e w3 ⟨rfl, rfl⟩
  go_wp2_with fail
  refine (nend _).mono ?_; rintro e w3 ⟨rfl, rfl⟩
  go_wp2_with fail
  refine (fine_is false true rfl _ _ _ hz).mono ?_; rintro e w3 ⟨rfl, rfl⟩
  go_wp2_with fail
  refine (rend_any _ _ _ hz).mono ?_; rintro e w3 ⟨rfl, rfl⟩
  rw [F0.out]
  go_wp2_with fail
  refine (rnum_any _ _ _ hz (by decide)).mono ?_; rintro e w3 ⟨rfl, hz3, hk⟩
  rw [R0.out] at hz3 ⊢
  have hB3 := bKept hB hk (Nat.le_refl _)
  clear hk
  go_wp2_with fail
  refine (fine_is true false rfl _ _ _ hz3).mono ?_; rintro e w3 ⟨rfl, rfl⟩
  go_wp2_with fail
  go_ret
  exact ⟨rfl, hB3⟩

theorem mintNil_walkI (x0 : Int) (k0 : (Lit.int .i64 x0).wf = true) (w : World) :
    Calls Try.prog 7 #[.int .i64 x0] w fun e w' => e = .returned (.bool true) ∧ Below w.heap.size w w' :=
  mintNil_walk x0 (Go.bounds_i64 k0).2 w

namespace LMintNil
open Go.ChangeShapes Go.WideShapes Go.ChangeAt
open Go.ChangeMaps (open_string shut_string)

theorem contract (H : Type) (enc : TypeId × Value → H) (W : World) (base : Nat) (args : Array Value) (ds gs : List (DataW H)) (before : List MemPlace)
    (hval : ∀ (j : Nat) t v, Try.f7.params[j]? = some t → args[j]? = some v → Value.okWide Try.prog W .any base t v)
    (hW : DataW.Whole enc Try.prog Try.f7.params.toList Rows.mintNilSpec.vars false W args.toList ds gs before)
    (_hsz : (DataW.weightsEach Try.prog (Try.f7.params.toList ++ (OpenSpec.ofChange Rows.mintNilSpec).bare.plain.varTypes Try.prog) (ds ++ gs)).all (fun x => decide (x ≤ reachBytes)) = true) :
    Calls Try.prog 7 args W fun e W' => ∃ v, e = .returned v ∧ Rows.mintNilSpec.post enc Try.prog Try.f7 false true false false W args v W' := by
  have hW' := hW
  obtain ⟨p, q, hA0, hV, rfl, hfz, hnd⟩ := hW
  have hA : DataW.TrodAll enc Try.prog W 0 (fun _ => true) true Try.f7.params.toList args.toList ds p := hA0
  rw [Try.params7] at hA hval
  obtain ⟨v0, vs0, d0, ds0, p0, q0, hargs, rfl, rfl, h0, r0⟩ := trodAll_cons hA
  obtain ⟨rfl, rfl, rfl⟩ := trodAll_nil r0
  obtain rfl : args = #[v0] := by cases args; simp_all
  obtain ⟨rfl, rfl⟩ := trodVars_none hV
  obtain ⟨x0, rfl, rfl, rfl, k0⟩ := open_int Try.underlying3 (hval 0 3 v0 rfl rfl) h0
  clear hA0
  refine (mintNil_walkI x0 k0 W).mono fun e W' ⟨he, hb⟩ => ?_
  subst he
  exact ⟨_, rfl, law_post laidOut Try.underlying4 rfl (by kernel_rfl) rfl rfl rfl rfl hW' hb⟩

theorem reads (os : Os) {H : Type} (enc : TypeId × Value → H) : ∃ places, DataW.whole enc Try.prog ((World.holding Try.prog os ⟨#[], #[], []⟩).forCall (fun _ _ => 0) ⟨#[], #[.int .i64 0], []⟩).memory Try.f7.params.toList Rows.mintNilSpec.vars false (#[.int .i64 0] : Array Value).toList 8 = some ([.lit (.int .i64 0)], [], places) :=
  ⟨[], by kernel_rfl⟩
theorem laid_met (os : Os) : laidMet Try.prog Rows.mintNilRow.laid ((World.holding Try.prog os ⟨#[], #[], []⟩).forCall (fun _ _ => 0) ⟨#[], #[.int .i64 0], []⟩).memory :=
  laidMet_of_run' 8 (by kernel_rfl) (by kernel_rfl)

set_option maxRecDepth 100000 in
theorem lifted (os : Os) (started : os.Started) (H : Type) (enc : TypeId × Value → H) (F : Stop.Interp) :
    ReturnsInHanded {} Try.checked os 7 .any ((OpenSpec.ofChange Rows.mintNilSpec).preRow enc Try.prog Try.f7 Rows.mintNilRow.domain false Rows.mintNilRow.laid) (((OpenSpec.ofChange Rows.mintNilSpec).at F).post enc Try.prog Try.f7 false true false false) := by
  obtain ⟨places, hx⟩ := reads os enc
  refine returnsInHanded_of_row (C := Try.checked) (s := OpenSpec.ofChange Rows.mintNilSpec) own started (by kernel_rfl) Try.func7
    (witness_row_at (enc := enc) (C := Try.checked) false (World.holding Try.prog os ⟨#[], #[], []⟩) #[.int .i64 0] rfl (by kernel_rfl) (by kernel_rfl) (by kernel_rfl)
      (OpenSpec.preRow_of_cond 8 hx (by kernel_rfl) (fun k hk => by cases hk) (by kernel_rfl) (laid_met os))) ?_
  intro W base args ds gs before hval hW _ _ hsz hL _ _
  exact contract H enc W base args ds gs before hval hW hsz

theorem said : Rows.MintNilSaid :=
  OpenClaim.holds_of_cond 7 Try.f7 rfl rfl rfl rfl rfl rfl rfl ⟨rfl, rfl, rfl, rfl, rfl⟩ rfl rfl rfl rfl rfl (by kernel_rfl) Try.func7 (by kernel_rfl)
    (of_decide_eq_true (by kernel_rfl)) (by unfold Func.isWrapper; first | (rw [if_pos (by decide +kernel)]; kernel_rfl) | (rw [if_neg (by decide +kernel)]; exact ⟨rfl, rfl⟩))
    (fun os started H enc _ F => by rw [OpenClaim.pre_eq_preRow]; exact lifted os started H enc F)
end LMintNil
end Go.Proofs.Ytnahdhhojjicjaa
