/- MintOrder: for every two numbers the law returns true. -/
import Derived.Test.YtnahdhhojjicjaaMintAwake
import Derived.Test.YtnahdhhojjicjaaLaw
import Derived.Test.YtnahdhhojjicjaaPlainO
namespace Go.Proofs.Ytnahdhhojjicjaa
open Go.RowKit

set_option maxRecDepth 100000 in
set_option maxHeartbeats 4000000 in
theorem mintOrder_walk (a b : Nat) (ha : a < 18446744073709551616) (hb : b < 18446744073709551616) (w : World) :
    Calls Try.prog 3 #[.int .u64 (a : Int), .int .u64 (b : Int)] w fun e w' => e = .returned (.bool true) ∧ Below w.heap.size w w' := by
  obtain ⟨x, hx⟩ := nm (ofL (Pl.num a))
  obtain ⟨y, hy⟩ := nm (ofL (Pl.num b))
  obtain ⟨m, hm⟩ := nm (Pl.nd a)
  obtain ⟨n, hn⟩ := nm (Pl.nd b)
  have hxs : x.size = m := by rw [hx.out, ofL_size, Pl.num_length, hm.out]
  have hys : y.size = n := by rw [hy.out, ofL_size, Pl.num_length, hn.out]
  have hm10 : m ≤ 10 := by rw [hm.out]; exact Pl.nd_le a ha
  have hn10 : n ≤ 10 := by rw [hn.out]; exact Pl.nd_le b hb
  have HXS := Lib.hid hxs
  have HYS := Lib.hid hys
  clear hxs hys
  go_enter Try.func3, Try.ntmps3
  go_wp2_with fail
  refine (awake_any _).mono ?_; rintro e w0 ⟨rfl, hB⟩
  go_wp2_with fail
  refine (num_is a x hx.out.symm _ ha).mono ?_; rintro e w1 ⟨rfl, hB1⟩
  replace hB := bNext hB hB1
  clear hB1
  go_wp2_with fail
  refine (num_is b y hy.out.symm _ hb).mono ?_; rintro e w2 ⟨rfl, hB1⟩
  replace hB := bNext hB hB1
  clear hB1
  go_wp2_with fail
  go_loop [8, 9] (fun c v => ∃ (j k : Nat), j ≤ 10 ∧ c = .int .i64 ((j : Int) + 1) ∧ v = .int .u64 (k : Int) ∧ k ≤ a ∧ Hid (k = a / 128 ^ j) ∧ Hid (j = 0 ∨ 128 ^ j ≤ a)) (fun _ v => (intOf v).toNat)
  case atStart => exact ⟨0, a, by omega, rfl, rfl, Nat.le_refl _, Lib.hid (by simp), Or.inl rfl⟩
  case round =>
    obtain ⟨j, k, hj, rfl, rfl, hka, hk, hj2⟩ := hrel
    by_cases hlt : 128 ≤ k
    · have h3 : 128 ^ (j + 1) ≤ a := by
        have := hk.out
        have h4 : 128 ≤ a / 128 ^ j := by omega
        rw [Nat.le_div_iff_mul_le (Nat.pow_pos (by decide))] at h4
        rw [Nat.pow_succ, Nat.mul_comm]; exact h4
      have h5 : j + 1 ≤ 10 := by
        rcases Nat.lt_or_ge j 10 with h | h
        · exact h
        · have h6 : 128 ^ 11 ≤ 128 ^ (j + 1) := Nat.pow_le_pow_right (by decide) (by omega)
          have : (128 : Nat) ^ 11 > 18446744073709551616 := by decide
          omega
      have HK : Hid (k / 128 = a / 128 ^ (j + 1)) := by
        show _ = _
        rw [hk.out, Nat.div_div_eq_div_mul, Nat.pow_succ]
      have H3 := Lib.hid h3
      clear h3
      go_wp2_with fail
      go_round
      case rel => exact ⟨j + 1, k / 128, h5, by go_num, by simp, by omega, HK, Or.inr H3.out⟩
      case measure => simp [intOf]; omega
    · have hjm : j + 1 = m := by
        rw [hm.out]
        refine Pl.nd_unique a (j + 1) ha (by omega) ?_ ?_
        · have h1 := hk.out
          have h2 : a / 128 ^ j < 128 := by omega
          rw [Nat.div_lt_iff_lt_mul (Nat.pow_pos (by decide))] at h2
          rw [Nat.pow_succ, Nat.mul_comm]; exact h2
        · rcases hj2.out with h | h
          · left; omega
          · right; simpa using h
      clear hk hj2
      have HXS := HXS.out
      have HYS := HYS.out
      rcases Nat.lt_trichotomy m n with hmn | hmn | hmn
      · have hab := Pl.nd_less a b ha hb (by rw [← hm.out, ← hn.out]; exact hmn)
        go_wp2_with fail
        go_ret
        exact ⟨rfl, hB⟩
      · have hl : Op.bytesLess x.toList y.toList = decide (a < b) := by
          rw [hx.out, hy.out, toList_ofL, toList_ofL]
          exact Pl.num_less a b ha hb (by rw [← hm.out, ← hn.out]; exact hmn)
        by_cases hab : a < b
        · have hl2 : Op.bytesLess x.toList y.toList = true := by rw [hl]; exact decide_eq_true hab
          clear hl
          go_wp2_with fail
          go_ret
          exact ⟨rfl, hB⟩
        · have hl2 : Op.bytesLess x.toList y.toList = false := by rw [hl]; exact decide_eq_false hab
          clear hl
          go_wp2_with fail
          go_ret
          exact ⟨rfl, hB⟩
      · go_wp2_with fail
        go_ret
        exact ⟨rfl, hB⟩

theorem mintOrder_walkI (x0 x1 : Int) (k0 : (Lit.int .u64 x0).wf = true) (k1 : (Lit.int .u64 x1).wf = true) (w : World) :
    Calls Try.prog 3 #[.int .u64 x0, .int .u64 x1] w fun e w' => e = .returned (.bool true) ∧ Below w.heap.size w w' := by
  have h0 := Go.bounds_u64 k0
  have h1 := Go.bounds_u64 k1
  obtain ⟨a, rfl⟩ : ∃ a : Nat, x0 = a := ⟨x0.toNat, by omega⟩
  obtain ⟨b, rfl⟩ : ∃ b : Nat, x1 = b := ⟨x1.toNat, by omega⟩
  exact mintOrder_walk a b (by omega) (by omega) w

namespace LMintOrder
open Go.ChangeShapes Go.WideShapes Go.ChangeAt
open Go.ChangeMaps (open_string shut_string)

theorem contract (H : Type) (enc : TypeId × Value → H) (W : World) (base : Nat) (args : Array Value) (ds gs : List (DataW H)) (before : List MemPlace)
    (hval : ∀ (j : Nat) t v, Try.f3.params[j]? = some t → args[j]? = some v → Value.okWide Try.prog W .any base t v)
    (hW : DataW.Whole enc Try.prog Try.f3.params.toList Rows.mintOrderSpec.vars false W args.toList ds gs before)
    (_hsz : (DataW.weightsEach Try.prog (Try.f3.params.toList ++ (OpenSpec.ofChange Rows.mintOrderSpec).bare.plain.varTypes Try.prog) (ds ++ gs)).all (fun x => decide (x ≤ reachBytes)) = true) :
    Calls Try.prog 3 args W fun e W' => ∃ v, e = .returned v ∧ Rows.mintOrderSpec.post enc Try.prog Try.f3 false true false false W args v W' := by
  have hW' := hW
  obtain ⟨p, q, hA0, hV, rfl, hfz, hnd⟩ := hW
  have hA : DataW.TrodAll enc Try.prog W 0 (fun _ => true) true Try.f3.params.toList args.toList ds p := hA0
  rw [Try.params3] at hA hval
  obtain ⟨v0, vs0, d0, ds0, p0, q0, hargs, rfl, rfl, h0, r0⟩ := trodAll_cons hA
  obtain ⟨v1, vs1, d1, ds1, p1, q1, rfl, rfl, rfl, h1, r1⟩ := trodAll_cons r0
  obtain ⟨rfl, rfl, rfl⟩ := trodAll_nil r1
  obtain rfl : args = #[v0, v1] := by cases args; simp_all
  obtain ⟨rfl, rfl⟩ := trodVars_none hV
  obtain ⟨x0, rfl, rfl, rfl, k0⟩ := open_int Try.underlying22 (hval 0 22 v0 rfl rfl) h0
  obtain ⟨x1, rfl, rfl, rfl, k1⟩ := open_int Try.underlying22 (hval 1 22 v1 rfl rfl) h1
  clear hA0
  refine (mintOrder_walkI x0 x1 k0 k1 W).mono fun e W' ⟨he, hb⟩ => ?_
  subst he
  exact ⟨_, rfl, law_post laidOut Try.underlying4 rfl (by kernel_rfl) rfl rfl rfl rfl hW' hb⟩

theorem reads (os : Os) {H : Type} (enc : TypeId × Value → H) : ∃ places, DataW.whole enc Try.prog ((World.holding Try.prog os ⟨#[], #[], []⟩).forCall (fun _ _ => 0) ⟨#[], #[.int .u64 0, .int .u64 0], []⟩).memory Try.f3.params.toList Rows.mintOrderSpec.vars false (#[.int .u64 0, .int .u64 0] : Array Value).toList 8 = some ([.lit (.int .u64 0), .lit (.int .u64 0)], [], places) :=
  ⟨[], by kernel_rfl⟩
theorem laid_met (os : Os) : laidMet Try.prog Rows.mintOrderRow.laid ((World.holding Try.prog os ⟨#[], #[], []⟩).forCall (fun _ _ => 0) ⟨#[], #[.int .u64 0, .int .u64 0], []⟩).memory :=
  laidMet_of_run' 8 (by kernel_rfl) (by kernel_rfl)

set_option maxRecDepth 100000 in
theorem lifted (os : Os) (started : os.Started) (H : Type) (enc : TypeId × Value → H) (F : Stop.Interp) :
    ReturnsInHanded {} Try.checked os 3 .any ((OpenSpec.ofChange Rows.mintOrderSpec).preRow enc Try.prog Try.f3 Rows.mintOrderRow.domain false Rows.mintOrderRow.laid) (((OpenSpec.ofChange Rows.mintOrderSpec).at F).post enc Try.prog Try.f3 false true false false) := by
  obtain ⟨places, hx⟩ := reads os enc
  refine returnsInHanded_of_row (C := Try.checked) (s := OpenSpec.ofChange Rows.mintOrderSpec) own started (by kernel_rfl) Try.func3
    (witness_row_at (enc := enc) (C := Try.checked) false (World.holding Try.prog os ⟨#[], #[], []⟩) #[.int .u64 0, .int .u64 0] rfl (by kernel_rfl) (by kernel_rfl) (by kernel_rfl)
      (OpenSpec.preRow_of_cond 8 hx (by kernel_rfl) (fun k hk => by cases hk) (by kernel_rfl) (laid_met os))) ?_
  intro W base args ds gs before hval hW _ _ hsz hL _ _
  exact contract H enc W base args ds gs before hval hW hsz

theorem said : Rows.MintOrderSaid :=
  OpenClaim.holds_of_cond 3 Try.f3 rfl rfl rfl rfl rfl rfl rfl ⟨rfl, rfl, rfl, rfl, rfl⟩ rfl rfl rfl rfl rfl (by kernel_rfl) Try.func3 (by kernel_rfl)
    (of_decide_eq_true (by kernel_rfl)) (by unfold Func.isWrapper; first | (rw [if_pos (by decide +kernel)]; kernel_rfl) | (rw [if_neg (by decide +kernel)]; exact ⟨rfl, rfl⟩))
    (fun os started H enc _ F => by rw [OpenClaim.pre_eq_preRow]; exact lifted os started H enc F)
end LMintOrder
end Go.Proofs.Ytnahdhhojjicjaa

