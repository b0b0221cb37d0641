/- RingMeets: for every number of owners and every two sets of them the law returns true. -/
import Derived.Test.YtmmfbeeeamcooaaRingC
import Derived.Test.YtmmfbeeeamcooaaLaw
import Derived.Outline
import Derived.IntWalk
namespace Go.Proofs.Ytmmfbeeeamcooaa
open Go.RowKit Go.Shelf Go.Lib Go.Sort

set_option maxRecDepth 100000 in
set_option maxHeartbeats 2000000 in
theorem ringMeets_walk (n a b : Int) (w : World) :
    Calls Try.prog 4 #[.int .i64 n, .int .i64 a, .int .i64 b] w fun e w' => e = .returned (.bool true) ∧ Below w.heap.size w w' := by
  have hr1 : -12 < n.tmod 12 ∧ n.tmod 12 < 12 := ⟨Int.lt_tmod_of_pos n (by decide), Int.tmod_lt_of_pos n (by decide)⟩
  obtain ⟨hr1, hr2⟩ := hr1
  go_enter Try.func4, Try.ntmps4
  go_wp2_with fail
  refine (awake_any _).mono ?_; rintro e w1 ⟨rfl, hB⟩
  go_upto_region 3 with fail
  obtain ⟨K, hK⟩ : ∃ K : Nat, Hid (1 + n.tmod 12 % 12 = (K : Int)) := ⟨(1 + n.tmod 12 % 12).toNat, by show _ = _; omega⟩
  have hK1 : 1 ≤ K := by have := hK.out; omega
  have hK2 : K ≤ 12 := by have := hK.out; omega
  rw [hK.out]
  go_wp2_with fail
  go_loop [9, 10, 11, 12] (fun x y z i => ∃ X Y Z k : Nat, k ≤ K ∧ x = .int .i64 (X : Int) ∧ y = .int .i64 (Y : Int) ∧ z = .int .i64 (Z : Int) ∧ i = .int .i64 (k : Int) ∧ X + Y ≤ Z + k ∧ X ≤ k ∧ Y ≤ k ∧ Z ≤ k) (fun _ _ _ i => K - (intOf i).toNat)
  case atStart => exact ⟨0, 0, 0, 0, by omega, rfl, rfl, rfl, rfl, by omega, by omega, by omega, by omega⟩
  case round =>
    obtain ⟨X, Y, Z, k, hk, rfl, rfl, rfl, rfl, h1, h2, h3, h4⟩ := hrel
    by_cases hlt : k < K
    · obtain ⟨p, hp, hpe⟩ := and_mask (a / 2 ^ k) 1 (by decide)
      obtain ⟨q, hq, hqe⟩ := and_mask (b / 2 ^ k) 1 (by decide)
      have hpe' : bits .and .i64 (a / 2 ^ k) 1 = (p : Int) := hpe
      have hqe' : bits .and .i64 (b / 2 ^ k) 1 = (q : Int) := hqe
      go_wp2_with fail
      have h01 : p = 0 ∧ q = 0 ∨ p = 0 ∧ q = 1 ∨ p = 1 ∧ q = 0 ∨ p = 1 ∧ q = 1 := by omega
      have hpq : ∃ pq : Nat, pq ≤ 1 ∧ ((p : Int) * (q : Int) = (pq : Int)) ∧ p + q ≤ pq + 1 := by
        rcases h01 with ⟨rfl, rfl⟩ | ⟨rfl, rfl⟩ | ⟨rfl, rfl⟩ | ⟨rfl, rfl⟩
        · exact ⟨0, by omega, rfl, by omega⟩
        · exact ⟨0, by omega, rfl, by omega⟩
        · exact ⟨0, by omega, rfl, by omega⟩
        · exact ⟨1, by omega, rfl, by omega⟩
      obtain ⟨pq, hpq1, hpq2, hpq3⟩ := hpq
      exact ⟨⟨X + p, Y + q, Z + pq, k + 1, by omega, by rw [Int.natCast_add], by rw [Int.natCast_add], by rw [hpq2, IntWalk.wrap64_in (pq : Int) (by omega), IntWalk.wrap64_in ((Z : Int) + (pq : Int)) (by omega), Int.natCast_add], by congr 1, by omega, by omega, by omega, by omega⟩, by simp only [intOf]; omega⟩
    · obtain rfl : k = K := by omega
      obtain ⟨m, hm⟩ := nm (k / 2 + 1)
      have HM : Hid ((m : Int) = max (k : Int) 0 / 2 + 1) := by show _ = _; rw [hm.out]; omega
      have hm1 : 1 ≤ m := by rw [hm.out]; omega
      have hm2 : m ≤ k := by rw [hm.out]; omega
      have hm3 : k < 2 * m := by rw [hm.out]; omega
      go_wp2_with fail
      refine (majority_any (k : Int) (m : Int) HM (by omega) _).mono ?_; rintro e w3 ⟨rfl, rfl⟩
      have hq1 : decide ((1 : Int) ≤ (m : Int)) = true := by simp; omega
      have hq2 : decide ((m : Int) ≤ (k : Int)) = true := by simp; omega
      by_cases hx : X < m
      · have hq3 : decide (X < m) = true := decide_eq_true hx
        go_wp2_with fail
        go_ret
        exact ⟨rfl, hB⟩
      · have hq3 : decide (X < m) = false := decide_eq_false hx
        by_cases hy : Y < m
        · have hq4 : decide (Y < m) = true := decide_eq_true hy
          go_wp2_with fail
          go_ret
          exact ⟨rfl, hB⟩
        · have hq4 : decide (Y < m) = false := decide_eq_false hy
          have hz : 0 < Z := by omega
          have hq5 : decide ((0 : Int) < (Z : Int)) = true := by simp; omega
          go_wp2_with fail
          go_ret
          exact ⟨rfl, hB⟩
namespace LRingMeets
open Go.ChangeShapes Go.WideShapes Go.ChangeAt
open Go.ChangeMaps (open_string shut_string)

set_option maxRecDepth 100000 in
theorem contract (H : Type) (enc : TypeId × Value → H) (W : World) (base : Nat) (args : Array Value) (ds gs : List (DataW H)) (before : List MemPlace)
    (hval : ∀ (j : Nat) t v, Try.f4.params[j]? = some t → args[j]? = some v → Value.okWide Try.prog W .any base t v)
    (hW : DataW.Whole enc Try.prog Try.f4.params.toList Rows.ringMeetsSpec.vars false W args.toList ds gs before)
    (_hsz : (DataW.weightsEach Try.prog (Try.f4.params.toList ++ (OpenSpec.ofChange Rows.ringMeetsSpec).bare.plain.varTypes Try.prog) (ds ++ gs)).all (fun x => decide (x ≤ reachBytes)) = true) :
    Calls Try.prog 4 args W fun e W' => ∃ v, e = .returned v ∧ Rows.ringMeetsSpec.post enc Try.prog Try.f4 false true false false W args v W' := by
  have hW' := hW
  obtain ⟨p, q, hA0, hV, rfl, hfz, hnd⟩ := hW
  have hA : DataW.TrodAll enc Try.prog W 0 (fun _ => true) true Try.f4.params.toList args.toList ds p := hA0
  rw [Try.params4] at hA hval
  obtain ⟨v0, vs0, d0, ds0, p0, q0, hargs, rfl, rfl, h0, r0⟩ := trodAll_cons hA
  obtain ⟨v1, vs1, d1, ds1, p1, q1, rfl, rfl, rfl, h1, r1⟩ := trodAll_cons r0
  obtain ⟨v2, vs2, d2, ds2, p2, q2, rfl, rfl, rfl, h2, r2⟩ := trodAll_cons r1
  obtain ⟨rfl, rfl, rfl⟩ := trodAll_nil r2
  obtain rfl : args = #[v0, v1, v2] := by cases args; simp_all
  obtain ⟨rfl, rfl⟩ := trodVars_none hV
  obtain ⟨x0, rfl, rfl, rfl, k0⟩ := open_int Try.underlying3 (hval 0 3 v0 rfl rfl) h0
  obtain ⟨x1, rfl, rfl, rfl, k1⟩ := open_int Try.underlying3 (hval 1 3 v1 rfl rfl) h1
  obtain ⟨x2, rfl, rfl, rfl, k2⟩ := open_int Try.underlying3 (hval 2 3 v2 rfl rfl) h2
  clear hA0
  refine (ringMeets_walk x0 x1 x2 W).mono fun e W' ⟨he, hb⟩ => ?_
  subst he
  exact ⟨_, rfl, law_post laidOut Try.underlying4 rfl (by kernel_rfl) rfl rfl rfl rfl hW' hb⟩

theorem reads (os : Os) {H : Type} (enc : TypeId × Value → H) : ∃ places, DataW.whole enc Try.prog ((World.holding Try.prog os ⟨#[], #[], []⟩).forCall (fun _ _ => 0) ⟨#[], #[.int .i64 0, .int .i64 0, .int .i64 0], []⟩).memory Try.f4.params.toList Rows.ringMeetsSpec.vars false (#[.int .i64 0, .int .i64 0, .int .i64 0] : Array Value).toList 8 = some ([.lit (.int .i64 0), .lit (.int .i64 0), .lit (.int .i64 0)], [], places) :=
  ⟨[], by kernel_rfl⟩
theorem laid_met (os : Os) : laidMet Try.prog Rows.ringMeetsRow.laid ((World.holding Try.prog os ⟨#[], #[], []⟩).forCall (fun _ _ => 0) ⟨#[], #[.int .i64 0, .int .i64 0, .int .i64 0], []⟩).memory :=
  laidMet_of_run' 8 (by kernel_rfl) (by kernel_rfl)

set_option maxRecDepth 100000 in
theorem lifted (os : Os) (started : os.Started) (H : Type) (enc : TypeId × Value → H) (F : Stop.Interp) :
    ReturnsInHanded {} Try.checked os 4 .any ((OpenSpec.ofChange Rows.ringMeetsSpec).preRow enc Try.prog Try.f4 Rows.ringMeetsRow.domain false Rows.ringMeetsRow.laid) (((OpenSpec.ofChange Rows.ringMeetsSpec).at F).post enc Try.prog Try.f4 false true false false) := by
  obtain ⟨places, hx⟩ := reads os enc
  refine returnsInHanded_of_row (C := Try.checked) (s := OpenSpec.ofChange Rows.ringMeetsSpec) own started (by kernel_rfl) Try.func4
    (witness_row_at (enc := enc) (C := Try.checked) false (World.holding Try.prog os ⟨#[], #[], []⟩) #[.int .i64 0, .int .i64 0, .int .i64 0] rfl (by kernel_rfl) (by kernel_rfl) (by kernel_rfl)
      (OpenSpec.preRow_of_cond 8 hx (by kernel_rfl) (fun k hk => by cases hk) (by kernel_rfl) (laid_met os))) ?_
  intro W base args ds gs before hval hW _ _ hsz hL _ _
  exact contract H enc W base args ds gs before hval hW hsz

theorem said : Rows.RingMeetsSaid :=
  OpenClaim.holds_of_cond 4 Try.f4 rfl rfl rfl rfl rfl rfl rfl ⟨rfl, rfl, rfl, rfl, rfl⟩ rfl rfl rfl rfl rfl (by kernel_rfl) Try.func4 (by kernel_rfl)
    (of_decide_eq_true (by kernel_rfl)) (by unfold Func.isWrapper; first | (rw [if_pos (by decide +kernel)]; kernel_rfl) | (rw [if_neg (by decide +kernel)]; exact ⟨rfl, rfl⟩))
    (fun os started H enc _ F => by rw [OpenClaim.pre_eq_preRow]; exact lifted os started H enc F)
end LRingMeets
end Go.Proofs.Ytmmfbeeeamcooaa
