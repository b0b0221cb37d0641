/- ViewFull: for every number the law returns true. -/
import Derived.Test.YtpolhdkjkidpgaaViewAwake
import Derived.Test.YtpolhdkjkidpgaaViewSmall
import Derived.Test.YtpolhdkjkidpgaaViewCheck
namespace Go.Proofs.Ytpolhdkjkidpgaa
open Go.RowKit Go.Shelf Go.Lib Go.Sort

/-- Peers one behind another. -/
def rowL : Int → Nat → List P3
  | _, 0 => []
  | a, m + 1 => (a, 0, 0) :: rowL (a + 1) m
theorem rowL_length : ∀ (m : Nat) (a : Int), (rowL a m).length = m
  | 0, _ => rfl
  | m + 1, a => by show (rowL (a + 1) m).length + 1 = _; rw [rowL_length m]
theorem rowL_take : ∀ (k m : Nat) (a : Int), (rowL a m).take k = rowL a (min k m)
  | 0, m, a => by rw [Nat.zero_min]; rfl
  | k + 1, 0, a => by rw [Nat.min_zero]; rfl
  | k + 1, m + 1, a => by
    rw [Nat.succ_min_succ]
    show (a, 0, 0) :: (rowL (a + 1) m).take k = _
    rw [rowL_take k m]; rfl
theorem rowL_all : ∀ (m : Nat) (a : Int) (p : P3), p ∈ rowL a m → a ≤ p.1 ∧ p.1 < a + m ∧ p.2 = (0, 0)
  | 0, a, p, h => by cases h
  | m + 1, a, p, h => by
    rcases List.mem_cons.1 h with rfl | h
    · exact ⟨Int.le_refl _, by simp only; omega, rfl⟩
    · have := rowL_all m (a + 1) p h
      exact ⟨by omega, by omega, this.2.2⟩
theorem rowL_sort : ∀ (m : Nat) (a : Int), SortT (rowL a m)
  | 0, _ => sort_nil
  | m + 1, a => List.pairwise_cons.2 ⟨fun p hp => by have := (rowL_all m (a + 1) p hp).1; simp only; omega, rowL_sort m (a + 1)⟩
theorem rowL_get : ∀ (m : Nat) (a : Int) (t : Nat), t < m → (rowL a m)[t]? = some (a + t, 0, 0)
  | 0, a, t, h => absurd h (Nat.not_lt_zero _)
  | m + 1, a, 0, _ => by simp [rowL]
  | m + 1, a, t + 1, h => by
    show (rowL (a + 1) m)[t]? = _
    rw [rowL_get m (a + 1) t (by omega)]
    have : a + 1 + (t : Int) = a + ((t + 1 : Nat) : Int) := by omega
    rw [this]
theorem rowL_ok {a : Int} {m : Nat} (h1 : 1 ≤ a) (h2 : a + m ≤ 1000) (h3 : m ≤ 64) : Vok (rowL a m) :=
  ⟨rowL_sort m a, fun p hp => by
    obtain ⟨g1, g2, g3⟩ := rowL_all m a p hp
    exact mayP_mk (by rw [g3]; simp only; omega), by rw [rowL_length]; exact h3⟩
theorem rowL_put (a : Int) (m : Nat) : putL (rowL (a + 1) m) (a, 0, 0) = rowL a (m + 1) := by
  cases m with
  | zero => rfl
  | succ m =>
    show putL ((a + 1, 0, 0) :: rowL (a + 1 + 1) m) (a, 0, 0) = _
    unfold putL
    rw [if_neg (by simp only; omega), if_pos (by simp only; omega)]
    rfl
theorem rowL_with {a : Int} (h1 : 1 ≤ a) (h2 : a ≤ 1000) (m : Nat) : vwith (rowL (a + 1) m) (a, 0, 0) = rowL a (min 64 (m + 1)) := by
  unfold vwith
  rw [if_pos (mayP_mk (by simp only; omega)), rowL_put, rowL_take]

set_option maxRecDepth 100000 in
set_option maxHeartbeats 8000000 in
theorem viewFull_walk (n : Int) (w : World) :
    Calls Try.prog 4 #[.int .i64 n] w fun e w' => e = .returned (.bool true) ∧ Below w.heap.size w w' := by
  have t1 : -10 < n.tmod 10 := Int.lt_tmod_of_pos n (by decide)
  have t2 : n.tmod 10 < 10 := Int.tmod_lt_of_pos n (by decide)
  have e1 : IntKind.i64.wrap (n.tmod 10 + 10) = n.tmod 10 + 10 := by rw [IntKind.wrap_i64]; omega
  obtain ⟨K, hK⟩ : ∃ K : Nat, (K : Int) = 60 + n.tmod 10 % 10 := ⟨(60 + n.tmod 10 % 10).toNat, by omega⟩
  have e3 : (n.tmod 10 + 10).tmod 10 = n.tmod 10 % 10 := by rw [Int.tmod_eq_emod_of_nonneg (by omega)]; omega
  have e2 : IntKind.i64.wrap (60 + n.tmod 10 % 10) = (K : Int) := by rw [IntKind.wrap_i64]; omega
  have e4 : 60 + n.tmod 10 % 10 = (K : Int) := hK.symm
  have K1 : 60 ≤ K := by omega
  have K2 : K ≤ 69 := by omega
  clear hK
  go_enter Try.func4, Try.ntmps4
  go_wp2_with fail
  refine (awake_any _).mono ?_; rintro e w1 ⟨rfl, hB⟩
  have HB1 := Lib.hid hB
  clear hB
  go_wp2_with fail
  go_loopw [5, 6] (fun v i wr => ∃ (j : Nat) (L : List P3), j ≤ K ∧ i = .int .i64 (j : Int) ∧ Vw wr v L ∧ Hid (L = rowL ((j : Int) + 1) (min (K - j) 64)) ∧ Below w.heap.size w wr) (fun _ i _ => (intOf i).toNat)
  case atStart => exact ⟨K, [], by omega, rfl, Vw.nil _, (by show _ = _; rw [Nat.sub_self, Nat.zero_min]; rfl), HB1.out⟩
  case round =>
    clear t1 t2 e1 e2 e3 e4
    obtain ⟨j, L, hj, rfl, hv, hL, hB⟩ := hrel
    by_cases hlt : 0 < j
    · obtain ⟨m, hm⟩ : ∃ m, j = m + 1 := ⟨j - 1, by omega⟩
      have hwm : IntKind.i64.wrap ((j : Int) - 1) = (m : Int) := by rw [IntKind.wrap_i64]; omega
      have hgt : (j : Int) > 0 := by omega
      obtain ⟨L2, hL2⟩ := nm (vwith L ((j : Int), 0, 0))
      have HR : Hid (L2 = rowL ((m : Int) + 1) (min (K - m) 64)) := by
        show _ = _
        rw [hL2.out, hL.out, rowL_with (by omega) (by omega), show (m : Int) + 1 = (j : Int) by omega, show min 64 (min (K - j) 64 + 1) = min (K - m) 64 by omega]
      have hok : Vok L := by rw [hL.out]; exact rowL_ok (by omega) (by omega) (by omega)
      have hw := with_any L hok (j : Int) 0 0 _ wr hv
      rw [← hL2.out] at hw
      have HW := Lib.hid hw
      clear hw hok
      have HB := Lib.hid hB
      have hmK : m < K := by omega
      have hmj : m < j := by omega
      clear hv hB hm
      go_wp2_with fail
      refine HW.out.mono ?_; rintro e w2 ⟨v2, rfl, hv2, hB2⟩
      have HB2 := Lib.hid (bNext HB.out hB2)
      clear hB2
      go_wp2_with fail
      go_roundw
      case rel => exact ⟨m, L2, by omega, rfl, hv2, HR, HB2.out⟩
      case measure => simp [intOf]; omega
    · obtain rfl : j = 0 := by omega
      have hL1 := hL.out
      rw [show ((0 : Nat) : Int) + 1 = 1 from rfl, Nat.sub_zero] at hL1
      have HB := Lib.hid hB
      clear hL
      by_cases h64 : K > 64
      · rw [show min K 64 = 64 by omega] at hL1
        have hlen : L.length = 64 := by rw [hL1]; exact rowL_length 64 1
        have g0 : L[0]? = some (1, 0, 0) := by rw [hL1]; exact rowL_get 64 1 0 (by decide)
        have g1 : L[63]? = some (64, 0, 0) := by rw [hL1]; exact rowL_get 64 1 63 (by decide)
        have hok : Vok L := by rw [hL1]; exact rowL_ok (by decide) (by decide) (by decide)
        clear hL1
        have HC := Lib.hid (check_any L hok _ wr hv)
        obtain ⟨ao, cap, rfl, hc, _, hsl⟩ := hv
        obtain ⟨b, off, rfl, hbl, hat⟩ := hsl 0 (by omega)
        have c0 := (hat 0 _ g0).1
        have c1 := (hat 63 _ g1).1
        rw [hlen] at HC hc ⊢
        have d0 : wr.cell? ⟨b, off, none⟩ = some (.int .i64 1) := c0
        have d1 : wr.cell? ⟨b, off + 189, none⟩ = some (.int .i64 64) := c1
        clear c0 c1 hat hsl hB g0 g1 hlen hok
        go_wp2_with (go_at_call 14; refine HC.out.mono ?_; rintro e w2 ⟨rfl, hB2⟩)
        go_ret
        exact ⟨rfl, bNext HB.out hB2⟩
      · rw [show min K 64 = K by omega] at hL1
        obtain ⟨m, hm⟩ : ∃ m, K = m + 1 := ⟨K - 1, by omega⟩
        have hwm : IntKind.i64.wrap ((K : Int) - 1) = (m : Int) := by rw [IntKind.wrap_i64]; omega
        have hmK : m < K := by omega
        have hlen : L.length = K := by rw [hL1]; exact rowL_length K 1
        have g0 : L[0]? = some (1, 0, 0) := by rw [hL1]; exact rowL_get K 1 0 (by omega)
        have g1 : L[m]? = some ((K : Int), 0, 0) := by rw [hL1, rowL_get K 1 m hmK, show (1 : Int) + (m : Int) = (K : Int) by omega]
        have hok : Vok L := by rw [hL1]; exact rowL_ok (by decide) (by omega) (by omega)
        clear hL1
        have HC := Lib.hid (check_any L hok _ wr hv)
        obtain ⟨ao, cap, rfl, hc, _, hsl⟩ := hv
        obtain ⟨b, off, rfl, hbl, hat⟩ := hsl 0 (by omega)
        have c0 := (hat 0 _ g0).1
        have d1 := (hat m _ g1).1
        rw [hlen] at HC hc ⊢
        have d0 : wr.cell? ⟨b, off, none⟩ = some (.int .i64 1) := c0
        have hKp : 0 < K := by omega
        clear c0 hat hsl hB g0 g1 hlen hok hm
        go_wp2_with (go_at_call 14; refine HC.out.mono ?_; rintro e w2 ⟨rfl, hB2⟩)
        go_ret
        exact ⟨rfl, bNext HB.out hB2⟩

namespace LViewFull
open Go.ChangeShapes Go.WideShapes Go.ChangeAt
open Go.ChangeMaps (open_string shut_string)

set_option maxRecDepth 100000 in
theorem contract (H : Type) (enc : TypeId × Value → H) (W : World) (base : Nat) (args : Array Value) (ds gs : List (DataW H)) (before : List MemPlace)
    (hval : ∀ (j : Nat) t v, Try.f4.params[j]? = some t → args[j]? = some v → Value.okWide Try.prog W .any base t v)
    (hW : DataW.Whole enc Try.prog Try.f4.params.toList Rows.viewFullSpec.vars false W args.toList ds gs before)
    (_hsz : (DataW.weightsEach Try.prog (Try.f4.params.toList ++ (OpenSpec.ofChange Rows.viewFullSpec).bare.plain.varTypes Try.prog) (ds ++ gs)).all (fun x => decide (x ≤ reachBytes)) = true) :
    Calls Try.prog 4 args W fun e W' => ∃ v, e = .returned v ∧ Rows.viewFullSpec.post enc Try.prog Try.f4 false true false false W args v W' := by
  have hW' := hW
  obtain ⟨p, q, hA0, hV, rfl, hfz, hnd⟩ := hW
  have hA : DataW.TrodAll enc Try.prog W 0 (fun _ => true) true Try.f4.params.toList args.toList ds p := hA0
  rw [Try.params4] at hA hval
  obtain ⟨v0, vs0, d0, ds0, p0, q0, hargs, rfl, rfl, h0, r0⟩ := trodAll_cons hA
  obtain ⟨rfl, rfl, rfl⟩ := trodAll_nil r0
  obtain rfl : args = #[v0] := by cases args; simp_all
  obtain ⟨rfl, rfl⟩ := trodVars_none hV
  obtain ⟨x0, rfl, rfl, rfl, k0⟩ := open_int Try.underlying3 (hval 0 3 v0 rfl rfl) h0
  clear hA0
  refine (viewFull_walk x0 W).mono fun e W' ⟨he, hb⟩ => ?_
  subst he
  exact ⟨_, rfl, law_post laidOut Try.underlying4 rfl (by kernel_rfl) rfl rfl rfl rfl hW' hb⟩

theorem reads (os : Os) {H : Type} (enc : TypeId × Value → H) : ∃ places, DataW.whole enc Try.prog ((World.holding Try.prog os ⟨#[], #[], []⟩).forCall (fun _ _ => 0) ⟨#[], #[.int .i64 0], []⟩).memory Try.f4.params.toList Rows.viewFullSpec.vars false (#[.int .i64 0] : Array Value).toList 8 = some ([.lit (.int .i64 0)], [], places) :=
  ⟨[], by kernel_rfl⟩
theorem laid_met (os : Os) : laidMet Try.prog Rows.viewFullRow.laid ((World.holding Try.prog os ⟨#[], #[], []⟩).forCall (fun _ _ => 0) ⟨#[], #[.int .i64 0], []⟩).memory :=
  laidMet_of_run' 8 (by kernel_rfl) (by kernel_rfl)

set_option maxRecDepth 100000 in
theorem lifted (os : Os) (started : os.Started) (H : Type) (enc : TypeId × Value → H) (F : Stop.Interp) :
    ReturnsInHanded {} Try.checked os 4 .any ((OpenSpec.ofChange Rows.viewFullSpec).preRow enc Try.prog Try.f4 Rows.viewFullRow.domain false Rows.viewFullRow.laid) (((OpenSpec.ofChange Rows.viewFullSpec).at F).post enc Try.prog Try.f4 false true false false) := by
  obtain ⟨places, hx⟩ := reads os enc
  refine returnsInHanded_of_row (C := Try.checked) (s := OpenSpec.ofChange Rows.viewFullSpec) own started (by kernel_rfl) Try.func4
    (witness_row_at (enc := enc) (C := Try.checked) false (World.holding Try.prog os ⟨#[], #[], []⟩) #[.int .i64 0] rfl (by kernel_rfl) (by kernel_rfl) (by kernel_rfl)
      (OpenSpec.preRow_of_cond 8 hx (by kernel_rfl) (fun k hk => by cases hk) (by kernel_rfl) (laid_met os))) ?_
  intro W base args ds gs before hval hW _ _ hsz hL _ _
  exact contract H enc W base args ds gs before hval hW hsz

theorem said : Rows.ViewFullSaid :=
  OpenClaim.holds_of_cond 4 Try.f4 rfl rfl rfl rfl rfl rfl rfl ⟨rfl, rfl, rfl, rfl, rfl⟩ rfl rfl rfl rfl rfl (by kernel_rfl) Try.func4 (by kernel_rfl)
    (of_decide_eq_true (by kernel_rfl)) (by unfold Func.isWrapper; first | (rw [if_pos (by decide +kernel)]; kernel_rfl) | (rw [if_neg (by decide +kernel)]; exact ⟨rfl, rfl⟩))
    (fun os started H enc _ F => by rw [OpenClaim.pre_eq_preRow]; exact lifted os started H enc F)
end LViewFull
end Go.Proofs.Ytpolhdkjkidpgaa
