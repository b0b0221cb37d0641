/- DiskSwaps: for every two texts, a third one and a number the law returns true. -/
import Derived.Test.YtkhmelpbndfbdaaDiskAwake
import Derived.Test.YtkhmelpbndfbdaaLaw
import Derived.Test.YtkhmelpbndfbdaaBytes
import Derived.Lib.SmallJoins
namespace Go.Proofs.Ytkhmelpbndfbdaa
open Go.RowKit

set_option maxRecDepth 100000 in
set_option maxHeartbeats 8000000 in
theorem diskSwaps_walk (sa sb st a b2 t : ByteArray) (keep : Int) (ha : a.size ≤ 20) (hb2 : b2.size ≤ 20) (ht : t.size ≤ 20)
    (hsa : (20 < sa.size ∧ sa.extract 0 20 = a) ∨ (¬ 20 < sa.size ∧ sa = a)) (hsb : (20 < sb.size ∧ sb.extract 0 20 = b2) ∨ (¬ 20 < sb.size ∧ sb = b2)) (hst : (20 < st.size ∧ st.extract 0 20 = t) ∨ (¬ 20 < st.size ∧ st = t)) (w : World) :
    Calls Try.prog 5 #[.string sa, .string sb, .agg #[.string st, .int .i64 keep]] w fun e w' => e = .returned (.bool true) ∧ Below w.heap.size w w' := by
  obtain ⟨K, hK, hm⟩ := and_mask keep 31 (by decide)
  have hm : bits BinOp.and IntKind.i64 keep 31 = (K : Int) := hm
  have a1 : (Dk.new 100).append a = (⟨⟨#[]⟩, a, 100, 1, true, false, 0⟩, 0) := by
    rw [append_free _ _ rfl rfl (by simp [Dk.new, nil_size]; omega)]; simp [Dk.new, nil_append]
  have a2 : (⟨⟨#[]⟩, a, 100, 1, true, false, 0⟩ : Dk).sync = (⟨a, ⟨#[]⟩, 100, 2, true, false, 0⟩, 0) := by
    rw [sync_free _ rfl rfl (by simp)]; simp [nil_append]
  have a3 : (⟨a, ⟨#[]⟩, 100, 2, true, false, 0⟩ : Dk).append t = (⟨a, t, 100, 3, true, false, 0⟩, 0) := by
    rw [append_free _ _ rfl rfl (by simp [nil_size]; omega)]; simp [nil_append]
  have a4 : (⟨a, t, 100, 3, true, false, 0⟩ : Dk).arm 0 = ⟨a, t, 100, 3, true, true, 0⟩ := rfl
  have a5 : (⟨a, t, 100, 3, true, true, 0⟩ : Dk).swap b2 = (⟨a, t, 100, 3, false, true, 0⟩, 14) := swap_lost _ _ rfl rfl (by simp; omega) rfl
  obtain ⟨kk, hkk⟩ := nm (min K t.size)
  have hkt : kk ≤ t.size := by rw [hkk.out]; omega
  have a6 : (⟨a, t, 100, 3, false, true, 0⟩ : Dk).crash K = ⟨a ++ t.extract 0 kk, ⟨#[]⟩, 100, 3, true, false, 0⟩ := by
    rw [hkk.out]; simp [Dk.crash, Dk.again]
  have a7 : (⟨a ++ t.extract 0 kk, ⟨#[]⟩, 100, 3, true, false, 0⟩ : Dk).swap b2 = (⟨b2, ⟨#[]⟩, 100, 4, true, false, 0⟩, 0) := by
    rw [swap_free _ _ rfl rfl (by simp; omega)]; simp
  have A := And.intro (Lib.hid a1) (And.intro (Lib.hid a2) (And.intro (Lib.hid a3) (And.intro (Lib.hid a4) (And.intro (Lib.hid a5) (And.intro (Lib.hid a6) (Lib.hid a7))))))
  clear a1 a2 a3 a4 a5 a6 a7
  obtain ⟨a1, a2, a3, a4, a5, a6, a7⟩ := A
  have hex : (t.extract 0 kk).size ≤ 20 := by rw [ByteArray.size_extract]; omega
  have hat : (a ++ t).size ≤ 40 := by rw [app_size]; omega
  obtain ⟨wB, hwB⟩ : ∃ wB : World, Hid (wB = w.alloc (.cells #[.string st, .int .i64 keep] 37)) := ⟨_, rfl⟩
  go_enter Try.func5, Try.ntmps5
  go_wp2_with fail
  rw [← hwB.out]
  refine (awake_any _).mono ?_; rintro e w0 ⟨rfl, hB⟩
  have p0 : Blk wB w.heap.size #[.string st, .int .i64 keep] 37 := by rw [hwB.out]; exact Blk.new _ _ _
  have pb := p0.lt
  have hw0 : Below w.heap.size w wB := by rw [hwB.out]; exact bOld _
  have cS : w0.cell? ⟨w.heap.size, 0, none⟩ = some (.string st) := (p0.below hB pb).cell 0
  go_upto_if 18 with fail
  go_cut [0] (fun s0 wx => s0 = .string a ∧ w0 = wx)
  case first =>
    rcases hsa with ⟨h, e⟩ | ⟨h, rfl⟩
    all_goals
      go_wp2_with fail
      go_meet
      exact ⟨rfl, rfl⟩
  obtain ⟨rfl, rfl⟩ := hcut
  clear hsa
  go_upto_if 23 with fail
  go_cut [1] (fun s1 wx => s1 = .string b2 ∧ w0 = wx)
  case first =>
    rcases hsb with ⟨h, e⟩ | ⟨h, rfl⟩
    all_goals
      go_wp2_with fail
      go_meet
      exact ⟨rfl, rfl⟩
  obtain ⟨rfl, rfl⟩ := hcut
  clear hsb
  go_upto_if 30 with fail
  go_cut [8] (fun s8 wx => s8 = .string t ∧ w0 = wx)
  case first =>
    rcases hst with ⟨h, e⟩ | ⟨h, rfl⟩
    all_goals
      go_wp2_with fail
      go_meet
      exact ⟨rfl, rfl⟩
  obtain ⟨rfl, rfl⟩ := hcut
  clear hst
  clear cS
  go_wp2_with fail
  refine (dnew2_any 100 _ (by decide) (by decide)).mono ?_; rintro e w1 ⟨b, rfl, hb, hd, hB1⟩
  replace hb := Nat.le_trans hB.size hb
  replace hB := bNext hB hB1
  clear hB1
  go_wp2_with fail
  refine (dappend_any b _ _ _ hd (by simp [lit_size, Dk.new] <;> omega) (by simp [Dk.new]) (by simp [Dk.new])).mono ?_; rintro e w2 ⟨rfl, hd, hk⟩
  rw [a1.out] at hd ⊢; replace hB := bKept hB hk hb; clear hk
  go_wp2_with fail
  refine (dsync_any b _ _ hd (by simp [lit_size] <;> omega) (by simp) (by simp)).mono ?_; rintro e w3 ⟨rfl, hd, hk⟩
  rw [a2.out] at hd ⊢; replace hB := bKept hB hk hb; clear hk
  go_wp2_with fail
  refine (dappend_any b _ _ _ hd (by simp [lit_size] <;> omega) (by simp) (by simp)).mono ?_; rintro e w4 ⟨rfl, hd, hk⟩
  rw [a3.out] at hd ⊢; replace hB := bKept hB hk hb; clear hk
  go_wp2_with fail
  refine (darm_any b _ _ _ hd).mono ?_; rintro e w5 ⟨rfl, hd, hk⟩
  rw [a4.out] at hd; replace hB := bKept hB hk hb; clear hk
  go_wp2_with fail
  refine (dswap_any b _ _ _ hd (by simp) (by simp)).mono ?_; rintro e w6 ⟨rfl, hd, hk⟩
  rw [a5.out] at hd ⊢; replace hB := bKept hB hk hb; clear hk
  go_wp2_with fail
  refine (dbytes_any b _ _ hd (by simp <;> omega)).mono ?_; rintro e w7 ⟨rfl, n7, rfl⟩
  replace hd := hd.drewN n7
  replace hB : Below wB.heap.size wB (w6.drewN n7) := below_drewN hB n7
  go_wp2_with fail
  refine (dsafe_any b _ _ hd).mono ?_; rintro e w8 ⟨rfl, rfl⟩
  have cK : (w6.drewN n7).cell? ⟨w.heap.size, 1, none⟩ = some (.int .i64 keep) := (p0.below hB pb).cell 1
  go_wp2_with fail
  refine (dcrash_any b _ _ _ hd (by simp <;> omega)).mono ?_; rintro e w9 ⟨rfl, hd, hk⟩
  rw [a6.out] at hd; replace hB := bKept hB hk hb; clear hk
  have cK9 : w9.cell? ⟨w.heap.size, 1, none⟩ = some (.int .i64 keep) := (p0.below hB pb).cell 1
  go_upto_if 81 with fail
  go_cut [12] (fun s12 wx => s12 = .int .i64 (kk : Int) ∧ w9 = wx)
  case first =>
    rcases Nat.lt_or_ge t.size K with h | h
    · obtain rfl : kk = t.size := by rw [hkk.out]; omega
      go_wp2_with fail
      go_meet
      exact ⟨rfl, rfl⟩
    · obtain rfl : kk = K := by rw [hkk.out]; omega
      go_wp2_with fail
      go_meet
      exact ⟨rfl, rfl⟩
  obtain ⟨rfl, rfl⟩ := hcut
  go_wp2_with fail
  go_quiet ((go_at_call 15; exact Calls.quiet_of_same (dsafe_any2 b _ _ hd)))
  replace hd := Blk.drewN hd nq
  replace hB : Below wB.heap.size wB (w9.drewN nq) := below_drewN hB nq
  go_wp2_with fail
  refine (dswap_any b _ _ _ hd (by simp) (by simp)).mono ?_; rintro e w10 ⟨rfl, hd, hk⟩
  rw [a7.out] at hd ⊢; replace hB := bKept hB hk hb; clear hk
  go_wp2_with fail
  refine (dbytes_any b _ _ hd (by simp [lit_size] <;> omega)).mono ?_; rintro e w11 ⟨rfl, n11, rfl⟩
  rw [append_nil]
  replace hd := hd.drewN n11
  replace hB : Below wB.heap.size wB (w10.drewN n11) := below_drewN hB n11
  go_wp2_with fail
  refine (dsafe_any b _ _ hd).mono ?_; rintro e w12 ⟨rfl, rfl⟩
  go_wp2_with fail
  go_ret
  exact ⟨rfl, hw0.trans (hB.mono (by omega))⟩

namespace LDiskSwaps
open Go.ChangeShapes Go.WideShapes Go.ChangeAt
open Go.ChangeMaps (open_string shut_string)

theorem contract (H : Type) (enc : TypeId × Value → H) (W : World) (base : Nat) (args : Array Value) (ds gs : List (DataW H)) (before : List MemPlace)
    (hval : ∀ (j : Nat) t v, Try.f5.params[j]? = some t → args[j]? = some v → Value.okWide Try.prog W .any base t v)
    (hW : DataW.Whole enc Try.prog Try.f5.params.toList Rows.diskSwapsSpec.vars false W args.toList ds gs before)
    (_hsz : (DataW.weightsEach Try.prog (Try.f5.params.toList ++ (OpenSpec.ofChange Rows.diskSwapsSpec).bare.plain.varTypes Try.prog) (ds ++ gs)).all (fun x => decide (x ≤ reachBytes)) = true) :
    Calls Try.prog 5 args W fun e W' => ∃ v, e = .returned v ∧ Rows.diskSwapsSpec.post enc Try.prog Try.f5 false true false false W args v W' := by
  have hW' := hW
  obtain ⟨p, q, hA0, hV, rfl, hfz, hnd⟩ := hW
  have hA : DataW.TrodAll enc Try.prog W 0 (fun _ => true) true Try.f5.params.toList args.toList ds p := hA0
  rw [Try.params5] at hA hval
  obtain ⟨v0, vs0, d0, ds0, p0, q0, hargs, rfl, rfl, h0, r0⟩ := trodAll_cons hA
  obtain ⟨v1, vs1, d1, ds1, p1, q1, rfl, rfl, rfl, h1, r1⟩ := trodAll_cons r0
  obtain ⟨v2, vs2, d2, ds2, p2, q2, rfl, rfl, rfl, h2, r2⟩ := trodAll_cons r1
  obtain ⟨rfl, rfl, rfl⟩ := trodAll_nil r2
  obtain rfl : args = #[v0, v1, v2] := by cases args; simp_all
  obtain ⟨rfl, rfl⟩ := trodVars_none hV
  obtain ⟨x0, rfl, rfl, rfl, k0⟩ := open_string Try.underlying9 (hval 0 9 v0 rfl rfl) h0
  obtain ⟨x1, rfl, rfl, rfl, k1⟩ := open_string Try.underlying9 (hval 1 9 v1 rfl rfl) h1
  obtain ⟨c0, c1, y0, y1, m, rfl, rfl, rfl, hy0, hy1⟩ := Joins.open_agg2 Try.underlying37 (by kernel_rfl) (show Try.prog.cellsOf 37 = 2 by kernel_rfl) (hval 2 37 v2 rfl rfl) h2
  obtain ⟨z0, e0, _, _⟩ := DataW.trod_string Try.underlying9 hy0
  obtain ⟨z1, e1, _, _⟩ := DataW.trod_int Try.underlying3 hy1
  simp at e0 e1
  subst e0 e1
  clear hA0
  refine (diskSwaps_walk x0 x1 z0 (cutB x0 20) (cutB x1 20) (cutB z0 20) z1 (cutB_le _ _) (cutB_le _ _) (cutB_le _ _) (cutB_cases _ _) (cutB_cases _ _) (cutB_cases _ _) W).mono fun e W' ⟨he, hb⟩ => ?_
  subst he
  exact ⟨_, rfl, law_post laidOut Try.underlying4 rfl (by kernel_rfl) rfl rfl rfl rfl hW' hb⟩

theorem reads (os : Os) {H : Type} (enc : TypeId × Value → H) : ∃ places, DataW.whole enc Try.prog ((World.holding Try.prog os ⟨#[], #[], []⟩).forCall (fun _ _ => 0) ⟨#[], #[.string .empty, .string .empty, .agg #[.string .empty, .int .i64 0]], []⟩).memory Try.f5.params.toList Rows.diskSwapsSpec.vars false (#[.string .empty, .string .empty, .agg #[.string .empty, .int .i64 0]] : Array Value).toList 8 = some ([.lit (.string []), .lit (.string []), .agg [.lit (.string []), .lit (.int .i64 0)]], [], places) :=
  ⟨[], by kernel_rfl⟩
theorem laid_met (os : Os) : laidMet Try.prog Rows.diskSwapsRow.laid ((World.holding Try.prog os ⟨#[], #[], []⟩).forCall (fun _ _ => 0) ⟨#[], #[.string .empty, .string .empty, .agg #[.string .empty, .int .i64 0]], []⟩).memory :=
  laidMet_of_run' 8 (by kernel_rfl) (by kernel_rfl)

set_option maxRecDepth 100000 in
theorem lifted (os : Os) (started : os.Started) (H : Type) (enc : TypeId × Value → H) (F : Stop.Interp) :
    ReturnsInHanded {} Try.checked os 5 .any ((OpenSpec.ofChange Rows.diskSwapsSpec).preRow enc Try.prog Try.f5 Rows.diskSwapsRow.domain false Rows.diskSwapsRow.laid) (((OpenSpec.ofChange Rows.diskSwapsSpec).at F).post enc Try.prog Try.f5 false true false false) := by
  obtain ⟨places, hx⟩ := reads os enc
  refine returnsInHanded_of_row (C := Try.checked) (s := OpenSpec.ofChange Rows.diskSwapsSpec) own started (by kernel_rfl) Try.func5
    (witness_row_at (enc := enc) (C := Try.checked) false (World.holding Try.prog os ⟨#[], #[], []⟩) #[.string .empty, .string .empty, .agg #[.string .empty, .int .i64 0]] rfl (by kernel_rfl) (by kernel_rfl) (by kernel_rfl)
      (OpenSpec.preRow_of_cond 8 hx (by kernel_rfl) (fun k hk => by cases hk) (by kernel_rfl) (laid_met os))) ?_
  intro W base args ds gs before hval hW _ _ hsz hL _ _
  exact contract H enc W base args ds gs before hval hW hsz

theorem said : Rows.DiskSwapsSaid :=
  OpenClaim.holds_of_cond 5 Try.f5 rfl rfl rfl rfl rfl rfl rfl ⟨rfl, rfl, rfl, rfl, rfl⟩ rfl rfl rfl rfl rfl (by kernel_rfl) Try.func5 (by kernel_rfl)
    (of_decide_eq_true (by kernel_rfl)) (by unfold Func.isWrapper; first | (rw [if_pos (by decide +kernel)]; kernel_rfl) | (rw [if_neg (by decide +kernel)]; exact ⟨rfl, rfl⟩))
    (fun os started H enc _ F => by rw [OpenClaim.pre_eq_preRow]; exact lifted os started H enc F)
end LDiskSwaps
end Go.Proofs.Ytkhmelpbndfbdaa
