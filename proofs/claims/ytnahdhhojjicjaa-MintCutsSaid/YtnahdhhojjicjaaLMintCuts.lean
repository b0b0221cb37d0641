/- MintCuts: for every text and every place the law returns true. -/
import Derived.Test.YtnahdhhojjicjaaNums0
import Derived.Test.YtnahdhhojjicjaaLaw
namespace Go.Proofs.Ytnahdhhojjicjaa
open Go.RowKit

set_option maxRecDepth 100000 in
set_option maxHeartbeats 4000000 in
theorem mintCuts_walk (s : ByteArray) (at_ : Int) (w : World) (ha : -9223372036854775808 ≤ at_ ∧ at_ ≤ 9223372036854775807) :
    Calls Try.prog 8 #[.string s, .int .i64 at_] w fun e w' => e = .returned (.bool true) ∧ Below w.heap.size w w' := by
  obtain ⟨ha1, ha2⟩ := ha
  have hc := cutB_le s 100
  obtain ⟨u, hu⟩ := nm (cutB s 100)
  rw [← hu.out] at hc
  have hts : (ofL (textL (bl u))).size = u.size + 1 := by
    rw [ofL_size, textL, List.length_append, Pl.num_small _ (by rw [bl_length]; omega), bl_length]; simp; omega
  have hcut := cut_text u hc
  obtain ⟨t, ht⟩ := nm (ofL (textL (bl u)))
  rw [← ht.out] at hts hcut
  have HC := Lib.hid hcut
  clear hcut
  go_enter Try.func8, Try.ntmps8
  go_wp2_with fail
  refine (awake_any _).mono ?_; rintro e w0 ⟨rfl, hB⟩
  go_wp2_with fail
  refine (short_any s 100 _ (by decide)).mono ?_; rintro e w1 ⟨rfl, rfl⟩
  rw [← hu.out]
  go_wp2_with fail
  refine (text_any u _ (by omega)).mono ?_; rintro e w1 ⟨rfl, hB1⟩
  rw [← ht.out]
  replace hB := bNext hB hB1
  clear hB1
  obtain ⟨K, hK⟩ := nm (at_.tmod (u.size + 1 : Nat)).natAbs
  have hKlt : K < u.size + 1 := by
    rw [hK.out]
    have := Int.tmod_lt_of_pos at_ (b := ((u.size + 1 : Nat) : Int)) (by omega)
    have := Int.lt_tmod_of_pos at_ (b := ((u.size + 1 : Nat) : Int)) (by omega)
    omega
  obtain ⟨R, hR⟩ := nm (at_.tmod (u.size + 1 : Nat))
  have hRK : (R < 0 ∧ -R = (K : Int)) ∨ (¬ R < 0 ∧ R = (K : Int)) := by
    rw [hK.out, ← hR.out]; omega
  go_upto_region 5 with fail
  go_cut [7] (fun s7 wx => s7 = .int .i64 R ∧ w1 = wx)
  case first =>
    go_wp2_with fail
    go_meet
    exact ⟨congrArg _ (by rw [hR.out]; simp), rfl⟩
  obtain ⟨rfl, rfl⟩ := hcut
  go_upto_if 22 with fail
  go_cut [7] (fun s7 wx => s7 = .int .i64 (K : Int) ∧ w1 = wx)
  case first =>
    rcases hRK with ⟨h1, h2⟩ | ⟨h1, h2⟩
    all_goals
      go_wp2_with fail
      go_meet
      first | exact ⟨rfl, rfl⟩ | exact ⟨congrArg _ h2, rfl⟩
  obtain ⟨rfl, rfl⟩ := hcut
  clear hRK
  obtain ⟨L, hL, hL2⟩ := HC.out K hKlt
  have HL := Lib.hid hL
  clear hL
  go_wp2_with fail
  refine (read2_any _ _).mono ?_; rintro e w2 ⟨b, rfl, hb, hr, hB2⟩
  replace hb := Nat.le_trans hB.size hb
  replace hB := bNext hB hB2
  clear hB2
  go_wp2_with fail
  refine (rtext_any b _ 1000 _ hr (by simp only [ByteArray.size_extract]; omega) (by decide)).mono ?_; rintro e w3 ⟨rfl, hr, hk⟩
  rw [HL.out] at hr ⊢
  replace hB := bKept hB hk hb
  clear hk
  go_wp2_with fail
  refine (fine_is true false rfl b _ _ hr).mono ?_; rintro e w4 ⟨rfl, rfl⟩
  go_wp2_with fail
  refine (rnum_any b _ _ hr (by simp only; omega)).mono ?_; rintro e w4 ⟨rfl, hr, hk⟩
  rw [show (Rd.mk L true).num = (⟨L, true⟩, 0) from rfl] at hr ⊢
  replace hB := bKept hB hk hb
  clear hk
  go_wp2_with fail
  refine (rleft_any b _ _ hr).mono ?_; rintro e w5 ⟨rfl, rfl⟩
  rw [show (Rd.mk L true).rest = ⟨#[]⟩ from rfl]
  go_wp2_with fail
  refine (rtext_any b _ 9 _ hr (by simp only; omega) (by decide)).mono ?_; rintro e w5 ⟨rfl, hr, hk⟩
  rw [Rd.text_torn] at hr ⊢
  replace hB := bKept hB hk hb
  clear hk
  go_wp2_with fail
  refine (rnums_torn b _ 9 9 _ hr (by omega) (by decide)).mono ?_; rintro e w6 ⟨rfl, hr, hk⟩
  replace hB := bKept hB hk hb
  clear hk
  go_wp2_with fail
  refine (rend_any b _ _ hr).mono ?_; rintro e w7 ⟨rfl, rfl⟩
  rw [show (Rd.mk L true).fin = 10 from rfl]
  go_wp2_with fail
  go_ret
  exact ⟨rfl, hB⟩

theorem mintCuts_walkI (x0 : ByteArray) (x1 : Int) (k1 : (Lit.int .i64 x1).wf = true) (w : World) :
    Calls Try.prog 8 #[.string x0, .int .i64 x1] w fun e w' => e = .returned (.bool true) ∧ Below w.heap.size w w' :=
  mintCuts_walk x0 x1 w (Go.bounds_i64 k1)


namespace LMintCuts
open Go.ChangeShapes Go.WideShapes Go.ChangeAt
open Go.ChangeMaps (open_string shut_string)

theorem contract (H : Type) (enc : TypeId × Value → H) (W : World) (base : Nat) (args : Array Value) (ds gs : List (DataW H)) (before : List MemPlace)
    (hval : ∀ (j : Nat) t v, Try.f8.params[j]? = some t → args[j]? = some v → Value.okWide Try.prog W .any base t v)
    (hW : DataW.Whole enc Try.prog Try.f8.params.toList Rows.mintCutsSpec.vars false W args.toList ds gs before)
    (_hsz : (DataW.weightsEach Try.prog (Try.f8.params.toList ++ (OpenSpec.ofChange Rows.mintCutsSpec).bare.plain.varTypes Try.prog) (ds ++ gs)).all (fun x => decide (x ≤ reachBytes)) = true) :
    Calls Try.prog 8 args W fun e W' => ∃ v, e = .returned v ∧ Rows.mintCutsSpec.post enc Try.prog Try.f8 false true false false W args v W' := by
  have hW' := hW
  obtain ⟨p, q, hA0, hV, rfl, hfz, hnd⟩ := hW
  have hA : DataW.TrodAll enc Try.prog W 0 (fun _ => true) true Try.f8.params.toList args.toList ds p := hA0
  rw [Try.params8] at hA hval
  obtain ⟨v0, vs0, d0, ds0, p0, q0, hargs, rfl, rfl, h0, r0⟩ := trodAll_cons hA
  obtain ⟨v1, vs1, d1, ds1, p1, q1, rfl, rfl, rfl, h1, r1⟩ := trodAll_cons r0
  obtain ⟨rfl, rfl, rfl⟩ := trodAll_nil r1
  obtain rfl : args = #[v0, v1] := by cases args; simp_all
  obtain ⟨rfl, rfl⟩ := trodVars_none hV
  obtain ⟨x0, rfl, rfl, rfl, k0⟩ := open_string Try.underlying9 (hval 0 9 v0 rfl rfl) h0
  obtain ⟨x1, rfl, rfl, rfl, k1⟩ := open_int Try.underlying3 (hval 1 3 v1 rfl rfl) h1
  clear hA0
  refine (mintCuts_walkI x0 x1 k1 W).mono fun e W' ⟨he, hb⟩ => ?_
  subst he
  exact ⟨_, rfl, law_post laidOut Try.underlying4 rfl (by kernel_rfl) rfl rfl rfl rfl hW' hb⟩

theorem reads (os : Os) {H : Type} (enc : TypeId × Value → H) : ∃ places, DataW.whole enc Try.prog ((World.holding Try.prog os ⟨#[], #[], []⟩).forCall (fun _ _ => 0) ⟨#[], #[.string .empty, .int .i64 0], []⟩).memory Try.f8.params.toList Rows.mintCutsSpec.vars false (#[.string .empty, .int .i64 0] : Array Value).toList 8 = some ([.lit (.string []), .lit (.int .i64 0)], [], places) :=
  ⟨[], by kernel_rfl⟩
theorem laid_met (os : Os) : laidMet Try.prog Rows.mintCutsRow.laid ((World.holding Try.prog os ⟨#[], #[], []⟩).forCall (fun _ _ => 0) ⟨#[], #[.string .empty, .int .i64 0], []⟩).memory :=
  laidMet_of_run' 8 (by kernel_rfl) (by kernel_rfl)

set_option maxRecDepth 100000 in
theorem lifted (os : Os) (started : os.Started) (H : Type) (enc : TypeId × Value → H) (F : Stop.Interp) :
    ReturnsInHanded {} Try.checked os 8 .any ((OpenSpec.ofChange Rows.mintCutsSpec).preRow enc Try.prog Try.f8 Rows.mintCutsRow.domain false Rows.mintCutsRow.laid) (((OpenSpec.ofChange Rows.mintCutsSpec).at F).post enc Try.prog Try.f8 false true false false) := by
  obtain ⟨places, hx⟩ := reads os enc
  refine returnsInHanded_of_row (C := Try.checked) (s := OpenSpec.ofChange Rows.mintCutsSpec) own started (by kernel_rfl) Try.func8
    (witness_row_at (enc := enc) (C := Try.checked) false (World.holding Try.prog os ⟨#[], #[], []⟩) #[.string .empty, .int .i64 0] rfl (by kernel_rfl) (by kernel_rfl) (by kernel_rfl)
      (OpenSpec.preRow_of_cond 8 hx (by kernel_rfl) (fun k hk => by cases hk) (by kernel_rfl) (laid_met os))) ?_
  intro W base args ds gs before hval hW _ _ hsz hL _ _
  exact contract H enc W base args ds gs before hval hW hsz

theorem said : Rows.MintCutsSaid :=
  OpenClaim.holds_of_cond 8 Try.f8 rfl rfl rfl rfl rfl rfl rfl ⟨rfl, rfl, rfl, rfl, rfl⟩ rfl rfl rfl rfl rfl (by kernel_rfl) Try.func8 (by kernel_rfl)
    (of_decide_eq_true (by kernel_rfl)) (by unfold Func.isWrapper; first | (rw [if_pos (by decide +kernel)]; kernel_rfl) | (rw [if_neg (by decide +kernel)]; exact ⟨rfl, rfl⟩))
    (fun os started H enc _ F => by rw [OpenClaim.pre_eq_preRow]; exact lifted os started H enc F)
end LMintCuts
end Go.Proofs.Ytnahdhhojjicjaa
