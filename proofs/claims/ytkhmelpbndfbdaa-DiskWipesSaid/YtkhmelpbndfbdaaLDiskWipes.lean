/- DiskWipes: for every text and either choice the law returns true. -/
import Derived.Test.YtkhmelpbndfbdaaDiskAwake
import Derived.Test.YtkhmelpbndfbdaaLaw
namespace Go.Proofs.Ytkhmelpbndfbdaa
open Go.RowKit

theorem nil_append (t : ByteArray) : (⟨#[]⟩ : ByteArray) ++ t = t := bl_inj (by rw [bl_append]; rfl)
theorem append_nil (t : ByteArray) : t ++ (⟨#[]⟩ : ByteArray) = t := bl_inj (by rw [bl_append]; exact List.append_nil _)
theorem nil_size : (⟨#[]⟩ : ByteArray).size = 0 := rfl
theorem lit_size (l : Array UInt8) : (ByteArray.mk l).size = l.size := rfl
theorem nil_extract (a b : Nat) : (⟨#[]⟩ : ByteArray).extract a b = ⟨#[]⟩ := bl_inj (by rw [bl_extract]; simp [bl])

/-- A text, cut. -/
def cutB (s : ByteArray) (n : Nat) : ByteArray := if n < s.size then s.extract 0 n else s
theorem cutB_le (s : ByteArray) (n : Nat) : (cutB s n).size ≤ n := by
  unfold cutB
  split
  · rw [ByteArray.size_extract]; omega
  · omega

set_option maxRecDepth 100000 in
set_option maxHeartbeats 4000000 in
theorem diskWipes_walk (s t : ByteArray) (ht : t.size ≤ 20) (hst : (20 < s.size ∧ s.extract 0 20 = t) ∨ (¬ 20 < s.size ∧ s = t)) (wipe : Bool) (w : World) :
    Calls Try.prog 6 #[.string s, .bool wipe] w fun e w' => e = .returned (.bool true) ∧ Below w.heap.size w w' := by
  have a1 : (Dk.new 100).append t = (⟨⟨#[]⟩, t, 100, 1, true, false, 0⟩, 0) := by
    rw [append_free _ _ rfl rfl (by simp [Dk.new, nil_size]; omega)]; simp [Dk.new, nil_append]
  have a2 : (⟨⟨#[]⟩, t, 100, 1, true, false, 0⟩ : Dk).sync = (⟨t, ⟨#[]⟩, 100, 2, true, false, 0⟩, 0) := by
    rw [sync_free _ rfl rfl (by simp)]; simp [nil_append]
  have a3 : (⟨t, ⟨#[]⟩, 100, 2, true, false, 0⟩ : Dk).arm 0 = ⟨t, ⟨#[]⟩, 100, 2, true, true, 0⟩ := rfl
  have a4 : (⟨t, ⟨#[]⟩, 100, 2, true, true, 0⟩ : Dk).sync = (⟨t, ⟨#[]⟩, 100, 2, false, true, 0⟩, 14) := sync_lost _ rfl rfl (by simp) rfl
  have a5 : (⟨t, ⟨#[]⟩, 100, 2, false, true, 0⟩ : Dk).append ⟨#[122, 122]⟩ = (⟨t, ⟨#[]⟩, 100, 2, false, true, 0⟩, 14) := append_off _ _ rfl
  have a6 : (⟨t, ⟨#[]⟩, 100, 2, false, true, 0⟩ : Dk).swap ⟨#[121, 121]⟩ = (⟨t, ⟨#[]⟩, 100, 2, false, true, 0⟩, 14) := swap_off _ _ rfl
  have a7 : (⟨t, ⟨#[]⟩, 100, 2, false, true, 0⟩ : Dk).again ⟨#[]⟩ = ⟨⟨#[]⟩, ⟨#[]⟩, 100, 2, true, false, 0⟩ := rfl
  have a8 : (⟨t, ⟨#[]⟩, 100, 2, false, true, 0⟩ : Dk).crash 5 = ⟨t, ⟨#[]⟩, 100, 2, true, false, 0⟩ := by
    simp [Dk.crash, Dk.again, nil_extract, append_nil]
  have a9 : (⟨⟨#[]⟩, ⟨#[]⟩, 100, 2, true, false, 0⟩ : Dk).append ⟨#[]⟩ = (⟨⟨#[]⟩, ⟨#[]⟩, 100, 3, true, false, 0⟩, 0) := rfl
  have a10 : (⟨t, ⟨#[]⟩, 100, 2, true, false, 0⟩ : Dk).append ⟨#[]⟩ = (⟨t, ⟨#[]⟩, 100, 3, true, false, 0⟩, 0) := by
    rw [append_free _ _ rfl rfl (by simp [nil_size]; omega)]; simp [nil_append]
  have A := And.intro (Lib.hid a1) (And.intro (Lib.hid a2) (And.intro (Lib.hid a3) (And.intro (Lib.hid a4) (And.intro (Lib.hid a5) (And.intro (Lib.hid a6) (And.intro (Lib.hid a7) (And.intro (Lib.hid a8) (And.intro (Lib.hid a9) (Lib.hid a10)))))))))
  clear a1 a2 a3 a4 a5 a6 a7 a8 a9 a10
  obtain ⟨a1, a2, a3, a4, a5, a6, a7, a8, a9, a10⟩ := A
  rcases hst with ⟨h, e⟩ | ⟨h, rfl⟩ <;> cases wipe
  all_goals
    go_enter Try.func6, Try.ntmps6
    go_wp2_with fail
    refine (awake_any _).mono ?_; rintro e w0 ⟨rfl, hB0⟩
    go_wp2_with fail
    refine (dnew2_any 100 _ (by decide) (by decide)).mono ?_; rintro e w1 ⟨b, rfl, hb, hd, hB⟩
    replace hB := bNext hB0 hB
    replace hb := Nat.le_trans hB0.size hb
    go_wp2_with fail
    refine (dappend_any b _ _ _ hd (by simp [Dk.new, nil_size] <;> omega) (by simp [Dk.new]) (by simp [Dk.new])).mono ?_; rintro e w2 ⟨rfl, hd, hk⟩
    rw [a1.out] at hd ⊢; replace hB := bKept hB hk hb; clear hk
    go_wp2_with fail
    refine (dsync_any b _ _ hd (by simp [lit_size] <;> omega) (by simp) (by simp)).mono ?_; rintro e w3 ⟨rfl, hd, hk⟩
    rw [a2.out] at hd ⊢; replace hB := bKept hB hk hb; clear hk
    go_wp2_with fail
    refine (darm_any b _ _ _ hd).mono ?_; rintro e w4 ⟨rfl, hd, hk⟩
    rw [a3.out] at hd; replace hB := bKept hB hk hb; clear hk
    go_wp2_with fail
    refine (dsync_any b _ _ hd (by simp [lit_size] <;> omega) (by simp) (by simp)).mono ?_; rintro e w5 ⟨rfl, hd, hk⟩
    rw [a4.out] at hd ⊢; replace hB := bKept hB hk hb; clear hk
    go_wp2_with fail
    refine (dappend_any b _ _ _ hd (by simp [lit_size] <;> omega) (by simp) (by simp)).mono ?_; rintro e w6 ⟨rfl, hd, hk⟩
    rw [a5.out] at hd ⊢; replace hB := bKept hB hk hb; clear hk
    go_wp2_with fail
    refine (dswap_any b _ _ _ hd (by simp) (by simp)).mono ?_; rintro e w7 ⟨rfl, hd, hk⟩
    rw [a6.out] at hd ⊢; replace hB := bKept hB hk hb; clear hk
    go_wp2_with fail
    refine (dsteps_any b _ _ hd).mono ?_; rintro e w8 ⟨rfl, rfl⟩
    go_wp2_with fail
    first
      | (refine (dwipe_any b _ _ hd).mono ?_; rintro e w8 ⟨rfl, hd, hk⟩
         rw [a7.out] at hd; replace hB := bKept hB hk hb; clear hk
         go_wp2_with fail
         refine (dbytes_any b _ _ hd (by simp [lit_size] <;> omega)).mono ?_; rintro e w9 ⟨rfl, n9, rfl⟩
         rw [append_nil]
         replace hd := hd.drewN n9
         replace hB : Below w.heap.size w (w8.drewN n9) := below_drewN hB n9
         go_wp2_with fail
         refine (dappend_any b _ _ _ hd (by simp [lit_size] <;> omega) (by simp) (by simp)).mono ?_; rintro e w10 ⟨rfl, hd, hk⟩
         rw [a9.out]; replace hB := bKept hB hk hb; clear hk
         go_wp2_with fail
         go_ret
         exact ⟨rfl, hB⟩)
      | (refine (dcrash_any b _ _ _ hd (by simp [lit_size] <;> omega)).mono ?_; rintro e w8 ⟨rfl, hd, hk⟩
         rw [a8.out] at hd; replace hB := bKept hB hk hb; clear hk
         go_wp2_with fail
         refine (dbytes_any b _ _ hd (by simp [lit_size] <;> omega)).mono ?_; rintro e w9 ⟨rfl, n9, rfl⟩
         rw [append_nil]
         replace hd := hd.drewN n9
         replace hB : Below w.heap.size w (w8.drewN n9) := below_drewN hB n9
         go_wp2_with fail
         refine (dappend_any b _ _ _ hd (by simp [lit_size] <;> omega) (by simp) (by simp)).mono ?_; rintro e w10 ⟨rfl, hd, hk⟩
         rw [a10.out]; replace hB := bKept hB hk hb; clear hk
         go_wp2_with fail
         go_ret
         exact ⟨rfl, hB⟩)

theorem cutB_cases (s : ByteArray) (n : Nat) : (n < s.size ∧ s.extract 0 n = cutB s n) ∨ (¬ n < s.size ∧ s = cutB s n) := by
  unfold cutB
  by_cases h : n < s.size
  · exact .inl ⟨h, by rw [if_pos h]⟩
  · exact .inr ⟨h, by rw [if_neg h]⟩

namespace LDiskWipes
open Go.ChangeShapes Go.WideShapes Go.ChangeAt
open Go.ChangeMaps (open_string shut_string)

theorem contract (H : Type) (enc : TypeId × Value → H) (W : World) (base : Nat) (args : Array Value) (ds gs : List (DataW H)) (before : List MemPlace)
    (hval : ∀ (j : Nat) t v, Try.f6.params[j]? = some t → args[j]? = some v → Value.okWide Try.prog W .any base t v)
    (hW : DataW.Whole enc Try.prog Try.f6.params.toList Rows.diskWipesSpec.vars false W args.toList ds gs before)
    (_hsz : (DataW.weightsEach Try.prog (Try.f6.params.toList ++ (OpenSpec.ofChange Rows.diskWipesSpec).bare.plain.varTypes Try.prog) (ds ++ gs)).all (fun x => decide (x ≤ reachBytes)) = true) :
    Calls Try.prog 6 args W fun e W' => ∃ v, e = .returned v ∧ Rows.diskWipesSpec.post enc Try.prog Try.f6 false true false false W args v W' := by
  have hW' := hW
  obtain ⟨p, q, hA0, hV, rfl, hfz, hnd⟩ := hW
  have hA : DataW.TrodAll enc Try.prog W 0 (fun _ => true) true Try.f6.params.toList args.toList ds p := hA0
  rw [Try.params6] at hA hval
  obtain ⟨v0, vs0, d0, ds0, p0, q0, hargs, rfl, rfl, h0, r0⟩ := trodAll_cons hA
  obtain ⟨v1, vs1, d1, ds1, p1, q1, rfl, rfl, rfl, h1, r1⟩ := trodAll_cons r0
  obtain ⟨rfl, rfl, rfl⟩ := trodAll_nil r1
  obtain rfl : args = #[v0, v1] := by cases args; simp_all
  obtain ⟨rfl, rfl⟩ := trodVars_none hV
  obtain ⟨x0, rfl, rfl, rfl, k0⟩ := open_string Try.underlying9 (hval 0 9 v0 rfl rfl) h0
  obtain ⟨x1, rfl, rfl, rfl⟩ := open_bool Try.underlying4 (hval 1 4 v1 rfl rfl) h1
  clear hA0
  refine (diskWipes_walk x0 (cutB x0 20) (cutB_le _ _) (cutB_cases x0 20) x1 W).mono fun e W' ⟨he, hb⟩ => ?_
  subst he
  exact ⟨_, rfl, law_post laidOut Try.underlying4 rfl (by kernel_rfl) rfl rfl rfl rfl hW' hb⟩

theorem reads (os : Os) {H : Type} (enc : TypeId × Value → H) : ∃ places, DataW.whole enc Try.prog ((World.holding Try.prog os ⟨#[], #[], []⟩).forCall (fun _ _ => 0) ⟨#[], #[.string .empty, .bool false], []⟩).memory Try.f6.params.toList Rows.diskWipesSpec.vars false (#[.string .empty, .bool false] : Array Value).toList 8 = some ([.lit (.string []), .lit (.bool false)], [], places) :=
  ⟨[], by kernel_rfl⟩
theorem laid_met (os : Os) : laidMet Try.prog Rows.diskWipesRow.laid ((World.holding Try.prog os ⟨#[], #[], []⟩).forCall (fun _ _ => 0) ⟨#[], #[.string .empty, .bool false], []⟩).memory :=
  laidMet_of_run' 8 (by kernel_rfl) (by kernel_rfl)

set_option maxRecDepth 100000 in
theorem lifted (os : Os) (started : os.Started) (H : Type) (enc : TypeId × Value → H) (F : Stop.Interp) :
    ReturnsInHanded {} Try.checked os 6 .any ((OpenSpec.ofChange Rows.diskWipesSpec).preRow enc Try.prog Try.f6 Rows.diskWipesRow.domain false Rows.diskWipesRow.laid) (((OpenSpec.ofChange Rows.diskWipesSpec).at F).post enc Try.prog Try.f6 false true false false) := by
  obtain ⟨places, hx⟩ := reads os enc
  refine returnsInHanded_of_row (C := Try.checked) (s := OpenSpec.ofChange Rows.diskWipesSpec) own started (by kernel_rfl) Try.func6
    (witness_row_at (enc := enc) (C := Try.checked) false (World.holding Try.prog os ⟨#[], #[], []⟩) #[.string .empty, .bool false] rfl (by kernel_rfl) (by kernel_rfl) (by kernel_rfl)
      (OpenSpec.preRow_of_cond 8 hx (by kernel_rfl) (fun k hk => by cases hk) (by kernel_rfl) (laid_met os))) ?_
  intro W base args ds gs before hval hW _ _ hsz hL _ _
  exact contract H enc W base args ds gs before hval hW hsz

theorem said : Rows.DiskWipesSaid :=
  OpenClaim.holds_of_cond 6 Try.f6 rfl rfl rfl rfl rfl rfl rfl ⟨rfl, rfl, rfl, rfl, rfl⟩ rfl rfl rfl rfl rfl (by kernel_rfl) Try.func6 (by kernel_rfl)
    (of_decide_eq_true (by kernel_rfl)) (by unfold Func.isWrapper; first | (rw [if_pos (by decide +kernel)]; kernel_rfl) | (rw [if_neg (by decide +kernel)]; exact ⟨rfl, rfl⟩))
    (fun os started H enc _ F => by rw [OpenClaim.pre_eq_preRow]; exact lifted os started H enc F)
end LDiskWipes
end Go.Proofs.Ytkhmelpbndfbdaa
