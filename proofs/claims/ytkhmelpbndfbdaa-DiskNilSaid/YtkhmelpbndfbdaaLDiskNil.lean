/- DiskNil: for every number the law returns true. -/
import Derived.Test.YtkhmelpbndfbdaaDiskAwake
import Derived.Test.YtkhmelpbndfbdaaLaw
import Derived.Test.YtkhmelpbndfbdaaBytes
namespace Go.Proofs.Ytkhmelpbndfbdaa
open Go.RowKit

set_option maxRecDepth 100000 in
set_option maxHeartbeats 400000 in
theorem narm (n : Int) (w : World) :
    Calls Try.prog 11 #[.pointer none, .int .i64 n] w fun e w' => e = .returned (.tuple #[]) ∧ w = w' := by
  go_enter Try.func11, Try.ntmps11
  go_wp2
  go_end0
  exact ⟨rfl, rfl⟩

set_option maxRecDepth 100000 in
set_option maxHeartbeats 400000 in
theorem ncrash (n : Int) (w : World) :
    Calls Try.prog 16 #[.pointer none, .int .i64 n] w fun e w' => e = .returned (.tuple #[]) ∧ w = w' := by
  go_enter Try.func16, Try.ntmps16
  go_wp2
  go_end0
  exact ⟨rfl, rfl⟩

set_option maxRecDepth 100000 in
set_option maxHeartbeats 400000 in
theorem nagain (s : ByteArray) (w : World) :
    Calls Try.prog 33 #[.pointer none, .string s] w fun e w' => e = .returned (.tuple #[]) ∧ w = w' := by
  go_enter Try.func33, Try.ntmps33
  go_wp2
  go_end0
  exact ⟨rfl, rfl⟩

set_option maxRecDepth 100000 in
set_option maxHeartbeats 400000 in
theorem nwipe (w : World) :
    Calls Try.prog 20 #[.pointer none] w fun e w' => e = .returned (.tuple #[]) ∧ w = w' := by
  go_enter Try.func20, Try.ntmps20
  go_wp2_with fail
  refine (nagain _ _).mono ?_; rintro e w1 ⟨rfl, rfl⟩
  go_wp2
  go_end0
  exact ⟨rfl, rfl⟩

set_option maxRecDepth 100000 in
set_option maxHeartbeats 400000 in
theorem nbytes (w : World) :
    Calls Try.prog 17 #[.pointer none] w fun e w' => e = .returned (.string ⟨#[]⟩) ∧ w = w' := by
  go_enter Try.func17, Try.ntmps17
  go_wp2
  go_ret
  exact ⟨rfl, rfl⟩

set_option maxRecDepth 100000 in
set_option maxHeartbeats 400000 in
theorem nsafe (w : World) :
    Calls Try.prog 15 #[.pointer none] w fun e w' => e = .returned (.string ⟨#[]⟩) ∧ w = w' := by
  go_enter Try.func15, Try.ntmps15
  go_wp2
  go_ret
  exact ⟨rfl, rfl⟩

set_option maxRecDepth 100000 in
set_option maxHeartbeats 400000 in
theorem nsteps (w : World) :
    Calls Try.prog 19 #[.pointer none] w fun e w' => e = .returned (.int .i64 0) ∧ w = w' := by
  go_enter Try.func19, Try.ntmps19
  go_wp2
  go_ret
  exact ⟨rfl, rfl⟩

set_option maxRecDepth 100000 in
set_option maxHeartbeats 400000 in
theorem non (w : World) :
    Calls Try.prog 12 #[.pointer none] w fun e w' => e = .returned (.bool false) ∧ w = w' := by
  go_enter Try.func12, Try.ntmps12
  go_wp2
  go_ret
  exact ⟨rfl, rfl⟩

set_option maxRecDepth 100000 in
set_option maxHeartbeats 400000 in
theorem nstep (n : Int) (f g : Value) (w : World) :
    Calls Try.prog 29 #[.pointer none, .int .i64 n, f, g] w fun e w' => e = .returned (.int .i64 1) ∧ w = w' := by
  go_enter Try.func29, Try.ntmps29
  go_wp2
  go_ret
  exact ⟨rfl, rfl⟩

set_option maxRecDepth 100000 in
set_option maxHeartbeats 400000 in
theorem nsize (w : World) :
    Calls Try.prog 30 #[.pointer none] w fun e w' => e = .returned (.int .i64 0) ∧ w = w' := by
  go_enter Try.func30, Try.ntmps30
  go_wp2_with fail
  refine (nbytes _).mono ?_; rintro e w1 ⟨rfl, rfl⟩
  go_wp2
  go_ret
  exact ⟨rfl, rfl⟩

set_option maxRecDepth 100000 in
set_option maxHeartbeats 1000000 in
theorem nappend (s : ByteArray) (w : World) :
    Calls Try.prog 13 #[.pointer none, .string s] w fun e w' => e = .returned (.int .i64 1) ∧ Below w.heap.size w w' := by
  go_enter Try.func13, Try.ntmps13
  go_wp2
  go_region_held3 (fun w' => w'.cell? ⟨w.heap.size, 0, none⟩ = some (.pointer none) ∧ w'.cell? ⟨w.heap.size + 1, 0, none⟩ = some (.string s)) (go_keep)
    (first
    | (go_at_call 30; refine (nsize _).mono ?_; rintro e w' ⟨rfl, rfl⟩)
    | (go_at_call 29; refine (nstep _ _ _ _).mono ?_; rintro e w' ⟨rfl, rfl⟩))
  all_goals go_wp2
  all_goals go_ret
  all_goals exact ⟨rfl, by repeat (first | exact Below.refl _ _ | apply Below.drew | (refine Below.alloc ?_ (by simp) _))⟩

set_option maxRecDepth 100000 in
set_option maxHeartbeats 1000000 in
theorem nsync (w : World) :
    Calls Try.prog 14 #[.pointer none] w fun e w' => e = .returned (.int .i64 1) ∧ Below w.heap.size w w' := by
  go_enter Try.func14, Try.ntmps14
  go_wp2_with fail
  refine (nstep _ _ _ _).mono ?_; rintro e w' ⟨rfl, rfl⟩
  go_wp2
  go_ret
  exact ⟨rfl, bOld _⟩

set_option maxRecDepth 100000 in
set_option maxHeartbeats 1000000 in
theorem nswap (s : ByteArray) (w : World) :
    Calls Try.prog 18 #[.pointer none, .string s] w fun e w' => e = .returned (.int .i64 1) ∧ Below w.heap.size w w' := by
  go_enter Try.func18, Try.ntmps18
  go_wp2_with fail
  refine (nstep _ _ _ _).mono ?_; rintro e w' ⟨rfl, rfl⟩
  go_wp2
  go_ret
  exact ⟨rfl, (bOld _).alloc (by simp) _⟩

/-- The zero disk. -/
def Dk.zero : Dk := ⟨⟨#[]⟩, ⟨#[]⟩, 0, 0, false, false, 0⟩

set_option maxRecDepth 100000 in
set_option maxHeartbeats 4000000 in
theorem diskNil_walk (n : Int) (w : World) :
    Calls Try.prog 8 #[.int .i64 n] w fun e w' => e = .returned (.bool true) ∧ Below w.heap.size w w' := by
  have z1 : ∀ s, Dk.zero.again s = Dk.zero := fun s => rfl
  have z2 : Dk.zero.crash n = Dk.zero := rfl
  have z3 : ∀ s, Dk.zero.append s = (Dk.zero, 14) := fun s => append_off _ _ rfl
  have z4 : Dk.zero.sync = (Dk.zero, 14) := sync_off _ rfl
  have hb : w.heap.size ≤ w.heap.size := Nat.le_refl _
  have en : ((⟨#[]⟩ : ByteArray) ++ (⟨#[]⟩ : ByteArray)).toList = [] := by rw [nil_append]; exact ByteArray.toList_mk []
  obtain ⟨w0, hw0⟩ : ∃ w0 : World, Hid (w0 = w.alloc (.cells Dk.zero.cells 51)) := ⟨_, rfl⟩
  have hd : IsDk w0 w.heap.size Dk.zero := by rw [hw0.out]; exact Blk.new _ _ _
  have hB : Below w.heap.size w w0 := by rw [hw0.out]; exact bOld _
  go_enter Try.func8, Try.ntmps8
  go_wp2_with fail
  rw [show w.alloc (.cells #[Value.string ⟨#[]⟩, Value.string ⟨#[]⟩, Value.int .i64 0, Value.int .i64 0, Value.bool false, Value.bool false, Value.int .i64 0] 51) = w0 from hw0.out.symm]
  refine (narm _ _).mono ?_; rintro e w1 ⟨rfl, rfl⟩
  go_wp2_with fail
  refine (ncrash _ _).mono ?_; rintro e w1 ⟨rfl, rfl⟩
  go_wp2_with fail
  refine (nwipe _).mono ?_; rintro e w1 ⟨rfl, rfl⟩
  go_wp2_with fail
  refine (dcrash_any _ _ _ _ hd (by decide)).mono ?_; rintro e w2 ⟨rfl, hd, hk⟩
  rw [z2] at hd; replace hB := bKept hB hk hb; clear hk
  go_wp2_with fail
  refine (dwipe_any _ _ _ hd).mono ?_; rintro e w3 ⟨rfl, hd, hk⟩
  rw [z1] at hd; replace hB := bKept hB hk hb; clear hk
  go_wp2_with fail
  refine (awake_any _).mono ?_; rintro e w4 ⟨rfl, hB4⟩
  replace hd := Blk.below hd hB4 (Blk.lt hd); replace hB := bNext hB hB4; clear hB4
  go_wp2_with fail
  refine (nappend _ _).mono ?_; rintro e w5 ⟨rfl, hB5⟩
  replace hd := Blk.below hd hB5 (Blk.lt hd); replace hB := bNext hB hB5; clear hB5
  go_wp2_with fail
  refine (nsync _).mono ?_; rintro e w6 ⟨rfl, hB6⟩
  replace hd := Blk.below hd hB6 (Blk.lt hd); replace hB := bNext hB hB6; clear hB6
  go_wp2_with fail
  refine (nswap _ _).mono ?_; rintro e w7 ⟨rfl, hB7⟩
  replace hd := Blk.below hd hB7 (Blk.lt hd); replace hB := bNext hB hB7; clear hB7
  go_wp2_with fail
  refine (nbytes _).mono ?_; rintro e w8 ⟨rfl, rfl⟩
  go_wp2_with fail
  refine (nsafe _).mono ?_; rintro e w8 ⟨rfl, rfl⟩
  go_wp2_with fail
  refine (nsteps _).mono ?_; rintro e w8 ⟨rfl, rfl⟩
  go_wp2_with fail
  refine (non _).mono ?_; rintro e w8 ⟨rfl, rfl⟩
  go_wp2_with fail
  refine (don_any _ _ _ hd).mono ?_; rintro e w9 ⟨rfl, rfl⟩
  go_wp2_with fail
  refine (dappend_any _ _ _ _ hd (by decide) (by decide) (by decide)).mono ?_; rintro e w10 ⟨rfl, hd, hk⟩
  rw [z3] at hd ⊢; replace hB := bKept hB hk hb; clear hk
  go_wp2_with fail
  refine (dsync_any _ _ _ hd (by decide) (by decide) (by decide)).mono ?_; rintro e w11 ⟨rfl, hd, hk⟩
  rw [z4] at hd ⊢; replace hB := bKept hB hk hb; clear hk
  go_wp2_with fail
  go_ret
  exact ⟨rfl, hB⟩

namespace LDiskNil
open Go.ChangeShapes Go.WideShapes Go.ChangeAt
open Go.ChangeMaps (open_string shut_string)

theorem contract (H : Type) (enc : TypeId × Value → H) (W : World) (base : Nat) (args : Array Value) (ds gs : List (DataW H)) (before : List MemPlace)
    (hval : ∀ (j : Nat) t v, Try.f8.params[j]? = some t → args[j]? = some v → Value.okWide Try.prog W .any base t v)
    (hW : DataW.Whole enc Try.prog Try.f8.params.toList Rows.diskNilSpec.vars false W args.toList ds gs before)
    (_hsz : (DataW.weightsEach Try.prog (Try.f8.params.toList ++ (OpenSpec.ofChange Rows.diskNilSpec).bare.plain.varTypes Try.prog) (ds ++ gs)).all (fun x => decide (x ≤ reachBytes)) = true) :
    Calls Try.prog 8 args W fun e W' => ∃ v, e = .returned v ∧ Rows.diskNilSpec.post enc Try.prog Try.f8 false true false false W args v W' := by
  have hW' := hW
  obtain ⟨p, q, hA0, hV, rfl, hfz, hnd⟩ := hW
  have hA : DataW.TrodAll enc Try.prog W 0 (fun _ => true) true Try.f8.params.toList args.toList ds p := hA0
  rw [Try.params8] at hA hval
  obtain ⟨v0, vs0, d0, ds0, p0, q0, hargs, rfl, rfl, h0, r0⟩ := trodAll_cons hA
  obtain ⟨rfl, rfl, rfl⟩ := trodAll_nil r0
  obtain rfl : args = #[v0] := by cases args; simp_all
  obtain ⟨rfl, rfl⟩ := trodVars_none hV
  obtain ⟨x0, rfl, rfl, rfl, k0⟩ := open_int Try.underlying3 (hval 0 3 v0 rfl rfl) h0
  clear hA0
  refine (diskNil_walk x0 W).mono fun e W' ⟨he, hb⟩ => ?_
  subst he
  exact ⟨_, rfl, law_post laidOut Try.underlying4 rfl (by kernel_rfl) rfl rfl rfl rfl hW' hb⟩

theorem reads (os : Os) {H : Type} (enc : TypeId × Value → H) : ∃ places, DataW.whole enc Try.prog ((World.holding Try.prog os ⟨#[], #[], []⟩).forCall (fun _ _ => 0) ⟨#[], #[.int .i64 0], []⟩).memory Try.f8.params.toList Rows.diskNilSpec.vars false (#[.int .i64 0] : Array Value).toList 8 = some ([.lit (.int .i64 0)], [], places) :=
  ⟨[], by kernel_rfl⟩
theorem laid_met (os : Os) : laidMet Try.prog Rows.diskNilRow.laid ((World.holding Try.prog os ⟨#[], #[], []⟩).forCall (fun _ _ => 0) ⟨#[], #[.int .i64 0], []⟩).memory :=
  laidMet_of_run' 8 (by kernel_rfl) (by kernel_rfl)

set_option maxRecDepth 100000 in
theorem lifted (os : Os) (started : os.Started) (H : Type) (enc : TypeId × Value → H) (F : Stop.Interp) :
    ReturnsInHanded {} Try.checked os 8 .any ((OpenSpec.ofChange Rows.diskNilSpec).preRow enc Try.prog Try.f8 Rows.diskNilRow.domain false Rows.diskNilRow.laid) (((OpenSpec.ofChange Rows.diskNilSpec).at F).post enc Try.prog Try.f8 false true false false) := by
  obtain ⟨places, hx⟩ := reads os enc
  refine returnsInHanded_of_row (C := Try.checked) (s := OpenSpec.ofChange Rows.diskNilSpec) own started (by kernel_rfl) Try.func8
    (witness_row_at (enc := enc) (C := Try.checked) false (World.holding Try.prog os ⟨#[], #[], []⟩) #[.int .i64 0] rfl (by kernel_rfl) (by kernel_rfl) (by kernel_rfl)
      (OpenSpec.preRow_of_cond 8 hx (by kernel_rfl) (fun k hk => by cases hk) (by kernel_rfl) (laid_met os))) ?_
  intro W base args ds gs before hval hW _ _ hsz hL _ _
  exact contract H enc W base args ds gs before hval hW hsz

theorem said : Rows.DiskNilSaid :=
  OpenClaim.holds_of_cond 8 Try.f8 rfl rfl rfl rfl rfl rfl rfl ⟨rfl, rfl, rfl, rfl, rfl⟩ rfl rfl rfl rfl rfl (by kernel_rfl) Try.func8 (by kernel_rfl)
    (of_decide_eq_true (by kernel_rfl)) (by unfold Func.isWrapper; first | (rw [if_pos (by decide +kernel)]; kernel_rfl) | (rw [if_neg (by decide +kernel)]; exact ⟨rfl, rfl⟩))
    (fun os started H enc _ F => by rw [OpenClaim.pre_eq_preRow]; exact lifted os started H enc F)
end LDiskNil
end Go.Proofs.Ytkhmelpbndfbdaa
