/- LogNil: for every text the law returns true (the table of four doublings lying in its variable as the program's text lays it). -/
import Derived.Test.YtkglfnjgneofdaaDoorLogAwake
import Derived.Test.YtkglfnjgneofdaaDoorCards
import Derived.Test.YtkglfnjgneofdaaDoorTie
namespace Go.Proofs.YtkglfnjgneofdaaDoor
open Go.RowKit

set_option maxRecDepth 100000 in
theorem nopen (w : World) : Calls Tryd.prog 16 #[.pointer none] w fun e w' => e = .returned (.tuple #[.pointer none, .slice none 0 0, .int .i64 1]) ∧ w = w' := by
  go_enter Tryd.func16, Tryd.ntmps16
  go_wp2_with fail
  go_ret3
  exact ⟨rfl, rfl⟩
set_option maxRecDepth 100000 in
theorem ndoes (w : World) (fd : Nat) (cd : Array Value) : Calls Tryd.prog 42 #[.pointer none, .func (Fn.func fd) #[] cd] w fun e w' => e = .returned (.int .i64 1) ∧ w = w' := by
  go_enter Tryd.func42, Tryd.ntmps42
  go_wp2_with fail
  go_ret
  exact ⟨rfl, rfl⟩
set_option maxRecDepth 100000 in
theorem nadd (ao : Option Addr) (n cap : Nat) (w : World) : Calls Tryd.prog 19 #[.pointer none, .slice ao n cap] w fun e w' => e = .returned (.int .i64 1) ∧ Below w.heap.size w w' := by
  go_enter Tryd.func19, Tryd.ntmps19
  go_wp2_with fail
  refine (ndoes _ _ _).mono ?_; rintro e w1 ⟨rfl, rfl⟩
  go_wp2_with fail
  go_ret
  exact ⟨rfl, bNew (bOld _) _⟩
set_option maxRecDepth 100000 in
theorem nbegin (ao : Option Addr) (n cap : Nat) (w : World) : Calls Tryd.prog 25 #[.pointer none, .slice ao n cap] w fun e w' => e = .returned (.int .i64 1) ∧ Below w.heap.size w w' := by
  go_enter Tryd.func25, Tryd.ntmps25
  go_wp2_with fail
  refine (ndoes _ _ _).mono ?_; rintro e w1 ⟨rfl, rfl⟩
  go_wp2_with fail
  go_ret
  exact ⟨rfl, bNew (bOld _) _⟩
set_option maxRecDepth 100000 in
theorem nsync (w : World) : Calls Tryd.prog 20 #[.pointer none] w fun e w' => e = .returned (.int .i64 1) ∧ Below w.heap.size w w' := by
  go_enter Tryd.func20, Tryd.ntmps20
  go_wp2_with fail
  refine (ndoes _ _ _).mono ?_; rintro e w1 ⟨rfl, rfl⟩
  go_wp2_with fail
  go_ret
  exact ⟨rfl, bOld _⟩
set_option maxRecDepth 100000 in
theorem nlen (w : World) : Calls Tryd.prog 21 #[.pointer none] w fun e w' => e = .returned (.int .i64 0) ∧ w = w' := by
  go_enter Tryd.func21, Tryd.ntmps21
  go_wp2_with fail
  go_ret
  exact ⟨rfl, rfl⟩
set_option maxRecDepth 100000 in
theorem nsize (w : World) : Calls Tryd.prog 18 #[.pointer none] w fun e w' => e = .returned (.int .i64 0) ∧ w = w' := by
  go_enter Tryd.func18, Tryd.ntmps18
  go_wp2_with fail
  go_ret
  exact ⟨rfl, rfl⟩

/-- A zero log lies in block b. -/
def IsZero (w : World) (b : Nat) : Prop := Blk w b #[.pointer none, .int .i64 0, .int .i64 0, .bool false] 46
set_option maxRecDepth 100000 in
theorem zdoes (b : Nat) (w : World) (h : IsZero w b) (fd : Nat) (cd : Array Value) : Calls Tryd.prog 42 #[.pointer (some ⟨b, 0, none⟩), .func (Fn.func fd) #[] cd] w fun e w' => e = .returned (.int .i64 13) ∧ w = w' := by
  have c0 : w.cell? ⟨b, 0, none⟩ = some (.pointer none) := Blk.cell h 0
  go_enter Tryd.func42, Tryd.ntmps42
  go_wp2_with fail
  go_ret
  exact ⟨rfl, rfl⟩
set_option maxRecDepth 100000 in
theorem zadd (b : Nat) (ao : Option Addr) (n cap : Nat) (w : World) (h : IsZero w b) : Calls Tryd.prog 19 #[.pointer (some ⟨b, 0, none⟩), .slice ao n cap] w fun e w' => e = .returned (.int .i64 13) ∧ Below w.heap.size w w' := by
  go_enter Tryd.func19, Tryd.ntmps19
  go_wp2_with fail
  refine (zdoes b _ (Blk.alloc (Blk.alloc h _) _) _ _).mono ?_; rintro e w1 ⟨rfl, rfl⟩
  go_wp2_with fail
  go_ret
  exact ⟨rfl, bNew (bOld _) _⟩
set_option maxRecDepth 100000 in
theorem zsync (b : Nat) (w : World) (h : IsZero w b) : Calls Tryd.prog 20 #[.pointer (some ⟨b, 0, none⟩)] w fun e w' => e = .returned (.int .i64 13) ∧ Below w.heap.size w w' := by
  go_enter Tryd.func20, Tryd.ntmps20
  go_wp2_with fail
  refine (zdoes b _ (Blk.alloc h _) _ _).mono ?_; rintro e w1 ⟨rfl, rfl⟩
  go_wp2_with fail
  go_ret
  exact ⟨rfl, bOld _⟩
set_option maxRecDepth 100000 in
theorem zlen (b : Nat) (w : World) (h : IsZero w b) : Calls Tryd.prog 21 #[.pointer (some ⟨b, 0, none⟩)] w fun e w' => e = .returned (.int .i64 0) ∧ w = w' := by
  have c0 : w.cell? ⟨b, 1, none⟩ = some (.int .i64 0) := Blk.cell h 1
  go_enter Tryd.func21, Tryd.ntmps21
  go_wp2_with fail
  go_ret
  exact ⟨rfl, rfl⟩
set_option maxRecDepth 100000 in
theorem zsize (b : Nat) (w : World) (h : IsZero w b) : Calls Tryd.prog 18 #[.pointer (some ⟨b, 0, none⟩)] w fun e w' => e = .returned (.int .i64 0) ∧ w = w' := by
  have c0 : w.cell? ⟨b, 2, none⟩ = some (.int .i64 0) := Blk.cell h 2
  go_enter Tryd.func18, Tryd.ntmps18
  go_wp2_with fail
  go_ret
  exact ⟨rfl, rfl⟩

set_option maxRecDepth 100000 in
set_option maxHeartbeats 4000000 in
theorem logNil_walk (s : ByteArray) (w : World) (ht : Tab w) :
    Calls Tryd.prog 7 #[.string s] w fun e w' => e = .returned (.bool true) ∧ Below w.heap.size w w' := by
  have HT : Hid (Tab w) := ht
  clear ht
  have hz : IsZero (w.alloc (.cells #[.pointer none, .int .i64 0, .int .i64 0, .bool false] 46)) w.heap.size := Blk.new _ _ _
  have hB : Below w.heap.size w (w.alloc (.cells #[.pointer none, .int .i64 0, .int .i64 0, .bool false] 46)) := bOld _
  obtain ⟨z, hzz⟩ := nm w.heap.size
  have hzw : w.heap.size ≤ z := by rw [hzz.out]; exact Nat.le_refl _
  rw [← hzz.out] at hz
  go_enter Tryd.func7, Tryd.ntmps7
  go_wp2_with fail
  rw [← hzz.out]
  refine (nopen _).mono ?_; rintro e w1 ⟨rfl, rfl⟩
  go_wp2_with fail
  refine (short_any s 10 _ (by decide)).mono ?_; rintro e w1 ⟨rfl, rfl⟩
  go_wp2_with fail
  refine (awake_any _ (HT.out.below hB)).mono ?_; rintro e w1 ⟨rfl, hB1⟩
  replace hz : IsZero w1 z := Blk.below hz hB1 (Blk.lt hz)
  replace hB := bNext hB hB1; clear hB1
  go_wp2_with fail
  refine (nadd _ _ _ _).mono ?_; rintro e w2 ⟨rfl, hB1⟩
  replace hz : IsZero w2 z := Blk.below (Blk.alloc hz _) hB1 (Blk.lt (Blk.alloc hz _))
  replace hB := bNext (bNew hB _) hB1; clear hB1
  go_wp2_with fail
  refine (nsync _).mono ?_; rintro e w3 ⟨rfl, hB1⟩
  replace hz : IsZero w3 z := Blk.below hz hB1 (Blk.lt hz)
  replace hB := bNext hB hB1; clear hB1
  go_wp2_with fail
  refine (nbegin _ _ _ _).mono ?_; rintro e w4 ⟨rfl, hB1⟩
  replace hz : IsZero w4 z := Blk.below (Blk.alloc hz _) hB1 (Blk.lt (Blk.alloc hz _))
  replace hB := bNext (bNew hB _) hB1; clear hB1
  go_wp2_with fail
  refine (zadd z _ _ _ _ (Blk.alloc hz _)).mono ?_; rintro e w5 ⟨rfl, hB1⟩
  replace hz : IsZero w5 z := Blk.below (Blk.alloc hz _) hB1 (Blk.lt (Blk.alloc hz _))
  replace hB := bNext (bNew hB _) hB1; clear hB1
  go_wp2_with fail
  refine (zsync z _ hz).mono ?_; rintro e w6 ⟨rfl, hB1⟩
  replace hz : IsZero w6 z := Blk.below hz hB1 (Blk.lt hz)
  replace hB := bNext hB hB1; clear hB1
  go_wp2_with fail
  refine (nlen _).mono ?_; rintro e w7 ⟨rfl, rfl⟩
  go_wp2_with fail
  refine (nsize _).mono ?_; rintro e w7 ⟨rfl, rfl⟩
  go_wp2_with fail
  refine (zlen z _ hz).mono ?_; rintro e w7 ⟨rfl, rfl⟩
  go_wp2_with fail
  refine (zsize z _ hz).mono ?_; rintro e w7 ⟨rfl, rfl⟩
  go_wp2_with fail
  go_ret
  exact ⟨rfl, hB⟩

namespace LLogNil
open Go.ChangeShapes Go.WideShapes Go.ChangeAt
open Go.ChangeMaps (open_string shut_string)

set_option maxRecDepth 100000 in
theorem contract (H : Type) (enc : TypeId × Value → H) (W : World) (base : Nat) (args : Array Value) (ds gs : List (DataW H)) (before : List MemPlace)
    (hval : ∀ (j : Nat) t v, Tryd.f7.params[j]? = some t → args[j]? = some v → Value.okWide Tryd.prog W .any base t v)
    (hW : DataW.Whole enc Tryd.prog Tryd.f7.params.toList Rows.logNilSpec.vars false W args.toList ds gs before)
    (hL : laidMetH Tryd.prog Rows.logNilRow.laid W)
    (_hsz : (DataW.weightsEach Tryd.prog (Tryd.f7.params.toList ++ (OpenSpec.ofChange Rows.logNilSpec).bare.plain.varTypes Tryd.prog) (ds ++ gs)).all (fun x => decide (x ≤ reachBytes)) = true) :
    Calls Tryd.prog 7 args W fun e W' => ∃ v, e = .returned v ∧ Rows.logNilSpec.post enc Tryd.prog Tryd.f7 false true false false W args v W' := by
  have hW' := hW
  obtain ⟨p, q, hA0, hV, rfl, hfz, hnd⟩ := hW
  have hA : DataW.TrodAll enc Tryd.prog W 0 (fun _ => true) true Tryd.f7.params.toList args.toList ds p := hA0
  rw [Tryd.params7] at hA hval
  obtain ⟨v0, vs0, d0, ds0, p0, q0, hargs, rfl, rfl, h0, r0⟩ := trodAll_cons hA
  obtain ⟨rfl, rfl, rfl⟩ := trodAll_nil r0
  obtain rfl : args = #[v0] := by cases args; simp_all
  obtain ⟨rfl, rfl⟩ := trodVars_none hV
  obtain ⟨x0, rfl, rfl, rfl, k0⟩ := open_string Tryd.underlying9 (hval 0 9 v0 rfl rfl) h0
  clear hA0
  refine (logNil_walk x0 W (tab_of hL)).mono fun e W' ⟨he, hb⟩ => ?_
  subst he
  exact ⟨_, rfl, law_post laidOut Tryd.underlying4 rfl (by kernel_rfl) rfl rfl rfl rfl hW' hb⟩

theorem reads (os : Os) {H : Type} (enc : TypeId × Value → H) : ∃ places, DataW.whole enc Tryd.prog ((laidWorld os).forCall (fun _ _ => 0) ⟨#[], #[.string .empty], []⟩).memory Tryd.f7.params.toList Rows.logNilSpec.vars false (#[.string .empty] : Array Value).toList 8 = some ([.lit (.string [])], [], places) :=
  ⟨[], by kernel_rfl⟩
theorem laid_met (os : Os) : laidMet Tryd.prog Rows.logNilRow.laid ((laidWorld os).forCall (fun _ _ => 0) ⟨#[], #[.string .empty], []⟩).memory :=
  laidMet_of_run' 8 (by kernel_rfl) (by kernel_rfl)

set_option maxRecDepth 100000 in
theorem lifted (os : Os) (started : os.Started) (H : Type) (enc : TypeId × Value → H) (F : Stop.Interp) :
    ReturnsInHanded {} Tryd.checked os 7 .any ((OpenSpec.ofChange Rows.logNilSpec).preRow enc Tryd.prog Tryd.f7 Rows.logNilRow.domain false Rows.logNilRow.laid) (((OpenSpec.ofChange Rows.logNilSpec).at F).post enc Tryd.prog Tryd.f7 false true false false) := by
  obtain ⟨places, hx⟩ := reads os enc
  refine returnsInHanded_of_row (C := Tryd.checked) (s := OpenSpec.ofChange Rows.logNilSpec) own started (by kernel_rfl) Tryd.func7
    (witness_row_at (enc := enc) (C := Tryd.checked) false (laidWorld os) #[.string .empty] rfl (by kernel_rfl) (by kernel_rfl) (by kernel_rfl)
      (OpenSpec.preRow_of_cond 8 hx (by kernel_rfl) (fun k hk => by cases hk) (by kernel_rfl) (laid_met os))) ?_
  intro W base args ds gs before hval hW _ _ hsz hL _ _
  exact contract H enc W base args ds gs before hval hW hL hsz

theorem said : Rows.LogNilSaid :=
  OpenClaim.holds_of_cond 7 Tryd.f7 rfl rfl rfl rfl rfl rfl rfl ⟨rfl, rfl, rfl, rfl, rfl⟩ rfl rfl rfl rfl rfl (by kernel_rfl) Tryd.func7 (by kernel_rfl)
    (of_decide_eq_true (by kernel_rfl)) (by unfold Func.isWrapper; first | (rw [if_pos (by decide +kernel)]; kernel_rfl) | (rw [if_neg (by decide +kernel)]; exact ⟨rfl, rfl⟩))
    (fun os started H enc _ F => by rw [OpenClaim.pre_eq_preRow]; exact lifted os started H enc F)

theorem plain (f : FuncId) (fn : Func) (hf : Tryd.pinned.checked.prog.funcNamed "caravan/caravanlaw14.LogNil" = some f) (hfn : Tryd.pinned.checked.prog.funcs[f]? = some fn) :
    false = Tryd.pinned.checked.prog.looks [] ∧ ∀ (j : Nat) t, fn.params[j]? = some t → Tryd.pinned.checked.prog.wantsStandIn t = false := by
  obtain rfl : f = 7 := Option.some.inj ((show Tryd.prog.funcNamed "caravan/caravanlaw14.LogNil" = some 7 by kernel_rfl).symm.trans hf) |>.symm
  obtain rfl : fn = Tryd.f7 := (Option.some.inj (Tryd.func7.symm.trans hfn)).symm
  refine ⟨by kernel_rfl, fun j t ht => ?_⟩
  have hm : t ∈ Tryd.f7.params.toList := Array.mem_toList_iff.2 (Array.mem_of_getElem? ht)
  have hall : (Tryd.f7.params.toList.all fun t => Tryd.prog.wantsStandIn t == false) = true := by kernel_rfl
  have := List.all_eq_true.1 hall t hm
  exact (show Tryd.prog.wantsStandIn t = false by simpa using this)

theorem card : Rows.LogNilCardSaid :=
  Claim7.holds_tied_plain_at .later [] _ _ _ _ said (fun _ h => by cases h) (by kernel_rfl) (fun _ h => by cases h) logNil_row_tie rfl ⟨rfl, rfl⟩ (by kernel_rfl) rfl plain (by kernel_rfl)
end LLogNil
end Go.Proofs.YtkglfnjgneofdaaDoor
