/- FoldSums: for every text and every number the law returns true (the table of four doublings lying in its variable as the program's text lays it). -/
import Derived.Test.YtoiogpjnfipkfaaDoorFoldAwake
import Derived.Test.YtoiogpjnfipkfaaDoorFoldLaid
import Derived.Test.YtoiogpjnfipkfaaDoorCards
import Derived.Test.YtoiogpjnfipkfaaDoorTie
namespace Go.Proofs.YtoiogpjnfipkfaaDoor
open Go.RowKit

theorem zeroCells (n : Nat) : madeCells #[Value.int IntKind.u8 0] n = byteCells (List.replicate n 0) := by
  apply Array.ext_getElem?
  intro j
  rw [byteCells_get]
  by_cases hj : j < n
  · simp [madeCells, hj, Nat.mod_one]
  · rw [Array.getElem?_eq_none_iff.2 (by rw [size_madeCells]; omega), List.getElem?_eq_none (by simp; omega)]; rfl

set_option maxRecDepth 100000 in
set_option maxHeartbeats 1000000 in
theorem foldSums_walk (s : ByteArray) (more : Int) (w : World) (ht : Tab w) :
    Calls Tryd.prog 3 #[.string s, .int .i64 more] w fun e w' => e = .returned (.bool true) ∧ Below w.heap.size w w' := by
  have HT : Hid (Tab w) := ht
  clear ht
  have hm1 : -5 < more.tmod 5 := by have := Int.tmod_lt_of_pos (-more) (b := 5) (by decide); rw [Int.neg_tmod] at this; omega
  have hm2 : more.tmod 5 < 5 := Int.tmod_lt_of_pos _ (by decide)
  have hj : ∃ j : Nat, j ≤ 4 ∧ (more.tmod 5 = (j : Int) ∨ (more.tmod 5 = -(j : Int) ∧ 0 < j)) := ⟨(more.tmod 5).natAbs, by omega, by omega⟩
  clear hm1 hm2
  obtain ⟨j, hj4, hj⟩ := hj
  have hmk : ∀ w : World, (Instr.makeSlice 24 (.int .i64 (2000 * (j : Int))) (.int .i64 (2000 * (j : Int)))).run Tryd.prog w = .ok (.slice (some ⟨w.heap.size, 0, none⟩) (2000 * j) (2000 * j)) (w.alloc (.cells (madeCells #[.int .u8 0] (2000 * j)) 5)) := fun w => by
    have := make_bytes (2000 * j) (by omega) w
    rwa [Int.natCast_mul] at this
  have hcv : ∀ w : World, _ := fun w => conv_new (P := Tryd.prog) w 24 5 9 5 Tryd.underlying24 Tryd.underlying5 Tryd.underlying9 (2000 * j) (2000 * j) (List.replicate (2000 * j) 0) _ (by simp) (zeroCells (2000 * j))
  obtain ⟨Z, hZ⟩ := nm (List.replicate (2000 * j) (0 : UInt8))
  rw [← hZ.out] at hcv
  have hZl : (ofL Z).size ≤ 8000 := by rw [ofL_size, hZ.out, List.length_replicate]; omega
  obtain ⟨s3, hs3⟩ := nm (ofL ((bl s).take 300))
  have hs3l : s3.size ≤ 300 := by rw [hs3.out, ofL_size]; exact List.length_take_le _ _
  rcases hj with hj | ⟨hj, hj0⟩
  all_goals
    go_enter Tryd.func3, Tryd.ntmps3
    go_wp2_with fail
    refine (awake_any _ HT.out).mono ?_; rintro e w1 ⟨rfl, hb1⟩
    go_wp2_with fail
    refine (short_any s 300 _).mono ?_; rintro e w2 ⟨rfl, rfl⟩
    rw [← hs3.out]
    go_wp2_with fail
    refine (wrap_any _ _ ?_ (HT.out.below (bNew hb1 _))).mono ?_
    · rw [ByteArray.size_append]; omega
    rintro e w2 ⟨rfl, hb2⟩
    replace hb2 := bNext (bNew hb1 _) hb2
    go_wp2_with fail
    refine (refwrap_any _ _ ?_).mono ?_
    · rw [ByteArray.size_append]; omega
    rintro e w3 ⟨rfl, hb3⟩
    replace hb3 := bNext hb2 hb3
    go_wp2_with fail
    refine (sum_any _ _ (by omega) (HT.out.below hb3)).mono ?_; rintro e w4 ⟨rfl, rfl⟩
    go_wp2_with fail
    refine (refsum_any _ _ (by omega)).mono ?_; rintro e w4 ⟨rfl, rfl⟩
    go_wp2_with fail
    go_ret
    exact ⟨rfl, hb3⟩
namespace LFoldSums
open Go.ChangeShapes Go.WideShapes Go.ChangeAt
open Go.ChangeMaps (open_string shut_string)

theorem contract (H : Type) (enc : TypeId × Value → H) (W : World) (base : Nat) (args : Array Value) (ds gs : List (DataW H)) (before : List MemPlace)
    (hval : ∀ (j : Nat) t v, Tryd.f3.params[j]? = some t → args[j]? = some v → Value.okWide Tryd.prog W .any base t v)
    (hW : DataW.Whole enc Tryd.prog Tryd.f3.params.toList Rows.foldSumsSpec.vars false W args.toList ds gs before)
    (hL : laidMetH Tryd.prog Rows.foldSumsRow.laid W)
    (_hsz : (DataW.weightsEach Tryd.prog (Tryd.f3.params.toList ++ (OpenSpec.ofChange Rows.foldSumsSpec).bare.plain.varTypes Tryd.prog) (ds ++ gs)).all (fun x => decide (x ≤ reachBytes)) = true) :
    Calls Tryd.prog 3 args W fun e W' => ∃ v, e = .returned v ∧ Rows.foldSumsSpec.post enc Tryd.prog Tryd.f3 false true false false W args v W' := by
  have hW' := hW
  obtain ⟨p, q, hA0, hV, rfl, hfz, hnd⟩ := hW
  have hA : DataW.TrodAll enc Tryd.prog W 0 (fun _ => true) true Tryd.f3.params.toList args.toList ds p := hA0
  rw [Tryd.params3] at hA hval
  obtain ⟨v0, vs0, d0, ds0, p0, q0, hargs, rfl, rfl, h0, r0⟩ := trodAll_cons hA
  obtain ⟨v1, vs1, d1, ds1, p1, q1, rfl, rfl, rfl, h1, r1⟩ := trodAll_cons r0
  obtain ⟨rfl, rfl, rfl⟩ := trodAll_nil r1
  obtain rfl : args = #[v0, v1] := by cases args; simp_all
  obtain ⟨rfl, rfl⟩ := trodVars_none hV
  obtain ⟨x0, rfl, rfl, rfl, k0⟩ := open_string Tryd.underlying9 (hval 0 9 v0 rfl rfl) h0
  obtain ⟨x1, rfl, rfl, rfl, k1⟩ := open_int Tryd.underlying3 (hval 1 3 v1 rfl rfl) h1
  clear hA0
  refine (foldSums_walk x0 x1 W (tab_of hL)).mono fun e W' ⟨he, hb⟩ => ?_
  subst he
  exact ⟨_, rfl, law_post laidOut Tryd.underlying4 rfl (by kernel_rfl) rfl rfl rfl rfl hW' hb⟩

theorem reads (os : Os) {H : Type} (enc : TypeId × Value → H) : ∃ places, DataW.whole enc Tryd.prog ((laidWorld os).forCall (fun _ _ => 0) ⟨#[], #[.string .empty, .int .i64 0], []⟩).memory Tryd.f3.params.toList Rows.foldSumsSpec.vars false (#[.string .empty, .int .i64 0] : Array Value).toList 8 = some ([.lit (.string []), .lit (.int .i64 0)], [], places) :=
  ⟨[], by kernel_rfl⟩
theorem laid_met (os : Os) : laidMet Tryd.prog Rows.foldSumsRow.laid ((laidWorld os).forCall (fun _ _ => 0) ⟨#[], #[.string .empty, .int .i64 0], []⟩).memory :=
  laidMet_of_run' 8 (by kernel_rfl) (by kernel_rfl)

set_option maxRecDepth 100000 in
theorem lifted (os : Os) (started : os.Started) (H : Type) (enc : TypeId × Value → H) (F : Stop.Interp) :
    ReturnsInHanded {} Tryd.checked os 3 .any ((OpenSpec.ofChange Rows.foldSumsSpec).preRow enc Tryd.prog Tryd.f3 Rows.foldSumsRow.domain false Rows.foldSumsRow.laid) (((OpenSpec.ofChange Rows.foldSumsSpec).at F).post enc Tryd.prog Tryd.f3 false true false false) := by
  obtain ⟨places, hx⟩ := reads os enc
  refine returnsInHanded_of_row (C := Tryd.checked) (s := OpenSpec.ofChange Rows.foldSumsSpec) own started (by kernel_rfl) Tryd.func3
    (witness_row_at (enc := enc) (C := Tryd.checked) false (laidWorld os) #[.string .empty, .int .i64 0] rfl (by kernel_rfl) (by kernel_rfl) (by kernel_rfl)
      (OpenSpec.preRow_of_cond 8 hx (by kernel_rfl) (fun k hk => by cases hk) (by kernel_rfl) (laid_met os))) ?_
  intro W base args ds gs before hval hW _ _ hsz hL _ _
  exact contract H enc W base args ds gs before hval hW hL hsz

theorem said : Rows.FoldSumsSaid :=
  OpenClaim.holds_of_cond 3 Tryd.f3 rfl rfl rfl rfl rfl rfl rfl ⟨rfl, rfl, rfl, rfl, rfl⟩ rfl rfl rfl rfl rfl (by kernel_rfl) Tryd.func3 (by kernel_rfl)
    (of_decide_eq_true (by kernel_rfl)) (by unfold Func.isWrapper; first | (rw [if_pos (by decide +kernel)]; kernel_rfl) | (rw [if_neg (by decide +kernel)]; exact ⟨rfl, rfl⟩))
    (fun os started H enc _ F => by rw [OpenClaim.pre_eq_preRow]; exact lifted os started H enc F)

theorem plain (f : FuncId) (fn : Func) (hf : Tryd.pinned.checked.prog.funcNamed "caravan/caravanlaw02.FoldSums" = some f) (hfn : Tryd.pinned.checked.prog.funcs[f]? = some fn) :
    false = Tryd.pinned.checked.prog.looks [] ∧ ∀ (j : Nat) t, fn.params[j]? = some t → Tryd.pinned.checked.prog.wantsStandIn t = false := by
  obtain rfl : f = 3 := Option.some.inj ((show Tryd.prog.funcNamed "caravan/caravanlaw02.FoldSums" = some 3 by kernel_rfl).symm.trans hf) |>.symm
  obtain rfl : fn = Tryd.f3 := (Option.some.inj (Tryd.func3.symm.trans hfn)).symm
  refine ⟨by kernel_rfl, fun j t ht => ?_⟩
  have hm : t ∈ Tryd.f3.params.toList := Array.mem_toList_iff.2 (Array.mem_of_getElem? ht)
  have hall : (Tryd.f3.params.toList.all fun t => Tryd.prog.wantsStandIn t == false) = true := by kernel_rfl
  have := List.all_eq_true.1 hall t hm
  exact (show Tryd.prog.wantsStandIn t = false by simpa using this)

theorem card : Rows.FoldSumsCardSaid :=
  Claim7.holds_tied_plain_at .later [] _ _ _ _ said (fun _ h => by cases h) (by kernel_rfl) (fun _ h => by cases h) foldSums_row_tie rfl ⟨rfl, rfl⟩ (by kernel_rfl) rfl plain (by kernel_rfl)
end LFoldSums
end Go.Proofs.YtoiogpjnfipkfaaDoor
