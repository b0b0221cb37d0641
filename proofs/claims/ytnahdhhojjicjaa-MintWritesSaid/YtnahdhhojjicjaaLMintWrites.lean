/- MintWrites: for every number, text and list the law returns true. -/
import Derived.Test.YtnahdhhojjicjaaNumsRef
import Derived.Test.YtnahdhhojjicjaaLaw
namespace Go.Proofs.Ytnahdhhojjicjaa
open Go.RowKit

set_option maxRecDepth 100000 in
set_option maxHeartbeats 4000000 in
theorem mintWrites_walk (n : Nat) (hn : n < 18446744073709551616) (s : ByteArray) (ao : Option Addr) (len cap : Nat) (zs : List Int) (hl : zs.length = len) (hcap : len ≤ cap) (hz : ∀ z ∈ zs, z ≤ 9223372036854775807) (w : World) (hat : SlAt w ao (zs.map (Value.int .i64))) :
    Calls Try.prog 5 #[.int .u64 (n : Int), .string s, .slice ao len cap] w fun e w' => e = .returned (.bool true) ∧ Below w.heap.size w w' := by
  have hao : len ≠ 0 → ∃ b off, ao = some ⟨b, off, none⟩ := by
    intro h0
    obtain ⟨b, off, h1, _⟩ := SlAt.int hat 0 (by omega)
    exact ⟨b, off, h1⟩
  have hat2 : SlAt w ao ((zs.take 20).map (Value.int .i64)) := by rw [List.map_take]; exact hat.take 20
  have hz2 : ∀ z ∈ zs.take 20, z ≤ 9223372036854775807 := fun z h => hz z (List.mem_of_mem_take h)
  have hl2 : (zs.take 20).length = min len 20 := by rw [List.length_take, hl]; omega
  clear hat hz hl
  obtain ⟨m, hm⟩ := nm (min len 20)
  have hm20 : m ≤ 20 := by rw [hm.out]; omega
  rw [← hm.out] at hl2
  obtain ⟨ys, hys⟩ := nm (zs.take 20)
  rw [← hys.out] at hat2 hz2 hl2
  clear hys
  have HAT := Lib.hid hat2
  have HZ := Lib.hid hz2
  have HL := Lib.hid hl2
  clear hat2 hz2 hl2
  have hc := cutB_le s 300
  obtain ⟨u, hu⟩ := nm (cutB s 300)
  rw [← hu.out] at hc
  obtain ⟨x, hx⟩ := nm (ofL (Pl.num n))
  obtain ⟨y, hy⟩ := nm (ofL (textL (bl u)))
  obtain ⟨q, hq⟩ := nm (ofL (numsL ys))
  have eN : ∀ w : World, Calls Try.prog 11 #[.int .u64 n] w fun e w' => e = .returned (.string x) ∧ Below w.heap.size w w' := by rw [hx.out]; exact fun w => num_any n w hn
  have eN2 : ∀ w : World, Calls Try.prog 16 #[.int .u64 n] w fun e w' => e = .returned (.string x) ∧ Below w.heap.size w w' := by rw [hx.out]; exact fun w => refnum_any n w hn
  have EN := Lib.hid eN
  have EN2 := Lib.hid eN2
  clear eN eN2
  go_enter Try.func5, Try.ntmps5
  go_wp2_with fail
  refine (awake_any _).mono ?_; rintro e w0 ⟨rfl, hB⟩
  go_wp2_with fail
  refine (short_any s 300 _ (by decide)).mono ?_; rintro e w1 ⟨rfl, rfl⟩
  rw [← hu.out]
  go_wp2_with fail
  refine (few_any ao len cap _ hcap hao).mono ?_; rintro e w1 ⟨rfl, rfl⟩
  rw [← hm.out]
  go_upto_if 17 with fail
  go_cut [9] (fun s9 wx => (∃ z : Int, z ≤ 9223372036854775807 ∧ s9 = .int .i64 z) ∧ w0 = wx)
  case first =>
    by_cases h0 : 0 < m
    · obtain ⟨bs, off, rfl, hbs, hcell⟩ := SlAt.int HAT.out 0 (by rw [HL.out]; exact h0)
      obtain ⟨z, hzz⟩ := nm (ys[0]'(by rw [HL.out]; exact h0))
      have hz63 : z ≤ 9223372036854775807 := by rw [hzz.out]; exact HZ.out _ (List.getElem_mem _)
      rw [← hzz.out] at hcell
      have hc : w0.cell? ⟨bs, off, none⟩ = some (.int .i64 z) := (hB.cell (p := ⟨bs, off, none⟩) hbs).trans hcell
      go_wp2_with fail
      go_meet
      exact ⟨⟨z, hz63, rfl⟩, rfl⟩
    · go_wp2_with fail
      go_meet
      exact ⟨⟨0, by decide, rfl⟩, rfl⟩
  obtain ⟨⟨z, hz63, rfl⟩, rfl⟩ := hcut
  obtain ⟨v, hv⟩ := nm (ofL (Pl.num z.toNat))
  go_wp2_with fail
  refine (EN.out _).mono ?_; rintro e w1 ⟨rfl, h1⟩
  replace hB := bNext hB h1; clear h1
  go_wp2_with fail
  refine (EN2.out _).mono ?_; rintro e w2 ⟨rfl, h1⟩
  replace hB := bNext hB h1; clear h1
  go_wp2_with fail
  refine (mint_int z _ hz63).mono ?_; rintro e w3 ⟨rfl, h1⟩
  rw [← hv.out]
  replace hB := bNext hB h1; clear h1
  go_wp2_with fail
  refine (ref_int z _ hz63).mono ?_; rintro e w4 ⟨rfl, h1⟩
  rw [← hv.out]
  replace hB := bNext hB h1; clear h1
  go_wp2_with fail
  refine (text_any u _ (by omega)).mono ?_; rintro e w5 ⟨rfl, h1⟩
  rw [← hy.out]
  replace hB := bNext hB h1; clear h1
  go_wp2_with fail
  refine (reftext_any u _ (by omega)).mono ?_; rintro e w6 ⟨rfl, h1⟩
  rw [← hy.out]
  replace hB := bNext hB h1; clear h1
  go_wp2_with fail
  refine (nums_any ao m cap ys HL.out (by omega) HZ.out _ (HAT.out.below hB)).mono ?_; rintro e w7 ⟨rfl, h1⟩
  rw [← hq.out]
  replace hB := bNext hB h1; clear h1
  go_wp2_with fail
  refine (refnums_any ao m cap ys HL.out (by omega) HZ.out _ (HAT.out.below hB)).mono ?_; rintro e w8 ⟨rfl, h1⟩
  rw [← hq.out]
  replace hB := bNext hB h1; clear h1
  go_wp2_with fail
  go_ret
  exact ⟨rfl, hB⟩

theorem mintWrites_walkI (x0 : Int) (k0 : (Lit.int .u64 x0).wf = true) (s : ByteArray) (ao : Option Addr) (len cap : Nat) (zs : List Int) (hl : zs.length = len) (hcap : len ≤ cap) (hz : ∀ z ∈ zs, (Lit.int .i64 z).wf = true) (w : World) (hat : SlAt w ao (zs.map (Value.int .i64))) :
    Calls Try.prog 5 #[.int .u64 x0, .string s, .slice ao len cap] w fun e w' => e = .returned (.bool true) ∧ Below w.heap.size w w' := by
  have h0 := Go.bounds_u64 k0
  obtain ⟨n, rfl⟩ : ∃ n : Nat, x0 = n := ⟨x0.toNat, by omega⟩
  exact mintWrites_walk n (by omega) s ao len cap zs hl hcap (fun z h => (Go.bounds_i64 (hz z h)).2) w hat

namespace LMintWrites
open Go.ChangeShapes Go.WideShapes Go.ChangeAt
open Go.ChangeMaps (open_string shut_string)

theorem contract (H : Type) (enc : TypeId × Value → H) (W : World) (base : Nat) (args : Array Value) (ds gs : List (DataW H)) (before : List MemPlace)
    (hval : ∀ (j : Nat) t v, Try.f5.params[j]? = some t → args[j]? = some v → Value.okWide Try.prog W .any base t v)
    (hW : DataW.Whole enc Try.prog Try.f5.params.toList Rows.mintWritesSpec.vars false W args.toList ds gs before)
    (_hsz : (DataW.weightsEach Try.prog (Try.f5.params.toList ++ (OpenSpec.ofChange Rows.mintWritesSpec).bare.plain.varTypes Try.prog) (ds ++ gs)).all (fun x => decide (x ≤ reachBytes)) = true) :
    Calls Try.prog 5 args W fun e W' => ∃ v, e = .returned v ∧ Rows.mintWritesSpec.post enc Try.prog Try.f5 false true false false W args v W' := by
  have hW' := hW
  obtain ⟨p, q, hA0, hV, rfl, hfz, hnd⟩ := hW
  have hA : DataW.TrodAll enc Try.prog W 0 (fun _ => true) true Try.f5.params.toList args.toList ds p := hA0
  rw [Try.params5] at hA hval
  obtain ⟨v0, vs0, d0, ds0, p0, q0, hargs, rfl, rfl, h0, r0⟩ := trodAll_cons hA
  obtain ⟨v1, vs1, d1, ds1, p1, q1, rfl, rfl, rfl, h1, r1⟩ := trodAll_cons r0
  obtain ⟨v2, vs2, d2, ds2, p2, q2, rfl, rfl, rfl, h2, r2⟩ := trodAll_cons r1
  obtain ⟨rfl, rfl, rfl⟩ := trodAll_nil r2
  obtain rfl : args = #[v0, v1, v2] := by cases args; simp_all
  obtain ⟨rfl, rfl⟩ := trodVars_none hV
  obtain ⟨x0, rfl, rfl, rfl, k0⟩ := open_int Try.underlying22 (hval 0 22 v0 rfl rfl) h0
  obtain ⟨x1, rfl, rfl, rfl, k1⟩ := open_string Try.underlying9 (hval 1 9 v1 rfl rfl) h1
  obtain ⟨ao2, len2, cap2, ss2, rfl, hl2, hc2, _, hat2, wf2⟩ := open_ints2 Try.underlying26 Try.underlying3 (show Try.prog.cellsOf 3 = 1 by kernel_rfl) h2 (okWide_slice Try.underlying26 (hval 2 26 v2 rfl rfl))
  clear hA0
  refine (mintWrites_walkI x0 k0 x1 ao2 len2 cap2 ss2 hl2 hc2 wf2 W hat2).mono fun e W' ⟨he, hb⟩ => ?_
  subst he
  exact ⟨_, rfl, law_post laidOut Try.underlying4 rfl (by kernel_rfl) rfl rfl rfl rfl hW' hb⟩

theorem reads (os : Os) {H : Type} (enc : TypeId × Value → H) : ∃ places, DataW.whole enc Try.prog ((World.holding Try.prog os ⟨#[], #[], []⟩).forCall (fun _ _ => 0) ⟨#[], #[.int .u64 0, .string .empty, .slice none 0 0], []⟩).memory Try.f5.params.toList Rows.mintWritesSpec.vars false (#[.int .u64 0, .string .empty, .slice none 0 0] : Array Value).toList 8 = some ([.lit (.int .u64 0), .lit (.string []), .nil], [], places) :=
  ⟨[], by kernel_rfl⟩
theorem laid_met (os : Os) : laidMet Try.prog Rows.mintWritesRow.laid ((World.holding Try.prog os ⟨#[], #[], []⟩).forCall (fun _ _ => 0) ⟨#[], #[.int .u64 0, .string .empty, .slice none 0 0], []⟩).memory :=
  laidMet_of_run' 8 (by kernel_rfl) (by kernel_rfl)

set_option maxRecDepth 100000 in
theorem lifted (os : Os) (started : os.Started) (H : Type) (enc : TypeId × Value → H) (F : Stop.Interp) :
    ReturnsInHanded {} Try.checked os 5 .any ((OpenSpec.ofChange Rows.mintWritesSpec).preRow enc Try.prog Try.f5 Rows.mintWritesRow.domain false Rows.mintWritesRow.laid) (((OpenSpec.ofChange Rows.mintWritesSpec).at F).post enc Try.prog Try.f5 false true false false) := by
  obtain ⟨places, hx⟩ := reads os enc
  refine returnsInHanded_of_row (C := Try.checked) (s := OpenSpec.ofChange Rows.mintWritesSpec) own started (by kernel_rfl) Try.func5
    (witness_row_at (enc := enc) (C := Try.checked) false (World.holding Try.prog os ⟨#[], #[], []⟩) #[.int .u64 0, .string .empty, .slice none 0 0] rfl (by kernel_rfl) (by kernel_rfl) (by kernel_rfl)
      (OpenSpec.preRow_of_cond 8 hx (by kernel_rfl) (fun k hk => by cases hk) (by kernel_rfl) (laid_met os))) ?_
  intro W base args ds gs before hval hW _ _ hsz hL _ _
  exact contract H enc W base args ds gs before hval hW hsz

theorem said : Rows.MintWritesSaid :=
  OpenClaim.holds_of_cond 5 Try.f5 rfl rfl rfl rfl rfl rfl rfl ⟨rfl, rfl, rfl, rfl, rfl⟩ rfl rfl rfl rfl rfl (by kernel_rfl) Try.func5 (by kernel_rfl)
    (of_decide_eq_true (by kernel_rfl)) (by unfold Func.isWrapper; first | (rw [if_pos (by decide +kernel)]; kernel_rfl) | (rw [if_neg (by decide +kernel)]; exact ⟨rfl, rfl⟩))
    (fun os started H enc _ F => by rw [OpenClaim.pre_eq_preRow]; exact lifted os started H enc F)
end LMintWrites
end Go.Proofs.Ytnahdhhojjicjaa
