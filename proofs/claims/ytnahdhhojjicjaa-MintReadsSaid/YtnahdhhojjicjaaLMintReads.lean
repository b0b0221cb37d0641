/- MintReads: for every text and every row of calls the law returns true. -/
import Derived.Test.YtnahdhhojjicjaaTwoReaders
import Derived.Test.YtnahdhhojjicjaaSame
import Derived.Test.YtnahdhhojjicjaaLaw
import Derived.Deep.CutBlock
namespace Go.Proofs.Ytnahdhhojjicjaa
open Go.RowKit

set_option maxRecDepth 100000 in
set_option maxHeartbeats 8000000 in
theorem mintReads_walk (s : ByteArray) (ao : Option Addr) (len cap : Nat) (ss : List Int) (hl : ss.length = len) (hwf : ∀ z ∈ ss, (Lit.int .i64 z).wf = true) (w : World) (hat : SlAt w ao (ss.map (Value.int .i64))) :
    Calls Try.prog 6 #[.string s, .slice ao len cap] w fun e w' => e = .returned (.bool true) ∧ Below w.heap.size w w' := by
  have HAT := Lib.hid hat
  have HL := Lib.hid hl
  have HWF := Lib.hid hwf
  clear hat hl hwf
  have hc := cutB_le s 200
  obtain ⟨u, hu⟩ := nm (cutB s 200)
  rw [← hu.out] at hc
  go_enter Try.func6, Try.ntmps6
  go_wp2_with fail
  refine (awake_any _).mono ?_; rintro e w0 ⟨rfl, hB⟩
  go_wp2_with fail
  refine (short_any s 200 _ (by decide)).mono ?_; rintro e w1 ⟨rfl, rfl⟩
  rw [← hu.out]
  go_wp2_with fail
  refine (read2_any _ _).mono ?_; rintro e w1 ⟨b, rfl, hb, hd, hB1⟩
  have hbl := hd.lt
  replace hb := Nat.le_trans hB.size hb
  replace hB := bNext hB hB1
  clear hB1
  have hbo : Two w (w1.alloc (.cells (Rd.cells ⟨u, false⟩) 41)) b w1.heap.size ⟨u, false⟩ := ⟨by omega, hb, hB.size, hd.alloc _, Blk.new _ _ _, bNew hB _⟩
  obtain ⟨c, hcc⟩ := nm w1.heap.size
  rw [← hcc.out] at hbo
  go_wp2_with fail
  rw [← hcc.out]
  go_loopw [8] (fun i wr => ∃ (k : Nat) (d : Rd), k ≤ 30 ∧ k ≤ len ∧ i = .int .i64 (k : Int) ∧ d.left.size ≤ 200 ∧ Two w wr b c d) (fun i _ => 30 - (intOf i).toNat)
  case atStart => exact ⟨0, _, by omega, by omega, rfl, hc, hbo⟩
  case round =>
    clear hbo hb hd hB hbl hcc
    obtain ⟨k, d, hk1, hk2, rfl, hds, hbo⟩ := hrel
    by_cases hlt : k < len ∧ k < 30
    rotate_left
    · go_wp2_with fail
      all_goals
        go_ret
        exact ⟨rfl, hbo.old⟩
    obtain ⟨hlt1, hlt2⟩ := hlt
    obtain ⟨bs, off, rfl, hbs, cAll⟩ := HAT.out k (by rw [List.length_map, HL.out]; exact hlt1)
    have cAny : ∀ j (hj : j < len), wr.cell? ⟨bs, off + j, none⟩ = some (.int .i64 (ss[j]'(by rw [HL.out]; exact hj))) := by
      intro j hj
      rw [hbo.old.cell (p := ⟨bs, off + j, none⟩) hbs, cAll j (by rw [List.length_map, HL.out]; exact hj)]
      rw [List.getElem?_map, List.getElem?_eq_getElem (by rw [HL.out]; exact hj)]
      rfl
    clear cAll
    obtain ⟨z, hz⟩ := nm (ss[k]'(by rw [HL.out]; exact hlt1))
    have cz := cAny k hlt1
    rw [← hz.out] at cz
    have CA := Lib.hid cAny
    clear cAny
    obtain ⟨R, hR⟩ := nm (z.tmod 4)
    obtain ⟨K, hK⟩ := nm R.natAbs
    have hK4 : K < 4 := by
      rw [hK.out, hR.out]
      have := Int.tmod_lt_of_pos z (b := 4) (by omega)
      have := Int.lt_tmod_of_pos z (b := 4) (by omega)
      omega
    have hRK : (R < 0 ∧ -R = (K : Int)) ∨ (¬ R < 0 ∧ R = (K : Int)) := by
      rw [hK.out]; omega
    have hRb : -4 < R ∧ R < 4 := by omega
    go_upto_if 39 with fail
    go_cut [9] (fun s9 wx => s9 = .int .i64 (K : Int) ∧ wr = wx)
    case first =>
      rw [← hR.out]
      rcases hRK with ⟨h1, h2⟩ | ⟨h1, h2⟩
      all_goals
        go_wp2_with fail
        go_meet
        exact ⟨rfl, rfl⟩
    obtain ⟨rfl, rfl⟩ := hcut
    clear hRK hRb cz
    go_upto_if 46 with fail
    go_cut [10, 11] (fun s10 s11 wx => ∃ x y : Int, x ≤ 9223372036854775807 ∧ y ≤ 9223372036854775807 ∧ s10 = .int .i64 x ∧ s11 = .int .i64 y ∧ wr = wx)
    case first =>
      by_cases h2 : k + 2 < len
      · obtain ⟨x, hx⟩ := nm (ss[k + 1]'(by rw [HL.out]; omega))
        obtain ⟨y, hy⟩ := nm (ss[k + 2]'(by rw [HL.out]; omega))
        have cx := CA.out (k + 1) (by omega)
        have cy := CA.out (k + 2) h2
        rw [← hx.out] at cx
        rw [← hy.out] at cy
        have bx : x ≤ 9223372036854775807 := by rw [hx.out]; have := Go.bounds_i64 (HWF.out _ (List.getElem_mem (show k + 1 < ss.length by rw [HL.out]; omega))); omega
        have by' : y ≤ 9223372036854775807 := by rw [hy.out]; have := Go.bounds_i64 (HWF.out _ (List.getElem_mem (show k + 2 < ss.length by rw [HL.out]; omega))); omega
        go_wp2_with fail
        go_meet
        exact ⟨x, y, bx, by', rfl, rfl, rfl⟩
      · go_wp2_with fail
        go_meet
        exact ⟨_, _, by decide, by decide, rfl, rfl, rfl⟩
    obtain ⟨x, y, hx, hy, rfl, rfl, rfl⟩ := hcut
    clear CA
    go_upto_block 2 with fail
    go_cut [12] (fun s12 wx => s12 = .bool true ∧ ∃ d1 : Rd, d1.left.size ≤ 200 ∧ Two w wx b c d1)
    case first =>
      have hKK : K = 0 ∨ K = 1 ∨ K = 2 ∨ K = 3 := by omega
      rcases hKK with rfl | rfl | rfl | rfl
      · have hle : d.num.1.left.size ≤ 200 := Nat.le_trans d.num_lt.2 hds
        go_wp2_with fail
        refine (rnum_any b _ _ hbo.rd (by omega)).mono ?_; rintro e w2 ⟨rfl, h1, hk⟩
        obtain ⟨g1, g2, g3⟩ := hbo.first h1 hk
        go_wp2_with fail
        refine (refread_any c _ _ g1 (by omega)).mono ?_; rintro e w3 ⟨rfl, h2, hk2⟩
        have hbo2 := hbo.second g2 g3 h2 hk2
        go_wp2_with fail
        go_meet
        exact ⟨by simp, _, hle, hbo2⟩
      · have hle : (d.int x).1.left.size ≤ 200 := Nat.le_trans (d.int_lt x).2.1 hds
        go_wp2_with fail
        refine (rint_any b _ x _ hbo.rd (by omega) hx).mono ?_; rintro e w2 ⟨rfl, h1, hk⟩
        obtain ⟨g1, g2, g3⟩ := hbo.first h1 hk
        go_wp2_with fail
        refine (refrint_any c _ x _ g1 (by omega) hx).mono ?_; rintro e w3 ⟨rfl, h2, hk2⟩
        have hbo2 := hbo.second g2 g3 h2 hk2
        go_wp2_with fail
        go_meet
        exact ⟨by simp, _, hle, hbo2⟩
      · have hle : (d.text x).1.left.size ≤ 200 := Nat.le_trans (d.text_le x) hds
        go_wp2_with fail
        refine (rtext_any b _ x _ hbo.rd (by omega) hx).mono ?_; rintro e w2 ⟨rfl, h1, hk⟩
        obtain ⟨g1, g2, g3⟩ := hbo.first h1 hk
        go_wp2_with fail
        refine (refrtext_any c _ x _ g1 (by omega) hx).mono ?_; rintro e w3 ⟨rfl, h2, hk2⟩
        have hbo2 := hbo.second g2 g3 h2 hk2
        go_wp2_with fail
        go_meet
        exact ⟨by simp, _, hle, hbo2⟩
      · have hle : (d.nums x y).1.left.size ≤ 200 := Nat.le_trans (d.nums_le x y) hds
        have hls : (d.nums x y).2.length ≤ 4611686018427387904 := Nat.le_trans (d.nums_len x y) (by omega)
        go_wp2_with fail
        refine (rnums_any b _ x y _ hbo.rd (by omega) hx hy).mono ?_; rintro e w2 ⟨ao1, cap1, rfl, hc1, hs1, h1, hk⟩
        obtain ⟨g1, g2, g3⟩ := hbo.first h1 hk
        go_wp2_with fail
        refine (refrnums_any c _ x y _ g1 (by omega) hx hy).mono ?_; rintro e w3 ⟨ao2, cap2, rfl, hc2, hs2, h2, hk2⟩
        have hbo2 := hbo.second g2 g3 h2 hk2
        have hs3 := hs1.keptRr g1 hk2
        go_wp2_with fail
        refine (same_any ao1 ao2 cap1 cap2 _ _ _ hls hs3 hs2).mono ?_; rintro e w4 ⟨rfl, q, rfl⟩
        go_wp2_with fail
        go_meet
        exact ⟨by simp, _, hle, hbo2.drewN q⟩
    clear hbo hds
    obtain ⟨rfl, d1, hds, hbo⟩ := hcut
    have r1 : wc.cell? ⟨c, 1, none⟩ = some (.bool d1.torn) := hbo.rr.cell 1
    have hnt : ((!d1.torn) == d1.torn) = false := by cases d1.torn <;> rfl
    go_upto_region 27 with fail
    go_quiet ((first
      | (go_at_call 31; exact Calls.quiet_of_same (fine_any2 b _ _ hbo.rd))
      | (go_at_call 32; exact Calls.quiet_of_same (rleft_any2 b _ _ hbo.rd))
      | (go_at_call 33; exact Calls.quiet_of_same (refrleft_any2 c _ _ hbo.rr))
      | (go_at_call 34; exact Calls.quiet_of_same (rend_any2 b _ _ hbo.rd))
      | (go_at_call 35; exact Calls.quiet_of_same (refrend_any2 c _ _ hbo.rr))))
    have hbo := hbo.drewN nq
    go_wp2_with fail
    go_roundw
    case rel => exact ⟨k + 1, d1, by omega, by omega, by go_num, hds, hbo⟩
    case measure => simp [intOf]; omega

namespace LMintReads
open Go.ChangeShapes Go.WideShapes Go.ChangeAt
open Go.ChangeMaps (open_string shut_string)

theorem contract (H : Type) (enc : TypeId × Value → H) (W : World) (base : Nat) (args : Array Value) (ds gs : List (DataW H)) (before : List MemPlace)
    (hval : ∀ (j : Nat) t v, Try.f6.params[j]? = some t → args[j]? = some v → Value.okWide Try.prog W .any base t v)
    (hW : DataW.Whole enc Try.prog Try.f6.params.toList Rows.mintReadsSpec.vars false W args.toList ds gs before)
    (_hsz : (DataW.weightsEach Try.prog (Try.f6.params.toList ++ (OpenSpec.ofChange Rows.mintReadsSpec).bare.plain.varTypes Try.prog) (ds ++ gs)).all (fun x => decide (x ≤ reachBytes)) = true) :
    Calls Try.prog 6 args W fun e W' => ∃ v, e = .returned v ∧ Rows.mintReadsSpec.post enc Try.prog Try.f6 false true false false W args v W' := by
  have hW' := hW
  obtain ⟨p, q, hA0, hV, rfl, hfz, hnd⟩ := hW
  have hA : DataW.TrodAll enc Try.prog W 0 (fun _ => true) true Try.f6.params.toList args.toList ds p := hA0
  rw [Try.params6] at hA hval
  obtain ⟨v0, vs0, d0, ds0, p0, q0, hargs, rfl, rfl, h0, r0⟩ := trodAll_cons hA
  obtain ⟨v1, vs1, d1, ds1, p1, q1, rfl, rfl, rfl, h1, r1⟩ := trodAll_cons r0
  obtain ⟨rfl, rfl, rfl⟩ := trodAll_nil r1
  obtain rfl : args = #[v0, v1] := by cases args; simp_all
  obtain ⟨rfl, rfl⟩ := trodVars_none hV
  obtain ⟨x0, rfl, rfl, rfl, k0⟩ := open_string Try.underlying9 (hval 0 9 v0 rfl rfl) h0
  obtain ⟨ao1, len1, cap1, ss1, rfl, hl1, _, _, hat1, wf1⟩ := open_ints2 Try.underlying26 Try.underlying3 (show Try.prog.cellsOf 3 = 1 by kernel_rfl) h1 (okWide_slice Try.underlying26 (hval 1 26 v1 rfl rfl))
  clear hA0
  refine (mintReads_walk x0 ao1 len1 cap1 ss1 hl1 wf1 W hat1).mono fun e W' ⟨he, hb⟩ => ?_
  subst he
  exact ⟨_, rfl, law_post laidOut Try.underlying4 rfl (by kernel_rfl) rfl rfl rfl rfl hW' hb⟩

theorem reads (os : Os) {H : Type} (enc : TypeId × Value → H) : ∃ places, DataW.whole enc Try.prog ((World.holding Try.prog os ⟨#[], #[], []⟩).forCall (fun _ _ => 0) ⟨#[], #[.string .empty, .slice none 0 0], []⟩).memory Try.f6.params.toList Rows.mintReadsSpec.vars false (#[.string .empty, .slice none 0 0] : Array Value).toList 8 = some ([.lit (.string []), .nil], [], places) :=
  ⟨[], by kernel_rfl⟩
theorem laid_met (os : Os) : laidMet Try.prog Rows.mintReadsRow.laid ((World.holding Try.prog os ⟨#[], #[], []⟩).forCall (fun _ _ => 0) ⟨#[], #[.string .empty, .slice none 0 0], []⟩).memory :=
  laidMet_of_run' 8 (by kernel_rfl) (by kernel_rfl)

set_option maxRecDepth 100000 in
theorem lifted (os : Os) (started : os.Started) (H : Type) (enc : TypeId × Value → H) (F : Stop.Interp) :
    ReturnsInHanded {} Try.checked os 6 .any ((OpenSpec.ofChange Rows.mintReadsSpec).preRow enc Try.prog Try.f6 Rows.mintReadsRow.domain false Rows.mintReadsRow.laid) (((OpenSpec.ofChange Rows.mintReadsSpec).at F).post enc Try.prog Try.f6 false true false false) := by
  obtain ⟨places, hx⟩ := reads os enc
  refine returnsInHanded_of_row (C := Try.checked) (s := OpenSpec.ofChange Rows.mintReadsSpec) own started (by kernel_rfl) Try.func6
    (witness_row_at (enc := enc) (C := Try.checked) false (World.holding Try.prog os ⟨#[], #[], []⟩) #[.string .empty, .slice none 0 0] rfl (by kernel_rfl) (by kernel_rfl) (by kernel_rfl)
      (OpenSpec.preRow_of_cond 8 hx (by kernel_rfl) (fun k hk => by cases hk) (by kernel_rfl) (laid_met os))) ?_
  intro W base args ds gs before hval hW _ _ hsz hL _ _
  exact contract H enc W base args ds gs before hval hW hsz

theorem said : Rows.MintReadsSaid :=
  OpenClaim.holds_of_cond 6 Try.f6 rfl rfl rfl rfl rfl rfl rfl ⟨rfl, rfl, rfl, rfl, rfl⟩ rfl rfl rfl rfl rfl (by kernel_rfl) Try.func6 (by kernel_rfl)
    (of_decide_eq_true (by kernel_rfl)) (by unfold Func.isWrapper; first | (rw [if_pos (by decide +kernel)]; kernel_rfl) | (rw [if_neg (by decide +kernel)]; exact ⟨rfl, rfl⟩))
    (fun os started H enc _ F => by rw [OpenClaim.pre_eq_preRow]; exact lifted os started H enc F)
end LMintReads
end Go.Proofs.Ytnahdhhojjicjaa
