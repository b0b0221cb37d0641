/- DiskSafe: for every row of texts, every row of choices and every two numbers the law returns true. -/
import Derived.Test.YtkhmelpbndfbdaaDiskAwake
import Derived.Test.YtkhmelpbndfbdaaBytes
import Derived.Test.YtkhmelpbndfbdaaSlices
import Derived.Deep.CutBlock
namespace Go.Proofs.Ytkhmelpbndfbdaa
open Go.RowKit

set_option maxRecDepth 100000 in
set_option maxHeartbeats 16000000 in
theorem diskSafe_walk (ao : Option Addr) (len cap : Nat) (ss : List ByteArray) (hlen : ss.length = len) (ao2 : Option Addr) (len2 cap2 : Nat) (bs : List Bool) (hlen2 : bs.length = len2) (q0 q1 : Int) (w : World)
    (hat : SlAt w ao (ss.map Value.string)) (hat2 : SlAt w ao2 (bs.map Value.bool)) :
    Calls Try.prog 3 #[.slice ao len cap, .slice ao2 len2 cap2, .agg #[.int .i64 q0, .int .i64 q1]] w fun e w' => e = .returned (.bool true) ∧ Below w.heap.size w w' := by
  obtain ⟨Q, hQ, hm⟩ := and_mask q0 63 (by decide)
  have hm2 : bits BinOp.and IntKind.i64 q0 63 = (Q : Int) := hm
  clear hm
  obtain ⟨wB, hwB⟩ : ∃ wB : World, Hid (wB = w.alloc (.cells #[.int .i64 q0, .int .i64 q1] 24)) := ⟨_, rfl⟩
  have hw0 : Below w.heap.size w wB := by rw [hwB.out]; exact bOld _
  have p0 : Blk wB w.heap.size #[.int .i64 q0, .int .i64 q1] 24 := by rw [hwB.out]; exact Blk.new _ _ _
  have pb := p0.lt
  have HAT := Lib.hid (hat.below hw0)
  have HAT2 := Lib.hid (hat2.below hw0)
  have HL := Lib.hid hlen
  have HL2 := Lib.hid hlen2
  clear hat hat2 hlen hlen2
  go_enter Try.func3, Try.ntmps3
  go_wp2_with fail
  rw [← hwB.out]
  refine (awake_any _).mono ?_; rintro e w0 ⟨rfl, hB⟩
  go_wp2_with fail
  refine (dnew2_any 1000 _ (by decide) (by decide)).mono ?_; rintro e w1 ⟨b, rfl, hb, hd, hB1⟩
  replace hb := Nat.le_trans hB.size hb
  replace hB := bNext hB hB1
  clear hB1
  have cQ : w1.cell? ⟨w.heap.size, 0, none⟩ = some (.int .i64 q0) := (p0.below hB pb).cell 0
  have a0 : (Dk.new 1000).arm Q = ⟨⟨#[]⟩, ⟨#[]⟩, 1000, 0, true, true, Q⟩ := by simp [Dk.arm, Dk.new, show ¬ (Q : Int) < 0 from by omega]
  have A0 := Lib.hid a0
  clear a0
  go_wp2_with fail
  refine (darm_any b _ _ _ hd).mono ?_; rintro e w2 ⟨rfl, hd, hk⟩
  rw [A0.out] at hd; replace hB := bKept hB hk hb; clear hk cQ
  go_upto_block 0 with fail
  go_cut [9, 10] (fun a h wx => ∃ (S T : ByteArray) (st : Nat) (on : Bool) (left : Nat), a = .string (S ++ T) ∧ h = .int .i64 (S.size : Int) ∧ S.size + T.size ≤ 200 ∧ st ≤ 40 ∧ left ≤ 63 ∧
    IsDk wx b ⟨S, T, 1000, st, on, true, left⟩ ∧ Below wB.heap.size wB wx)
  case first =>
    go_wp2_with fail
    go_loopw [9, 10, 11] (fun a h i wr => ∃ (k : Nat) (S T : ByteArray) (st : Nat) (on : Bool) (left : Nat), k ≤ 20 ∧ k ≤ len ∧ i = .int .i64 (k : Int) ∧ a = .string (S ++ T) ∧ h = .int .i64 (S.size : Int) ∧ S.size + T.size ≤ 10 * k ∧ st ≤ 2 * k ∧ left ≤ 63 ∧
      IsDk wr b ⟨S, T, 1000, st, on, true, left⟩ ∧ Below wB.heap.size wB wr) (fun _ _ i _ => 20 - (intOf i).toNat)
    case atStart => exact ⟨0, ⟨#[]⟩, ⟨#[]⟩, 0, true, Q, by omega, by omega, rfl, by rw [nil_append], rfl, by simp [nil_size], by omega, hQ, hd, hB⟩
    case round =>
      clear hd hB
      obtain ⟨k, S, T, st, on, left, hk1, hk2, rfl, rfl, rfl, hsz, hst, hle, hd, hB⟩ := hrel
      by_cases hlt : k < len ∧ k < 20 ∧ on = true
      · obtain ⟨hlt1, hlt2, rfl⟩ := hlt
        obtain ⟨ba, off, rfl, hbs, hcs⟩ := HAT.out k (by rw [List.length_map, HL.out]; exact hlt1)
        obtain ⟨s, hs⟩ := nm (ss.getD k ⟨#[]⟩)
        have hcell : wr.cell? ⟨ba, off + k, none⟩ = some (.string s) := by
          have h1 := hcs k (by rw [List.length_map, HL.out]; exact hlt1)
          rw [hB.cell (p := ⟨ba, off + k, none⟩) hbs, h1, hs.out]
          have : k < ss.length := by rw [HL.out]; exact hlt1
          simp [this]
        clear hcs
        have h10 := cutB_cases s 10
        have h10l := cutB_le s 10
        obtain ⟨s2, hs2⟩ := nm (cutB s 10)
        rw [← hs2.out] at h10 h10l
        have hst2 := app_size S T
        go_wp2_with fail
        refine (don_any b _ _ hd).mono ?_; rintro e w3 ⟨rfl, rfl⟩
        go_upto_if 43 with fail
        go_cut [12] (fun s12 wx => s12 = .string s2 ∧ wr = wx)
        case first =>
          rcases h10 with ⟨h, e⟩ | ⟨h, rfl⟩
          all_goals
            go_wp2_with fail
            go_meet
            exact ⟨rfl, rfl⟩
        obtain ⟨rfl, rfl⟩ := hcut
        clear h10 hcell
        by_cases hl0 : left = 0
        · subst hl0
          have a1 : (⟨S, T, 1000, st, true, true, ((0 : Nat) : Int)⟩ : Dk).append s2 = (⟨S, T ++ s2, 1000, st, false, true, ((0 : Nat) : Int)⟩, 14) := append_lost _ _ rfl rfl (by simp; omega) rfl
          have A1 := Lib.hid a1
          clear a1
          go_wp2_with fail
          refine (dappend_any b _ _ _ hd (by simp <;> omega) (by simp <;> omega) (by simp <;> omega)).mono ?_; rintro e w2 ⟨rfl, hd, hk⟩
          rw [A1.out] at hd ⊢; replace hB := bKept hB hk hb; clear hk
          go_wp2_with fail
          go_roundw
          case rel => exact ⟨k + 1, S, T ++ s2, st, false, 0, by omega, by omega, by go_num, congrArg _ (app_assoc _ _ _), rfl, by rw [app_size]; omega, by omega, by omega, hd, hB⟩
          case measure => simp [intOf]; omega
        have a1 : (⟨S, T, 1000, st, true, true, (left : Int)⟩ : Dk).append s2 = (⟨S, T ++ s2, 1000, ((st + 1 : Nat) : Int), true, true, ((left - 1 : Nat) : Int)⟩, 0) := by
          rw [append_armed _ _ rfl rfl (by simp; omega) (by simp; omega)]; simp; omega
        have A1 := Lib.hid a1
        clear a1
        have ets := app_size T s2
        by_cases hk2 : k < len2
        · obtain ⟨bb, off2, rfl, hbb, hcb⟩ := HAT2.out k (by rw [List.length_map, HL2.out]; exact hk2)
          obtain ⟨y, hy⟩ := nm (bs.getD k false)
          have hcb2 : ∀ wx, Below wB.heap.size wB wx → wx.cell? ⟨bb, off2 + k, none⟩ = some (.bool y) := by
            intro wx hx
            have h1 := hcb k (by rw [List.length_map, HL2.out]; exact hk2)
            rw [hx.cell (p := ⟨bb, off2 + k, none⟩) hbb, h1, hy.out]
            have : k < bs.length := by rw [HL2.out]; exact hk2
            simp [this]
          clear hcb
          cases y
          · go_wp2_with fail
            refine (dappend_any b _ _ _ hd (by simp <;> omega) (by simp <;> omega) (by simp <;> omega)).mono ?_; rintro e w2 ⟨rfl, hd, hk⟩
            rw [A1.out] at hd ⊢; replace hB := bKept hB hk hb; clear hk
            have hc := hcb2 _ hB
            go_wp2_with fail
            go_roundw
            case rel => exact ⟨k + 1, S, T ++ s2, st + 1, true, left - 1, by omega, by omega, by go_num, congrArg _ (app_assoc _ _ _), rfl, by (first | omega | (simp only [app_size, nil_size]; omega)), by omega, by omega, hd, hB⟩
            case measure => simp [intOf]; omega
          · by_cases hl1 : left = 1
            · have a2 : (⟨S, T ++ s2, 1000, ((st + 1 : Nat) : Int), true, true, ((left - 1 : Nat) : Int)⟩ : Dk).sync = (⟨S, T ++ s2, 1000, ((st + 1 : Nat) : Int), false, true, ((left - 1 : Nat) : Int)⟩, 14) := sync_lost _ rfl rfl (by simp) (by simp; omega)
              have A2 := Lib.hid a2
              clear a2
              go_wp2_with fail
              refine (dappend_any b _ _ _ hd (by simp <;> omega) (by simp <;> omega) (by simp <;> omega)).mono ?_; rintro e w2 ⟨rfl, hd, hk⟩
              rw [A1.out] at hd ⊢; replace hB := bKept hB hk hb; clear hk
              have hc := hcb2 _ hB
              go_wp2_with fail
              refine (dsync_any b _ _ hd (by simp <;> omega) (by simp <;> omega) (by simp <;> omega)).mono ?_; rintro e w3 ⟨rfl, hd, hk⟩
              rw [A2.out] at hd ⊢; replace hB := bKept hB hk hb; clear hk hc
              go_wp2_with fail
              go_roundw
              case rel => exact ⟨k + 1, S, T ++ s2, st + 1, false, left - 1, by omega, by omega, by go_num, congrArg _ (app_assoc _ _ _), rfl, by (first | omega | (simp only [app_size, nil_size]; omega)), by omega, by omega, hd, hB⟩
              case measure => simp [intOf]; omega
            · have a2 : (⟨S, T ++ s2, 1000, ((st + 1 : Nat) : Int), true, true, ((left - 1 : Nat) : Int)⟩ : Dk).sync = (⟨S ++ (T ++ s2), ⟨#[]⟩, 1000, ((st + 2 : Nat) : Int), true, true, ((left - 2 : Nat) : Int)⟩, 0) := by
                rw [sync_armed _ rfl rfl (by simp) (by simp; omega)]; simp; omega
              have A2 := Lib.hid a2
              clear a2
              go_wp2_with fail
              refine (dappend_any b _ _ _ hd (by simp <;> omega) (by simp <;> omega) (by simp <;> omega)).mono ?_; rintro e w2 ⟨rfl, hd, hk⟩
              rw [A1.out] at hd ⊢; replace hB := bKept hB hk hb; clear hk
              have hc := hcb2 _ hB
              go_wp2_with fail
              refine (dsync_any b _ _ hd (by simp <;> omega) (by simp <;> omega) (by simp <;> omega)).mono ?_; rintro e w3 ⟨rfl, hd, hk⟩
              rw [A2.out] at hd ⊢; replace hB := bKept hB hk hb; clear hk hc
              go_wp2_with fail
              go_roundw
              case rel => exact ⟨k + 1, S ++ (T ++ s2), ⟨#[]⟩, st + 2, true, left - 2, by omega, by omega, by go_num, congrArg _ (by rw [append_nil, app_assoc]), congrArg _ (by simp only [app_size]; omega), by (first | omega | (simp only [app_size, nil_size]; omega)), by omega, by omega, hd, hB⟩
              case measure => simp [intOf]; omega
        · go_wp2_with fail
          refine (dappend_any b _ _ _ hd (by simp <;> omega) (by simp <;> omega) (by simp <;> omega)).mono ?_; rintro e w2 ⟨rfl, hd, hk⟩
          rw [A1.out] at hd ⊢; replace hB := bKept hB hk hb; clear hk
          go_wp2_with fail
          go_roundw
          case rel => exact ⟨k + 1, S, T ++ s2, st + 1, true, left - 1, by omega, by omega, by go_num, congrArg _ (app_assoc _ _ _), rfl, by (first | omega | (simp only [app_size, nil_size]; omega)), by omega, by omega, hd, hB⟩
          case measure => simp [intOf]; omega
      · by_cases h1 : k < len
        · by_cases h2 : k < 20
          · have hon : on = false := by
              cases on
              · rfl
              · exact absurd ⟨h1, h2, rfl⟩ hlt
            subst hon
            clear hlt
            go_wp2_with fail
            refine (don_any b _ _ hd).mono ?_; rintro e w3 ⟨rfl, rfl⟩
            go_wp2_with fail
            go_meet
            exact ⟨S, T, st, false, left, rfl, rfl, by omega, by omega, hle, hd, hB⟩
          · clear hlt
            go_wp2_with fail
            go_meet
            exact ⟨S, T, st, on, left, rfl, rfl, by omega, by omega, hle, hd, hB⟩
        · clear hlt
          go_wp2_with fail
          go_meet
          exact ⟨S, T, st, on, left, rfl, rfl, by omega, by omega, hle, hd, hB⟩
  clear hd hB
  obtain ⟨S, T, st, on, left, rfl, rfl, hsz, hst, hle, hd, hB⟩ := hcut
  have hex : (S ++ T).extract 0 S.size = S := by rw [app_extract_le _ _ _ (Nat.le_refl _)]; exact extract_all _ _ (Nat.le_refl _)
  have hapl := app_size S T
  go_wp2_with fail
  go_quiet ((go_at_call 15; exact Calls.quiet_of_same (dsafe_any2 b _ _ hd)))
  replace hd := Blk.drewN hd nq
  replace hB : Below wB.heap.size wB (wc.drewN nq) := below_drewN hB nq
  have cQ : (wc.drewN nq).cell? ⟨w.heap.size, 1, none⟩ = some (.int .i64 q1) := (p0.below hB pb).cell 1
  obtain ⟨m, hm⟩ := nm (min q1.toNat T.size)
  have hmT : m ≤ T.size := by rw [hm.out]; omega
  obtain ⟨B, hBd⟩ := nm (S ++ T.extract 0 m)
  have hBs : B.size = S.size + m := by rw [hBd.out, app_size, ByteArray.size_extract]; omega
  have hBx : (S ++ T).extract 0 B.size = B := by
    rw [app_extract_ge _ _ _ (by omega), hBs, Nat.add_sub_cancel_left, hBd.out]
  have a5 : (⟨S, T, 1000, st, on, true, left⟩ : Dk).crash q1 = ⟨B, ⟨#[]⟩, 1000, st, true, false, left⟩ := by
    rw [hBd.out, hm.out]; simp [Dk.crash, Dk.again]
  have A5 := Lib.hid a5
  clear a5
  have hB1 : S.size ≤ B.size := by omega
  have hB2 : B.size ≤ S.size + T.size := by omega
  have hBS := Lib.hid hBs
  clear hBs hex
  go_wp2_with fail
  refine (dcrash_any b _ _ _ hd (by simp; omega)).mono ?_; rintro e w5 ⟨rfl, hd, hk⟩
  rw [A5.out] at hd; replace hB := bKept hB hk hb; clear hk cQ
  go_wp2_with fail
  refine (dbytes_any b _ _ hd (by simp [nil_size]; omega)).mono ?_; rintro e w6 ⟨rfl, n6, rfl⟩
  rw [append_nil]
  replace hd := hd.drewN n6
  replace hB : Below wB.heap.size wB (w5.drewN n6) := below_drewN hB n6
  have cQ : (w5.drewN n6).cell? ⟨w.heap.size, 1, none⟩ = some (.int .i64 q1) := (p0.below hB pb).cell 1
  have hfin : q1 < 100000 ∨ (¬ q1 < 100000 ∧ S ++ T = B) := by
    by_cases h : q1 < 100000
    · exact .inl h
    · refine .inr ⟨h, ?_⟩
      have : m = T.size := by rw [hm.out]; omega
      rw [hBd.out, extract_all _ _ (by omega)]
  rcases hfin with hq | ⟨hq, hST⟩
  all_goals
    go_wp2_with fail
    refine (don_any b _ _ hd).mono ?_; rintro e w7 ⟨rfl, rfl⟩
    go_wp2_with fail
    refine (dsafe_any b _ _ hd).mono ?_; rintro e w7 ⟨rfl, rfl⟩
    go_wp2_with fail
    go_ret
    exact ⟨rfl, hw0.trans (hB.mono (by omega))⟩

namespace LDiskSafe
open Go.ChangeShapes Go.WideShapes Go.ChangeAt
open Go.ChangeMaps (open_string shut_string)

theorem contract (H : Type) (enc : TypeId × Value → H) (W : World) (base : Nat) (args : Array Value) (ds gs : List (DataW H)) (before : List MemPlace)
    (hval : ∀ (j : Nat) t v, Try.f3.params[j]? = some t → args[j]? = some v → Value.okWide Try.prog W .any base t v)
    (hW : DataW.Whole enc Try.prog Try.f3.params.toList Rows.diskSafeSpec.vars false W args.toList ds gs before)
    (_hsz : (DataW.weightsEach Try.prog (Try.f3.params.toList ++ (OpenSpec.ofChange Rows.diskSafeSpec).bare.plain.varTypes Try.prog) (ds ++ gs)).all (fun x => decide (x ≤ reachBytes)) = true) :
    Calls Try.prog 3 args W fun e W' => ∃ v, e = .returned v ∧ Rows.diskSafeSpec.post enc Try.prog Try.f3 false true false false W args v W' := by
  have hW' := hW
  obtain ⟨p, q, hA0, hV, rfl, hfz, hnd⟩ := hW
  have hA : DataW.TrodAll enc Try.prog W 0 (fun _ => true) true Try.f3.params.toList args.toList ds p := hA0
  rw [Try.params3] at hA hval
  obtain ⟨v0, vs0, d0, ds0, p0, q0, hargs, rfl, rfl, h0, r0⟩ := trodAll_cons hA
  obtain ⟨v1, vs1, d1, ds1, p1, q1, rfl, rfl, rfl, h1, r1⟩ := trodAll_cons r0
  obtain ⟨v2, vs2, d2, ds2, p2, q2, rfl, rfl, rfl, h2, r2⟩ := trodAll_cons r1
  obtain ⟨rfl, rfl, rfl⟩ := trodAll_nil r2
  obtain rfl : args = #[v0, v1, v2] := by cases args; simp_all
  obtain ⟨rfl, rfl⟩ := trodVars_none hV
  obtain ⟨ao0, len0, cap0, ss0, rfl, hl0, _, _, hat0⟩ := open_strs Try.underlying22 Try.underlying9 (show Try.prog.cellsOf 9 = 1 by kernel_rfl) h0 (okWide_slice Try.underlying22 (hval 0 22 v0 rfl rfl))
  obtain ⟨ao1, len1, cap1, ss1, rfl, hl1, _, _, hat1⟩ := open_bools2 Try.underlying23 Try.underlying4 (show Try.prog.cellsOf 4 = 1 by kernel_rfl) h1 (okWide_slice Try.underlying23 (hval 1 23 v1 rfl rfl))
  obtain ⟨q0, q1, rfl, wq0, wq1⟩ := open_two Try.underlying24 Try.underlying3 (show Try.prog.cellsOf 24 = 2 by kernel_rfl) (show Try.prog.cellsOf 3 = 1 by kernel_rfl) (hval 2 24 v2 rfl rfl) h2
  clear hA0
  refine (diskSafe_walk ao0 len0 cap0 ss0 hl0 ao1 len1 cap1 ss1 hl1 q0 q1 W hat0 hat1).mono fun e W' ⟨he, hb⟩ => ?_
  subst he
  exact ⟨_, rfl, law_post laidOut Try.underlying4 rfl (by kernel_rfl) rfl rfl rfl rfl hW' hb⟩

theorem reads (os : Os) {H : Type} (enc : TypeId × Value → H) : ∃ places, DataW.whole enc Try.prog ((World.holding Try.prog os ⟨#[], #[], []⟩).forCall (fun _ _ => 0) ⟨#[], #[.slice none 0 0, .slice none 0 0, .agg #[.int .i64 0, .int .i64 0]], []⟩).memory Try.f3.params.toList Rows.diskSafeSpec.vars false (#[.slice none 0 0, .slice none 0 0, .agg #[.int .i64 0, .int .i64 0]] : Array Value).toList 8 = some ([.nil, .nil, .agg [.lit (.int .i64 0), .lit (.int .i64 0)]], [], places) :=
  ⟨[], by kernel_rfl⟩
theorem laid_met (os : Os) : laidMet Try.prog Rows.diskSafeRow.laid ((World.holding Try.prog os ⟨#[], #[], []⟩).forCall (fun _ _ => 0) ⟨#[], #[.slice none 0 0, .slice none 0 0, .agg #[.int .i64 0, .int .i64 0]], []⟩).memory :=
  laidMet_of_run' 8 (by kernel_rfl) (by kernel_rfl)

set_option maxRecDepth 100000 in
theorem lifted (os : Os) (started : os.Started) (H : Type) (enc : TypeId × Value → H) (F : Stop.Interp) :
    ReturnsInHanded {} Try.checked os 3 .any ((OpenSpec.ofChange Rows.diskSafeSpec).preRow enc Try.prog Try.f3 Rows.diskSafeRow.domain false Rows.diskSafeRow.laid) (((OpenSpec.ofChange Rows.diskSafeSpec).at F).post enc Try.prog Try.f3 false true false false) := by
  obtain ⟨places, hx⟩ := reads os enc
  refine returnsInHanded_of_row (C := Try.checked) (s := OpenSpec.ofChange Rows.diskSafeSpec) own started (by kernel_rfl) Try.func3
    (witness_row_at (enc := enc) (C := Try.checked) false (World.holding Try.prog os ⟨#[], #[], []⟩) #[.slice none 0 0, .slice none 0 0, .agg #[.int .i64 0, .int .i64 0]] rfl (by kernel_rfl) (by kernel_rfl) (by kernel_rfl)
      (OpenSpec.preRow_of_cond 8 hx (by kernel_rfl) (fun k hk => by cases hk) (by kernel_rfl) (laid_met os))) ?_
  intro W base args ds gs before hval hW _ _ hsz hL _ _
  exact contract H enc W base args ds gs before hval hW hsz

theorem said : Rows.DiskSafeSaid :=
  OpenClaim.holds_of_cond 3 Try.f3 rfl rfl rfl rfl rfl rfl rfl ⟨rfl, rfl, rfl, rfl, rfl⟩ rfl rfl rfl rfl rfl (by kernel_rfl) Try.func3 (by kernel_rfl)
    (of_decide_eq_true (by kernel_rfl)) (by unfold Func.isWrapper; first | (rw [if_pos (by decide +kernel)]; kernel_rfl) | (rw [if_neg (by decide +kernel)]; exact ⟨rfl, rfl⟩))
    (fun os started H enc _ F => by rw [OpenClaim.pre_eq_preRow]; exact lifted os started H enc F)
end LDiskSafe
end Go.Proofs.Ytkhmelpbndfbdaa
