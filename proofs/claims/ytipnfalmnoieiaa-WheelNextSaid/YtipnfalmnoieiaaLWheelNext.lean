/- WheelNext: for every times and every clock the law returns true. -/
import Derived.Test.YtipnfalmnoieiaaWheelMany
import Derived.Outline
namespace Go.Proofs.Ytipnfalmnoieiaa
open Go.RowKit Go.Shelf Go.Lib Go.Sort Go.Maps

set_option maxRecDepth 100000 in
set_option maxHeartbeats 8000000 in
theorem wheelNext_walk (ao : Option Addr) (zs : List Int) (len cap : Nat) (hl : zs.length = len) (hcm : len ≤ maxLen) (now : Int) (w : World) (hat : SlAt w ao (zs.map (Value.int .i64))) :
    Calls Try.prog 6 #[.slice ao len cap, .int .i64 now] w fun e w' => e = .returned (.bool true) ∧ Below w.heap.size w w' := by
  unfold maxLen at hcm
  obtain ⟨C, hC1, hC2⟩ := and_mask now 63 (by decide)
  have hC3 : bits .and .i64 now 63 = (C : Int) := hC2
  obtain ⟨N, hN⟩ := nm (min len 20)
  have hN20 : N ≤ 20 := by rw [hN.out]; omega
  have HL := Lib.hid hl
  have HAT := Lib.hid hat
  clear hC2 hl hat
  go_enter Try.func6, Try.ntmps6
  go_wp2_with fail
  refine (awake_any _).mono ?_; rintro e w1 ⟨rfl, hB⟩
  have HB1 := Lib.hid hB
  clear hB
  go_wp2_with fail
  refine (new_any _).mono ?_; rintro e w2 ⟨rfl, hW, hB⟩
  have H1 : Hid (WB w w2 w1.heap.size (fun k => k = w1.heap.size) [] 0) := ⟨hW, bNext HB1.out hB, fun k e => by rw [e]; exact HB1.out.size⟩
  obtain ⟨p, hp⟩ := nm w1.heap.size
  obtain ⟨F1, hF1⟩ := nm (fun k => k = w1.heap.size)
  rw [← hp.out]
  rw [← hF1.out, ← hp.out] at H1
  clear hW hB HB1
  go_upto_block 0 with fail
  go_cut [7] (fun nv wx => ∃ (F : Nat → Prop) (L : List (Int × Int)), nv = .int .i64 (N : Int) ∧ WB w wx p F L 0 ∧ FullL L N)
  case first =>
    go_wp2_with fail
    go_loopw [7, 8] (fun nv iv wr => ∃ (k : Nat) (F : Nat → Prop) (L : List (Int × Int)), k ≤ N ∧ nv = .int .i64 (k : Int) ∧ iv = .int .i64 (k : Int) ∧ WB w wr p F L 0 ∧ FullL L k) (fun _ iv _ => N - (intOf iv).toNat)
    case atStart => exact ⟨0, F1, [], by omega, rfl, rfl, H1.out, fullL_nil⟩
    case round =>
      obtain ⟨k, F, L, hk, rfl, rfl, hW, hL⟩ := hrel
      have HW := Lib.hid hW
      have HLL := Lib.hid hL
      clear hW hL
      by_cases hlt : k < N
      · have hkl : k < len := by have := hN.out; omega
        have hk20 : k < 20 := by omega
        obtain ⟨b, off, rfl, hbl, c0⟩ := SlAt.int' HAT.out k (by rw [HL.out]; exact hkl)
        obtain ⟨z, hz⟩ := nm (zs[k]'(by rw [HL.out]; exact hkl))
        rw [← hz.out] at c0
        have d0 : wr.cell? ⟨b, off + k, none⟩ = some (.int .i64 z) := (HW.out.below.cell (p := ⟨b, off + k, none⟩) hbl).trans c0
        obtain ⟨T, hT1, hT2⟩ := and_mask z 63 (by decide)
        have hT3 : bits .and .i64 z 63 = (T : Int) := hT2
        have hwk : (Lit.int .i64 (k : Int)).wf = true := WalkArith.wf_i64 ⟨by omega, by omega⟩
        have hS := set_is p F L (setL L T k) 0 T k hwk (by omega) (by omega) (.inr (by rw [HLL.out.1]; omega)) rfl w
        have HS := Lib.hid hS
        have hL2 : Hid (FullL (setL L T k) (k + 1)) := fullL_set HLL.out _
        clear hS hwk c0 hT2
        go_wp2_with fail
        refine (HS.out _ HW.out).mono ?_; rintro e w3 ⟨rfl, F3, hH, hk3, hf3⟩
        have HH := Lib.hid hH
        clear hH hk3 hf3 d0
        go_wp2_with fail
        go_roundw
        case rel => exact ⟨k + 1, F3, _, by omega, by go_num, by go_num, HH.out, hL2.out⟩
        case measure => simp [intOf]; omega
      · obtain rfl : k = N := by omega
        rcases Nat.lt_or_ge k len with hkl | hkl
        · have hk20 : decide (k < 20) = false := decide_eq_false (by have := hN.out; omega)
          have hk20i : decide ((k : Int) < 20) = false := decide_eq_false (by have := hN.out; omega)
          go_wp2_with fail
          go_meet
          exact ⟨F, L, rfl, HW.out, HLL.out⟩
        · have hkd : decide (k < len) = false := decide_eq_false (by omega)
          go_wp2_with fail
          go_meet
          exact ⟨F, L, rfl, HW.out, HLL.out⟩
  obtain ⟨F, L, rfl, hW, hL⟩ := hcut
  have HW := Lib.hid hW
  have HLL := Lib.hid hL
  have hNL : Hid (L.length = N) := hL.1
  obtain ⟨D, hD⟩ := nm (dueL L C).length
  obtain ⟨t1, t2, t3, t4⟩ := due_take (C : Int) hW.whl.asc
  have hDN : D ≤ N := by rw [hD.out, ← hNL.out]; exact due_len L C
  rw [← hD.out] at t1 t2 t3 t4
  have HT1 := Lib.hid t1
  have HT2 := Lib.hid t2
  have HT3 := Lib.hid t3
  have HT4 := Lib.hid t4
  clear t1 t2 t3 t4 hW hL
  go_wp2_with fail
  refine (all_is p F L N hNL 0 w _ HW.out).mono ?_; rintro e w3 ⟨⟨al, cl, rfl, hSl⟩, hB⟩
  have H3 := Lib.hid (HW.out.more hB)
  have HSL := Lib.hid hSl
  clear hB hSl
  go_upto_region 13 with fail
  go_cut [10, 11] (fun s10 s11 wx => ∃ (pa : Nat) (x1 x2 : Int) (B : Bool), s10 = .pointer (some ⟨pa, 0, none⟩) ∧ s11 = .bool B ∧ Hid (B = decide (0 < N)) ∧ Blk wx pa #[.int .i64 x1, .int .i64 x2] 28 ∧ Hid (0 < N → L[0]? = some (x1, x2)) ∧ WB w wx p F L 0 ∧ SlF wx F al L)
  case first =>
    go_wp2_with fail
    refine (next_is p F L N hNL 0 w _ H3.out).mono ?_; rintro e w4 ⟨⟨x1, x2, rfl, hx⟩, hB⟩
    have HX := Lib.hid hx
    have H4 := Lib.hid ((H3.out.more hB).more (bOld (w := w4) (.cells #[.int .i64 x1, .int .i64 x2] 28)))
    have HS4 := Lib.hid ((HSL.out.more hB).more (bOld (w := w4) (.cells #[.int .i64 x1, .int .i64 x2] 28)))
    clear hx hB
    go_wp2_with fail
    go_meet
    exact ⟨_, x1, x2, _, rfl, rfl, rfl, Blk.new _ _ _, HX.out, H4.out, HS4.out⟩
  obtain ⟨pa, x1, x2, B, rfl, rfl, hBB, hpa, hx, hW4, hS4⟩ := hcut
  have H4 := Lib.hid hW4
  have HS4 := Lib.hid hS4
  have HPA := Lib.hid hpa
  clear hpa hW4 hS4
  go_upto_region 14 with fail
  go_cut [65] (fun c wx => c = .bool false ∧ WB w wx p F L 0 ∧ SlF wx F al L)
  case first =>
    have hnn : ((N : Int) != (N : Int)) = false := by simp
    have hkeep : ∀ q, WB w (wc.drewN q) p F L 0 ∧ SlF (wc.drewN q) F al L := fun q => ⟨H4.out.more (below_drewN (Below.refl _ _) q), HS4.out.more (below_drewN (Below.refl _ _) q)⟩
    have HKE := Lib.hid hkeep
    clear hkeep
    cases B
    · have hd : decide (0 < N) = false := hBB.out.symm
      have hN0 : ¬ 0 < N := by simpa using hd
      have hdi : decide ((0 : Int) < (N : Int)) = false := decide_eq_false (by omega)
      clear hN0
      go_quiet (fail)
      go_wp2_with fail
      go_meet
      exact ⟨rfl, HKE.out _⟩
    · have hd : decide (0 < N) = true := hBB.out.symm
      have hN0 : 0 < N := by simpa using hd
      have hdi : decide ((0 : Int) < (N : Int)) = true := decide_eq_true (by omega)
      have hi0 : (0 : Int) < (N : Int) := by omega
      have hpk := hx.out (by omega)
      obtain ⟨b, off, rfl, hb, h3⟩ := HS4.out.1 0 (by rw [hNL.out]; omega)
      obtain ⟨d0, d1⟩ := h3 0 (x1, x2) hpk
      simp only [Nat.zero_mul, Nat.add_zero] at d0 d1
      have c0 : wc.cell? ⟨pa, 0, none⟩ = some (.int .i64 x1) := HPA.out.cell 0
      have c1 : wc.cell? ⟨pa, 1, none⟩ = some (.int .i64 x2) := HPA.out.cell 1
      have heq := fun w => neqD x1 x2 x1 x2 true (by simp) w
      have hgd := fun (a b : Operand) (w : World) => guardD .neq a b #[.int .i64 x1, .int .i64 x2] #[.int .i64 x1, .int .i64 x2] w
      clear h3 hpk
      go_quiet (fail)
      go_wp2_with fail
      go_meet
      exact ⟨rfl, HKE.out _⟩
  obtain ⟨rfl, hW5, hS5⟩ := hcut
  have H5 := Lib.hid hW5
  have HS5 := Lib.hid hS5
  have hCC : Hid (dueC 0 (C : Int) = (C : Int)) := by show _ = _; unfold dueC; rw [if_pos (by omega)]; omega
  clear hW5 hS5
  go_wp2_with fail
  refine (due_is p F L (dueL L C) (restL L C) 0 C C D hCC rfl rfl (hidSymm hD) w _ H5.out).mono ?_; rintro e w6 ⟨⟨am, cm, rfl, hcm2, hSm⟩, hH, hk⟩
  have H6 := Lib.hid hH
  have HSM := Lib.hid hSm
  have HS6 := Lib.hid (HS5.out.same hk)
  clear hH hSm hk
  go_wp2_with fail
  go_loopw [13] (fun iv wr => ∃ k q : Nat, k ≤ N ∧ iv = .int .i64 (k : Int) ∧ wr = w6.drewN q) (fun iv _ => N - (intOf iv).toNat)
  case atStart => exact ⟨0, 0, by omega, rfl, rfl⟩
  case round =>
    obtain ⟨k, q, hk, rfl, rfl⟩ := hrel
    by_cases hlt : k < N
    · have hkL : k < L.length := by rw [hNL.out]; exact hlt
      obtain ⟨b, off, rfl, hb, h3⟩ := HS6.out.1 k hkL
      obtain ⟨y, hy⟩ := nm (L[k]'hkL)
      have hpk : L[k]? = some y := by rw [hy.out]; exact List.getElem?_eq_getElem hkL
      obtain ⟨u, v⟩ := y
      obtain ⟨d0, d1⟩ := h3 k (u, v) hpk
      simp only at d0 d1
      have hk0 : (0 : Int) ≤ (k : Int) := by omega
      have hk1 : (k : Int) < (N : Int) := by omega
      clear h3
      by_cases hkD : k < D
      · have hu := HT3.out k (u, v) hkD hpk
        simp only at hu
        have hmk : (dueL L C)[k]? = some (u, v) := by rw [HT1.out, List.getElem?_take, if_pos hkD]; exact hpk
        obtain ⟨b2, off2, rfl, hb2, h4⟩ := HSM.out.1 k (by rw [← hD.out]; exact hkD)
        obtain ⟨e0, e1⟩ := h4 k (u, v) hmk
        simp only at e0 e1
        have hkd : decide (k < D) = true := decide_eq_true hkD
        have hkd2 : decide (D ≤ k) = false := decide_eq_false (by omega)
        have hk2 : (k : Int) < (D : Int) := by omega
        have hcd : decide ((C : Int) < u) = false := decide_eq_false (by omega)
        have heq := fun w => neqD u v u v true (by simp) w
        have hgd := fun (a b : Operand) (w : World) => guardD .neq a b #[.int .i64 u, .int .i64 v] #[.int .i64 u, .int .i64 v] w
        clear h4 hmk hpk hu hy hkL
        go_wp2_with fail
        go_quiet (fail)
        go_wp2_with fail
        go_roundw
        case rel => exact ⟨k + 1, _, by omega, by go_num, rfl⟩
        case measure => simp [intOf]; omega
      · have hu := HT4.out k (u, v) (by omega) hpk
        simp only at hu
        have hkd : decide (k < D) = false := decide_eq_false hkD
        have hkd2 : decide (D ≤ k) = true := decide_eq_true (by omega)
        have hcd : decide (u ≤ (C : Int)) = false := decide_eq_false (by omega)
        clear hpk hu hy hkL
        go_wp2_with fail
        go_quiet (fail)
        go_wp2_with fail
        go_roundw
        case rel => exact ⟨k + 1, _, by omega, by go_num, rfl⟩
        case measure => simp [intOf]; omega
    · obtain rfl : k = N := by omega
      have H7 := Lib.hid (H6.out.more (below_drewN (Below.refl _ _) q))
      have hRl : Hid ((restL L C).length = k - D) := by show _ = _; rw [HT2.out, List.length_drop, hNL.out]
      have hsub : (k : Int) - (D : Int) = ((k - D : Nat) : Int) := by omega
      go_wp2_with fail
      refine (all_is p F (restL L C) (k - D) hRl C w _ H7.out).mono ?_; rintro e w8 ⟨⟨a8, c8, rfl, hS8⟩, hB⟩
      have H8 := Lib.hid (H7.out.more hB)
      have he : (((k - D : Nat) : Int) == ((k - D : Nat) : Int)) = true := by simp
      clear hB hS8
      go_wp2_with fail
      go_ret
      exact ⟨rfl, H8.out.below⟩
namespace LWheelNext
open Go.ChangeShapes Go.WideShapes Go.ChangeAt
open Go.ChangeMaps (open_string shut_string)

set_option maxRecDepth 100000 in
theorem contract (H : Type) (enc : TypeId × Value → H) (W : World) (base : Nat) (args : Array Value) (ds gs : List (DataW H)) (before : List MemPlace)
    (hval : ∀ (j : Nat) t v, Try.f6.params[j]? = some t → args[j]? = some v → Value.okWide Try.prog W .any base t v)
    (hW : DataW.Whole enc Try.prog Try.f6.params.toList Rows.wheelNextSpec.vars false W args.toList ds gs before)
    (_hsz : (DataW.weightsEach Try.prog (Try.f6.params.toList ++ (OpenSpec.ofChange Rows.wheelNextSpec).bare.plain.varTypes Try.prog) (ds ++ gs)).all (fun x => decide (x ≤ reachBytes)) = true) :
    Calls Try.prog 6 args W fun e W' => ∃ v, e = .returned v ∧ Rows.wheelNextSpec.post enc Try.prog Try.f6 false true false false W args v W' := by
  have hW' := hW
  obtain ⟨p, q, hA0, hV, rfl, hfz, hnd⟩ := hW
  have hA : DataW.TrodAll enc Try.prog W 0 (fun _ => true) true Try.f6.params.toList args.toList ds p := hA0
  rw [Try.params6] at hA hval
  obtain ⟨v0, vs0, d0, ds0, p0, q0, hargs, rfl, rfl, h0, r0⟩ := trodAll_cons hA
  obtain ⟨v1, vs1, d1, ds1, p1, q1, rfl, rfl, rfl, h1, r1⟩ := trodAll_cons r0
  obtain ⟨rfl, rfl, rfl⟩ := trodAll_nil r1
  obtain rfl : args = #[v0, v1] := by cases args; simp_all
  obtain ⟨rfl, rfl⟩ := trodVars_none hV
  obtain ⟨ao0, len0, cap0, ss0, rfl, hl0, hlc0, hcm0, hat0, wf0⟩ := open_ints2 Try.underlying32 Try.underlying3 (show Try.prog.cellsOf 3 = 1 by kernel_rfl) h0 (okWide_slice Try.underlying32 (hval 0 32 v0 rfl rfl))
  obtain ⟨x1, rfl, rfl, rfl, k1⟩ := open_int Try.underlying3 (hval 1 3 v1 rfl rfl) h1
  clear hA0
  refine (wheelNext_walk ao0 ss0 len0 cap0 hl0 (Nat.le_trans hlc0 hcm0) x1 W hat0).mono fun e W' ⟨he, hb⟩ => ?_
  subst he
  exact ⟨_, rfl, law_post laidOut Try.underlying4 rfl (by kernel_rfl) rfl rfl rfl rfl hW' hb⟩

theorem reads (os : Os) {H : Type} (enc : TypeId × Value → H) : ∃ places, DataW.whole enc Try.prog ((World.holding Try.prog os ⟨#[], #[], []⟩).forCall (fun _ _ => 0) ⟨#[], #[.slice none 0 0, .int .i64 0], []⟩).memory Try.f6.params.toList Rows.wheelNextSpec.vars false (#[.slice none 0 0, .int .i64 0] : Array Value).toList 8 = some ([.nil, .lit (.int .i64 0)], [], places) :=
  ⟨[], by kernel_rfl⟩
theorem laid_met (os : Os) : laidMet Try.prog Rows.wheelNextRow.laid ((World.holding Try.prog os ⟨#[], #[], []⟩).forCall (fun _ _ => 0) ⟨#[], #[.slice none 0 0, .int .i64 0], []⟩).memory :=
  laidMet_of_run' 8 (by kernel_rfl) (by kernel_rfl)

set_option maxRecDepth 100000 in
theorem lifted (os : Os) (started : os.Started) (H : Type) (enc : TypeId × Value → H) (F : Stop.Interp) :
    ReturnsInHanded {} Try.checked os 6 .any ((OpenSpec.ofChange Rows.wheelNextSpec).preRow enc Try.prog Try.f6 Rows.wheelNextRow.domain false Rows.wheelNextRow.laid) (((OpenSpec.ofChange Rows.wheelNextSpec).at F).post enc Try.prog Try.f6 false true false false) := by
  obtain ⟨places, hx⟩ := reads os enc
  refine returnsInHanded_of_row (C := Try.checked) (s := OpenSpec.ofChange Rows.wheelNextSpec) own started (by kernel_rfl) Try.func6
    (witness_row_at (enc := enc) (C := Try.checked) false (World.holding Try.prog os ⟨#[], #[], []⟩) #[.slice none 0 0, .int .i64 0] rfl (by kernel_rfl) (by kernel_rfl) (by kernel_rfl)
      (OpenSpec.preRow_of_cond 8 hx (by kernel_rfl) (fun k hk => by cases hk) (by kernel_rfl) (laid_met os))) ?_
  intro W base args ds gs before hval hW _ _ hsz hL _ _
  exact contract H enc W base args ds gs before hval hW hsz

theorem said : Rows.WheelNextSaid :=
  OpenClaim.holds_of_cond 6 Try.f6 rfl rfl rfl rfl rfl rfl rfl ⟨rfl, rfl, rfl, rfl, rfl⟩ rfl rfl rfl rfl rfl (by kernel_rfl) Try.func6 (by kernel_rfl)
    (of_decide_eq_true (by kernel_rfl)) (by unfold Func.isWrapper; first | (rw [if_pos (by decide +kernel)]; kernel_rfl) | (rw [if_neg (by decide +kernel)]; exact ⟨rfl, rfl⟩))
    (fun os started H enc _ F => by rw [OpenClaim.pre_eq_preRow]; exact lifted os started H enc F)
end LWheelNext
end Go.Proofs.Ytipnfalmnoieiaa
