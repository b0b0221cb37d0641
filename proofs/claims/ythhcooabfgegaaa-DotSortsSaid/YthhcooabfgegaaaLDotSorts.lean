/- DotSorts: for every row of names the law returns true. -/
import Derived.Test.YthhcooabfgegaaaDotAwake
import Derived.Test.YthhcooabfgegaaaDotRef
import Derived.Test.YthhcooabfgegaaaLaw
import Derived.Outline
namespace Go.Proofs.Ythhcooabfgegaaa
open Go.RowKit Go.Shelf Go.Lib Go.Sort

theorem lowD_at {l : List (Int × Int)} (ha : Asc l) {i : Nat} {p : Int × Int} (h : l[i]? = some p) : lowD l p = i := by
  obtain ⟨h1, h2⟩ := get_of h
  refine (lowD_of l p i (Nat.le_of_lt h1) (fun j hj => ?_) fun j hj hl => ?_).symm
  · have := asc_mono ha hj h1
    rwa [h2] at this
  · rcases Nat.lt_or_ge i j with h3 | h3
    · have := asc_mono ha h3 hl
      rw [h2] at this
      exact ltP_asymm this
    · obtain rfl : i = j := by omega
      rw [h2]; exact ltP_irrefl p
theorem lowD_has {l : List (Int × Int)} (ha : Asc l) {p : Int × Int} (h : p ∈ l) : l[lowD l p]? = some p := by
  obtain ⟨i, hi, he⟩ := List.mem_iff_getElem.1 h
  have e : l[i]? = some p := by rw [List.getElem?_eq_getElem hi, he]
  rw [lowD_at ha e]; exact e

theorem find_at (ao : Option Addr) (ps : List (Int × Int)) (n cap : Nat) (hn : Hid (ps.length = n)) (x y : Int) (w : World) (hs : SlP w ao ps) (hm : n ≤ 1000000000) (ha : Hid (Asc ps)) (i : Nat) (hi : Hid (ps[i]? = some (x, y))) :
    Calls Try.prog 13 #[.slice ao n cap, .agg #[.int .i64 x, .int .i64 y]] w fun e w' => e = .returned (.tuple #[.int .i64 (i : Int), .bool true]) ∧ Below w.heap.size w w' := by
  refine (find_any ao ps n cap hn x y w hs hm).mono ?_
  rintro e w' ⟨j, hj, rfl, h1, h2⟩
  have e1 := h1 ha.out
  rw [lowD_at ha.out hi.out] at e1
  subst e1
  exact ⟨by rw [hi.out]; simp, h2⟩

set_option maxRecDepth 100000 in
set_option maxHeartbeats 4000000 in
theorem dotSorts_walk (ao : Option Addr) (l : List (Int × Int)) (n cap : Nat) (hn : l.length = n) (hc : n ≤ cap) (w : World) (hs : SlP w ao l) :
    Calls Try.prog 4 #[.slice ao n cap] w fun e w' => e = .returned (.bool true) ∧ Below w.heap.size w w' := by
  obtain ⟨P, hP⟩ := nm (l.take 30)
  have hsP : SlP w ao P := by rw [hP.out]; exact hs.take 30
  obtain ⟨N, hN⟩ := nm (min n 30)
  have hPN : P.length = N := by rw [hP.out, hN.out, List.length_take, hn]; omega
  have hN30 : N ≤ 30 := by rw [hN.out]; omega
  have hfew := fun w => few_any ao l n cap hn hc w
  rw [← hN.out] at hfew
  have HFEW := Lib.hid hfew
  obtain ⟨S, hS⟩ := nm (sortD P)
  obtain ⟨K, hK⟩ := nm S.length
  have hKN : K ≤ N := by rw [hK.out, hS.out, ← hPN]; exact sortD_length P
  have HA : Hid (Asc S) := by show Asc S; rw [hS.out]; exact asc_sortD P
  have HM : Hid (∀ p, p ∈ S ↔ p ∈ P) := by show ∀ p, _; rw [hS.out]; exact mem_sortD P
  have HPN := Lib.hid hPN
  have HSP := Lib.hid hsP
  have hnone : ao = none → N = 0 := by
    rintro rfl
    rw [← hPN]; exact hsP.none_len
  have HNO := Lib.hid hnone
  clear hfew hPN hsP hs hn hnone
  go_enter Try.func4, Try.ntmps4
  go_wp2_with fail
  refine (awake_any _).mono ?_; rintro e w1 ⟨rfl, hB⟩
  go_wp2_with fail
  refine (HFEW.out _).mono ?_; rintro e w2 ⟨rfl, rfl⟩
  have HSP1 := Lib.hid (HSP.out.below hB)
  clear HSP
  go_wp2_with fail
  refine (sort_any ao P N cap HPN.out _ HSP1.out (by omega) HNO.out).mono ?_; rintro e w2 ⟨aS, cs, rfl, hcs, hss, _, _, hB2⟩
  rw [← hS.out] at hcs hss ⊢
  rw [← hK.out] at hcs ⊢
  have HSS := Lib.hid hss
  have HP2 := Lib.hid (HSP1.out.below hB2)
  have hB3 := bNext hB hB2
  have HB3 := Lib.hid hB3
  clear hss HSP1 hB2 hB hB3
  go_wp2_with fail
  go_loopw [6] (fun i wr => ∃ k : Nat, k ≤ K ∧ i = .int .i64 (k : Int) ∧ Below w2.heap.size w2 wr) (fun i _ => K - (intOf i).toNat)
  case atStart => exact ⟨0, by omega, rfl, Below.refl _ _⟩
  case round =>
    obtain ⟨k, hk, rfl, hB⟩ := hrel
    by_cases hlt : k < K
    · have HS1 := Lib.hid (HSS.out.below hB)
      obtain ⟨b, off, u, v, rfl, hbl, d0, d1, hpk⟩ := HS1.out.get k (by rw [← hK.out]; exact hlt)
      go_wp2_with fail
      refine (find_at _ S K cs (hidSymm hK) u v _ HS1.out (by omega) HA k hpk).mono ?_; rintro e w3 ⟨rfl, hB3⟩
      clear d0 d1
      have HS2 := Lib.hid (HS1.out.below hB3)
      obtain ⟨_, u', v', d0, d1, hpk'⟩ := HS2.out.at k (by rw [← hK.out]; exact hlt)
      obtain ⟨rfl, rfl⟩ : u' = u ∧ v' = v := by have := hpk'.out; rw [hpk.out] at this; simpa using this.symm
      clear hpk'
      have HP3 := Lib.hid ((HP2.out.below hB).below hB3)
      go_wp2_with fail
      refine (has_any ao P N cap HPN (by omega) u' v' _ HP3.out true (by show _ = _; exact (decide_eq_true ((HM.out _).1 (List.mem_of_getElem? hpk.out))).symm)).mono ?_; rintro e w4 ⟨rfl, hB4⟩
      clear d0 d1
      have HS3 := Lib.hid (HS2.out.below hB4)
      obtain ⟨_, u'', v'', d0, d1, hpk'⟩ := HS3.out.at k (by rw [← hK.out]; exact hlt)
      obtain ⟨rfl, rfl⟩ : u'' = u' ∧ v'' = v' := by have := hpk'.out; rw [hpk.out] at this; simpa using this.symm
      have hB5 := bNext (bNext hB hB3) hB4
      clear hpk' HS1 HS2 hB3 hB4 hB HP3
      by_cases hk0 : k = 0
      · subst hk0
        rw [Nat.zero_mul, Nat.add_zero] at d0 d1
        go_wp2_with fail
        go_quiet (fail)
        go_wp2_with fail
        go_roundw
        case rel => exact ⟨1, by omega, by go_num, below_drewN hB5 _⟩
        case measure => simp [intOf]; omega
      · obtain ⟨_, u1, v1, d2, d3, hpj⟩ := HS3.out.at (k - 1) (by rw [← hK.out]; omega)
        have hltp : Hid (decide (ltP (u1, v1) (u'', v'')) = true) := by
          show _ = _
          refine decide_eq_true ?_
          obtain ⟨g1, g2⟩ := get_of hpk.out
          obtain ⟨g3, g4⟩ := get_of hpj.out
          have := asc_mono HA.out (show k - 1 < k by omega) g1
          rwa [g2, g4] at this
        have hw1 : IntKind.i64.wrap ((k : Int) - 1) = ((k - 1 : Nat) : Int) := by rw [IntWalk.i64_in _ (by omega)]; omega
        have hw2 : k - 1 < K := by omega
        have hkb : decide ((0 : Int) < (k : Int)) = true := by simp; omega
        have hkn : 0 < k := by omega
        go_wp2_with fail
        refine wp_region_still_tail 24 (by kernel_rfl) (by kernel_rfl) ?_
        simp only [List.take_succ_cons, List.take_zero, List.drop_succ_cons, List.drop_zero]
        change wpStill _ _ (World.drew _) (fun a' => wpList _ _ _ _ a' (World.drew _)) _ _
        repeat still_step
        refine wpStill_nil ?_
        clear d0 d1 d2 d3 hw1 hkb
        go_wp2_with fail
        refine (less_is u1 v1 u'' v'' true hltp _).mono ?_; rintro e w5 ⟨rfl, hB6⟩
        go_wp2_with fail
        go_roundw
        case rel => exact ⟨k + 1, by omega, by go_num, bNext (below_drewN hB5 1) hB6⟩
        case measure => simp [intOf]; omega
    · obtain rfl : k = K := by omega
      have HB4 := Lib.hid (bNext HB3.out hB)
      have HS1 := Lib.hid (HSS.out.below hB)
      have HP1 := Lib.hid (HP2.out.below hB)
      clear HSS HP2 HB3 hB
      go_wp2_with fail
      go_loopw [10] (fun i w9 => ∃ q : Nat, q ≤ N ∧ i = .int .i64 (q : Int) ∧ Below wr.heap.size wr w9) (fun i _ => N - (intOf i).toNat)
      case atStart => exact ⟨0, by omega, rfl, Below.refl _ _⟩
      case round =>
        obtain ⟨q, hq, rfl, hB⟩ := hrel
        by_cases hlt2 : q < N
        · have HP3 := Lib.hid (HP1.out.below hB)
          have HS3 := Lib.hid (HS1.out.below hB)
          obtain ⟨b, off, u, v, rfl, hbl, d0, d1, hpk⟩ := HP3.out.get q (by rw [HPN.out]; exact hlt2)
          have hin : (u, v) ∈ S := (HM.out _).2 (List.mem_of_getElem? hpk.out)
          have HI := Lib.hid (lowD_has HA.out hin)
          go_wp2_with fail
          refine (find_at _ S k cs (hidSymm hK) u v _ HS3.out (by omega) HA _ HI).mono ?_; rintro e w3 ⟨rfl, hB3⟩
          clear d0 d1
          go_wp2_with fail
          go_roundw
          case rel => exact ⟨q + 1, by omega, by go_num, bNext hB hB3⟩
          case measure => simp [intOf]; omega
        · obtain rfl : q = N := by omega
          have HS3 := Lib.hid (HS1.out.below hB)
          have hkq : decide ((k : Int) ≤ (q : Int)) = true := by simp; omega
          go_wp2_with fail
          refine (rises_any aS S k cs (hidSymm hK) (by omega) _ HS3.out true (by show _ = _; exact (decide_eq_true HA.out).symm)).mono ?_; rintro e w3 ⟨rfl, hB3⟩
          go_wp2_with fail
          go_ret
          exact ⟨rfl, bNext HB4.out (bNext hB hB3)⟩
namespace LDotSorts
open Go.ChangeShapes Go.WideShapes Go.ChangeAt
open Go.ChangeMaps (open_string shut_string)

set_option maxRecDepth 100000 in
theorem contract (H : Type) (enc : TypeId × Value → H) (W : World) (base : Nat) (args : Array Value) (ds gs : List (DataW H)) (before : List MemPlace)
    (hval : ∀ (j : Nat) t v, Try.f4.params[j]? = some t → args[j]? = some v → Value.okWide Try.prog W .any base t v)
    (hW : DataW.Whole enc Try.prog Try.f4.params.toList Rows.dotSortsSpec.vars false W args.toList ds gs before)
    (_hsz : (DataW.weightsEach Try.prog (Try.f4.params.toList ++ (OpenSpec.ofChange Rows.dotSortsSpec).bare.plain.varTypes Try.prog) (ds ++ gs)).all (fun x => decide (x ≤ reachBytes)) = true) :
    Calls Try.prog 4 args W fun e W' => ∃ v, e = .returned v ∧ Rows.dotSortsSpec.post enc Try.prog Try.f4 false true false false W args v W' := by
  have hW' := hW
  obtain ⟨p, q, hA0, hV, rfl, hfz, hnd⟩ := hW
  have hA : DataW.TrodAll enc Try.prog W 0 (fun _ => true) true Try.f4.params.toList args.toList ds p := hA0
  rw [Try.params4] at hA hval
  obtain ⟨v0, vs0, d0, ds0, p0, q0, hargs, rfl, rfl, h0, r0⟩ := trodAll_cons hA
  obtain ⟨rfl, rfl, rfl⟩ := trodAll_nil r0
  obtain rfl : args = #[v0] := by cases args; simp_all
  obtain ⟨rfl, rfl⟩ := trodVars_none hV
  obtain ⟨ao0, len0, cap0, l0, rfl, hl0, hlc0, hcm0, hat0, hbd0⟩ := open_pairs Try.underlying27 Try.underlying23 (show Try.prog.cellsOf 23 = 2 by kernel_rfl) ⟨rfl, rfl⟩ ⟨rfl, rfl⟩ Try.underlying3 (show Try.prog.cellsOf 3 = 1 by kernel_rfl) h0 (okWide_slice Try.underlying27 (hval 0 27 v0 rfl rfl))
  clear hA0
  refine (dotSorts_walk ao0 l0 len0 cap0 hl0 hlc0 W hat0).mono fun e W' ⟨he, hb⟩ => ?_
  subst he
  exact ⟨_, rfl, law_post laidOut Try.underlying4 rfl (by kernel_rfl) rfl rfl rfl rfl hW' hb⟩

theorem reads (os : Os) {H : Type} (enc : TypeId × Value → H) : ∃ places, DataW.whole enc Try.prog ((World.holding Try.prog os ⟨#[], #[], []⟩).forCall (fun _ _ => 0) ⟨#[], #[.slice none 0 0], []⟩).memory Try.f4.params.toList Rows.dotSortsSpec.vars false (#[.slice none 0 0] : Array Value).toList 8 = some ([.nil], [], places) :=
  ⟨[], by kernel_rfl⟩
theorem laid_met (os : Os) : laidMet Try.prog Rows.dotSortsRow.laid ((World.holding Try.prog os ⟨#[], #[], []⟩).forCall (fun _ _ => 0) ⟨#[], #[.slice none 0 0], []⟩).memory :=
  laidMet_of_run' 8 (by kernel_rfl) (by kernel_rfl)

set_option maxRecDepth 100000 in
theorem lifted (os : Os) (started : os.Started) (H : Type) (enc : TypeId × Value → H) (F : Stop.Interp) :
    ReturnsInHanded {} Try.checked os 4 .any ((OpenSpec.ofChange Rows.dotSortsSpec).preRow enc Try.prog Try.f4 Rows.dotSortsRow.domain false Rows.dotSortsRow.laid) (((OpenSpec.ofChange Rows.dotSortsSpec).at F).post enc Try.prog Try.f4 false true false false) := by
  obtain ⟨places, hx⟩ := reads os enc
  refine returnsInHanded_of_row (C := Try.checked) (s := OpenSpec.ofChange Rows.dotSortsSpec) own started (by kernel_rfl) Try.func4
    (witness_row_at (enc := enc) (C := Try.checked) false (World.holding Try.prog os ⟨#[], #[], []⟩) #[.slice none 0 0] rfl (by kernel_rfl) (by kernel_rfl) (by kernel_rfl)
      (OpenSpec.preRow_of_cond 8 hx (by kernel_rfl) (fun k hk => by cases hk) (by kernel_rfl) (laid_met os))) ?_
  intro W base args ds gs before hval hW _ _ hsz hL _ _
  exact contract H enc W base args ds gs before hval hW hsz

theorem said : Rows.DotSortsSaid :=
  OpenClaim.holds_of_cond 4 Try.f4 rfl rfl rfl rfl rfl rfl rfl ⟨rfl, rfl, rfl, rfl, rfl⟩ rfl rfl rfl rfl rfl (by kernel_rfl) Try.func4 (by kernel_rfl)
    (of_decide_eq_true (by kernel_rfl)) (by unfold Func.isWrapper; first | (rw [if_pos (by decide +kernel)]; kernel_rfl) | (rw [if_neg (by decide +kernel)]; exact ⟨rfl, rfl⟩))
    (fun os started H enc _ F => by rw [OpenClaim.pre_eq_preRow]; exact lifted os started H enc F)
end LDotSorts
end Go.Proofs.Ythhcooabfgegaaa
