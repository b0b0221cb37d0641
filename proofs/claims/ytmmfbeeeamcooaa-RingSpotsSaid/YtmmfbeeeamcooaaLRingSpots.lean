/- RingSpots: for every list of nodes the law returns true. -/
import Derived.Test.YtmmfbeeeamcooaaRingD
import Derived.Test.YtmmfbeeeamcooaaLaw
import Derived.Laws.StructEq
import Derived.BigQuiet
import Derived.Deep.QuietTactic
import Derived.Outline
import Derived.IntWalk
namespace Go.Proofs.Ytmmfbeeeamcooaa
open Go.RowKit Go.Shelf Go.Lib Go.Sort

theorem spotsL_get (z : Int) (k : Nat) (hk : k < 4) : (spotsL z)[k]? = some (spotAt z (k : Int), z) := by
  obtain rfl | rfl | rfl | rfl : k = 0 ∨ k = 1 ∨ k = 2 ∨ k = 3 := by omega
  all_goals rfl
theorem spotAt_is (z k : Int) : 0 ≤ spotAt z k ∧ spotAt z k ≤ 65535 := by unfold spotAt; omega
theorem spotAt_next (z k : Int) : spotAt z k ≠ spotAt z (k - 1) := by unfold spotAt; omega

set_option maxRecDepth 100000 in
set_option maxHeartbeats 4000000 in
theorem ringSpots_walk (ao : Option Addr) (zs0 : List Int) (len cap : Nat) (hl : zs0.length = len) (hlc : len ≤ cap) (_hwf0 : ∀ n ∈ zs0, (Lit.int .i64 n).wf = true) (w : World) (hat : SlAt w ao (zs0.map (Value.int .i64))) :
    Calls Try.prog 6 #[.slice ao len cap] w fun e w' => e = .returned (.bool true) ∧ Below w.heap.size w w' := by
  obtain ⟨N, hN⟩ := nm (min len 8)
  have hN8 : N ≤ 8 := by rw [hN.out]; omega
  have HL0 := Lib.hid hlc
  obtain ⟨zs, hzs⟩ := nm (zs0.take 8)
  have hzl : Hid (zs.length = N) := by show _ = _; rw [hzs.out, List.length_take, hl, hN.out]; omega
  have HAT : Hid (SlAt w ao (zs.map (Value.int .i64))) := by show SlAt _ _ _; rw [hzs.out, List.map_take]; exact hat.take 8
  obtain ⟨R, hR⟩ := nm (ringL zs)
  obtain ⟨M, hM⟩ := nm R.length
  have hM4 : M ≤ 4 * N := by rw [hM.out, hR.out]; have := ringL_length zs; rw [hzl.out] at this; omega
  have HASC : Hid (Asc R) := by show Asc R; rw [hR.out]; exact asc_sortD _
  have HMEM : Hid (∀ z ∈ zs, ∀ p ∈ spotsL z, p ∈ R) := by
    intro z hz p hp
    rw [hR.out]; unfold ringL
    rw [mem_sortD, List.mem_flatMap]
    exact ⟨z, hz, hp⟩
  clear hl hlc hat
  go_enter Try.func6, Try.ntmps6
  go_wp2_with fail
  refine (awake_any _).mono ?_; rintro e w1 ⟨rfl, hB1⟩
  have HA1 := Lib.hid (HAT.out.below hB1)
  go_wp2_with fail
  refine (few_any ao len cap HL0.out _).mono ?_; rintro e w2 ⟨rfl, rfl⟩
  rw [← hN.out]
  go_wp2_with fail
  refine (new_any ao zs N cap hzl (by omega) R M (hidSymm hR) (hidSymm hM) _ HA1.out).mono ?_; rintro e w2 ⟨ar, capr, rfl, hsr, hB2⟩
  have HB2 := Lib.hid (bNext hB1 hB2)
  have HSR := Lib.hid hsr
  have HA2 := Lib.hid (HAT.out.below HB2.out)
  clear hB1 hB2 hsr
  go_wp2_with fail
  go_loopw [6] (fun i wr => ∃ (k q : Nat), 1 ≤ k ∧ k ≤ M + 1 ∧ i = .int .i64 (k : Int) ∧ wr = w2.drewN q) (fun i _ => M + 1 - (intOf i).toNat)
  case atStart => exact ⟨1, 0, by omega, by omega, rfl, rfl⟩
  case round =>
    obtain ⟨k, q, hk1, hk, rfl, rfl⟩ := hrel
    by_cases hlt : k < M
    · have hkm : k - 1 < R.length := by rw [← hM.out]; omega
      have hkk : k < R.length := by rw [← hM.out]; exact hlt
      obtain ⟨b, off, x1, x2, rfl, hb1, d1, d2, e1⟩ := HSR.out.get (k - 1) hkm
      obtain ⟨b', o', y1, y2, e0, hb2, d3, d4, e2⟩ := HSR.out.get k hkk
      obtain ⟨rfl, rfl⟩ : b = b' ∧ off = o' := by simpa using e0
      have hlp : ltP (x1, x2) (y1, y2) := by
        have h := (List.pairwise_iff_getElem.1 HASC.out) (k - 1) k hkm hkk (by omega)
        have g1 := e1.out; have g2 := e2.out
        rw [List.getElem?_eq_getElem hkm] at g1
        rw [List.getElem?_eq_getElem hkk] at g2
        rw [Option.some.inj g1, Option.some.inj g2] at h
        exact h
      have hi1 : IntKind.i64.wrap ((k : Int) - 1) = ((k - 1 : Nat) : Int) := by rw [IntWalk.i64_in _ (by omega)]; omega
      obtain ⟨j, hj⟩ := nm (k - 1)
      rw [← hj.out] at d1 d2 hi1
      have hj1 : j < M := by rw [hj.out]; omega
      clear e0 hkm hkk
      rcases hlp with hlp | ⟨hlp, hlp2⟩
      · have c1 : decide (y1 < x1) = false := decide_eq_false (by simp only at hlp; omega)
        have c2 : (x1 == y1) = false := by simp only at hlp; simp; omega
        go_wp2_with fail
        go_quiet (fail)
        go_wp2_with fail
        go_roundw
        case rel => exact ⟨k + 1, q + nq, by omega, by omega, by go_num, rfl⟩
        case measure => simp [intOf]; omega
      · have c1 : decide (y1 < x1) = false := decide_eq_false (by simp only at hlp; omega)
        have c2 : (x1 == y1) = true := by simp only at hlp; simp; omega
        have c3 : decide (y2 ≤ x2) = false := decide_eq_false (by simp only at hlp2; omega)
        go_wp2_with fail
        go_quiet (fail)
        go_wp2_with fail
        go_roundw
        case rel => exact ⟨k + 1, q + nq, by omega, by omega, by go_num, rfl⟩
        case measure => simp [intOf]; omega
    · have HA3 : Hid (SlAt (w2.drewN q) ao (zs.map (Value.int .i64))) := HA2.out
      have HSR3 : Hid (SlP (w2.drewN q) ar R) := HSR.out
      have HB3 : Hid (Below w.heap.size w (w2.drewN q)) := below_drewN HB2.out q
      obtain ⟨w3, hw3⟩ := nm (w2.drewN q)
      rw [← hw3.out] at HA3 HSR3 HB3 ⊢
      clear hw3 HASC
      have hlt2 : decide ((k : Int) < (M : Int)) = false := decide_eq_false (by omega)
      go_wp2_with fail
      go_loopw [7] (fun i wr => ∃ t : Nat, t ≤ N ∧ i = .int .i64 (t : Int) ∧ Below w3.heap.size w3 wr) (fun i _ => N - (intOf i).toNat)
      case atStart => exact ⟨0, by omega, rfl, Below.refl _ _⟩
      case round =>
        obtain ⟨t, ht, rfl, hB⟩ := hrel
        by_cases hlt : t < N
        · obtain ⟨b, off, rfl, hbl, c0⟩ := SlAt.int' HA3.out t (by rw [hzl.out]; exact hlt)
          have hzm := List.getElem_mem (l := zs) (n := t) (by rw [hzl.out]; exact hlt)
          obtain ⟨z, hz⟩ := nm (zs[t]'(by rw [hzl.out]; exact hlt))
          rw [← hz.out] at c0 hzm
          have d0 : wr.cell? ⟨b, off + t, none⟩ = some (.int .i64 z) := (hB.cell (p := ⟨b, off + t, none⟩) hbl).trans c0
          have HMZ := Lib.hid (HMEM.out z hzm)
          go_wp2_with fail
          refine (spots_any z _).mono ?_; rintro e w5 ⟨as5, cs5, rfl, _, hs5, hB5⟩
          have HB5 := Lib.hid (bNext hB hB5)
          have HS5 := Lib.hid hs5
          have e0 : w5.cell? ⟨b, off + t, none⟩ = some (.int .i64 z) := (HB5.out.cell (p := ⟨b, off + t, none⟩) hbl).trans c0
          have HR5 := Lib.hid (HSR3.out.below HB5.out)
          clear d0 c0 hB hB5 hs5 hzm
          go_wp2_with fail
          go_loopw [9] (fun i wx => ∃ k q : Nat, k ≤ 4 ∧ i = .int .i64 (k : Int) ∧ wx = w5.drewN q) (fun i _ => 4 - (intOf i).toNat)
          case atStart => exact ⟨0, 0, by omega, rfl, rfl⟩
          case round =>
            obtain ⟨k, q, hk, rfl, rfl⟩ := hrel
            by_cases hk4 : k < 4
            · obtain ⟨b2, o2, x1, x2, rfl, hb2, d1, d2, e1⟩ := HS5.out.get k hk4
              have hg := spotsL_get z k hk4
              rw [e1.out] at hg
              obtain ⟨rfl, rfl⟩ : x1 = spotAt z (k : Int) ∧ x2 = z := by simpa using hg
              obtain ⟨x, hx⟩ := nm (spotAt x2 (k : Int))
              have hxr := spotAt_is x2 (k : Int)
              have hxn := spotAt_next x2 (k : Int)
              have hin := HMZ.out _ (List.mem_of_getElem? e1.out)
              rw [← hx.out] at d1 hxr hxn hin
              obtain ⟨hx0, hx1⟩ := hxr
              have HIN := Lib.hid hin
              have HXN := Lib.hid hxn
              clear hg hin hxn e1
              go_wp2_with fail
              go_loopw [10, 11] (fun c i wx => ∃ j q : Nat, j ≤ M ∧ c = .bool (decide ((x, x2) ∈ R.take j)) ∧ i = .int .i64 (j : Int) ∧ wx = w5.drewN q) (fun _ i _ => M - (intOf i).toNat)
              case atStart => exact ⟨0, q, by omega, by simp, rfl, rfl⟩
              case round =>
                obtain ⟨j, q2, hj, rfl, rfl, rfl⟩ := hrel
                by_cases hjM : j < M
                · obtain ⟨b3, o3, y1, y2, rfl, hb3, d3, d4, e2⟩ := HR5.out.get j (by rw [← hM.out]; exact hjM)
                  obtain ⟨B, hBB⟩ := nm (decide ((y1, y2) = (x, x2)))
                  have heq := fun w => eqlD y1 y2 x x2 B hBB.out.symm w
                  have hgd := fun (a b : Operand) (w : World) => guardD .eql a b #[.int .i64 y1, .int .i64 y2] #[.int .i64 x, .int .i64 x2] w
                  obtain ⟨C, hC⟩ := nm (decide ((x, x2) ∈ R.take j))
                  have HT : Hid (decide ((x, x2) ∈ R.take (j + 1)) = (C || B)) := by
                    show _ = _
                    rw [take_snocP e2.out, hC.out, hBB.out]
                    rw [Bool.eq_iff_iff, decide_eq_true_iff, Bool.or_eq_true, decide_eq_true_iff, decide_eq_true_iff, List.mem_append, List.mem_singleton]
                    exact or_congr Iff.rfl eq_comm
                  rw [← hC.out]
                  cases C
                  · go_wp2_with fail
                    go_quiet (fail)
                    go_wp2_with fail
                    go_roundw
                    case rel => exact ⟨j + 1, q2 + nq, by omega, by rw [HT.out]; rfl, by go_num, rfl⟩
                    case measure => simp [intOf]; omega
                  · go_wp2_with fail
                    go_quiet (fail)
                    go_wp2_with fail
                    go_roundw
                    case rel => exact ⟨j + 1, q2 + nq, by omega, by rw [HT.out]; rfl, by go_num, rfl⟩
                    case measure => simp [intOf]; omega
                · obtain rfl : j = M := by omega
                  have HF : Hid (decide ((x, x2) ∈ R.take j) = true) := by
                    show _ = _
                    rw [List.take_of_length_le (by rw [hM.out]; exact Nat.le_refl _)]
                    exact decide_eq_true HIN.out
                  rw [HF.out]
                  have hc1 : (x2 != x2) = false := by simp
                  have hc2 : decide (x < 0) = false := decide_eq_false (by omega)
                  have hc3 : decide (65535 < x) = false := decide_eq_false (by omega)
                  by_cases hk0 : k = 0
                  · subst hk0
                    rw [Nat.zero_mul, Nat.add_zero] at d1 d2
                    go_wp2_with fail
                    go_quiet (fail)
                    go_wp2_with fail
                    go_roundw
                    case rel => exact ⟨1, q2 + nq, by omega, by go_num, rfl⟩
                    case measure => simp [intOf]
                  · obtain ⟨b4, o4, u1, u2, e4, hb4, d5, d6, e5⟩ := HS5.out.get (k - 1) (by show k - 1 < 4; omega)
                    obtain ⟨rfl, rfl⟩ : b2 = b4 ∧ o2 = o4 := by simpa using e4
                    have hg := spotsL_get x2 (k - 1) (by omega)
                    rw [e5.out] at hg
                    have hu : u1 = spotAt x2 ((k - 1 : Nat) : Int) := by
                      have := Option.some.inj hg
                      exact (Prod.mk.inj this).1
                    have hne : (x == u1) = false := by
                      have h2 := HXN.out
                      rw [show (k : Int) - 1 = ((k - 1 : Nat) : Int) from by omega, ← hu] at h2
                      simpa using h2
                    have hw1 : IntKind.i64.wrap ((k : Int) - 1) = ((k - 1 : Nat) : Int) := by rw [IntWalk.i64_in _ (by omega)]; omega
                    have hw2 : k - 1 < 4 := by omega
                    have hk1 : decide ((0 : Int) < (k : Int)) = true := by simp; omega
                    have hkn : 0 < k := by omega
                    have hkn2 : decide (0 < k) = true := decide_eq_true hkn
                    obtain ⟨m, hm⟩ := nm (k - 1)
                    rw [← hm.out] at d5 hw1 hw2
                    clear hg hu e4 e5 d6
                    go_wp2_with fail
                    go_quiet (fail)
                    go_wp2_with fail
                    go_roundw
                    case rel => exact ⟨k + 1, q2 + nq, by omega, by go_num, rfl⟩
                    case measure => simp [intOf]; omega
            · obtain rfl : k = 4 := by omega
              go_wp2_with fail
              go_roundw
              case rel => exact ⟨t + 1, by omega, by go_num, below_drewN HB5.out q⟩
              case measure => simp [intOf]; omega
        · obtain rfl : t = N := by omega
          have hle : decide ((M : Int) ≤ 4 * (t : Int)) = true := decide_eq_true (by omega)
          go_wp2_with fail
          go_ret
          exact ⟨rfl, bNext HB3.out hB⟩
namespace LRingSpots
open Go.ChangeShapes Go.WideShapes Go.ChangeAt
open Go.ChangeMaps (open_string shut_string)

set_option maxRecDepth 100000 in
theorem contract (H : Type) (enc : TypeId × Value → H) (W : World) (base : Nat) (args : Array Value) (ds gs : List (DataW H)) (before : List MemPlace)
    (hval : ∀ (j : Nat) t v, Try.f6.params[j]? = some t → args[j]? = some v → Value.okWide Try.prog W .any base t v)
    (hW : DataW.Whole enc Try.prog Try.f6.params.toList Rows.ringSpotsSpec.vars false W args.toList ds gs before)
    (_hsz : (DataW.weightsEach Try.prog (Try.f6.params.toList ++ (OpenSpec.ofChange Rows.ringSpotsSpec).bare.plain.varTypes Try.prog) (ds ++ gs)).all (fun x => decide (x ≤ reachBytes)) = true) :
    Calls Try.prog 6 args W fun e W' => ∃ v, e = .returned v ∧ Rows.ringSpotsSpec.post enc Try.prog Try.f6 false true false false W args v W' := by
  have hW' := hW
  obtain ⟨p, q, hA0, hV, rfl, hfz, hnd⟩ := hW
  have hA : DataW.TrodAll enc Try.prog W 0 (fun _ => true) true Try.f6.params.toList args.toList ds p := hA0
  rw [Try.params6] at hA hval
  obtain ⟨v0, vs0, d0, ds0, p0, q0, hargs, rfl, rfl, h0, r0⟩ := trodAll_cons hA
  obtain ⟨rfl, rfl, rfl⟩ := trodAll_nil r0
  obtain rfl : args = #[v0] := by cases args; simp_all
  obtain ⟨rfl, rfl⟩ := trodVars_none hV
  obtain ⟨ao0, len0, cap0, ss0, rfl, hl0, hlc0, hcm0, hat0, wf0⟩ := open_ints2 Try.underlying22 Try.underlying3 (show Try.prog.cellsOf 3 = 1 by kernel_rfl) h0 (okWide_slice Try.underlying22 (hval 0 22 v0 rfl rfl))
  clear hA0
  refine (ringSpots_walk ao0 ss0 len0 cap0 hl0 hlc0 wf0 W hat0).mono fun e W' ⟨he, hb⟩ => ?_
  subst he
  exact ⟨_, rfl, law_post laidOut Try.underlying4 rfl (by kernel_rfl) rfl rfl rfl rfl hW' hb⟩

theorem reads (os : Os) {H : Type} (enc : TypeId × Value → H) : ∃ places, DataW.whole enc Try.prog ((World.holding Try.prog os ⟨#[], #[], []⟩).forCall (fun _ _ => 0) ⟨#[], #[.slice none 0 0], []⟩).memory Try.f6.params.toList Rows.ringSpotsSpec.vars false (#[.slice none 0 0] : Array Value).toList 8 = some ([.nil], [], places) :=
  ⟨[], by kernel_rfl⟩
theorem laid_met (os : Os) : laidMet Try.prog Rows.ringSpotsRow.laid ((World.holding Try.prog os ⟨#[], #[], []⟩).forCall (fun _ _ => 0) ⟨#[], #[.slice none 0 0], []⟩).memory :=
  laidMet_of_run' 8 (by kernel_rfl) (by kernel_rfl)

set_option maxRecDepth 100000 in
theorem lifted (os : Os) (started : os.Started) (H : Type) (enc : TypeId × Value → H) (F : Stop.Interp) :
    ReturnsInHanded {} Try.checked os 6 .any ((OpenSpec.ofChange Rows.ringSpotsSpec).preRow enc Try.prog Try.f6 Rows.ringSpotsRow.domain false Rows.ringSpotsRow.laid) (((OpenSpec.ofChange Rows.ringSpotsSpec).at F).post enc Try.prog Try.f6 false true false false) := by
  obtain ⟨places, hx⟩ := reads os enc
  refine returnsInHanded_of_row (C := Try.checked) (s := OpenSpec.ofChange Rows.ringSpotsSpec) own started (by kernel_rfl) Try.func6
    (witness_row_at (enc := enc) (C := Try.checked) false (World.holding Try.prog os ⟨#[], #[], []⟩) #[.slice none 0 0] rfl (by kernel_rfl) (by kernel_rfl) (by kernel_rfl)
      (OpenSpec.preRow_of_cond 8 hx (by kernel_rfl) (fun k hk => by cases hk) (by kernel_rfl) (laid_met os))) ?_
  intro W base args ds gs before hval hW _ _ hsz hL _ _
  exact contract H enc W base args ds gs before hval hW hsz

theorem said : Rows.RingSpotsSaid :=
  OpenClaim.holds_of_cond 6 Try.f6 rfl rfl rfl rfl rfl rfl rfl ⟨rfl, rfl, rfl, rfl, rfl⟩ rfl rfl rfl rfl rfl (by kernel_rfl) Try.func6 (by kernel_rfl)
    (of_decide_eq_true (by kernel_rfl)) (by unfold Func.isWrapper; first | (rw [if_pos (by decide +kernel)]; kernel_rfl) | (rw [if_neg (by decide +kernel)]; exact ⟨rfl, rfl⟩))
    (fun os started H enc _ F => by rw [OpenClaim.pre_eq_preRow]; exact lifted os started H enc F)
end LRingSpots
end Go.Proofs.Ytmmfbeeeamcooaa
