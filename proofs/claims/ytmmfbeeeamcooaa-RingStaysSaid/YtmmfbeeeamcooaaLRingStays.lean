/- RingStays: for every list of nodes, every other one and every part the law returns true. -/
import Derived.Test.YtmmfbeeeamcooaaRingStay
import Derived.Test.YtmmfbeeeamcooaaRingSame
import Derived.Test.YtmmfbeeeamcooaaRingInts
import Derived.Test.YtmmfbeeeamcooaaOpenInts
import Derived.Deep.AppendLies
import Derived.Test.YtmmfbeeeamcooaaLaw
namespace Go.Proofs.Ytmmfbeeeamcooaa
open Go.RowKit Go.Shelf Go.Lib Go.Sort

theorem nodup_less {id : Int} : ∀ {l : List Int}, l.Nodup → id ∈ l → (l.filter (· != id)).length + 1 = l.length
  | [], _, h => by cases h
  | x :: l, hn, h => by
    obtain ⟨h1, h2⟩ := List.nodup_cons.1 hn
    by_cases hx : x = id
    · subst hx
      rw [List.filter_cons_of_neg (by simp), List.filter_eq_self.2 (fun y hy => by
        have : y ≠ x := fun e => h1 (e ▸ hy)
        simpa using this), List.length_cons]
    · have hm : id ∈ l := by
        rcases List.mem_cons.1 h with e | e
        · exact absurd e.symm hx
        · exact e
      rw [List.filter_cons_of_pos (by simpa using hx), List.length_cons, nodup_less h2 hm, List.length_cons]

set_option maxRecDepth 100000 in
set_option maxHeartbeats 4000000 in
theorem ringStays_walk (ao : Option Addr) (zs0 : List Int) (len cap : Nat) (hl : zs0.length = len) (hlc : len ≤ cap) (hno : ao = none → cap = 0) (hwf0 : ∀ n ∈ zs0, (Lit.int .i64 n).wf = true) (id part : Int) (hid : (Lit.int .i64 id).wf = true) (w : World) (hat : SlAt w ao (zs0.map (Value.int .i64))) :
    Calls Try.prog 5 #[.slice ao len cap, .int .i64 id, .int .i64 part] w fun e w' => e = .returned (.bool true) ∧ Below w.heap.size w w' := by
  obtain ⟨N, hN⟩ := nm (min len 8)
  have hN8 : N ≤ 8 := by rw [hN.out]; omega
  have HL0 := Lib.hid hlc
  have HNO := Lib.hid hno
  obtain ⟨zs, hzs⟩ := nm (zs0.take 8)
  have hzl : Hid (zs.length = N) := by show _ = _; rw [hzs.out, List.length_take, hl, hN.out]; omega
  have HAT : Hid (SlAt w ao (zs.map (Value.int .i64))) := by show SlAt _ _ _; rw [hzs.out, List.map_take]; exact hat.take 8
  clear hl hlc hat hno
  go_enter Try.func5, Try.ntmps5
  go_wp2_with fail
  refine (awake_any _).mono ?_; rintro e w1 ⟨rfl, hB1⟩
  have HA1 := Lib.hid (HAT.out.below hB1)
  have hnil := OwnI.nil w1 w1.heap.size
  go_wp2_with fail
  refine (few_any ao len cap HL0.out _).mono ?_; rintro e w2 ⟨rfl, rfl⟩
  rw [← hN.out]
  go_wp2_with (at_builtin; refine app_ints rfl _ _ rfl w1.heap.size _ [] rfl hnil ao N cap zs rfl hzl.out HNO.out HA1.out (by simp; omega) (Nat.le_refl _) ?_)
  intro v3 w3 hown3 hg3
  have hB3 : Below w1.heap.size w1 w3 := (Below.refl _ _).grown hg3 (Nat.le_refl _) (fun k hk => by cases hk)
  have hown3a := OwnI.alloc hown3 #[.int .i64 id] 3
  clear hg3 hnil hown3
  go_wp2_with (at_builtin; refine app_ints rfl _ _ rfl w1.heap.size _ zs rfl hown3a (some ⟨w3.heap.size, 0, none⟩) 1 1 [id] rfl rfl (fun h => by cases h) (SlAt.oneI w3 id) (by rw [hzl.out]; omega) (by have := hB3.size; simp; omega) ?_)
  intro v4 w4 hown4 hg4
  have hB4 : Below w1.heap.size w1 w4 := (bNew hB3 _).grown hg4 (by have := hB3.size; simp; omega) (fun k hk => (hown3a.lt k hk).1)
  have hown4b : OwnI w4 w1.heap.size v4 (zs ++ [id]) := hown4
  have HA4 := Lib.hid (HA1.out.below hB4)
  clear hown4 hg4 hown3a hB3
  go_wp2_with fail
  go_loopw [10, 11] (fun v i wr => ∃ k : Nat, k ≤ N ∧ i = .int .i64 (k : Int) ∧ OwnI wr w4.heap.size v ((zs.take k).filter (· != id)) ∧ Below w4.heap.size w4 wr) (fun _ i _ => N - (intOf i).toNat)
  case atStart => exact ⟨0, by omega, rfl, OwnI.nil _ _, Below.refl _ _⟩
  case round =>
    obtain ⟨k, hk, rfl, hown, hB⟩ := hrel
    by_cases hlt : k < N
    · have hkl : k < zs.length := by rw [hzl.out]; exact hlt
      obtain ⟨b, off, rfl, hbl, c0⟩ := SlAt.int' HA4.out k hkl
      have htk := List.take_succ_eq_append_getElem hkl
      obtain ⟨z, hz⟩ := nm zs[k]
      rw [← hz.out] at c0 htk
      have d0 : wr.cell? ⟨b, off + k, none⟩ = some (.int .i64 z) := (hB.cell (p := ⟨b, off + k, none⟩) hbl).trans c0
      obtain ⟨L, hL⟩ := nm ((zs.take k).filter (· != id))
      have hLl : L.length ≤ k := by rw [hL.out]; exact Nat.le_trans (List.length_filter_le _ _) (by rw [List.length_take]; omega)
      rw [← hL.out] at hown
      by_cases hzi : z = id
      · have hb : (z != id) = false := by simpa using hzi
        have HT : Hid ((zs.take (k + 1)).filter (· != id) = L) := by
          show _ = _
          rw [htk, List.filter_append, ← hL.out, List.filter_cons_of_neg (by simpa using hzi)]; simp
        clear hzi c0 htk
        go_wp2_with fail
        go_roundw
        case rel => exact ⟨k + 1, by omega, by go_num, by rw [HT.out]; exact hown, hB⟩
        case measure => simp [intOf]; omega
      · have hb : (z != id) = true := by simpa using hzi
        have HT : Hid ((zs.take (k + 1)).filter (· != id) = L ++ [z]) := by
          show _ = _
          rw [htk, List.filter_append, ← hL.out, List.filter_cons_of_pos (by simpa using hzi)]; rfl
        have hown2 := OwnI.alloc hown #[.int .i64 z] 3
        clear hzi c0 htk
        go_wp2_with (at_builtin; refine app_ints rfl _ _ rfl w4.heap.size _ L rfl hown2 (some ⟨wr.heap.size, 0, none⟩) 1 1 [z] rfl rfl (fun h => by cases h) (SlAt.oneI wr z) (by omega) (by have := hB.size; simp; omega) ?_)
        intro v5 w5 hown5 hg5
        have hB5 : Below w4.heap.size w4 w5 := (bNew hB _).grown hg5 (by have := hB.size; simp; omega) (fun k hk => (hown2.lt k hk).1)
        clear hg5 hown2 hown hB
        go_wp2_with fail
        go_roundw
        case rel => exact ⟨k + 1, by omega, by go_num, by rw [HT.out]; exact hown5, hB5⟩
        case measure => simp [intOf]; omega
    · obtain rfl : k = N := by omega
      rw [List.take_of_length_le (by rw [hzl.out]; exact Nat.le_refl _)] at hown
      obtain ⟨a4, c4, rfl, _, hs4⟩ := SlAt.ownI hown4b
      obtain ⟨N1, hN1⟩ : ∃ n, Hid ((zs ++ [id]).length = n) := ⟨_, rfl⟩
      have hN1l : N1 ≤ 9 := by rw [← hN1.out, List.length_append, hzl.out]; simp; omega
      rw [hN1.out]
      obtain ⟨R1, hR1⟩ := nm (ringL (zs ++ [id]))
      obtain ⟨M1, hM1⟩ := nm R1.length
      have hM1l : M1 ≤ 36 := by rw [hM1.out, hR1.out]; have := ringL_length (zs ++ [id]); rw [hN1.out] at this; omega
      obtain ⟨O1, hO1⟩ := nm (orderL R1 part)
      obtain ⟨K1, hK1⟩ := nm O1.length
      have hK1l : K1 ≤ 36 := by rw [hK1.out, hO1.out]; have := orderL_length R1 part; rw [← hM1.out] at this; omega
      have HW1 : Hid (∀ p ∈ R1, (Lit.int .i64 p.2).wf = true) := by
        intro p hp; rw [hR1.out] at hp
        rcases List.mem_append.1 (ringL_node hp) with h | h
        · exact hwf0 _ (List.mem_of_mem_take (by rw [← hzs.out]; exact h))
        · rw [List.mem_singleton.1 h]; exact hid
      have HS4 := Lib.hid (hs4.below hB)
      have HOWN := Lib.hid hown
      have HB0 := Lib.hid (bNext (bNext hB1 hB4) hB)
      clear hs4 hown4b hown hB hB1 hB4
      go_wp2_with fail
      refine (new_any a4 (zs ++ [id]) N1 c4 hN1 (by omega) R1 M1 (hidSymm hR1) (hidSymm hM1) _ HS4.out).mono ?_; rintro e w5 ⟨ar, capr, rfl, hsr, hB5⟩
      have HSR := Lib.hid hsr
      have HOWN5 := Lib.hid (OwnI.below HOWN.out hB5)
      have HB5 := Lib.hid (bNext HB0.out hB5)
      clear hsr hB5
      go_wp2_with fail
      refine (order_any ar R1 M1 capr (hidSymm hM1) (by omega) HW1 part O1 K1 (hidSymm hO1) (hidSymm hK1) _ HSR.out).mono ?_; rintro e w6 ⟨aO, cO, rfl, hcO, hsO, hB6⟩
      have HSO := Lib.hid hsO
      have HOWN6 := Lib.hid (OwnI.below HOWN5.out hB6)
      have HB6 := Lib.hid (bNext HB5.out hB6)
      clear hsO hB6
      go_wp2_with fail
      go_loopw [12, 14] (fun v i wx => ∃ t : Nat, t ≤ K1 ∧ i = .int .i64 (t : Int) ∧ OwnI wx w6.heap.size v ((O1.take t).filter (· != id)) ∧ Below w6.heap.size w6 wx) (fun _ i _ => K1 - (intOf i).toNat)
      case atStart => exact ⟨0, by omega, rfl, OwnI.nil _ _, Below.refl _ _⟩
      case round =>
        obtain ⟨t, ht, rfl, hown, hB⟩ := hrel
        by_cases hlt : t < K1
        · have hkl : t < O1.length := by rw [← hK1.out]; exact hlt
          obtain ⟨b, off, rfl, hbl, c0⟩ := SlAt.int' HSO.out t hkl
          have htk := List.take_succ_eq_append_getElem hkl
          obtain ⟨z, hz⟩ := nm O1[t]
          rw [← hz.out] at c0 htk
          have d0 : wr.cell? ⟨b, off + t, none⟩ = some (.int .i64 z) := (hB.cell (p := ⟨b, off + t, none⟩) hbl).trans c0
          obtain ⟨L, hL⟩ := nm ((O1.take t).filter (· != id))
          have hLl : L.length ≤ t := by rw [hL.out]; exact Nat.le_trans (List.length_filter_le _ _) (by rw [List.length_take]; omega)
          rw [← hL.out] at hown
          by_cases hzi : z = id
          · have hb : (z != id) = false := by simpa using hzi
            have HT : Hid ((O1.take (t + 1)).filter (· != id) = L) := by
              show _ = _
              rw [htk, List.filter_append, ← hL.out, List.filter_cons_of_neg (by simpa using hzi)]; simp
            clear hzi c0 htk
            go_wp2_with fail
            go_roundw
            case rel => exact ⟨t + 1, by omega, by go_num, by rw [HT.out]; exact hown, hB⟩
            case measure => simp [intOf]; omega
          · have hb : (z != id) = true := by simpa using hzi
            have HT : Hid ((O1.take (t + 1)).filter (· != id) = L ++ [z]) := by
              show _ = _
              rw [htk, List.filter_append, ← hL.out, List.filter_cons_of_pos (by simpa using hzi)]; rfl
            have hown2 := OwnI.alloc hown #[.int .i64 z] 3
            clear hzi c0 htk
            go_wp2_with (at_builtin; refine app_ints rfl _ _ rfl w6.heap.size _ L rfl hown2 (some ⟨wr.heap.size, 0, none⟩) 1 1 [z] rfl rfl (fun h => by cases h) (SlAt.oneI wr z) (by omega) (by have := hB.size; simp; omega) ?_)
            intro v7 w7 hown7 hg7
            have hB7 : Below w6.heap.size w6 w7 := (bNew hB _).grown hg7 (by have := hB.size; simp; omega) (fun k hk => (hown2.lt k hk).1)
            clear hg7 hown2 hown hB
            go_wp2_with fail
            go_roundw
            case rel => exact ⟨t + 1, by omega, by go_num, by rw [HT.out]; exact hown7, hB7⟩
            case measure => simp [intOf]; omega
        · obtain rfl : t = K1 := by omega
          rw [List.take_of_length_le (by rw [hK1.out]; exact Nat.le_refl _)] at hown
          obtain ⟨a5, c5, rfl, _, hs5⟩ := SlAt.ownI HOWN6.out
          obtain ⟨aL, cL, rfl, _, hsL⟩ := SlAt.ownI hown
          have HSL := Lib.hid hsL
          obtain ⟨less, hless⟩ := nm (zs.filter (· != id))
          have hwo := order_without zs id part
          rw [← hless.out, ← hR1.out, ← hO1.out] at hwo
          have hor := order_ring (zs ++ [id]) part
          rw [← hR1.out, ← hO1.out] at hor
          have hJ1 := nodup_less hor.1 ((hor.2 id).2 (by simp))
          obtain ⟨left, hleft⟩ := nm (O1.filter (· != id))
          rw [← hleft.out] at hwo hJ1 HSL ⊢
          rw [← hless.out] at hs5 ⊢
          obtain ⟨N2, hN2⟩ := nm less.length
          have hN2l : N2 ≤ 8 := by rw [hN2.out, hless.out]; have := List.length_filter_le (fun x => x != id) zs; rw [hzl.out] at this; omega
          obtain ⟨R2, hR2⟩ := nm (ringL less)
          rw [← hR2.out] at hwo
          obtain ⟨M2, hM2⟩ := nm R2.length
          have hM2l : M2 ≤ 32 := by rw [hM2.out, hR2.out]; have := ringL_length less; rw [← hN2.out] at this; omega
          have HW2 : Hid (∀ p ∈ R2, (Lit.int .i64 p.2).wf = true) := by
            intro p hp; rw [hR2.out] at hp
            have h := ringL_node hp
            rw [hless.out] at h
            exact hwf0 _ (List.mem_of_mem_take (by rw [← hzs.out]; exact (List.mem_filter.1 h).1))
          have HS5 := Lib.hid (hs5.below hB)
          have HB7 := Lib.hid (bNext HB6.out hB)
          have HWO := Lib.hid hwo
          rw [← hN2.out]
          obtain ⟨J, hJ⟩ := nm left.length
          have hJK : J + 1 = t := by rw [hJ.out, hK1.out]; exact hJ1
          have hJL : left.length ≤ 4611686018427387904 := by rw [← hJ.out]; omega
          rw [← hJ.out]
          have HJL := Lib.hid hJL
          clear hs5 hsL hown hB hwo hor hJ1 hJL
          go_wp2_with fail
          refine (new_any a5 less N2 c5 (hidSymm hN2) (by omega) R2 M2 (hidSymm hR2) (hidSymm hM2) _ HS5.out).mono ?_; rintro e w8 ⟨ar2, cr2, rfl, hsr2, hB8⟩
          have HSR2 := Lib.hid hsr2
          have HSL8 := Lib.hid (HSL.out.below hB8)
          have HB8 := Lib.hid (bNext HB7.out hB8)
          clear hsr2 hB8
          go_wp2_with fail
          refine (order_any ar2 R2 M2 cr2 (hidSymm hM2) (by omega) HW2 part left J (hidSymm HWO) (hidSymm hJ) _ HSR2.out).mono ?_; rintro e w9 ⟨aQ, cQ, rfl, _, hsQ, hB9⟩
          have HSQ := Lib.hid hsQ
          have HSL9 := Lib.hid (HSL8.out.below hB9)
          have HB9 := Lib.hid (bNext HB8.out hB9)
          have HSAME := Lib.hid (sameI_any aL aQ cL cQ left left w9 HJL.out HSL9.out HSQ.out)
          rw [← hJ.out, decide_eq_true rfl] at HSAME
          clear hsQ hB9
          go_wp2_with fail
          refine HSAME.out.mono ?_; rintro e w10 ⟨rfl, q, rfl⟩
          have heq : ((t : Int) == (J : Int) + 1) = true := by simp; omega
          go_wp2_with fail
          go_ret
          exact ⟨rfl, below_drewN HB9.out q⟩
namespace LRingStays
open Go.ChangeShapes Go.WideShapes Go.ChangeAt
open Go.ChangeMaps (open_string shut_string)

set_option maxRecDepth 100000 in
theorem contract (H : Type) (enc : TypeId × Value → H) (W : World) (base : Nat) (args : Array Value) (ds gs : List (DataW H)) (before : List MemPlace)
    (hval : ∀ (j : Nat) t v, Try.f5.params[j]? = some t → args[j]? = some v → Value.okWide Try.prog W .any base t v)
    (hW : DataW.Whole enc Try.prog Try.f5.params.toList Rows.ringStaysSpec.vars false W args.toList ds gs before)
    (_hsz : (DataW.weightsEach Try.prog (Try.f5.params.toList ++ (OpenSpec.ofChange Rows.ringStaysSpec).bare.plain.varTypes Try.prog) (ds ++ gs)).all (fun x => decide (x ≤ reachBytes)) = true) :
    Calls Try.prog 5 args W fun e W' => ∃ v, e = .returned v ∧ Rows.ringStaysSpec.post enc Try.prog Try.f5 false true false false W args v W' := by
  have hW' := hW
  obtain ⟨p, q, hA0, hV, rfl, hfz, hnd⟩ := hW
  have hA : DataW.TrodAll enc Try.prog W 0 (fun _ => true) true Try.f5.params.toList args.toList ds p := hA0
  rw [Try.params5] at hA hval
  obtain ⟨v0, vs0, d0, ds0, p0, q0, hargs, rfl, rfl, h0, r0⟩ := trodAll_cons hA
  obtain ⟨v1, vs1, d1, ds1, p1, q1, rfl, rfl, rfl, h1, r1⟩ := trodAll_cons r0
  obtain ⟨v2, vs2, d2, ds2, p2, q2, rfl, rfl, rfl, h2, r2⟩ := trodAll_cons r1
  obtain ⟨rfl, rfl, rfl⟩ := trodAll_nil r2
  obtain rfl : args = #[v0, v1, v2] := by cases args; simp_all
  obtain ⟨rfl, rfl⟩ := trodVars_none hV
  obtain ⟨ao0, len0, cap0, ss0, rfl, hl0, hlc0, hcm0, hno0, hat0, wf0⟩ := open_ints3 Try.underlying22 Try.underlying3 (show Try.prog.cellsOf 3 = 1 by kernel_rfl) h0 (okWide_slice Try.underlying22 (hval 0 22 v0 rfl rfl))
  obtain ⟨x1, rfl, rfl, rfl, k1⟩ := open_int Try.underlying3 (hval 1 3 v1 rfl rfl) h1
  obtain ⟨x2, rfl, rfl, rfl, k2⟩ := open_int Try.underlying3 (hval 2 3 v2 rfl rfl) h2
  clear hA0
  refine (ringStays_walk ao0 ss0 len0 cap0 hl0 hlc0 hno0 wf0 x1 x2 k1 W hat0).mono fun e W' ⟨he, hb⟩ => ?_
  subst he
  exact ⟨_, rfl, law_post laidOut Try.underlying4 rfl (by kernel_rfl) rfl rfl rfl rfl hW' hb⟩

theorem reads (os : Os) {H : Type} (enc : TypeId × Value → H) : ∃ places, DataW.whole enc Try.prog ((World.holding Try.prog os ⟨#[], #[], []⟩).forCall (fun _ _ => 0) ⟨#[], #[.slice none 0 0, .int .i64 0, .int .i64 0], []⟩).memory Try.f5.params.toList Rows.ringStaysSpec.vars false (#[.slice none 0 0, .int .i64 0, .int .i64 0] : Array Value).toList 8 = some ([.nil, .lit (.int .i64 0), .lit (.int .i64 0)], [], places) :=
  ⟨[], by kernel_rfl⟩
theorem laid_met (os : Os) : laidMet Try.prog Rows.ringStaysRow.laid ((World.holding Try.prog os ⟨#[], #[], []⟩).forCall (fun _ _ => 0) ⟨#[], #[.slice none 0 0, .int .i64 0, .int .i64 0], []⟩).memory :=
  laidMet_of_run' 8 (by kernel_rfl) (by kernel_rfl)

set_option maxRecDepth 100000 in
theorem lifted (os : Os) (started : os.Started) (H : Type) (enc : TypeId × Value → H) (F : Stop.Interp) :
    ReturnsInHanded {} Try.checked os 5 .any ((OpenSpec.ofChange Rows.ringStaysSpec).preRow enc Try.prog Try.f5 Rows.ringStaysRow.domain false Rows.ringStaysRow.laid) (((OpenSpec.ofChange Rows.ringStaysSpec).at F).post enc Try.prog Try.f5 false true false false) := by
  obtain ⟨places, hx⟩ := reads os enc
  refine returnsInHanded_of_row (C := Try.checked) (s := OpenSpec.ofChange Rows.ringStaysSpec) own started (by kernel_rfl) Try.func5
    (witness_row_at (enc := enc) (C := Try.checked) false (World.holding Try.prog os ⟨#[], #[], []⟩) #[.slice none 0 0, .int .i64 0, .int .i64 0] rfl (by kernel_rfl) (by kernel_rfl) (by kernel_rfl)
      (OpenSpec.preRow_of_cond 8 hx (by kernel_rfl) (fun k hk => by cases hk) (by kernel_rfl) (laid_met os))) ?_
  intro W base args ds gs before hval hW _ _ hsz hL _ _
  exact contract H enc W base args ds gs before hval hW hsz

theorem said : Rows.RingStaysSaid :=
  OpenClaim.holds_of_cond 5 Try.f5 rfl rfl rfl rfl rfl rfl rfl ⟨rfl, rfl, rfl, rfl, rfl⟩ rfl rfl rfl rfl rfl (by kernel_rfl) Try.func5 (by kernel_rfl)
    (of_decide_eq_true (by kernel_rfl)) (by unfold Func.isWrapper; first | (rw [if_pos (by decide +kernel)]; kernel_rfl) | (rw [if_neg (by decide +kernel)]; exact ⟨rfl, rfl⟩))
    (fun os started H enc _ F => by rw [OpenClaim.pre_eq_preRow]; exact lifted os started H enc F)
end LRingStays
end Go.Proofs.Ytmmfbeeeamcooaa
