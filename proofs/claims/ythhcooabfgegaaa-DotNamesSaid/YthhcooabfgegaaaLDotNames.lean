/- DotNames: for every row of names, every two names, the law returns true. -/
import Derived.Test.YthhcooabfgegaaaDotAwake
import Derived.Test.YthhcooabfgegaaaDotMore
import Derived.Test.YthhcooabfgegaaaDotOf
import Derived.Test.YthhcooabfgegaaaDotRefSort
import Derived.Test.YthhcooabfgegaaaLaw
import Derived.Deep.RegionHeld3
import Derived.Outline
namespace Go.Proofs.Ythhcooabfgegaaa
open Go.RowKit Go.Shelf Go.Lib Go.Sort

theorem sort_at (ao : Option Addr) (ps qs : List (Int × Int)) (n m cap : Nat) (hn : ps.length = n) (hq : Hid (sortD ps = qs)) (hm' : Hid (qs.length = m)) (w : World) (hs : SlP w ao ps) (hm : n ≤ 1000000) :
    Calls Try.prog 12 #[.slice ao n cap] w fun e w' => ∃ ao' cap', e = .returned (.slice ao' m cap') ∧ SlP w' ao' qs ∧ Below w.heap.size w w' := by
  refine (sort_any ao ps n cap hn w hs (by omega) (by rintro rfl; rw [← hn]; exact hs.none_len)).mono ?_
  rintro e w' ⟨a, c, rfl, h1, h2, _, h3, h4⟩
  rw [hq.out, hm'.out] at *
  exact ⟨a, c, rfl, h2, h4⟩
theorem refsort_at (ao : Option Addr) (ps qs : List (Int × Int)) (n m cap : Nat) (hn : Hid (ps.length = n)) (hq : Hid (sortD ps = qs)) (hm' : Hid (qs.length = m)) (w : World) (hs : SlP w ao ps) (hm : n ≤ 1000000) :
    Calls Try.prog 18 #[.slice ao n cap] w fun e w' => ∃ ao' cap', e = .returned (.slice ao' m cap') ∧ SlP w' ao' qs ∧ Below w.heap.size w w' := by
  refine (refsort_any ao ps n cap hn hm w hs).mono ?_
  rintro e w' ⟨a, c, rfl, h1, h2, _, h3, h4⟩
  rw [hq.out, hm'.out] at *
  exact ⟨a, c, rfl, h2, h4⟩
theorem of_at (ao : Option Addr) (ps qs : List (Int × Int)) (n m cap : Nat) (hn : Hid (ps.length = n)) (hcap : n ≤ cap) (z : Int) (hq : Hid (ofD ps z = qs)) (hm' : Hid (qs.length = m)) (w : World) (hs : SlP w ao ps) (hm : n ≤ 1000000) :
    Calls Try.prog 16 #[.slice ao n cap, .int .i64 z] w fun e w' => ∃ ao' cap', e = .returned (.slice ao' m cap') ∧ SlP w' ao' qs ∧ Below w.heap.size w w' := by
  refine (of_any ao ps n cap hn.out hcap z w hs (by omega)).mono ?_
  rintro e w' ⟨a, c, rfl, h1, h2, _, h4⟩
  rw [hq.out, hm'.out] at *
  exact ⟨a, c, rfl, h2, h4⟩
theorem refof_at (ao : Option Addr) (ps qs : List (Int × Int)) (n m cap : Nat) (hn : Hid (ps.length = n)) (z : Int) (hq : Hid (ofD ps z = qs)) (hm' : Hid (qs.length = m)) (w : World) (hs : SlP w ao ps) (hm : n ≤ 1000000) :
    Calls Try.prog 19 #[.slice ao n cap, .int .i64 z] w fun e w' => ∃ ao' cap', e = .returned (.slice ao' m cap') ∧ SlP w' ao' qs ∧ Below w.heap.size w w' := by
  refine (refof_any ao ps n cap hn hm z w hs).mono ?_
  rintro e w' ⟨v, rfl, hown, hB⟩
  have e1 : (ps.filter fun p => decide (p.1 = z)) = qs := hq.out
  rw [e1] at hown
  obtain ⟨a, c, rfl, _, _, hsl, _⟩ := hown.sl
  rw [hm'.out]
  exact ⟨a, c, rfl, hsl, hB⟩

set_option maxRecDepth 100000 in
set_option maxHeartbeats 8000000 in
theorem dotNames_walk (ao : Option Addr) (l : List (Int × Int)) (n cap : Nat) (hn : l.length = n) (hc : n ≤ cap) (x1 x2 y1 y2 : Int) (w : World) (hs : SlP w ao l) :
    Calls Try.prog 6 #[.slice ao n cap, .agg #[.int .i64 x1, .int .i64 x2], .agg #[.int .i64 y1, .int .i64 y2]] w fun e w' => e = .returned (.bool true) ∧ Below w.heap.size w w' := by
  have hA : Blk ((w.alloc (.cells #[.int .i64 x1, .int .i64 x2] 23)).alloc (.cells #[.int .i64 y1, .int .i64 y2] 23)) w.heap.size #[.int .i64 x1, .int .i64 x2] 23 := (Blk.new _ _ _).alloc _
  have hBl : Blk ((w.alloc (.cells #[.int .i64 x1, .int .i64 x2] 23)).alloc (.cells #[.int .i64 y1, .int .i64 y2] 23)) (w.heap.size + 1) #[.int .i64 y1, .int .i64 y2] 23 := by
    have := Blk.new (w.alloc (.cells #[.int .i64 x1, .int .i64 x2] 23)) #[.int .i64 y1, .int .i64 y2] 23
    simpa using this
  have hB0 : Below w.heap.size w ((w.alloc (.cells #[.int .i64 x1, .int .i64 x2] 23)).alloc (.cells #[.int .i64 y1, .int .i64 y2] 23)) := bNew (bOld _) _
  obtain ⟨w0, hw0⟩ := nm ((w.alloc (.cells #[.int .i64 x1, .int .i64 x2] 23)).alloc (.cells #[.int .i64 y1, .int .i64 y2] 23))
  rw [← hw0.out] at hA hBl hB0
  obtain ⟨p, hp⟩ := nm w.heap.size
  rw [← hp.out] at hA hBl
  have hF : ∀ w' : World, Below w0.heap.size w0 w' → (w'.cell? ⟨p, 0, none⟩ = some (.int .i64 x1) ∧ w'.cell? ⟨p, 1, none⟩ = some (.int .i64 x2)) ∧ (w'.cell? ⟨p + 1, 0, none⟩ = some (.int .i64 y1) ∧ w'.cell? ⟨p + 1, 1, none⟩ = some (.int .i64 y2)) :=
    fun w' h => ⟨⟨(hA.below h hA.lt).cell 0, (hA.below h hA.lt).cell 1⟩, ⟨(hBl.below h hBl.lt).cell 0, (hBl.below h hBl.lt).cell 1⟩⟩
  have HF := Lib.hid hF
  have HB0 := Lib.hid hB0
  obtain ⟨P, hP⟩ := nm (l.take 30)
  have hsP : SlP w0 ao P := by rw [hP.out]; exact (hs.take 30).below hB0
  obtain ⟨N, hN⟩ := nm (min n 30)
  have hPN : P.length = N := by rw [hP.out, hN.out, List.length_take, hn]; omega
  have hN30 : N ≤ 30 := by rw [hN.out]; omega
  have hNc : N ≤ cap := by rw [hN.out]; omega
  have hfew := fun w => few_any ao l n cap hn hc w
  rw [← hN.out] at hfew
  have HFEW := Lib.hid hfew
  obtain ⟨S, hS⟩ := nm (sortD P)
  obtain ⟨K, hK⟩ := nm S.length
  have hKN : K ≤ N := by rw [hK.out, hS.out, ← hPN]; exact sortD_length P
  have HA : Hid (Asc S) := by show Asc S; rw [hS.out]; exact asc_sortD P
  obtain ⟨O, hO⟩ := nm (ofD P x1)
  obtain ⟨nO, hnO⟩ := nm O.length
  have hnON : nO ≤ N := by rw [hnO.out, hO.out, ← hPN]; exact ofD_length P x1
  obtain ⟨R, hR⟩ := nm (decide (S[lowD S (x1, x2)]? = some (x1, x2)))
  obtain ⟨Lw, hLw⟩ := nm (lowD S (x1, x2))
  have hrf := fun ao cap w h => reffind_any ao S K cap (hidSymm hK) (by omega) x1 x2 w h HA
  rw [← hLw.out] at hR
  have HRF : Hid (∀ (ao : Option Addr) (cap : Nat) (w : World), SlP w ao S → Calls Try.prog 20 #[.slice ao K cap, .agg #[.int .i64 x1, .int .i64 x2]] w fun e w' => e = .returned (.tuple #[.int .i64 (Lw : Int), .bool R]) ∧ Below w.heap.size w w') := by
    intro ao cap w h
    refine (hrf ao cap w h).mono ?_
    rintro e w' ⟨rfl, hb⟩
    exact ⟨by rw [hR.out, ← hLw.out], hb⟩
  have HDF : Hid (∀ (ao : Option Addr) (cap : Nat) (w : World), SlP w ao S → Calls Try.prog 13 #[.slice ao K cap, .agg #[.int .i64 x1, .int .i64 x2]] w fun e w' => e = .returned (.tuple #[.int .i64 (Lw : Int), .bool R]) ∧ Below w.heap.size w w') := by
    intro ao cap w h
    refine (find_any ao S K cap (hidSymm hK) x1 x2 w h (by omega)).mono ?_
    rintro e w' ⟨j, _, rfl, hj, hb⟩
    obtain rfl : j = Lw := by rw [hj HA.out, hLw.out]
    exact ⟨by rw [hR.out], hb⟩
  have HRT : Hid (true = decide (Asc S)) := (decide_eq_true HA.out).symm
  have HPN := Lib.hid hPN
  have HSP := Lib.hid hsP
  obtain ⟨C1, hC1⟩ := nm (okD x1 x2)
  obtain ⟨C2, hC2⟩ := nm (decide (ltP (x1, x2) (y1, y2)))
  obtain ⟨C3, hC3⟩ := nm (decide (Asc P))
  clear hfew hPN hsP hs hn hA hBl hF hB0 hrf
  go_enter Try.func6, Try.ntmps6
  go_wp2_with fail
  rw [← hp.out, ← hw0.out]
  refine (awake_any _).mono ?_; rintro e w1 ⟨rfl, hB⟩
  go_wp2_with fail
  refine (HFEW.out _).mono ?_; rintro e w2 ⟨rfl, rfl⟩
  go_wp2_with fail
  refine (refsort_at ao P S N K cap HPN (hidSymm hS) (hidSymm hK) _ (HSP.out.below hB) (by omega)).mono ?_; rintro e w2 ⟨aS, cS, rfl, hslS, hB2⟩
  have HSS := Lib.hid hslS
  replace hB := bNext hB hB2
  clear hslS hB2
  go_wp2_with fail
  refine (sort_at ao P S N K cap HPN.out (hidSymm hS) (hidSymm hK) _ (HSP.out.below hB) (by omega)).mono ?_; rintro e w3 ⟨aT, cT, rfl, hslT, hB2⟩
  have HST := Lib.hid hslT
  have HSS1 := Lib.hid (HSS.out.below hB2)
  replace hB := bNext hB hB2
  clear hslT hB2 HSS
  go_wp2_with fail
  refine (same_any aT aS cT cS K K S S (hidSymm hK) (hidSymm hK) _ (by omega) HST.out HSS1.out true (by show _ = _; exact (decide_eq_true rfl).symm)).mono ?_; rintro e w4 ⟨rfl, q4, rfl⟩
  have HSS2 : Hid (SlP (w3.drewN q4) aS S) := HSS1.out
  have hB4 := below_drewN hB q4
  obtain ⟨w5, hw5⟩ := nm (w3.drewN q4)
  rw [← hw5.out] at HSS2 hB4 ⊢
  clear hB HST HSS1 hw5
  obtain ⟨⟨g1, g2⟩, g3, g4⟩ := HF.out _ hB4
  have hBc : Below w0.heap.size w0 w5.drew := below_drewN hB4 1
  have HSSc : Hid (SlP w5.drew aS S) := HSS2.out
  clear HSS2 hB4
  go_wp2_with fail
  go_region_held3 (fun w' => w'.cell? ⟨p, 0, none⟩ = some (.int .i64 x1)) (first | assumption | go_keep)
    (first
      | (go_at_call 16; (refine (of_at ao P O N nO cap HPN hNc x1 (hidSymm hO) (hidSymm hnO) _ (HSP.out.below hBc) (by omega)).mono ?_); rintro e w6 ⟨aA, cA, rfl, hslA, hB6⟩; have hBd := bNext hBc hB6; have g5 := (HF.out _ hBd).1.1)
      | (go_at_call 19; (refine (refof_at ao P O N nO cap HPN x1 (hidSymm hO) (hidSymm hnO) _ (HSP.out.below hBd) (by omega)).mono ?_); rintro e w7 ⟨aB, cB, rfl, hslB, hB7⟩; have hBe := bNext hBd hB7; have g6 := (HF.out _ hBe).1.1)
      | (go_at_call 17; (refine (same_any aA aB cA cB nO nO O O (hidSymm hnO) (hidSymm hnO) _ (by omega) (hslA.below hB7) hslB true (by show _ = _; exact (decide_eq_true rfl).symm)).mono ?_); rintro e w8 ⟨rfl, q8, rfl⟩))
  have hB8 : Below w0.heap.size w0 (w7.drewN q8) := below_drewN hBe q8
  have HSS8 : Hid (SlP (w7.drewN q8) aS S) := (show SlP w7 aS S from (HSSc.out.below hB6).below hB7)
  obtain ⟨w9, hw9⟩ := nm (w7.drewN q8)
  rw [← hw9.out] at hB8 HSS8 ⊢
  obtain ⟨⟨k1, k2⟩, k3, k4⟩ := HF.out _ hB8
  clear hB6 hB7 hBd hBe hslA hslB g1 g2 g3 g4 g5 g6 hw9 hBc HSSc
  go_wp2_with fail
  refine (HDF.out aS cS _ HSS8.out).mono ?_; rintro e w10 ⟨rfl, hB⟩
  have HSS9 := Lib.hid (HSS8.out.below hB)
  replace hB8 := bNext hB8 hB
  clear hB HSS8 k1 k2 k3 k4
  obtain ⟨⟨k1, k2⟩, k3, k4⟩ := HF.out _ hB8
  go_wp2_with fail
  refine (HRF.out aS cS _ HSS9.out).mono ?_; rintro e w11 ⟨rfl, hB⟩
  have HSS10 := Lib.hid (HSS9.out.below hB)
  replace hB8 := bNext hB8 hB
  clear hB HSS9 k1 k2 k3 k4
  obtain ⟨⟨k1, k2⟩, k3, k4⟩ := HF.out _ hB8
  go_wp2_with fail
  refine (find_any ao P N cap HPN x1 x2 _ (HSP.out.below hB8) (by omega)).mono ?_; rintro e w12 ⟨j, hj, rfl, _, hB⟩
  obtain ⟨F, hF⟩ := nm (decide (P[j]? = some (x1, x2)))
  rw [← hF.out]
  have HSS11 : Hid (SlP w12.drew aS S) := (show SlP w12 aS S from HSS10.out.below hB)
  replace hB8 := bNext hB8 hB
  clear hB HSS10 k1 k2 k3 k4
  obtain ⟨⟨k1, k2⟩, k3, k4⟩ := HF.out _ hB8
  have hBc : Below w0.heap.size w0 w12.drew := below_drewN hB8 1
  rw [HPN.out] at hj
  have hj1 : decide ((j : Int) ≤ (N : Int)) = true := by simp; omega
  have hj0 : decide ((0 : Int) ≤ (j : Int)) = true := by simp
  have he1 : ((Lw : Int) == (Lw : Int)) = true := by simp
  have he2 : (R == R) = true := by simp
  have he3 : (C1 == C1) = true := by simp
  have he4 : (C2 == C2) = true := by simp
  have he5 : (C3 == C3) = true := by simp
  clear hB8
  go_wp2_with fail
  go_region_held3 (fun w' => (w'.cell? ⟨p, 0, none⟩ = some (.int .i64 x1) ∧ w'.cell? ⟨p, 1, none⟩ = some (.int .i64 x2)) ∧ (w'.cell? ⟨p + 1, 0, none⟩ = some (.int .i64 y1) ∧ w'.cell? ⟨p + 1, 1, none⟩ = some (.int .i64 y2))) (first | assumption | go_keep)
    (first
      | (go_at_call 21; (refine (check_any x1 x2 C1 hC1 _).mono ?_); rintro e wa ⟨rfl, hBa⟩; have hBa2 := bNext hBc hBa; have ga := HF.out _ hBa2)
      | (go_at_call 22; (refine (refcheck_any x1 x2 C1 hC1 _).mono ?_); rintro e wb ⟨rfl, hBb⟩; have hBb2 := bNext hBa2 hBb; have gb := HF.out _ hBb2)
      | (go_at_call 10; (refine (less_is x1 x2 y1 y2 C2 (hidSymm hC2) _).mono ?_); rintro e wd ⟨rfl, hBd⟩; have hBd2 := bNext hBb2 hBd; have gd := HF.out _ hBd2)
      | (go_at_call 23; (refine (refless_any x1 x2 y1 y2 C2 hC2 _).mono ?_); rintro e we ⟨rfl, hBe⟩; have hBe2 := bNext hBd2 hBe; have ge := HF.out _ hBe2)
      | (go_at_call 24; (refine (refrises_any ao P N cap HPN (by omega) _ (HSP.out.below hBf2) C3 hC3).mono ?_); rintro e wg ⟨rfl, hBg⟩; have hBg2 := bNext hBf2 hBg; have gg := HF.out _ hBg2)
      | (go_at_call 15; ((with_reducible refine (rises_any ao P N cap HPN (by omega) _ (HSP.out.below hBe2) C3 hC3).mono ?_)); rintro e wf ⟨rfl, hBf⟩; have hBf2 := bNext hBe2 hBf; have gf := HF.out _ hBf2)
      | (go_at_call 15; ((with_reducible refine (rises_any aS S K cS (hidSymm hK) (by omega) _ (((((HSS11.out.below hBa).below hBb).below hBd).below hBe).below hBf |>.below hBg) true (HRT)).mono ?_)); rintro e wh ⟨rfl, hBh⟩; have hBh2 := bNext hBg2 hBh; have gh := HF.out _ hBh2))
  go_wp2_with fail
  go_ret
  exact ⟨rfl, bNext HB0.out hBh2⟩
namespace LDotNames
open Go.ChangeShapes Go.WideShapes Go.ChangeAt
open Go.ChangeMaps (open_string shut_string)

set_option maxRecDepth 100000 in
theorem contract (H : Type) (enc : TypeId × Value → H) (W : World) (base : Nat) (args : Array Value) (ds gs : List (DataW H)) (before : List MemPlace)
    (hval : ∀ (j : Nat) t v, Try.f6.params[j]? = some t → args[j]? = some v → Value.okWide Try.prog W .any base t v)
    (hW : DataW.Whole enc Try.prog Try.f6.params.toList Rows.dotNamesSpec.vars false W args.toList ds gs before)
    (_hsz : (DataW.weightsEach Try.prog (Try.f6.params.toList ++ (OpenSpec.ofChange Rows.dotNamesSpec).bare.plain.varTypes Try.prog) (ds ++ gs)).all (fun x => decide (x ≤ reachBytes)) = true) :
    Calls Try.prog 6 args W fun e W' => ∃ v, e = .returned v ∧ Rows.dotNamesSpec.post enc Try.prog Try.f6 false true false false W args v W' := by
  have hW' := hW
  obtain ⟨p, q, hA0, hV, rfl, hfz, hnd⟩ := hW
  have hA : DataW.TrodAll enc Try.prog W 0 (fun _ => true) true Try.f6.params.toList args.toList ds p := hA0
  rw [Try.params6] at hA hval
  obtain ⟨v0, vs0, d0, ds0, p0, q0, hargs, rfl, rfl, h0, r0⟩ := trodAll_cons hA
  obtain ⟨v1, vs1, d1, ds1, p1, q1, rfl, rfl, rfl, h1, r1⟩ := trodAll_cons r0
  obtain ⟨v2, vs2, d2, ds2, p2, q2, rfl, rfl, rfl, h2, r2⟩ := trodAll_cons r1
  obtain ⟨rfl, rfl, rfl⟩ := trodAll_nil r2
  obtain rfl : args = #[v0, v1, v2] := by cases args; simp_all
  obtain ⟨rfl, rfl⟩ := trodVars_none hV
  obtain ⟨ao0, len0, cap0, l0, rfl, hl0, hlc0, hcm0, hat0, hbd0⟩ := open_pairs Try.underlying27 Try.underlying23 (show Try.prog.cellsOf 23 = 2 by kernel_rfl) ⟨rfl, rfl⟩ ⟨rfl, rfl⟩ Try.underlying3 (show Try.prog.cellsOf 3 = 1 by kernel_rfl) h0 (okWide_slice Try.underlying27 (hval 0 27 v0 rfl rfl))
  obtain ⟨c0, c1, y0, y1, m1, rfl, rfl, rfl, hy0, hy1⟩ := Joins.open_agg2 Try.underlying23 (by kernel_rfl) (show Try.prog.cellsOf 23 = 2 by kernel_rfl) (hval 1 23 v1 rfl rfl) h1
  obtain ⟨z1_0, e0, _, wf1_0⟩ := DataW.trod_int Try.underlying3 hy0
  obtain ⟨z1_1, e1, _, wf1_1⟩ := DataW.trod_int Try.underlying3 hy1
  simp at e0 e1
  subst e0 e1
  obtain ⟨c0, c1, y0, y1, m2, rfl, rfl, rfl, hy0, hy1⟩ := Joins.open_agg2 Try.underlying23 (by kernel_rfl) (show Try.prog.cellsOf 23 = 2 by kernel_rfl) (hval 2 23 v2 rfl rfl) h2
  obtain ⟨z2_0, e0, _, wf2_0⟩ := DataW.trod_int Try.underlying3 hy0
  obtain ⟨z2_1, e1, _, wf2_1⟩ := DataW.trod_int Try.underlying3 hy1
  simp at e0 e1
  subst e0 e1
  clear hA0
  refine (dotNames_walk ao0 l0 len0 cap0 hl0 hlc0 z1_0 z1_1 z2_0 z2_1 W hat0).mono fun e W' ⟨he, hb⟩ => ?_
  subst he
  exact ⟨_, rfl, law_post laidOut Try.underlying4 rfl (by kernel_rfl) rfl rfl rfl rfl hW' hb⟩

theorem reads (os : Os) {H : Type} (enc : TypeId × Value → H) : ∃ places, DataW.whole enc Try.prog ((World.holding Try.prog os ⟨#[], #[], []⟩).forCall (fun _ _ => 0) ⟨#[], #[.slice none 0 0, .agg #[.int .i64 0, .int .i64 0], .agg #[.int .i64 0, .int .i64 0]], []⟩).memory Try.f6.params.toList Rows.dotNamesSpec.vars false (#[.slice none 0 0, .agg #[.int .i64 0, .int .i64 0], .agg #[.int .i64 0, .int .i64 0]] : Array Value).toList 8 = some ([.nil, .agg [.lit (.int .i64 0), .lit (.int .i64 0)], .agg [.lit (.int .i64 0), .lit (.int .i64 0)]], [], places) :=
  ⟨[], by kernel_rfl⟩
theorem laid_met (os : Os) : laidMet Try.prog Rows.dotNamesRow.laid ((World.holding Try.prog os ⟨#[], #[], []⟩).forCall (fun _ _ => 0) ⟨#[], #[.slice none 0 0, .agg #[.int .i64 0, .int .i64 0], .agg #[.int .i64 0, .int .i64 0]], []⟩).memory :=
  laidMet_of_run' 8 (by kernel_rfl) (by kernel_rfl)

set_option maxRecDepth 100000 in
theorem lifted (os : Os) (started : os.Started) (H : Type) (enc : TypeId × Value → H) (F : Stop.Interp) :
    ReturnsInHanded {} Try.checked os 6 .any ((OpenSpec.ofChange Rows.dotNamesSpec).preRow enc Try.prog Try.f6 Rows.dotNamesRow.domain false Rows.dotNamesRow.laid) (((OpenSpec.ofChange Rows.dotNamesSpec).at F).post enc Try.prog Try.f6 false true false false) := by
  obtain ⟨places, hx⟩ := reads os enc
  refine returnsInHanded_of_row (C := Try.checked) (s := OpenSpec.ofChange Rows.dotNamesSpec) own started (by kernel_rfl) Try.func6
    (witness_row_at (enc := enc) (C := Try.checked) false (World.holding Try.prog os ⟨#[], #[], []⟩) #[.slice none 0 0, .agg #[.int .i64 0, .int .i64 0], .agg #[.int .i64 0, .int .i64 0]] rfl (by kernel_rfl) (by kernel_rfl) (by kernel_rfl)
      (OpenSpec.preRow_of_cond 8 hx (by kernel_rfl) (fun k hk => by cases hk) (by kernel_rfl) (laid_met os))) ?_
  intro W base args ds gs before hval hW _ _ hsz hL _ _
  exact contract H enc W base args ds gs before hval hW hsz

theorem said : Rows.DotNamesSaid :=
  OpenClaim.holds_of_cond 6 Try.f6 rfl rfl rfl rfl rfl rfl rfl ⟨rfl, rfl, rfl, rfl, rfl⟩ rfl rfl rfl rfl rfl (by kernel_rfl) Try.func6 (by kernel_rfl)
    (of_decide_eq_true (by kernel_rfl)) (by unfold Func.isWrapper; first | (rw [if_pos (by decide +kernel)]; kernel_rfl) | (rw [if_neg (by decide +kernel)]; exact ⟨rfl, rfl⟩))
    (fun os started H enc _ F => by rw [OpenClaim.pre_eq_preRow]; exact lifted os started H enc F)
end LDotNames
end Go.Proofs.Ythhcooabfgegaaa
