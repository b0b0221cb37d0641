/- The document's places, orders, owners, majorities. -/
import Derived.Test.YtmmfbeeeamcooaaDoorRingD
import Derived.Test.YtmmfbeeeamcooaaDoorRingInts
import Derived.Deep.CutBlock
import Derived.Deep.DeepCutAuto
namespace Go.Proofs.YtmmfbeeeamcooaaDoor
open Go.RowKit Go.Shelf Go.Lib Go.Sort

set_option maxRecDepth 100000 in
set_option maxHeartbeats 400000 in
theorem refrest_16 (x : Int) (w : World) :
    Calls Tryd.prog 35 #[.int .i64 x, .int .i64 16] w fun e w' => e = .returned (.int .i64 (x % 16)) ∧ w = w' := by
  have h1 : -16 < x.tmod 16 := Int.lt_tmod_of_pos x (by decide)
  have h2 : x.tmod 16 < 16 := Int.tmod_lt_of_pos x (by decide)
  have h3 : (x.tmod 16 + 16) % 16 = x % 16 := by rw [Int.tmod_eq_emod]; split <;> omega
  have H3 := Lib.hid h3
  clear h3
  go_enter Tryd.func35, Tryd.ntmps35
  go_wp2_with fail
  go_ret
  exact ⟨congrArg (fun y => Ending.returned (Value.int .i64 y)) H3.out, rfl⟩

set_option maxRecDepth 100000 in
set_option maxHeartbeats 400000 in
theorem refplace_any (part : Int) (w : World) :
    Calls Tryd.prog 19 #[.int .i64 part] w fun e w' => e = .returned (.int .i64 (placeI part)) ∧ w = w' := by
  have h0 : 0 ≤ part % 16 := by omega
  have h1 : part % 16 ≤ 15 := by omega
  go_enter Tryd.func19, Tryd.ntmps19
  go_wp2_with (go_at_call 35; refine (refrest_16 _ _).mono ?_; rintro e w2 ⟨rfl, rfl⟩)
  go_ret
  exact ⟨rfl, rfl⟩

set_option maxRecDepth 100000 in
set_option maxHeartbeats 400000 in
theorem refmajority_any (n : Int) (r : Int) (hr : Hid (r = max n 0 / 2 + 1)) (hn : n ≤ 9223372036854775807) (w : World) :
    Calls Tryd.prog 21 #[.int .i64 n] w fun e w' => e = .returned (.int .i64 r) ∧ w = w' := by
  by_cases h : n < 1
  · have HR : Hid (1 = r) := by show _ = _; rw [hr.out]; omega
    go_enter Tryd.func21, Tryd.ntmps21
    go_wp2_with fail
    go_ret
    exact ⟨congrArg (fun x => Ending.returned (Value.int .i64 x)) HR.out, rfl⟩
  · have h1 : 1 ≤ n := by omega
    have HR : Hid (n / 2 + 1 = r) := by show _ = _; rw [hr.out]; omega
    clear hr
    go_enter Tryd.func21, Tryd.ntmps21
    go_wp2_with fail
    go_ret
    exact ⟨congrArg (fun x => Ending.returned (Value.int .i64 x)) HR.out, rfl⟩

set_option maxRecDepth 100000 in
set_option maxHeartbeats 4000000 in
theorem reforder_any (ao : Option Addr) (ps : List (Int × Int)) (n cap : Nat) (hn : Hid (ps.length = n)) (hm : n ≤ 1000) (part : Int) (O : List Int) (K : Nat) (hO : Hid (orderL ps part = O)) (hK : Hid (O.length = K)) (w : World) (hs : SlP w ao ps) :
    Calls Tryd.prog 15 #[.slice ao n cap, .int .i64 part] w fun e w' => ∃ ao' cap', e = .returned (.slice ao' K cap') ∧ K ≤ cap' ∧ SlAt w' ao' (O.map (Value.int .i64)) ∧ Below w.heap.size w w' := by
  have HS := Lib.hid hs
  obtain ⟨pl, hpl⟩ := nm (placeI part)
  have HQ : Hid (∀ wx, Calls Tryd.prog 19 #[.int .i64 part] wx fun e w' => e = .returned (.int .i64 pl) ∧ w' = wx) := by
    intro wx; rw [hpl.out]; exact (refplace_any part wx).mono fun _ _ ⟨a, b⟩ => ⟨a, b.symm⟩
  obtain ⟨F, hF⟩ := nm (firstP (fun p => decide (placeI part ≤ p.1)) ps)
  clear hs
  go_enter Tryd.func15, Tryd.ntmps15
  go_upto_block 0 with fail
  go_cut [5] (fun s5 wx => s5 = .int .i64 (F : Int) ∧ ∃ q, wx = w.drewN q)
  case first =>
    go_wp2_with fail
    go_loopw [5] (fun s5 wx => ∃ k q : Nat, k ≤ n ∧ s5 = .int .i64 (k : Int) ∧ Hid (∀ j, j < k → decide (pl ≤ (ps[j]!).1) = false) ∧ wx = w.drewN q) (fun s5 _ => n - (intOf s5).toNat)
    case atStart => exact ⟨0, 0, by omega, rfl, fun j hj => absurd hj (by omega), rfl⟩
    case round =>
      obtain ⟨k, q, hk, rfl, hI, hwr⟩ := hrel
      have HSr : Hid (SlP wr ao ps) := by show SlP _ _ _; rw [hwr]; exact HS.out.below (below_drewN (Below.refl _ _) q)
      have HWR : Hid (∀ m, wr.drewN m = w.drewN (q + m)) := by intro m; rw [hwr, World.drewN_drewN]
      clear hwr
      rcases Nat.lt_or_ge k n with hkn | hkn
      · obtain ⟨b, off, u, v, rfl, hbl, d0, d1, hpk⟩ := HSr.out.get k (by rw [hn.out]; exact hkn)
        have hk0 : (0 : Int) ≤ (k : Int) := by omega
        have hkd : decide (k < n) = true := decide_eq_true hkn
        have hpk2 : Hid (ps[k]! = (u, v)) := by show _ = _; rw [getElem!_def, hpk.out]
        by_cases hlt : u < pl
        · have hud : decide (u < pl) = true := decide_eq_true hlt
          have HI : Hid (∀ j, j < k + 1 → decide (pl ≤ (ps[j]!).1) = false) := by
            intro j hj
            rcases Nat.lt_or_ge j k with h | h
            · exact hI.out j h
            · obtain rfl : j = k := by omega
              rw [hpk2.out]; exact decide_eq_false (by simp only; omega)
          clear d1 hlt
          go_wp2_with fail
          go_quiet ((go_at_call 19; exact Calls.quiet_of_same (HQ.out _)))
          go_wp2_with fail
          go_roundw
          case rel => exact ⟨k + 1, _, by omega, by go_num, HI, HWR.out _⟩
          case measure => simp [intOf]; omega
        · have hud : decide (u < pl) = false := decide_eq_false hlt
          have hkF : Hid (k = F) := by
            show _ = _
            rw [hF.out, ← hpl.out]
            exact (firstP_at _ ps k (by rw [hn.out]; exact hkn) (by rw [hpk2.out]; exact decide_eq_true (by simp only; omega)) hI.out).symm
          clear d1 hlt
          go_wp2_with fail
          go_quiet ((go_at_call 19; exact Calls.quiet_of_same (HQ.out _)))
          go_wp2_with fail
          go_meet
          exact ⟨by rw [hkF.out], _, HWR.out _⟩
      · have hkd : decide (k < n) = false := decide_eq_false (by omega)
        have hkF : Hid (k = F) := by
          show _ = _
          rw [hF.out, ← hpl.out]
          rw [firstP_none _ ps (fun x hx => ?_), hn.out]; omega
          obtain ⟨j, hj, rfl⟩ := List.getElem_of_mem hx
          have := hI.out j (by rw [hn.out] at hj; omega)
          rwa [getElem!_pos ps j hj] at this
        clear hkn
        go_wp2_with fail
        go_quiet (fail)
        go_wp2_with fail
        go_meet
        exact ⟨by rw [hkF.out], _, HWR.out _⟩
  obtain ⟨rfl, q0, hwc⟩ := hcut
  obtain ⟨wc, hwd⟩ := nm (w.drewN q0)
  have HBc : Hid (Below w.heap.size w wc) := by show Below _ _ _; rw [hwd.out]; exact below_drewN (Below.refl _ _) q0
  rw [hwc, ← hwd.out]
  have hFn : F ≤ n := by rw [hF.out, ← hn.out]; exact firstP_le _ _
  obtain ⟨R, hR⟩ := nm (rotR ps part)
  have hRl : Hid (R.length = n) := by show _ = _; rw [hR.out]; simp [rotR, hn.out]
  have hRO : Hid (dedF R = O) := by show _ = _; rw [hR.out]; exact hO.out
  have hat : Hid (∀ k, k < n → (F + k) % n = (atR ps part + k) % n) := by
    intro k hk
    unfold atR
    rw [← hF.out, hn.out]
    split
    · rfl
    · obtain rfl : F = n := by omega
      simp
  clear hwc
  go_wp2_with fail
  go_loopw [6, 7] (fun v i wr => ∃ (k : Nat) (L : List Int), k ≤ n ∧ i = .int .i64 (k : Int) ∧ Hid (L = dedF (R.take k)) ∧ OwnI wr w.heap.size v L ∧ Below w.heap.size w wr) (fun _ i _ => n - (intOf i).toNat)
  case atStart => exact ⟨0, [], by omega, rfl, (by show _ = _; rfl), OwnI.nil _ _, HBc.out⟩
  case round =>
    obtain ⟨k, L, hk, rfl, hL, hown, hB⟩ := hrel
    have hLk : L.length ≤ k := by rw [hL.out]; exact Nat.le_trans (dedF_length _) (by rw [List.length_take]; omega)
    by_cases hlt : k < n
    · obtain ⟨q, hq⟩ := nm ((F + k) % n)
      have hqn : q < n := by rw [hq.out]; exact Nat.mod_lt _ (by omega)
      have hqi : ((F : Int) + (k : Int)) % (n : Int) = (q : Int) := by rw [hq.out]; simp
      obtain ⟨b, off, u, v, rfl, hbl, c0, c1, hpk⟩ := HS.out.get q (by rw [hn.out]; exact hqn)
      have d1 : wr.cell? ⟨b, off + q * 2 + 1, none⟩ = some (.int .i64 v) := (hB.cell (p := ⟨b, off + q * 2 + 1, none⟩) hbl).trans c1
      have hRt : Hid (R.take (k + 1) = R.take k ++ [v]) := by
        show _ = _
        rw [hR.out, rotR_take ps part k (by rw [hn.out]; exact hlt), hn.out, ← hat.out k hlt, ← hq.out]
        rw [getElem!_def, hpk.out]
      have hq0 : (0 : Int) ≤ (q : Int) := by omega
      obtain ⟨al, cl, rfl, hcl, hsl⟩ := SlAt.ownI hown
      obtain ⟨m, hmL⟩ := nm L.length
      rw [← hmL.out] at hown hLk hcl ⊢
      have hcl2 := Lib.hid hcl
      have HSL := Lib.hid hsl
      have HOWN := Lib.hid hown
      clear c0 c1 hsl hcl hown
      by_cases hin : v ∈ L
      · have HL : Hid (L = dedF (R.take (k + 1))) := by
          show _ = _
          rw [hRt.out, dedF_snoc, ← hL.out, if_pos hin]
        have HR : Hid (true = decide (v ∈ L)) := (decide_eq_true hin).symm
        clear hin
        go_wp2_with fail
        refine (refhas_any al L m cl (hidSymm hmL) (by omega) v true HR _ HSL.out).mono ?_; rintro e w2 ⟨rfl, rfl⟩
        have hown := HOWN.out
        go_wp2_with fail
        go_roundw
        case rel => exact ⟨k + 1, L, by omega, by go_num, HL, hown, hB⟩
        case measure => simp [intOf]; omega
      · have HL : Hid (L ++ [v] = dedF (R.take (k + 1))) := by
          show _ = _
          rw [hRt.out, dedF_snoc, ← hL.out, if_neg hin]
        have HR : Hid (false = decide (v ∈ L)) := (decide_eq_false hin).symm
        clear hin
        go_wp2_with fail
        refine (refhas_any al L m cl (hidSymm hmL) (by omega) v false HR _ HSL.out).mono ?_; rintro e w2 ⟨rfl, rfl⟩
        have hown2 := OwnI.alloc HOWN.out #[.int .i64 v] 3
        go_wp2_with (at_builtin; refine app_ints rfl _ _ rfl w.heap.size _ L rfl hown2 (some ⟨wr.heap.size, 0, none⟩) 1 1 [v] rfl rfl (fun h => by cases h) (SlAt.oneI wr v) (by rw [← hmL.out]; omega) (by have := hB.size; simp; omega) ?_)
        intro v5 w5 hown5 hg5
        have hB5 : Below w.heap.size w w5 := (bNew hB _).grown hg5 (by have := hB.size; simp; omega) (fun k hk => (hown2.lt k hk).1)
        clear hg5 hown2 hB
        go_wp2_with fail
        go_roundw
        case rel => exact ⟨k + 1, L ++ [v], by omega, by go_num, HL, hown5, hB5⟩
        case measure => simp [intOf]; omega
    · obtain rfl : k = n := by omega
      have hLO : L = O := by rw [hL.out, List.take_of_length_le (by rw [hRl.out]; exact Nat.le_refl _)]; exact hRO.out
      subst hLO
      obtain ⟨ao2, cap2, rfl, hc, hsl⟩ := SlAt.ownI hown
      rw [hK.out] at hc ⊢
      have hcc := Lib.hid hc
      clear hc
      go_wp2_with fail
      go_ret
      exact ⟨ao2, cap2, rfl, hcc.out, hsl, hB⟩

set_option maxRecDepth 100000 in
set_option maxHeartbeats 1000000 in
theorem refowners_any (ao : Option Addr) (ps : List (Int × Int)) (n cap : Nat) (hn : Hid (ps.length = n)) (hm : n ≤ 1000) (part z : Int) (O : List Int) (J : Nat) (hO : Hid (orderL ps part = O)) (hJ : Hid (min z.toNat O.length = J)) (w : World) (hs : SlP w ao ps) :
    Calls Tryd.prog 13 #[.slice ao n cap, .int .i64 part, .int .i64 z] w fun e w' => ∃ ao' cap', e = .returned (.slice ao' J cap') ∧ J ≤ cap' ∧ SlAt w' ao' ((O.take J).map (Value.int .i64)) ∧ Below w.heap.size w w' := by
  obtain ⟨K, hK⟩ := nm O.length
  have hKn : K ≤ 1000 := by rw [hK.out, ← hO.out]; have := orderL_length ps part; rw [hn.out] at this; omega
  have HS := Lib.hid hs
  clear hs
  have hJ2 : Hid (J = min z.toNat K) := by show _ = _; rw [← hJ.out, hK.out]
  by_cases hz : z < 0
  · have hJ0 : Hid (0 = J) := by show _ = _; rw [hJ2.out]; omega
    by_cases hK0 : 0 < K
    · have hK1 : (0 : Int) < (K : Int) := by omega
      have hd : decide (0 < K) = true := decide_eq_true hK0
      go_enter Tryd.func13, Tryd.ntmps13
      go_wp2_with fail
      refine (reforder_any ao ps n cap hn hm part O K hO (hidSymm hK) _ HS.out).mono ?_; rintro e w1 ⟨ao2, cap2, rfl, hc, hsl, hB⟩
      go_wp2_with fail
      go_ret
      refine ⟨ao2, cap2, by rw [← hJ0.out]; rfl, by rw [← hJ0.out]; omega, ?_, hB⟩
      rw [List.map_take]; exact hsl.take J
    · have hd : decide (0 < K) = false := decide_eq_false hK0
      have hK0 : K = 0 := by omega
      subst hK0
      go_enter Tryd.func13, Tryd.ntmps13
      go_wp2_with fail
      refine (reforder_any ao ps n cap hn hm part O 0 hO (hidSymm hK) _ HS.out).mono ?_; rintro e w1 ⟨ao2, cap2, rfl, hc, hsl, hB⟩
      go_wp2_with fail
      go_ret
      refine ⟨ao2, cap2, by rw [← hJ0.out]; rfl, by rw [← hJ0.out]; omega, ?_, hB⟩
      rw [List.map_take]; exact hsl.take J
  · have hz0 : 0 ≤ z := by omega
    obtain ⟨m, rfl⟩ := Int.eq_ofNat_of_zero_le hz0
    by_cases hmk : m < K
    · have hJ0 : Hid (m = J) := by show _ = _; rw [hJ2.out]; simp; omega
      have hmi : (m : Int) < (K : Int) := by omega
      go_enter Tryd.func13, Tryd.ntmps13
      go_wp2_with fail
      refine (reforder_any ao ps n cap hn hm part O K hO (hidSymm hK) _ HS.out).mono ?_; rintro e w1 ⟨ao2, cap2, rfl, hc, hsl, hB⟩
      have hmc : m ≤ cap2 := by omega
      go_wp2_with fail
      go_ret
      refine ⟨ao2, cap2, by rw [← hJ0.out]; rfl, by rw [← hJ0.out]; omega, ?_, hB⟩
      rw [List.map_take]; exact hsl.take J
    · have hJ0 : Hid (K = J) := by show _ = _; rw [hJ2.out]; simp; omega
      have hmi : ¬ (m : Int) < (K : Int) := by omega
      go_enter Tryd.func13, Tryd.ntmps13
      go_wp2_with fail
      refine (reforder_any ao ps n cap hn hm part O K hO (hidSymm hK) _ HS.out).mono ?_; rintro e w1 ⟨ao2, cap2, rfl, hc, hsl, hB⟩
      go_wp2_with fail
      go_ret
      refine ⟨ao2, cap2, by rw [← hJ0.out]; rfl, by rw [← hJ0.out]; omega, ?_, hB⟩
      rw [List.map_take]; exact hsl.take J
end Go.Proofs.YtmmfbeeeamcooaaDoor
