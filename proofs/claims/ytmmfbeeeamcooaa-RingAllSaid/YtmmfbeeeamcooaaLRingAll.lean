/- RingAll: for every list of nodes, every part and every number the law returns true. -/
import Derived.Test.YtmmfbeeeamcooaaRingD
import Derived.Test.YtmmfbeeeamcooaaLaw
import Derived.Deep.RegionHeld3
import Derived.Outline
import Derived.Deep.DeepCutAuto
namespace Go.Proofs.Ytmmfbeeeamcooaa
open Go.RowKit Go.Shelf Go.Lib Go.Sort

theorem takeL {l : List Oper} {i : Nat} {o : Oper} (h : l[i]? = some o) : (l.toArray)[i]? = some o := by simpa using h

set_option maxRecDepth 100000 in
set_option maxHeartbeats 4000000 in
theorem ringAll_walk (ao : Option Addr) (zs0 : List Int) (len cap : Nat) (hl : zs0.length = len) (hlc : len ≤ cap) (hwf0 : ∀ n ∈ zs0, (Lit.int .i64 n).wf = true) (part n : Int) (w : World) (hat : SlAt w ao (zs0.map (Value.int .i64))) :
    Calls Try.prog 7 #[.slice ao len cap, .int .i64 part, .int .i64 n] w fun e w' => e = .returned (.bool true) ∧ Below w.heap.size w w' := by
  obtain ⟨N, hN⟩ := nm (min len 8)
  have hN8 : N ≤ 8 := by rw [hN.out]; omega
  have HL0 := Lib.hid hlc
  obtain ⟨zs, hzs⟩ := nm (zs0.take 8)
  have hzl : Hid (zs.length = N) := by show _ = _; rw [hzs.out, List.length_take, hl, hN.out]; omega
  have HAT : Hid (SlAt w ao (zs.map (Value.int .i64))) := by show SlAt _ _ _; rw [hzs.out, List.map_take]; exact hat.take 8
  have hwf1 : ∀ z ∈ zs, (Lit.int .i64 z).wf = true := fun z hz => hwf0 z (List.mem_of_mem_take (by rw [← hzs.out]; exact hz))
  obtain ⟨R, hR⟩ := nm (ringL zs)
  obtain ⟨M, hM⟩ := nm R.length
  have hM8 : M ≤ 32 := by rw [hM.out, hR.out]; have := ringL_length zs; rw [hzl.out] at this; omega
  have HWF : Hid (∀ p ∈ R, (Lit.int .i64 p.2).wf = true) := by
    intro p hp; rw [hR.out] at hp; exact hwf1 _ (ringL_node hp)
  obtain ⟨O, hO⟩ := nm (orderL R part)
  obtain ⟨K, hK⟩ := nm O.length
  have hK8 : K ≤ 32 := by rw [hK.out, hO.out]; have := orderL_length R part; rw [← hM.out] at this; omega
  have ho := order_ring zs part
  rw [← hR.out, ← hO.out] at ho
  have HO := Lib.hid ho
  have HWF1 := Lib.hid hwf1
  have hr1 : -10 < n.tmod 10 ∧ n.tmod 10 < 10 := ⟨Int.lt_tmod_of_pos n (by decide), Int.tmod_lt_of_pos n (by decide)⟩
  obtain ⟨hr1, hr2⟩ := hr1
  obtain ⟨k, hk⟩ := nm (n.tmod 10).natAbs
  have hk9 : k ≤ 9 := by rw [hk.out]; omega
  obtain ⟨J, hJ⟩ := nm (min k K)
  have hJK : J ≤ K := by rw [hJ.out]; omega
  have hJk : J ≤ k := by rw [hJ.out]; omega
  have hJ2 : J < k → J = K := by rw [hJ.out]; omega
  have hJO : Hid (min (k : Int).toNat O.length = J) := by show _ = _; rw [Int.toNat_natCast, hJ.out, hK.out]
  clear hl hlc hwf0 hat ho hwf1
  go_enter Try.func7, Try.ntmps7
  go_wp2_with fail
  refine (awake_any _).mono ?_; rintro e w1 ⟨rfl, hB1⟩
  have HA1 := Lib.hid (HAT.out.below hB1)
  go_wp2_with fail
  refine (few_any ao len cap HL0.out _).mono ?_; rintro e w2 ⟨rfl, rfl⟩
  rw [← hN.out]
  go_wp2_with fail
  refine (new_any ao zs N cap hzl (by omega) R M (hidSymm hR) (hidSymm hM) _ HA1.out).mono ?_; rintro e w2 ⟨ar, capr, rfl, hsr, hB2⟩
  have HB2 := Lib.hid (bNext hB1 hB2)
  have HSR := Lib.hid hsr
  clear hB1 hB2 hsr
  go_wp2_with fail
  refine (order_any ar R M capr (hidSymm hM) (by omega) HWF part O K (hidSymm hO) (hidSymm hK) _ HSR.out).mono ?_; rintro e w3 ⟨aoo, capo, rfl, hco, hso, hB3⟩
  have HSR3 := Lib.hid (HSR.out.below hB3)
  have HSO := Lib.hid hso
  have HB3 := Lib.hid (bNext HB2.out hB3)
  clear hB3 hso
  go_upto_if 29 with fail
  go_cut [11] (fun s11 wx => s11 = .int .i64 (k : Int) ∧ w3 = wx)
  case first =>
    by_cases hneg : n.tmod 10 < 0
    all_goals
      go_wp2_with fail
      go_meet
      exact ⟨congrArg _ (by rw [hk.out]; omega), rfl⟩
  obtain ⟨rfl, rfl⟩ := hcut
  clear hr1 hr2 hk
  go_wp2_with fail
  refine (owners_any ar R M capr (hidSymm hM) (by omega) HWF part (k : Int) (by omega) O J (hidSymm hO) hJO _ HSR3.out).mono ?_; rintro e w4 ⟨aow, capw, rfl, hcw, hsw, hB4⟩
  have HSW := Lib.hid hsw
  have HB4 := Lib.hid (bNext HB3.out hB4)
  have HSO4 := Lib.hid (HSO.out.below hB4)
  have HSR4 := Lib.hid (HSR3.out.below hB4)
  have HAT4 := Lib.hid (HAT.out.below HB4.out)
  clear hB4 hsw
  go_upto_region 9 with fail
  go_cut [59] (fun s59 wx => s59 = .bool false ∧ w4 = wx)
  case first =>
    have hq1 : decide ((K : Int) < (J : Int)) = false := decide_eq_false (by omega)
    have hq2 : decide ((k : Int) < (J : Int)) = false := decide_eq_false (by omega)
    by_cases hjk : J < k
    · have hq3 : decide ((J : Int) < (k : Int)) = true := decide_eq_true (by omega)
      have hq4 : decide ((J : Int) < (K : Int)) = false := decide_eq_false (by omega)
      go_wp2_with fail
      go_meet
      exact ⟨congrArg _ (by simp; omega), rfl⟩
    · have hq3 : decide ((J : Int) < (k : Int)) = false := decide_eq_false (by omega)
      go_wp2_with fail
      go_meet
      exact ⟨congrArg _ (by simp; omega), rfl⟩
  obtain ⟨rfl, rfl⟩ := hcut
  clear hJ2
  go_wp2_with fail
  go_loopw [13] (fun i wr => ∃ t : Nat, t ≤ K ∧ i = .int .i64 (t : Int) ∧ Below w4.heap.size w4 wr) (fun i _ => K - (intOf i).toNat)
  case atStart => exact ⟨0, by omega, rfl, Below.refl _ _⟩
  case round =>
    obtain ⟨t, ht, rfl, hB⟩ := hrel
    by_cases hlt : t < K
    · have hto : t < O.length := by rw [← hK.out]; exact hlt
      have ⟨hnd, hmem⟩ := HO.out
      have hin := (hmem _).1 (List.getElem_mem hto)
      have htw := nodup_take hnd t hto
      have how : (O[t] ∈ O.take (min (k : Int).toNat O.length)) ↔ t < J := by rw [hJO.out]; exact htw J
      have hww : ∀ h : t < J, (O.take J)[t]'(by rw [List.length_take]; omega) = O[t] := fun h => List.getElem_take
      obtain ⟨b, off, hao, hbl, c0⟩ := SlAt.int' HSO4.out t hto
      obtain ⟨v, hv⟩ := nm O[t]
      rw [← hv.out] at hin htw how c0 hww
      have HIN : Hid (true = decide (v ∈ zs)) := (decide_eq_true hin).symm
      have HTW : Hid (false = decide (v ∈ O.take t)) := (decide_eq_false (by rw [htw t]; omega)).symm
      have HOW : Hid (decide (t < J) = decide (v ∈ O.take (min (k : Int).toNat O.length))) := by show _ = _; simp only [how]
      have HTL : Hid ((O.take t).length = t) := by show _ = _; rw [List.length_take]; omega
      subst hao
      have hB0 := Lib.hid (bNext HB4.out hB)
      have HATr := Lib.hid (HAT4.out.below hB)
      have HSOr : Hid (SlAt wr (some ⟨b, off, none⟩) ((O.take t).map (Value.int .i64))) := by show SlAt _ _ _; rw [List.map_take]; exact (HSO4.out.below hB).take t
      have HSRr := Lib.hid (HSR4.out.below hB)
      have HSWr := Lib.hid (HSW.out.below hB)
      have d0 : wr.cell? ⟨b, off + t, none⟩ = some (.int .i64 v) := (hB.cell (p := ⟨b, off + t, none⟩) hbl).trans c0
      have htc : t ≤ capo := by omega
      have HQ0 : ∀ n, Calls Try.prog 19 #[.slice (some ⟨b, off, none⟩) t capo, .int .i64 v] (wr.drewN n) fun e w' => e = .returned (.bool false) ∧ w' = wr.drewN n := fun n =>
        (refhas_any _ (O.take t) t capo HTL (by omega) v false HTW (wr.drewN n) HSOr.out).mono fun _ _ ⟨a, b⟩ => ⟨a, b.symm⟩
      have HQ := Lib.hid HQ0
      clear HQ0
      have hik : decide ((t : Int) < (k : Int)) = decide (t < J) := by
        have : ((t : Int) < (k : Int)) ↔ t < J := by rw [hJ.out]; omega
        simp only [this]
      have hBr := Lib.hid hB
      clear c0 hB how hnd hmem
      go_wp2_with fail
      refine (refhas_any ao zs N cap hzl (by omega) v true HIN _ HATr.out).mono ?_; rintro e w5 ⟨rfl, rfl⟩
      go_wp2_with fail
      go_quiet ((go_at_call 19; exact Calls.quiet_of_same (HQ.out _)))
      have HSRd : Hid (SlP (wr.drewN (nq + 1)) ar R) := HSRr.out
      by_cases htJ : t < J
      · obtain ⟨b2, off2, haw, hbl2, c2⟩ := SlAt.int' HSW.out t (by rw [List.length_take]; omega)
        rw [hww htJ] at c2
        subst haw
        have d2 : wr.cell? ⟨b2, off2 + t, none⟩ = some (.int .i64 v) := (hBr.out.cell (p := ⟨b2, off2 + t, none⟩) hbl2).trans c2
        have e0 : (wr.drewN (nq + 1)).cell? ⟨b, off + t, none⟩ = some (.int .i64 v) := d0
        have e2 : (wr.drewN (nq + 1)).cell? ⟨b2, off2 + t, none⟩ = some (.int .i64 v) := d2
        have hvv : (v != v) = false := by simp
        rw [decide_eq_true htJ] at HOW hik
        have htk : decide (t < k) = true := decide_eq_true (by omega)
        have htj2 : decide ((t : Int) < (J : Int)) = true := decide_eq_true (by omega)
        have hb1 : b < (wr.drewN (nq + 1)).heap.size := Nat.lt_of_lt_of_le hbl hBr.out.size
        have hb2 : b2 < (wr.drewN (nq + 1)).heap.size := Nat.lt_of_lt_of_le hbl2 hBr.out.size
        go_wp2_with fail
        go_region_held3 (fun w' => w'.cell? ⟨b, off + t, none⟩ = some (.int .i64 v) ∧ w'.cell? ⟨b2, off2 + t, none⟩ = some (.int .i64 v)) (first | assumption | go_keep)
          ((go_at_call 20; refine (owns_any ar R M capr (hidSymm hM) (by omega) HWF part (k : Int) v (by omega) O (hidSymm hO) true HOW _ HSRd.out).mono ?_; rintro e w6 ⟨rfl, hB6⟩; have g0 := (hB6.cell (p := ⟨b, off + t, none⟩) hb1).trans e0; have g2 := (hB6.cell (p := ⟨b2, off2 + t, none⟩) hb2).trans e2))
        go_wp2_with fail
        go_roundw
        case rel => exact ⟨t + 1, by omega, by go_num, bNext (below_drewN hBr.out (nq + 1)) hB6⟩
        case measure => simp [intOf]; omega
      · rw [decide_eq_false htJ] at HOW hik
        have htk : decide (t < k) = false := decide_eq_false (by rw [hJ.out] at htJ; omega)
        have htj2 : decide ((t : Int) < (J : Int)) = false := decide_eq_false (by omega)
        have htj3 : decide (t < J) = false := decide_eq_false htJ
        have e0 : (wr.drewN (nq + 1)).cell? ⟨b, off + t, none⟩ = some (.int .i64 v) := d0
        have hb1 : b < (wr.drewN (nq + 1)).heap.size := Nat.lt_of_lt_of_le hbl hBr.out.size
        go_wp2_with fail
        refine wp_region_noPanic ?_
        refine wp_region_held_drew (S := fun w' => w'.cell? ⟨b, off + t, none⟩ = some (.int .i64 v)) (by kernel_rfl) (by first | assumption | go_keep) (fun hHeld => ?_)
        refine wpAnyH_take (i := 0) (v := ?_) (takeL rfl) (by kernel_rfl) (by kernel_rfl) (by kernel_rfl) (fun _ _ _ h => h) (Or.inl ⟨by rfl, ?_⟩) (by assumption) ?_
        rotate_left
        · (intro w hSw; (try dsimp only at hSw); first | (go_simp; done) | (go_simp; with_reducible rfl))
        try simp only [Act.put, List.setIfInBounds_toArray, List.set_cons_zero, List.set_cons_succ]
        refine wpAnyH_take (i := 1) (v := ?_) (takeL rfl) (by kernel_rfl) (by kernel_rfl) (by kernel_rfl) (fun _ _ _ h => h) (Or.inl ⟨by rfl, ?_⟩) (by assumption) ?_
        rotate_left
        · (intro w hSw; (try dsimp only at hSw); first | (go_simp; done) | (go_simp; with_reducible rfl))
        try simp only [Act.put, List.setIfInBounds_toArray, List.set_cons_zero, List.set_cons_succ]
        refine wpAnyH_take (i := 2) (v := ?_) (takeL rfl) (by kernel_rfl) (by kernel_rfl) (by kernel_rfl) (fun _ _ _ h => h) (Or.inl ⟨by rfl, ?_⟩) (by assumption) ?_
        rotate_left
        · (intro w hSw; (try dsimp only at hSw); first | (go_simp; done) | (go_simp; with_reducible rfl))
        try simp only [Act.put, List.setIfInBounds_toArray, List.set_cons_zero, List.set_cons_succ]
        refine wpAnyH_take (i := 3) (v := ?_) (takeL rfl) (by kernel_rfl) (by kernel_rfl) (by kernel_rfl) (fun _ _ _ h => h) (Or.inl ⟨by rfl, ?_⟩) (by assumption) ?_
        rotate_left
        · (intro w hSw; (try dsimp only at hSw); first | (go_simp; done) | (go_simp; with_reducible rfl))
        try simp only [Act.put, List.setIfInBounds_toArray, List.set_cons_zero, List.set_cons_succ]
        refine wpAnyH_take (i := 4) (v := ?_) (takeL rfl) (by kernel_rfl) (by kernel_rfl) (by kernel_rfl) (fun _ _ _ h => h) (Or.inl ⟨by rfl, ?_⟩) (by assumption) ?_
        rotate_left
        · (intro w hSw; (try dsimp only at hSw); first | (go_simp; done) | (go_simp; with_reducible rfl))
        try simp only [Act.put, List.setIfInBounds_toArray, List.set_cons_zero, List.set_cons_succ]
        refine wpAnyH_take (i := 5) (v := ?_) (takeL rfl) (by kernel_rfl) (by kernel_rfl) (by kernel_rfl) (fun _ _ _ h => h) (Or.inl ⟨by rfl, ?_⟩) (by assumption) ?_
        rotate_left
        · (intro w hSw; (try dsimp only at hSw); first | (go_simp; done) | (go_simp; with_reducible rfl))
        try simp only [Act.put, List.setIfInBounds_toArray, List.set_cons_zero, List.set_cons_succ]
        refine wpAnyH_take (i := 6) (v := ?_) (takeL rfl) (by kernel_rfl) (by kernel_rfl) (by kernel_rfl) (fun _ _ _ h => h) (Or.inl ⟨by rfl, ?_⟩) (by assumption) ?_
        rotate_left
        · (intro w hSw; (try dsimp only at hSw); first | (go_simp; done) | (go_simp; with_reducible rfl))
        try simp only [Act.put, List.setIfInBounds_toArray, List.set_cons_zero, List.set_cons_succ]
        refine wpAnyH_take (i := 7) (v := ?_) (takeL rfl) (by kernel_rfl) (by kernel_rfl) (by kernel_rfl) (fun _ _ _ h => h) (Or.inl ⟨by rfl, ?_⟩) (by assumption) ?_
        rotate_left
        · (intro w hSw; (try dsimp only at hSw); first | (go_simp; done) | (go_simp; with_reducible rfl))
        try simp only [Act.put, List.setIfInBounds_toArray, List.set_cons_zero, List.set_cons_succ]
        refine wpAnyH_take (i := 8) (v := ?_) (takeL rfl) (by kernel_rfl) (by kernel_rfl) (by kernel_rfl) (fun _ _ _ h => h) (Or.inl ⟨by rfl, ?_⟩) (by assumption) ?_
        rotate_left
        · (intro w hSw; (try dsimp only at hSw); first | (go_simp; done) | (go_simp; with_reducible rfl))
        try simp only [Act.put, List.setIfInBounds_toArray, List.set_cons_zero, List.set_cons_succ]
        refine wpAnyH_take (i := 9) (v := ?_) (takeL rfl) (by kernel_rfl) (by kernel_rfl) (by kernel_rfl) (fun _ _ _ h => h) (Or.inl ⟨by rfl, ?_⟩) (by assumption) ?_
        rotate_left
        · (intro w hSw; (try dsimp only at hSw); first | (go_simp; done) | (go_simp; with_reducible rfl))
        try simp only [Act.put, List.setIfInBounds_toArray, List.set_cons_zero, List.set_cons_succ]
        refine wpAnyH_take (i := 10) (v := ?_) (takeL rfl) (by kernel_rfl) (by kernel_rfl) (by kernel_rfl) (fun _ _ _ h => h) (Or.inl ⟨by rfl, ?_⟩) (by assumption) ?_
        rotate_left
        · (intro w hSw; (try dsimp only at hSw); first | (go_simp; done) | (go_simp; with_reducible rfl))
        try simp only [Act.put, List.setIfInBounds_toArray, List.set_cons_zero, List.set_cons_succ]
        refine wpAnyH_take (i := 11) (v := undef) (takeL rfl) (by kernel_rfl) (by kernel_rfl) (by kernel_rfl) (fun _ _ _ h => h) (Or.inr ⟨by rfl, rfl⟩) (by assumption) ?_
        try simp only [Act.put, List.setIfInBounds_toArray, List.set_cons_zero, List.set_cons_succ]
        refine wpAnyH_take (i := 12) (v := undef) (takeL rfl) (by kernel_rfl) (by kernel_rfl) (by kernel_rfl) (fun _ _ _ h => h) (Or.inr ⟨by rfl, rfl⟩) (by assumption) ?_
        try simp only [Act.put, List.setIfInBounds_toArray, List.set_cons_zero, List.set_cons_succ]
        refine wpAnyH_take (i := 13) (v := undef) (takeL rfl) (by kernel_rfl) (by kernel_rfl) (by kernel_rfl) (fun _ _ _ h => h) (Or.inr ⟨by rfl, rfl⟩) (by assumption) ?_
        try simp only [Act.put, List.setIfInBounds_toArray, List.set_cons_zero, List.set_cons_succ]
        refine wpAnyH_take (i := 14) (v := undef) (takeL rfl) (by kernel_rfl) (by kernel_rfl) (by kernel_rfl) (fun _ _ _ h => h) (Or.inr ⟨by rfl, rfl⟩) (by assumption) ?_
        try simp only [Act.put, List.setIfInBounds_toArray, List.set_cons_zero, List.set_cons_succ]
        refine wpAnyH_take (i := 15) (v := undef) (takeL rfl) (by kernel_rfl) (by kernel_rfl) (by kernel_rfl) (fun _ _ _ h => h) (Or.inr ⟨by rfl, rfl⟩) (by assumption) ?_
        try simp only [Act.put, List.setIfInBounds_toArray, List.set_cons_zero, List.set_cons_succ]
        refine wpAnyH_take (i := 16) (v := undef) (takeL rfl) (by kernel_rfl) (by kernel_rfl) (by kernel_rfl) (fun _ _ _ h => h) (Or.inr ⟨by rfl, rfl⟩) (by assumption) ?_
        try simp only [Act.put, List.setIfInBounds_toArray, List.set_cons_zero, List.set_cons_succ]
        refine wpAnyH_take (i := 17) (v := undef) (takeL rfl) (by kernel_rfl) (by kernel_rfl) (by kernel_rfl) (fun _ _ _ h => h) (Or.inr ⟨by rfl, rfl⟩) (by assumption) ?_
        try simp only [Act.put, List.setIfInBounds_toArray, List.set_cons_zero, List.set_cons_succ]
        refine wpAnyH_take (i := 18) (v := undef) (takeL rfl) (by kernel_rfl) (by kernel_rfl) (by kernel_rfl) (fun _ _ _ h => h) (Or.inr ⟨by rfl, rfl⟩) (by assumption) ?_
        try simp only [Act.put, List.setIfInBounds_toArray, List.set_cons_zero, List.set_cons_succ]
        refine wpAnyH_take (i := 19) (v := undef) (takeL rfl) (by kernel_rfl) (by kernel_rfl) (by kernel_rfl) (fun _ _ _ h => h) (Or.inr ⟨by rfl, rfl⟩) (by assumption) ?_
        try simp only [Act.put, List.setIfInBounds_toArray, List.set_cons_zero, List.set_cons_succ]
        refine wpAnyH_take (i := 20) (v := ?_) (takeL rfl) (by kernel_rfl) (by kernel_rfl) (by kernel_rfl) (fun _ _ _ h => h) (Or.inl ⟨by rfl, ?_⟩) (by assumption) ?_
        rotate_left
        · (intro w hSw; (try dsimp only at hSw); first | (go_simp; done) | (go_simp; with_reducible rfl))
        try simp only [Act.put, List.setIfInBounds_toArray, List.set_cons_zero, List.set_cons_succ]
        refine wpAnyH_take (i := 21) (v := ?_) (takeL rfl) (by kernel_rfl) (by kernel_rfl) (by kernel_rfl) (fun _ _ _ h => h) (Or.inl ⟨by rfl, ?_⟩) (by assumption) ?_
        rotate_left
        · (intro w hSw; (try dsimp only at hSw); first | (go_simp; done) | (go_simp; with_reducible rfl))
        try simp only [Act.put, List.setIfInBounds_toArray, List.set_cons_zero, List.set_cons_succ]
        refine wpAnyH_take (i := 22) (v := ?_) (takeL rfl) (by kernel_rfl) (by kernel_rfl) (by kernel_rfl) (fun _ _ _ h => h) (Or.inl ⟨by rfl, ?_⟩) (by assumption) ?_
        rotate_left
        · (intro w hSw; (try dsimp only at hSw); first | (go_simp; done) | (go_simp; with_reducible rfl))
        try simp only [Act.put, List.setIfInBounds_toArray, List.set_cons_zero, List.set_cons_succ]
        refine wpAnyH_take (i := 23) (v := ?_) (takeL rfl) (by kernel_rfl) (by kernel_rfl) (by kernel_rfl) (fun _ _ _ h => h) (Or.inl ⟨by rfl, ?_⟩) (by assumption) ?_
        rotate_left
        · (intro w hSw; (try dsimp only at hSw); first | (go_simp; done) | (go_simp; with_reducible rfl))
        try simp only [Act.put, List.setIfInBounds_toArray, List.set_cons_zero, List.set_cons_succ]
        refine wpAnyH_take (i := 24) (v := ?_) (takeL rfl) (by kernel_rfl) (by kernel_rfl) (by kernel_rfl) (fun _ _ _ h => h) (Or.inl ⟨by rfl, ?_⟩) (by assumption) ?_
        rotate_left
        · (intro w hSw; (try dsimp only at hSw); first | (go_simp; done) | (go_simp; with_reducible rfl))
        try simp only [Act.put, List.setIfInBounds_toArray, List.set_cons_zero, List.set_cons_succ]
        refine wpAnyH_take (i := 25) (v := ?_) (takeL rfl) (by kernel_rfl) (by kernel_rfl) (by kernel_rfl) (fun _ _ _ h => h) (Or.inl ⟨by rfl, ?_⟩) (by assumption) ?_
        rotate_left
        · (intro w hSw; (try dsimp only at hSw); first | (go_simp; done) | (go_simp; with_reducible rfl))
        try simp only [Act.put, List.setIfInBounds_toArray, List.set_cons_zero, List.set_cons_succ]
        refine wpAnyH_take (i := 26) (v := ?_) (takeL rfl) (by kernel_rfl) (by kernel_rfl) (by kernel_rfl) (fun _ _ _ h => h) (Or.inl ⟨by rfl, ?_⟩) (by assumption) ?_
        rotate_left
        · (intro w hSw; (try dsimp only at hSw); first | (go_simp; done) | (go_simp; with_reducible rfl))
        try simp only [Act.put, List.setIfInBounds_toArray, List.set_cons_zero, List.set_cons_succ]
        refine wpAnyH_take (i := 27) (v := ?_) (takeL rfl) (by kernel_rfl) (by kernel_rfl) (by kernel_rfl) (fun _ _ _ h => h) (Or.inl ⟨by rfl, ?_⟩) (by assumption) ?_
        rotate_left
        · (intro w hSw; (try dsimp only at hSw); first | (go_simp; done) | (go_simp; with_reducible rfl))
        try simp only [Act.put, List.setIfInBounds_toArray, List.set_cons_zero, List.set_cons_succ]
        refine wpAnyH_take (i := 28) (v := ?_) (takeL rfl) (by kernel_rfl) (by kernel_rfl) (by kernel_rfl) (fun _ _ _ h => h) (Or.inl ⟨by rfl, ?_⟩) (by assumption) ?_
        rotate_left
        · (intro w hSw; (try dsimp only at hSw); first | (go_simp; done) | (go_simp; with_reducible rfl))
        try simp only [Act.put, List.setIfInBounds_toArray, List.set_cons_zero, List.set_cons_succ]
        refine wpAnyH_take (i := 29) (v := ?_) (takeL rfl) (by kernel_rfl) (by kernel_rfl) (by kernel_rfl) (fun _ _ _ h => h) (Or.inl ⟨by rfl, ?_⟩) (by assumption) ?_
        rotate_left
        · (intro w hSw; (try dsimp only at hSw); first | (go_simp; done) | (go_simp; with_reducible rfl))
        try simp only [Act.put, List.setIfInBounds_toArray, List.set_cons_zero, List.set_cons_succ]
        refine wpAnyH_take (i := 31) (v := ?_) (takeL rfl) (by kernel_rfl) (by kernel_rfl) (by kernel_rfl) (fun _ _ _ h => h) (Or.inl ⟨by rfl, ?_⟩) (by assumption) ?_
        rotate_left
        · (intro w hSw; (try dsimp only at hSw); first | (go_simp; done) | (go_simp; with_reducible rfl))
        try simp only [Act.put, List.setIfInBounds_toArray, List.set_cons_zero, List.set_cons_succ]
        refine wpAnyH_take (i := 32) (v := ?_) (takeL rfl) (by kernel_rfl) (by kernel_rfl) (by kernel_rfl) (fun _ _ _ h => h) (Or.inl ⟨by rfl, ?_⟩) (by assumption) ?_
        rotate_left
        · (intro w hSw; (try dsimp only at hSw); first | (go_simp; done) | (go_simp; with_reducible rfl))
        try simp only [Act.put, List.setIfInBounds_toArray, List.set_cons_zero, List.set_cons_succ]
        refine wpAnyH_take (i := 33) (v := ?_) (takeL rfl) (by kernel_rfl) (by kernel_rfl) (by kernel_rfl) (fun _ _ _ h => h) (Or.inl ⟨by rfl, ?_⟩) (by assumption) ?_
        rotate_left
        · (intro w hSw; (try dsimp only at hSw); first | (go_simp; done) | (go_simp; with_reducible rfl))
        try simp only [Act.put, List.setIfInBounds_toArray, List.set_cons_zero, List.set_cons_succ]
        refine wpAnyH_ready (rs := [30]) (by kernel_rfl) (by simp) ?_
        refine AllReadyH.cons (takeL rfl) (fun K hK => ?_) AllReadyH.nil
        go_simp
        refine (owns_any ar R M capr (hidSymm hM) (by omega) HWF part (k : Int) v (by omega) O (hidSymm hO) false HOW _ HSRd.out).mono ?_; rintro e w6 ⟨rfl, hB6⟩
        have g0 := (hB6.cell (p := ⟨b, off + t, none⟩) hb1).trans e0
        go_wp2_with fail
        refine hK.out _ _ g0 (fun hHeld => ?_)
        clear hK K
        refine wpAnyH_take (i := 34) (v := ?_) (takeL rfl) (by kernel_rfl) (by kernel_rfl) (by kernel_rfl) (fun _ _ _ h => h) (Or.inl ⟨by rfl, ?_⟩) (by assumption) ?_
        rotate_left
        · (intro w hSw; (try dsimp only at hSw); first | (go_simp; done) | (go_simp; with_reducible rfl))
        try simp only [Act.put, List.setIfInBounds_toArray, List.set_cons_zero, List.set_cons_succ]
        refine wpAnyH_take (i := 35) (v := ?_) (takeL rfl) (by kernel_rfl) (by kernel_rfl) (by kernel_rfl) (fun _ _ _ h => h) (Or.inl ⟨by rfl, ?_⟩) (by assumption) ?_
        rotate_left
        · (intro w hSw; (try dsimp only at hSw); first | (go_simp; done) | (go_simp; with_reducible rfl))
        try simp only [Act.put, List.setIfInBounds_toArray, List.set_cons_zero, List.set_cons_succ]
        refine wpAnyH_done (by kernel_rfl) ?_ _
        refine NoPanic.normal ?_
        go_wp2_with fail
        go_roundw
        case rel => exact ⟨t + 1, by omega, by go_num, bNext (below_drewN hBr.out (nq + 1)) hB6⟩
        case measure => simp [intOf]; omega
    · obtain rfl : t = K := by omega
      go_wp2_with fail
      go_loopw [16] (fun i wx => ∃ t : Nat, t ≤ N ∧ i = .int .i64 (t : Int) ∧ wr = wx) (fun i _ => N - (intOf i).toNat)
      case atStart => exact ⟨0, by omega, rfl, rfl⟩
      case round =>
        obtain ⟨t2, ht2, rfl, rfl⟩ := hrel
        by_cases hlt2 : t2 < N
        · have HATr := HAT4.out.below hB
          obtain ⟨b, off, rfl, hbl, d0⟩ := SlAt.int' HATr t2 (by rw [hzl.out]; exact hlt2)
          have hmem := (HO.out.2 _).2 (List.getElem_mem (l := zs) (n := t2) (by rw [hzl.out]; exact hlt2))
          obtain ⟨v, hv⟩ := nm (zs[t2]'(by rw [hzl.out]; exact hlt2))
          rw [← hv.out] at hmem d0
          have HIN : Hid (true = decide (v ∈ O)) := (decide_eq_true hmem).symm
          have HSOr := Lib.hid (HSO4.out.below hB)
          clear HATr hmem
          go_wp2_with fail
          refine (refhas_any aoo O t capo (hidSymm hK) (by omega) v true HIN _ HSOr.out).mono ?_; rintro e w5 ⟨rfl, rfl⟩
          go_wp2_with fail
          go_roundw
          case rel => exact ⟨t2 + 1, by omega, by go_num, trivial⟩
          case measure => simp [intOf]; omega
        · obtain rfl : t2 = N := by omega
          go_wp2_with fail
          go_ret
          exact ⟨rfl, bNext HB4.out hB⟩
namespace LRingAll
open Go.ChangeShapes Go.WideShapes Go.ChangeAt
open Go.ChangeMaps (open_string shut_string)

set_option maxRecDepth 100000 in
theorem contract (H : Type) (enc : TypeId × Value → H) (W : World) (base : Nat) (args : Array Value) (ds gs : List (DataW H)) (before : List MemPlace)
    (hval : ∀ (j : Nat) t v, Try.f7.params[j]? = some t → args[j]? = some v → Value.okWide Try.prog W .any base t v)
    (hW : DataW.Whole enc Try.prog Try.f7.params.toList Rows.ringAllSpec.vars false W args.toList ds gs before)
    (_hsz : (DataW.weightsEach Try.prog (Try.f7.params.toList ++ (OpenSpec.ofChange Rows.ringAllSpec).bare.plain.varTypes Try.prog) (ds ++ gs)).all (fun x => decide (x ≤ reachBytes)) = true) :
    Calls Try.prog 7 args W fun e W' => ∃ v, e = .returned v ∧ Rows.ringAllSpec.post enc Try.prog Try.f7 false true false false W args v W' := by
  have hW' := hW
  obtain ⟨p, q, hA0, hV, rfl, hfz, hnd⟩ := hW
  have hA : DataW.TrodAll enc Try.prog W 0 (fun _ => true) true Try.f7.params.toList args.toList ds p := hA0
  rw [Try.params7] at hA hval
  obtain ⟨v0, vs0, d0, ds0, p0, q0, hargs, rfl, rfl, h0, r0⟩ := trodAll_cons hA
  obtain ⟨v1, vs1, d1, ds1, p1, q1, rfl, rfl, rfl, h1, r1⟩ := trodAll_cons r0
  obtain ⟨v2, vs2, d2, ds2, p2, q2, rfl, rfl, rfl, h2, r2⟩ := trodAll_cons r1
  obtain ⟨rfl, rfl, rfl⟩ := trodAll_nil r2
  obtain rfl : args = #[v0, v1, v2] := by cases args; simp_all
  obtain ⟨rfl, rfl⟩ := trodVars_none hV
  obtain ⟨ao0, len0, cap0, ss0, rfl, hl0, hlc0, hcm0, hat0, wf0⟩ := open_ints2 Try.underlying22 Try.underlying3 (show Try.prog.cellsOf 3 = 1 by kernel_rfl) h0 (okWide_slice Try.underlying22 (hval 0 22 v0 rfl rfl))
  obtain ⟨x1, rfl, rfl, rfl, k1⟩ := open_int Try.underlying3 (hval 1 3 v1 rfl rfl) h1
  obtain ⟨x2, rfl, rfl, rfl, k2⟩ := open_int Try.underlying3 (hval 2 3 v2 rfl rfl) h2
  clear hA0
  refine (ringAll_walk ao0 ss0 len0 cap0 hl0 hlc0 wf0 x1 x2 W hat0).mono fun e W' ⟨he, hb⟩ => ?_
  subst he
  exact ⟨_, rfl, law_post laidOut Try.underlying4 rfl (by kernel_rfl) rfl rfl rfl rfl hW' hb⟩

theorem reads (os : Os) {H : Type} (enc : TypeId × Value → H) : ∃ places, DataW.whole enc Try.prog ((World.holding Try.prog os ⟨#[], #[], []⟩).forCall (fun _ _ => 0) ⟨#[], #[.slice none 0 0, .int .i64 0, .int .i64 0], []⟩).memory Try.f7.params.toList Rows.ringAllSpec.vars false (#[.slice none 0 0, .int .i64 0, .int .i64 0] : Array Value).toList 8 = some ([.nil, .lit (.int .i64 0), .lit (.int .i64 0)], [], places) :=
  ⟨[], by kernel_rfl⟩
theorem laid_met (os : Os) : laidMet Try.prog Rows.ringAllRow.laid ((World.holding Try.prog os ⟨#[], #[], []⟩).forCall (fun _ _ => 0) ⟨#[], #[.slice none 0 0, .int .i64 0, .int .i64 0], []⟩).memory :=
  laidMet_of_run' 8 (by kernel_rfl) (by kernel_rfl)

set_option maxRecDepth 100000 in
theorem lifted (os : Os) (started : os.Started) (H : Type) (enc : TypeId × Value → H) (F : Stop.Interp) :
    ReturnsInHanded {} Try.checked os 7 .any ((OpenSpec.ofChange Rows.ringAllSpec).preRow enc Try.prog Try.f7 Rows.ringAllRow.domain false Rows.ringAllRow.laid) (((OpenSpec.ofChange Rows.ringAllSpec).at F).post enc Try.prog Try.f7 false true false false) := by
  obtain ⟨places, hx⟩ := reads os enc
  refine returnsInHanded_of_row (C := Try.checked) (s := OpenSpec.ofChange Rows.ringAllSpec) own started (by kernel_rfl) Try.func7
    (witness_row_at (enc := enc) (C := Try.checked) false (World.holding Try.prog os ⟨#[], #[], []⟩) #[.slice none 0 0, .int .i64 0, .int .i64 0] rfl (by kernel_rfl) (by kernel_rfl) (by kernel_rfl)
      (OpenSpec.preRow_of_cond 8 hx (by kernel_rfl) (fun k hk => by cases hk) (by kernel_rfl) (laid_met os))) ?_
  intro W base args ds gs before hval hW _ _ hsz hL _ _
  exact contract H enc W base args ds gs before hval hW hsz

theorem said : Rows.RingAllSaid :=
  OpenClaim.holds_of_cond 7 Try.f7 rfl rfl rfl rfl rfl rfl rfl ⟨rfl, rfl, rfl, rfl, rfl⟩ rfl rfl rfl rfl rfl (by kernel_rfl) Try.func7 (by kernel_rfl)
    (of_decide_eq_true (by kernel_rfl)) (by unfold Func.isWrapper; first | (rw [if_pos (by decide +kernel)]; kernel_rfl) | (rw [if_neg (by decide +kernel)]; exact ⟨rfl, rfl⟩))
    (fun os started H enc _ F => by rw [OpenClaim.pre_eq_preRow]; exact lifted os started H enc F)
end LRingAll
end Go.Proofs.Ytmmfbeeeamcooaa
