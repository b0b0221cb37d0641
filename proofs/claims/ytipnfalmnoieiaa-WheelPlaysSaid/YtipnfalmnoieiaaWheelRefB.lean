/- The document's wheel: Set. -/
import Derived.Test.YtipnfalmnoieiaaWheelRef
import Derived.Deep.CutBlock
import Derived.Deep.DeepCutAuto
namespace Go.Proofs.Ytipnfalmnoieiaa
open Go.RowKit Go.Shelf Go.Lib Go.Sort Go.Maps

set_option maxRecDepth 100000 in
set_option maxHeartbeats 1000000 in
theorem refset_time (p : Nat) (a id : Int) (ha : a < 0 ∨ 1125899906842624 < a) (w : World) :
    Calls Try.prog 19 #[.pointer (some ⟨p, 0, none⟩), .int .i64 a, .int .i64 id] w fun e w' => e = .returned (.int .i64 18) ∧ w = w' := by
  rcases ha with ha | ha
  · have hd : decide (a < 0) = true := decide_eq_true ha
    go_enter Try.func19, Try.ntmps19
    go_wp2_with fail
    go_ret
    exact ⟨rfl, rfl⟩
  · have hd : decide (a < 0) = false := decide_eq_false (by omega)
    have hd2 : decide (1125899906842624 < a) = true := decide_eq_true ha
    go_enter Try.func19, Try.ntmps19
    go_wp2_with fail
    go_ret
    exact ⟨rfl, rfl⟩
set_option maxRecDepth 100000 in
set_option maxHeartbeats 1000000 in
theorem refset_full (p n cap : Nat) (ao : Option Addr) (L : List (Int × Int)) (clk a id : Int) (ha0 : 0 ≤ a) (ha1 : a ≤ 1125899906842624) (hn : n ≤ 4096) (hfull : 4096 ≤ (outL L id).length) (w : World) (h : RW w p ao n cap L clk) :
    Calls Try.prog 19 #[.pointer (some ⟨p, 0, none⟩), .int .i64 a, .int .i64 id] w fun e w' => e = .returned (.int .i64 15) ∧ Below w.heap.size w w' := by
  have c0 : w.cell? ⟨p, 0, none⟩ = some (.slice ao n cap) := h.blk.cell 0
  have hO := refwithout_any ao L n cap h.len (by omega) id w h.sl
  have HO := Lib.hid hO
  have hd : decide (a < 0) = false := decide_eq_false (by omega)
  have hd2 : decide (1125899906842624 < a) = false := decide_eq_false (by omega)
  clear h hO
  go_enter Try.func19, Try.ntmps19
  go_wp2_with fail
  refine HO.out.mono ?_; rintro e w2 ⟨v, rfl, hown, hB⟩
  obtain ⟨a3, cap3, rfl, hc3, hcm3, hsl3, hab3⟩ := hown.sl
  have hf : decide (4096 ≤ (outL L id).length) = true := decide_eq_true hfull
  obtain ⟨m, hm⟩ := nm (outL L id).length
  rw [← hm.out] at hf hfull ⊢
  have hfi : decide ((4096 : Int) ≤ (m : Int)) = true := decide_eq_true (by omega)
  clear hown hsl3 hab3
  go_wp2_with fail
  go_ret
  exact ⟨rfl, hB⟩

set_option maxRecDepth 100000 in
set_option maxHeartbeats 8000000 in
theorem refset_ok (p n cap : Nat) (ao : Option Addr) (L : List (Int × Int)) (clk a id : Int) (ha0 : 0 ≤ a) (ha1 : a ≤ 1125899906842624) (hn : n ≤ 4096) (hroom : (outL L id).length < 4096) (hasc : Asc L) (w : World) (h : RW w p ao n cap L clk) :
    Calls Try.prog 19 #[.pointer (some ⟨p, 0, none⟩), .int .i64 a, .int .i64 id] w fun e w' => e = .returned (.int .i64 0) ∧ RWEnd w w' p ao (setL L a id) clk := by
  have c0 : w.cell? ⟨p, 0, none⟩ = some (.slice ao n cap) := h.blk.cell 0
  have hO := refwithout_any ao L n cap h.len (by omega) id w h.sl
  have HO := Lib.hid hO
  have hd : decide (a < 0) = false := decide_eq_false (by omega)
  have hd2 : decide (1125899906842624 < a) = false := decide_eq_false (by omega)
  have H := Lib.hid h
  have HA : Hid (Asc (outL L id)) := asc_out hasc id
  clear h hO hasc
  go_enter Try.func19, Try.ntmps19
  go_wp2_with fail
  refine HO.out.mono ?_; rintro e w2 ⟨v, rfl, hown, hB⟩
  have hset : Hid (setL L a id = insD (outL L id) (a, id)) := rfl
  have hnin : Hid ((a, id) ∉ outL L id) := not_mem_out L a id
  obtain ⟨S, hS⟩ := nm (outL L id)
  rw [← hS.out] at hown hroom HA hset hnin
  obtain ⟨a3, cap3, rfl, hc3, hcm3, hsl3, hab3⟩ := hown.sl
  have HSL3 := Lib.hid hsl3
  obtain ⟨N, hN⟩ := nm S.length
  have HOWN : Hid (OwnP w2 w.heap.size 28 (.slice a3 N cap3) S) := by show OwnP _ _ _ _ _; rw [hN.out]; exact hown
  rw [← hN.out] at hroom hc3 ⊢
  have hf : decide (4096 ≤ N) = false := decide_eq_false (by omega)
  have hfi : decide ((4096 : Int) ≤ (N : Int)) = false := decide_eq_false (by omega)
  have hql := lowD_le S (a, id)
  obtain ⟨q, hq⟩ := nm (lowD S (a, id))
  rw [← hq.out, ← hN.out] at hql
  have HB := Lib.hid hB
  have HP2 : Hid (Blk w2 p #[.slice ao n cap, .int .i64 clk] 44) := H.out.blk.below hB H.out.blk.lt
  have hpw : p < w.heap.size := H.out.blk.lt
  clear hown hsl3 hab3 hB c0
  go_upto_block 0 with fail
  go_cut [8] (fun s8 wx => s8 = .int .i64 (q : Int) ∧ ∃ nq, wx = w2.drewN nq)
  case first =>
    go_wp2_with fail
    go_loopw [8] (fun s8 wx => ∃ (r nq : Nat), r ≤ N ∧ s8 = .int .i64 (r : Int) ∧ wx = w2.drewN nq ∧ Hid (∀ j, r ≤ j → j < N → ltP (a, id) S[j]!)) (fun s8 _ => (intOf s8).toNat)
    case atStart => exact ⟨N, 0, by omega, rfl, rfl, by show ∀ j, _; intro j h1 h2; omega⟩
    case round =>
      obtain ⟨r, nq, hr, rfl, rfl, hI⟩ := hrel
      have hfin : (∀ j, j < r → ¬ ltP (a, id) S[j]!) → r = q := by
        intro h
        rw [hq.out]
        refine lowD_of S (a, id) r (by rw [← hN.out]; exact hr) (fun i hi => ?_) fun i hi hl2 => ?_
        · rcases ltP_total S[i]! (a, id) with e | e | e
          · exact e
          · exfalso
            refine hnin.out ?_
            rw [← e, getElem!_pos S i (by rw [← hN.out]; omega)]
            exact List.getElem_mem _
          · exact absurd e (h i hi)
        · exact ltP_asymm (hI.out i hi (by rw [hN.out]; exact hl2))
      have FIN := Lib.hid hfin
      clear hfin
      by_cases hr0 : r = 0
      · subst hr0
        have E := Lib.hid (FIN.out (fun j hj => absurd hj (Nat.not_lt_zero _)))
        go_wp2_with fail
        go_meet
        exact ⟨by rw [← E.out]; try rfl, _, rfl⟩
      · obtain ⟨g, og, x1, x2, rfl, hgl, e0, e1, hpj⟩ := HSL3.out.get (r - 1) (by rw [← hN.out]; omega)
        have hw1 : IntKind.i64.wrap ((r : Int) - 1) = ((r - 1 : Nat) : Int) := by rw [IntWalk.i64_in _ (by omega)]; omega
        have hw2 : r - 1 < N := by omega
        have hrp : 0 < r := by omega
        have hrd : decide (0 < r) = true := decide_eq_true hrp
        obtain ⟨g1, g2⟩ := get_of hpj.out
        by_cases hcmp : ltP (a, id) (x1, x2)
        · have HI : Hid (∀ j, r - 1 ≤ j → j < N → ltP (a, id) S[j]!) := by
            show ∀ j, _
            intro j h1 h2
            rcases Nat.lt_or_ge j r with h3 | h3
            · obtain rfl : j = r - 1 := by omega
              rw [g2]; exact hcmp
            · exact hI.out j h3 h2
          clear g1 g2 hI FIN
          rcases hcmp with h | ⟨h, h2⟩
          · simp only at h
            have t1 : decide (a < x1) = true := decide_eq_true h
            go_wp2_with fail
            go_roundw
            case rel => exact ⟨r - 1, _, by omega, by go_num, rfl, HI⟩
            case measure => simp [intOf]; omega
          · simp only at h h2
            subst h
            have t1 : decide (a < a) = false := by simp
            have t2 : (a == a) = true := by simp
            have t3 : decide (id < x2) = true := decide_eq_true h2
            go_wp2_with fail
            go_roundw
            case rel => exact ⟨r - 1, _, by omega, by go_num, rfl, HI⟩
            case measure => simp [intOf]; omega
        · have e := FIN.out (fun j hj hl => by
            rcases Nat.lt_or_ge j (r - 1) with h2 | h2
            · have := asc_mono HA.out h2 g1
              rw [g2] at this
              exact hcmp (ltP_trans hl this)
            · obtain rfl : j = r - 1 := by omega
              rw [g2] at hl
              exact hcmp hl)
          have E := Lib.hid e
          have hc2 : x1 < a ∨ (x1 = a ∧ ¬ id < x2) := by
            unfold ltP at hcmp
            simp only at hcmp
            omega
          clear g1 g2 hI FIN e hcmp
          rcases hc2 with h | ⟨h, h2⟩
          · have t1 : decide (a < x1) = false := decide_eq_false (by omega)
            have t2 : (x1 == a) = false := by simp; omega
            go_wp2_with fail
            go_meet
            exact ⟨by rw [← E.out]; try rfl, _, rfl⟩
          · subst h
            have t1 : decide (x1 < x1) = false := by simp
            have t2 : (x1 == x1) = true := by simp
            have t3 : decide (id < x2) = false := decide_eq_false h2
            go_wp2_with fail
            go_meet
            exact ⟨by rw [← E.out]; try rfl, _, rfl⟩
  obtain ⟨rfl, nq, rfl⟩ := hcut
  have HOC : Hid (OwnP (w2.drewN nq) w.heap.size 28 (.slice a3 N cap3) S) := HOWN.out
  have HSX : Hid (SlP (w2.drewN nq) a3 S) := HSL3.out
  have HBC : Hid (Below w.heap.size w (w2.drewN nq)) := below_drewN HB.out nq
  have HPC : Hid (Blk (w2.drewN nq) p #[.slice ao n cap, .int .i64 clk] 44) := HP2.out
  obtain ⟨wc, hwc⟩ := nm (w2.drewN nq)
  rw [← hwc.out] at HOC HSX HBC HPC
  rw [← hwc.out]
  have HNIL : OwnP wc wc.heap.size 28 (.slice none 0 0) [] := OwnP.nil _ _ _
  have hwy : w.heap.size ≤ wc.heap.size := HBC.out.size
  have hpc : p < wc.heap.size := by omega
  have HINS : Hid (insD S (a, id) = S.take q ++ (a, id) :: S.drop q) := by
    show _ = _
    unfold insD
    rw [if_neg hnin.out, filter_low HA.out, filter_high HA.out, ← hq.out]
  have HT1 : Hid ((S.take q).length = q) := by show _ = _; rw [List.length_take, ← hN.out]; omega
  have HT2 : Hid ((S.drop q).length = N - q) := by show _ = _; rw [List.length_drop, ← hN.out]
  clear HOWN HSL3 hwc HP2 hf hfi
  obtain ⟨LT, hLT⟩ := nm (S.take q)
  obtain ⟨LD, hLD⟩ := nm (S.drop q)
  rw [← hLT.out, ← hLD.out] at HINS
  rw [← hLT.out] at HT1
  rw [← hLD.out] at HT2
  rcases HOC.out.2 with ⟨hv, hz0⟩ | ⟨g, cap', cur, hv, hgb, hgh, _⟩
  · cases hv
    obtain rfl : q = 0 := by omega
    have E1 := Lib.hid (List.length_eq_zero_iff.1 HT1.out : LT = [])
    have E2 := Lib.hid (List.length_eq_zero_iff.1 (by rw [HT2.out]) : LD = [])
    clear HSX
    go_wp2_with (at_builtin; refine app_pairs rfl (.tmp 61) (.tmp 64) rfl wc.heap.size _ [] rfl HNIL none 0 0 LT rfl HT1.out (fun _ => rfl) (by rw [E1.out]; exact SlP.nil _ _) (by simp; try omega) (Nat.le_refl _) ?_)
    intro v1 w3 hown1 hg1
    have hB1 := own_grown HNIL (Below.refl _ _) (Nat.le_refl _) hg1
    replace hown1 : OwnP w3 wc.heap.size 28 v1 LT := by simpa using hown1
    clear hg1
    go_wp2_with (at_builtin; refine app_pairs rfl (.tmp 66) (.tmp 70) rfl wc.heap.size _ LT rfl (hown1.alloc _) (some ⟨w3.heap.size, 0, none⟩) 1 1 [(a, id)] rfl rfl (fun h => by cases h) (SlP.ofBlk (Blk.new w3 _ _)) (by rw [HT1.out]; omega) (Nat.le_trans hB1.size (by simp)) ?_)
    intro v2 w4 hown2 hg2
    have hB2 := own_grown (hown1.alloc _) (bNew hB1 _) (Nat.le_refl _) hg2
    clear hown1 hg2 hB1
    go_wp2_with (at_builtin; refine app_pairs rfl (.tmp 73) (.tmp 76) rfl wc.heap.size _ (LT ++ [(a, id)]) rfl hown2 none 0 0 LD rfl (by rw [HT2.out]) (fun _ => rfl) (by rw [E2.out]; exact SlP.nil _ _) (by rw [List.length_append, HT1.out]; simp; try omega) hB2.size ?_; intro v3 w5 hown3 hg3; have hB3 := own_grown hown2 hB2 (Nat.le_refl _) hg3; have hp5 := HPC.out.below hB3 hpc; have c5 : w5.cell? ⟨p, 0, none⟩ = some (.slice ao n cap) := hp5.cell 0; have f5 : w5.frozen? ⟨p, 0, none⟩ = false := hp5.free 0; obtain ⟨a5, cap5, rfl, hc5, hcm5, hsl5, hab5⟩ := hown3.sl)
    have hfin : OwnP w5 wc.heap.size 28 (.slice a5 (LT ++ [(a, id)] ++ LD).length cap5) (setL L a id) := by
      rw [hset.out, HINS.out]
      have e9 : LT ++ [(a, id)] ++ LD = LT ++ (a, id) :: LD := by simp
      rw [← e9]; exact hown3
    have HE0 := rw_laid (w := w) (ao := ao) hp5 hfin hpc hwy (KeptS.ofBelow (HBC.out.trans (hB3.mono HBC.out.size)))
    rw [show (LT ++ [(a, id)] ++ LD).length = LT.length + (LD.length + 1) from by simp] at HE0
    have HE := Lib.hid HE0
    clear hown2 hown3 hg3 hB2 hB3 hsl5 hab5 hfin HE0
    go_ret
    exact ⟨rfl, HE.out⟩
  · obtain ⟨rfl, rfl⟩ : a3 = some ⟨g, 0, none⟩ ∧ cap3 = cap' := by injection hv with e1 e2 e3; exact ⟨e1, e3⟩
    clear hv hgh
    have HST1 : SlP wc (some ⟨g, 0, none⟩) LT := by rw [hLT.out]; exact HSX.out.take q
    by_cases hqc : q < cap3
    · skip
      go_wp2_with (at_builtin; refine app_pairs rfl (.tmp 61) (.tmp 64) rfl wc.heap.size _ [] rfl HNIL (some ⟨g, 0, none⟩) q cap3 LT rfl HT1.out (fun h => by cases h) HST1 (by simp; try omega) (Nat.le_refl _) ?_)
      intro v1 w3 hown1 hg1
      have hB1 := own_grown HNIL (Below.refl _ _) (Nat.le_refl _) hg1
      replace hown1 : OwnP w3 wc.heap.size 28 v1 LT := by simpa using hown1
      clear hg1
      go_wp2_with (at_builtin; refine app_pairs rfl (.tmp 66) (.tmp 70) rfl wc.heap.size _ LT rfl (hown1.alloc _) (some ⟨w3.heap.size, 0, none⟩) 1 1 [(a, id)] rfl rfl (fun h => by cases h) (SlP.ofBlk (Blk.new w3 _ _)) (by rw [HT1.out]; omega) (Nat.le_trans hB1.size (by simp)) ?_)
      intro v2 w4 hown2 hg2
      have hB2 := own_grown (hown1.alloc _) (bNew hB1 _) (Nat.le_refl _) hg2
      have HSD : SlP w4 (some ⟨g, q * 2, none⟩) LD := by
        rw [hLD.out]
        have := (HSX.out.below hB2).drop q
        rwa [Nat.zero_add] at this
      clear hown1 hg2 hB1
      go_wp2_with (at_builtin; refine app_pairs rfl (.tmp 73) (.tmp 76) rfl wc.heap.size _ (LT ++ [(a, id)]) rfl hown2 (some ⟨g, q * 2, none⟩) (N - q) (cap3 - q) LD rfl HT2.out (fun h => by cases h) HSD (by rw [List.length_append, HT1.out]; simp; try omega) hB2.size ?_; intro v3 w5 hown3 hg3; have hB3 := own_grown hown2 hB2 (Nat.le_refl _) hg3; have hp5 := HPC.out.below hB3 hpc; have c5 : w5.cell? ⟨p, 0, none⟩ = some (.slice ao n cap) := hp5.cell 0; have f5 : w5.frozen? ⟨p, 0, none⟩ = false := hp5.free 0; obtain ⟨a5, cap5, rfl, hc5, hcm5, hsl5, hab5⟩ := hown3.sl)
      have hfin : OwnP w5 wc.heap.size 28 (.slice a5 (LT ++ [(a, id)] ++ LD).length cap5) (setL L a id) := by
        rw [hset.out, HINS.out]
        have e9 : LT ++ [(a, id)] ++ LD = LT ++ (a, id) :: LD := by simp
        rw [← e9]; exact hown3
      have HE0 := rw_laid (w := w) (ao := ao) hp5 hfin hpc hwy (KeptS.ofBelow (HBC.out.trans (hB3.mono HBC.out.size)))
      rw [show (LT ++ [(a, id)] ++ LD).length = LT.length + (LD.length + 1) from by simp] at HE0
      have HE := Lib.hid HE0
      clear hown2 hown3 hg3 hB2 hB3 hsl5 hab5 hfin HE0
      go_ret
      exact ⟨rfl, HE.out⟩
    · obtain rfl : q = cap3 := by omega
      go_wp2_with (at_builtin; refine app_pairs rfl (.tmp 61) (.tmp 64) rfl wc.heap.size _ [] rfl HNIL (some ⟨g, 0, none⟩) q q LT rfl HT1.out (fun h => by cases h) HST1 (by simp; try omega) (Nat.le_refl _) ?_)
      intro v1 w3 hown1 hg1
      have hB1 := own_grown HNIL (Below.refl _ _) (Nat.le_refl _) hg1
      replace hown1 : OwnP w3 wc.heap.size 28 v1 LT := by simpa using hown1
      clear hg1
      go_wp2_with (at_builtin; refine app_pairs rfl (.tmp 66) (.tmp 70) rfl wc.heap.size _ LT rfl (hown1.alloc _) (some ⟨w3.heap.size, 0, none⟩) 1 1 [(a, id)] rfl rfl (fun h => by cases h) (SlP.ofBlk (Blk.new w3 _ _)) (by rw [HT1.out]; omega) (Nat.le_trans hB1.size (by simp)) ?_)
      intro v2 w4 hown2 hg2
      have hB2 := own_grown (hown1.alloc _) (bNew hB1 _) (Nat.le_refl _) hg2
      clear hown1 hg2 hB1
      go_wp2_with (at_builtin; refine app_pairs rfl (.tmp 73) (.tmp 76) rfl wc.heap.size _ (LT ++ [(a, id)]) rfl hown2 (some ⟨g, 0, none⟩) 0 0 LD rfl (by rw [HT2.out]; omega) (fun h => by cases h) (by rw [show LD = [] from List.length_eq_zero_iff.1 (by rw [HT2.out]; omega)]; exact SlP.nil _ _) (by rw [List.length_append, HT1.out]; simp; try omega) hB2.size ?_; intro v3 w5 hown3 hg3; have hB3 := own_grown hown2 hB2 (Nat.le_refl _) hg3; have hp5 := HPC.out.below hB3 hpc; have c5 : w5.cell? ⟨p, 0, none⟩ = some (.slice ao n cap) := hp5.cell 0; have f5 : w5.frozen? ⟨p, 0, none⟩ = false := hp5.free 0; obtain ⟨a5, cap5, rfl, hc5, hcm5, hsl5, hab5⟩ := hown3.sl)
      have hfin : OwnP w5 wc.heap.size 28 (.slice a5 (LT ++ [(a, id)] ++ LD).length cap5) (setL L a id) := by
        rw [hset.out, HINS.out]
        have e9 : LT ++ [(a, id)] ++ LD = LT ++ (a, id) :: LD := by simp
        rw [← e9]; exact hown3
      have HE0 := rw_laid (w := w) (ao := ao) hp5 hfin hpc hwy (KeptS.ofBelow (HBC.out.trans (hB3.mono HBC.out.size)))
      rw [show (LT ++ [(a, id)] ++ LD).length = LT.length + (LD.length + 1) from by simp] at HE0
      have HE := Lib.hid HE0
      clear hown2 hown3 hg3 hB2 hB3 hsl5 hab5 hfin HE0
      go_ret
      exact ⟨rfl, HE.out⟩
end Go.Proofs.Ytipnfalmnoieiaa
