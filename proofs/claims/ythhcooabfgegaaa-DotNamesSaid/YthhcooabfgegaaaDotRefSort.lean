/- The document's Sort. -/
import Derived.Test.YthhcooabfgegaaaPairAppend
import Derived.Test.YthhcooabfgegaaaDotSort
import Derived.Deep.CutBlock
import Derived.Deep.DeepCutAuto
namespace Go.Proofs.Ythhcooabfgegaaa
open Go.RowKit Go.Shelf Go.Lib Go.Sort

theorem filter_low {l : List (Int × Int)} (ha : Asc l) {x : Int × Int} : l.filter (fun y => decide (ltP y x)) = l.take (lowD l x) := by
  induction l with
  | nil => rfl
  | cons a l ih =>
    have ha' := List.pairwise_cons.1 ha
    by_cases h : ltP a x
    · simp only [lowD, List.filter_cons, h, decide_true, if_true, List.length_cons, List.take_succ_cons]
      show a :: _ = a :: List.take (lowD l x) l
      rw [ih ha'.2]
    · have e : l.filter (fun y => decide (ltP y x)) = [] := List.filter_eq_nil_iff.2 fun y hy => by
        simpa using fun hl => h (ltP_trans (ha'.1 y hy) hl)
      simp only [lowD, List.filter_cons, h, decide_false, Bool.false_eq_true, if_false, e, List.length_nil, List.take_zero]
theorem filter_high {l : List (Int × Int)} (ha : Asc l) {x : Int × Int} : l.filter (fun y => !decide (ltP y x)) = l.drop (lowD l x) := by
  induction l with
  | nil => rfl
  | cons a l ih =>
    have ha' := List.pairwise_cons.1 ha
    by_cases h : ltP a x
    · simp only [lowD, List.filter_cons, h, decide_true, Bool.not_true, Bool.false_eq_true, if_false, if_true, List.length_cons, List.drop_succ_cons]
      show _ = List.drop (lowD l x) l
      rw [ih ha'.2]
    · have e : l.filter (fun y => decide (ltP y x)) = [] := List.filter_eq_nil_iff.2 fun y hy => by
        simpa using fun hl => h (ltP_trans (ha'.1 y hy) hl)
      have e2 : l.filter (fun y => !decide (ltP y x)) = l := List.filter_eq_self.2 fun y hy => by
        simpa using fun hl => h (ltP_trans (ha'.1 y hy) hl)
      simp only [lowD, List.filter_cons, h, decide_false, Bool.false_eq_true, if_false, e, e2, List.length_nil, List.drop_zero, Bool.not_false, if_true]

set_option maxRecDepth 100000 in
set_option maxHeartbeats 4000000 in
theorem refsort_any (ao : Option Addr) (ps : List (Int × Int)) (n cap : Nat) (hn : Hid (ps.length = n)) (hm : n ≤ 1000000) (w : World) (hs : SlP w ao ps) :
    Calls Try.prog 18 #[.slice ao n cap] w (SortTells ps w) := by
  have HS := Lib.hid hs
  clear hs
  go_enter Try.func18, Try.ntmps18
  go_wp2_with fail
  go_loopw [3, 4] (fun v i wr => ∃ k : Nat, k ≤ n ∧ i = .int .i64 (k : Int) ∧ OwnP wr w.heap.size 23 v (sortD (ps.take k)) ∧ Below w.heap.size w wr) (fun _ i _ => n - (intOf i).toNat)
  case atStart => exact ⟨0, by omega, rfl, OwnP.nil _ _ _, Below.refl _ _⟩
  case round =>
    obtain ⟨k, hk, rfl, hown, hB⟩ := hrel
    by_cases hlt : k < n
    · obtain ⟨b, off, u, v, rfl, hbl, c0, c1, hpk⟩ := HS.out.get k (by rw [hn.out]; exact hlt)
      have d0 : wr.cell? ⟨b, off + k * 2, none⟩ = some (.int .i64 u) := (hB.cell (p := ⟨b, off + k * 2, none⟩) hbl).trans c0
      have d1 : wr.cell? ⟨b, off + k * 2 + 1, none⟩ = some (.int .i64 v) := (hB.cell (p := ⟨b, off + k * 2 + 1, none⟩) hbl).trans c1
      have hst : sortD (ps.take (k + 1)) = insD (sortD (ps.take k)) (u, v) := by
        rw [take_snocP hpk.out]; simp [sortD]
      have HST := Lib.hid hst
      have hSl : (sortD (ps.take k)).length ≤ k := Nat.le_trans (sortD_length _) (by rw [List.length_take]; omega)
      have hAs := asc_sortD (ps.take k)
      obtain ⟨S, hS⟩ := nm (sortD (ps.take k))
      rw [← hS.out] at hown hSl hAs
      rw [← hS.out] at HST
      have HA := Lib.hid hAs
      clear hst hAs
      obtain ⟨a3, cap3, rfl, hc3, hcm3, hsl3, hab3⟩ := hown.sl
      have HSL3 := Lib.hid hsl3
      obtain ⟨N, hN⟩ := nm S.length
      have HOWN : Hid (OwnP wr w.heap.size 23 (.slice a3 N cap3) S) := by show OwnP _ _ _ _ _; rw [hN.out]; exact hown
      rw [← hN.out] at hSl hc3 ⊢
      clear hown hsl3
      go_wp2_with fail
      obtain ⟨M, hM⟩ := nm (decide ((u, v) ∈ S))
      refine (has_any a3 S N cap3 (hidSymm hN) (by omega) u v _ HSL3.out M hM).mono ?_; rintro e w2 ⟨rfl, hB2⟩
      have hown2 := Lib.hid (HOWN.out.below hB2)
      have hsl2 := Lib.hid (HSL3.out.below hB2)
      have hB3 := bNext hB hB2
      clear HOWN HSL3 d0 d1
      cases M
      rotate_left
      · have e : insD S (u, v) = S := by unfold insD; rw [if_pos (by simpa using hM.out.symm)]
        rw [e] at HST
        rw [← HST.out] at hown2
        clear hsl2
        have hown3 := hown2.out
        go_wp2_with fail
        go_roundw
        case rel => exact ⟨k + 1, by omega, by go_num, hown3, hB3⟩
        case measure => simp [intOf]; omega
      · have hnin : ¬ (u, v) ∈ S := by simpa using hM.out.symm
        have hins : insD S (u, v) = S.take (lowD S (u, v)) ++ (u, v) :: S.drop (lowD S (u, v)) := by
          unfold insD
          rw [if_neg hnin, filter_low HA.out, filter_high HA.out]
        have HINS := Lib.hid hins
        have hl := lowD_le S (u, v)
        obtain ⟨q, hq⟩ := nm (lowD S (u, v))
        rw [← hq.out, ← hN.out] at hl
        rw [← hq.out] at HINS
        clear hins hM
        have HNIN := Lib.hid hnin
        clear hnin
        go_upto_block 2 with fail
        go_cut [6] (fun s6 wx => s6 = .int .i64 (q : Int) ∧ Below w2.heap.size w2 wx)
        case first =>
          go_wp2_with fail
          go_loopw [6] (fun s6 wx => ∃ t : Nat, t ≤ N ∧ s6 = .int .i64 (t : Int) ∧ Below w2.heap.size w2 wx ∧ Hid (∀ j, t ≤ j → j < N → ltP (u, v) S[j]!)) (fun s6 _ => (intOf s6).toNat)
          case atStart => exact ⟨N, by omega, rfl, Below.refl _ _, by show ∀ j, _; intro j h1 h2; omega⟩
          case round =>
            obtain ⟨t, ht, rfl, hBx, hI⟩ := hrel
            have hfin : (∀ j, j < t → ¬ ltP (u, v) S[j]!) → t = q := by
              intro h
              rw [hq.out]
              refine lowD_of S (u, v) t (by rw [← hN.out]; exact ht) (fun i hi => ?_) fun i hi hl2 => ?_
              · rcases ltP_total S[i]! (u, v) with e | e | e
                · exact e
                · exfalso
                  refine HNIN.out ?_
                  rw [← e, getElem!_pos S i (by rw [← hN.out]; omega)]
                  exact List.getElem_mem _
                · exact absurd e (h i hi)
              · exact ltP_asymm (hI.out i hi (by rw [hN.out]; exact hl2))
            have FIN := Lib.hid hfin
            clear hfin
            by_cases ht0 : t = 0
            · subst ht0
              have e := FIN.out (fun j hj => absurd hj (Nat.not_lt_zero _))
              go_wp2_with fail
              all_goals
                go_meet
                exact ⟨by rw [← e]; try rfl, hBx⟩
            · have hsx := hsl2.out.below hBx
              obtain ⟨g, og, x1, x2, rfl, hgl, e0, e1, hpj⟩ := hsx.get (t - 1) (by rw [← hN.out]; omega)
              have hBq := bNext hB3 hBx
              have d0 : wr.cell? ⟨b, off + k * 2, none⟩ = some (.int .i64 u) := (hBq.cell (p := ⟨b, off + k * 2, none⟩) hbl).trans c0
              have d1 : wr.cell? ⟨b, off + k * 2 + 1, none⟩ = some (.int .i64 v) := (hBq.cell (p := ⟨b, off + k * 2 + 1, none⟩) hbl).trans c1
              obtain ⟨R, hR⟩ := nm (decide (ltP (u, v) (x1, x2)))
              have hw1 : IntKind.i64.wrap ((t : Int) - 1) = ((t - 1 : Nat) : Int) := by rw [IntWalk.i64_in _ (by omega)]; omega
              have hw2 : t - 1 < N := by omega
              have htp : 0 < t := by omega
              clear hsx
              go_wp2_with fail
              refine wp_region_still_tail 9 (by kernel_rfl) (by kernel_rfl) ?_
              simp only [List.take_succ_cons, List.take_zero, List.drop_succ_cons, List.drop_zero]
              change wpStill _ _ (World.drew _) (fun a' => wpList _ _ _ _ a' (World.drew _)) _ _
              repeat still_step
              refine wpStill_nil ?_
              clear d0 d1 e0 e1 hw1
              go_wp2_with fail
              refine (refless_any u v x1 x2 R hR _).mono ?_; rintro e w3 ⟨rfl, hB4⟩
              have hBz : Below w2.heap.size w2 w3 := bNext (below_drewN hBx 1) hB4
              cases R
              · have e := FIN.out (fun j hj hl => by
                  have h1 : ¬ ltP (u, v) (x1, x2) := by simpa using hR.out.symm
                  obtain ⟨g1, g2⟩ := get_of hpj.out
                  rcases Nat.lt_or_ge j (t - 1) with h2 | h2
                  · have := asc_mono HA.out h2 g1
                    rw [g2] at this
                    exact h1 (ltP_trans hl this)
                  · obtain rfl : j = t - 1 := by omega
                    rw [g2] at hl
                    exact h1 hl)
                go_wp2_with fail
                go_meet
                exact ⟨by rw [← e]; try rfl, hBz⟩
              · have HI : Hid (∀ j, t - 1 ≤ j → j < N → ltP (u, v) S[j]!) := by
                  show ∀ j, _
                  intro j h1 h2
                  rcases Nat.lt_or_ge j t with h3 | h3
                  · obtain rfl : j = t - 1 := by omega
                    rw [(get_of hpj.out).2]
                    simpa using hR.out.symm
                  · exact hI.out j h3 h2
                go_wp2_with fail
                go_roundw
                case rel => exact ⟨t - 1, by omega, by go_num, hBz, HI⟩
                case measure => simp [intOf]; omega
        obtain ⟨rfl, hBx⟩ := hcut
        have hBy := bNext hB3 hBx
        have hsx := hsl2.out.below hBx
        have hownx : OwnP wc w.heap.size 23 (.slice a3 N cap3) S := hown2.out.below hBx
        have hT1 : (S.take q).length = q := by rw [List.length_take, ← hN.out]; omega
        have hT2 : (S.drop q).length = N - q := by rw [List.length_drop, ← hN.out]
        have HT2 := Lib.hid hT2
        have HT1 := Lib.hid hT1
        have HNIL : OwnP wc wc.heap.size 23 (.slice none 0 0) [] := OwnP.nil _ _ _
        have dF : ∀ w9 : World, Below wc.heap.size wc w9 → w9.cell? ⟨b, off + k * 2, none⟩ = some (.int .i64 u) ∧ w9.cell? ⟨b, off + k * 2 + 1, none⟩ = some (.int .i64 v) :=
          fun w9 h => ⟨((bNext hBy h).cell (p := ⟨b, off + k * 2, none⟩) hbl).trans c0, ((bNext hBy h).cell (p := ⟨b, off + k * 2 + 1, none⟩) hbl).trans c1⟩
        have DF := Lib.hid dF
        have HSX := Lib.hid hsx
        have HBY := Lib.hid hBy
        have hwy := hBy.size
        clear hT1 hT2 dF hsx hBy hBx hown2 hsl2 hB2 hB3 c0 c1 hB
        obtain ⟨LT, hLT⟩ := nm (S.take q)
        obtain ⟨LD, hLD⟩ := nm (S.drop q)
        rw [← hLT.out, ← hLD.out] at HINS
        rw [← hLT.out] at HT1
        rw [← hLD.out] at HT2
        rcases hownx.2 with ⟨hv, hz0⟩ | ⟨g, cap', cur, hv, hgb, hgh, _⟩
        · cases hv
          obtain rfl : q = 0 := by omega
          have e1 : LT = [] := List.length_eq_zero_iff.1 HT1.out
          have e2 : LD = [] := List.length_eq_zero_iff.1 (by rw [HT2.out])
          have E1 := Lib.hid e1
          have E2 := Lib.hid e2
          clear hownx HSX e1 e2
          go_wp2_with (at_builtin; refine app_pairs rfl (.tmp 40) (.tmp 43) rfl wc.heap.size _ [] rfl HNIL none 0 0 [] rfl rfl (fun _ => rfl) (SlP.nil _ _) (by simp) (Nat.le_refl _) ?_)
          intro v1 w1 hown1 hg1
          have hB1 := own_grown HNIL (Below.refl _ _) (Nat.le_refl _) hg1
          obtain ⟨d0, d1⟩ := DF.out _ hB1
          replace hown1 : OwnP w1 wc.heap.size 23 v1 LT := by rw [E1.out]; simpa using hown1
          go_wp2_with (at_builtin; refine app_pairs rfl (.tmp 45) (.tmp 50) rfl wc.heap.size _ LT rfl (hown1.alloc _) (some ⟨w1.heap.size, 0, none⟩) 1 1 [(u, v)] rfl rfl (fun h => by cases h) (SlP.ofBlk (Blk.new w1 _ _)) (by rw [HT1.out]; omega) (Nat.le_trans hB1.size (by simp)) ?_)
          intro v2 w2 hown2 hg2
          have hB2 := own_grown (hown1.alloc _) (bNew hB1 _) (Nat.le_refl _) hg2
          clear d0 d1 hown1 hg1 hg2 hB1
          go_wp2_with (at_builtin; refine app_pairs rfl (.tmp 52) (.tmp 55) rfl wc.heap.size _ (LT ++ [(u, v)]) rfl hown2 none 0 0 LD rfl (by rw [HT2.out]) (fun _ => rfl) (by rw [E2.out]; exact SlP.nil _ _) (by rw [List.length_append, HT1.out]; simp) hB2.size ?_)
          intro v3 w3 hown3 hg3
          have hB3 := own_grown hown2 hB2 (Nat.le_refl _) hg3
          have hfin : OwnP w3 w.heap.size 23 v3 (sortD (ps.take (k + 1))) := by
            rw [HST.out, HINS.out]
            have := hown3.base hwy
            simpa using this
          have hB4 := bNext HBY.out hB3
          clear hown2 hown3 hg3 hB2 hB3
          go_wp2_with fail
          go_roundw
          case rel => exact ⟨k + 1, by omega, by go_num, hfin, hB4⟩
          case measure => simp [intOf]; omega
        · obtain ⟨rfl, rfl⟩ : a3 = some ⟨g, 0, none⟩ ∧ cap3 = cap' := by injection hv with e1 e2 e3; exact ⟨e1, e3⟩
          clear hv hgh
          have HST1 : SlP wc (some ⟨g, 0, none⟩) LT := by rw [hLT.out]; exact HSX.out.take q
          by_cases hqc : q < cap3
          · go_wp2_with (at_builtin; refine app_pairs rfl (.tmp 40) (.tmp 43) rfl wc.heap.size _ [] rfl HNIL (some ⟨g, 0, none⟩) q cap3 LT rfl HT1.out (fun h => by cases h) HST1 (by simp; omega) (Nat.le_refl _) ?_)
            intro v1 w1 hown1 hg1
            have hB1 := own_grown HNIL (Below.refl _ _) (Nat.le_refl _) hg1
            obtain ⟨d0, d1⟩ := DF.out _ hB1
            replace hown1 : OwnP w1 wc.heap.size 23 v1 LT := by simpa using hown1
            go_wp2_with (at_builtin; refine app_pairs rfl (.tmp 45) (.tmp 50) rfl wc.heap.size _ LT rfl (hown1.alloc _) (some ⟨w1.heap.size, 0, none⟩) 1 1 [(u, v)] rfl rfl (fun h => by cases h) (SlP.ofBlk (Blk.new w1 _ _)) (by rw [HT1.out]; omega) (Nat.le_trans hB1.size (by simp)) ?_)
            intro v2 w2 hown2 hg2
            have hB2 := own_grown (hown1.alloc _) (bNew hB1 _) (Nat.le_refl _) hg2
            have HSD : SlP w2 (some ⟨g, q * 2, none⟩) LD := by
              rw [hLD.out]
              have := (HSX.out.below hB2).drop q
              rwa [Nat.zero_add] at this
            clear d0 d1 hown1 hg1 hg2 hB1
            go_wp2_with (at_builtin; refine app_pairs rfl (.tmp 52) (.tmp 55) rfl wc.heap.size _ (LT ++ [(u, v)]) rfl hown2 (some ⟨g, q * 2, none⟩) (N - q) (cap3 - q) LD rfl HT2.out (fun h => by cases h) HSD (by rw [List.length_append, HT1.out]; simp; omega) hB2.size ?_)
            intro v3 w3 hown3 hg3
            have hB3 := own_grown hown2 hB2 (Nat.le_refl _) hg3
            have hfin : OwnP w3 w.heap.size 23 v3 (sortD (ps.take (k + 1))) := by
              rw [HST.out, HINS.out]
              have := hown3.base hwy
              simpa using this
            have hB4 := bNext HBY.out hB3
            clear hown2 hown3 hg3 hB2 hB3
            go_wp2_with fail
            go_roundw
            case rel => exact ⟨k + 1, by omega, by go_num, hfin, hB4⟩
            case measure => simp [intOf]; omega
          · obtain rfl : q = cap3 := by omega
            go_wp2_with (at_builtin; refine app_pairs rfl (.tmp 40) (.tmp 43) rfl wc.heap.size _ [] rfl HNIL (some ⟨g, 0, none⟩) q q LT rfl HT1.out (fun h => by cases h) HST1 (by simp; omega) (Nat.le_refl _) ?_)
            intro v1 w1 hown1 hg1
            have hB1 := own_grown HNIL (Below.refl _ _) (Nat.le_refl _) hg1
            obtain ⟨d0, d1⟩ := DF.out _ hB1
            replace hown1 : OwnP w1 wc.heap.size 23 v1 LT := by simpa using hown1
            go_wp2_with (at_builtin; refine app_pairs rfl (.tmp 45) (.tmp 50) rfl wc.heap.size _ LT rfl (hown1.alloc _) (some ⟨w1.heap.size, 0, none⟩) 1 1 [(u, v)] rfl rfl (fun h => by cases h) (SlP.ofBlk (Blk.new w1 _ _)) (by rw [HT1.out]; omega) (Nat.le_trans hB1.size (by simp)) ?_)
            intro v2 w2 hown2 hg2
            have hB2 := own_grown (hown1.alloc _) (bNew hB1 _) (Nat.le_refl _) hg2
            clear d0 d1 hown1 hg1 hg2 hB1
            go_wp2_with (at_builtin; refine app_pairs rfl (.tmp 52) (.tmp 55) rfl wc.heap.size _ (LT ++ [(u, v)]) rfl hown2 (some ⟨g, 0, none⟩) 0 0 LD rfl (by rw [HT2.out]; omega) (fun h => by cases h) (by rw [show LD = [] from List.length_eq_zero_iff.1 (by rw [HT2.out]; omega)]; exact SlP.nil _ _) (by rw [List.length_append, HT1.out]; simp; omega) hB2.size ?_)
            intro v3 w3 hown3 hg3
            have hB3 := own_grown hown2 hB2 (Nat.le_refl _) hg3
            have hfin : OwnP w3 w.heap.size 23 v3 (sortD (ps.take (k + 1))) := by
              rw [HST.out, HINS.out]
              have := hown3.base hwy
              simpa using this
            have hB4 := bNext HBY.out hB3
            clear hown2 hown3 hg3 hB2 hB3
            go_wp2_with fail
            go_roundw
            case rel => exact ⟨k + 1, by omega, by go_num, hfin, hB4⟩
            case measure => simp [intOf]; omega
    · obtain rfl : k = n := by omega
      rw [List.take_of_length_le (by rw [hn.out]; exact Nat.le_refl _)] at hown
      obtain ⟨a3, cap3, rfl, hc3, hcm3, hsl3, hab3⟩ := hown.sl
      go_wp2_with fail
      go_ret
      exact ⟨a3, cap3, rfl, hc3, hsl3, hab3, (fun h => by subst h; exact hsl3.none_len), hB⟩
end Go.Proofs.Ythhcooabfgegaaa
