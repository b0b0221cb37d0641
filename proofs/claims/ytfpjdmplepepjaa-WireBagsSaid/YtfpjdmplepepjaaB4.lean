/- The document's Sort and Of of names. (and what stands on it: 8 texts in one) -/
import Derived.Deep.CutBlock
import Derived.Deep.DeepCutAuto
import Derived.Maps.AppendAt
import Derived.Deep.AppendLies
import Derived.Deep.RegionHeld3
import Derived.Test.YtfpjdmplepepjaaB3
import Derived.Test.YtfpjdmplepepjaaB1
import Derived.Test.YtfpjdmplepepjaaB2
/-! WRefSort: The document's Sort and Of of names. -/
namespace Go.Proofs.Ytfpjdmplepepjaa
open Go.RowKit Go.Sort
theorem own_grown {w a b : World} {base : Nat} {t : TypeId} {v : Value} {ps : List (Int × Int)} (hown : OwnP a base t v ps) (hB : Below w.heap.size w a) (hb : w.heap.size ≤ base) (hg : a.grownBy b v.ownBlock) : Below w.heap.size w b :=
  hB.grown hg hB.size (fun k hk => Nat.le_trans hb (hown.lt k hk).1)
set_option maxRecDepth 100000 in
set_option maxHeartbeats 1000000 in
theorem refof_any (ao : Option Addr) (ps : List (Int × Int)) (n cap : Nat) (hn : Hid (ps.length = n)) (hm : n ≤ 1000000) (z : Int) (w : World) (hs : SlP w ao ps) :
    Calls Try.prog 115 #[.slice ao n cap, .int .i64 z] w fun e w' => ∃ v, e = .returned v ∧ OwnP w' w.heap.size 31 v (ps.filter fun p => decide (p.1 = z)) ∧ Below w.heap.size w w' := by
  have HS := Lib.hid hs
  clear hs
  go_enter Try.func115, Try.ntmps115
  go_wp2_with fail
  go_loopw [5, 6] (fun v i wr => ∃ k : Nat, k ≤ n ∧ i = .int .i64 (k : Int) ∧ OwnP wr w.heap.size 31 v ((ps.take k).filter fun p => decide (p.1 = z)) ∧ Below w.heap.size w wr) (fun _ i _ => n - (intOf i).toNat)
  case atStart => exact ⟨0, by omega, rfl, OwnP.nil _ _ _, Below.refl _ _⟩
  case round =>
    obtain ⟨k, hk, rfl, hown, hB⟩ := hrel
    by_cases hlt : k < n
    · obtain ⟨b, off, u, v, rfl, hbl, c0, c1, hpk⟩ := HS.out.get k (by rw [hn.out]; exact hlt)
      have d0 : wr.cell? ⟨b, off + k * 2, none⟩ = some (.int .i64 u) := (hB.cell (p := ⟨b, off + k * 2, none⟩) hbl).trans c0
      have d1 : wr.cell? ⟨b, off + k * 2 + 1, none⟩ = some (.int .i64 v) := (hB.cell (p := ⟨b, off + k * 2 + 1, none⟩) hbl).trans c1
      clear c0 c1
      have htk := take_snocP hpk.out
      obtain ⟨L, hL⟩ := nm ((ps.take k).filter fun p => decide (p.1 = z))
      have hLl : L.length ≤ k := by rw [hL.out]; exact Nat.le_trans (List.length_filter_le _ _) (by rw [List.length_take]; omega)
      rw [← hL.out] at hown
      by_cases huz : u = z
      · subst huz
        have hN : Hid ((ps.take (k + 1)).filter (fun p => decide (p.1 = u)) = L ++ [(u, v)]) := by
          show _ = _
          rw [htk, List.filter_append, ← hL.out]
          simp
        have hub : (u == u) = true := by simp
        clear htk
        go_wp2_with (at_builtin; refine app_pairs rfl _ _ rfl w.heap.size _ L rfl (hown.alloc _) (some ⟨wr.heap.size, 0, none⟩) 1 1 [(u, v)] rfl rfl (fun h => by cases h) (SlP.ofBlk (Blk.new wr _ _)) (by omega) (Nat.le_trans hB.size (by simp)) ?_)
        intro v' w2 hown2 hgrow
        have hB2 := own_grown (hown.alloc _) (bNew hB _) (Nat.le_refl _) hgrow
        rw [← hN.out] at hown2
        clear hown hgrow hB
        go_wp2_with fail
        go_roundw
        case rel => exact ⟨k + 1, by omega, by go_num, hown2, hB2⟩
        case measure => simp [intOf]; omega
      · have hN : (ps.take (k + 1)).filter (fun p => decide (p.1 = z)) = L := by
          rw [htk, List.filter_append, ← hL.out]
          simp [huz]
        have hub : (u == z) = false := by simpa using huz
        rw [← hN] at hown
        clear htk hN
        go_wp2_with fail
        go_roundw
        case rel => exact ⟨k + 1, by omega, by go_num, hown, hB⟩
        case measure => simp [intOf]; omega
    · obtain rfl : k = n := by omega
      rw [List.take_of_length_le (by rw [hn.out]; exact Nat.le_refl _)] at hown
      go_wp2_with fail
      go_ret
      exact ⟨_, rfl, hown, hB⟩

/-- What dot.Sort tells. -/
def SortTells (ps : List (Int × Int)) (w : World) (e : Ending) (w' : World) : Prop :=
  ∃ ao cap, e = .returned (.slice ao (sortD ps).length cap) ∧ (sortD ps).length ≤ cap ∧ SlP w' ao (sortD ps) ∧ (∀ a, ao = some a → w.heap.size ≤ a.block) ∧ (ao = none → (sortD ps).length = 0) ∧ Below w.heap.size w w'


theorem filter_low {l : List (Int × Int)} (ha : Asc l) {x : Int × Int} : l.filter (fun y => decide (ltP y x)) = l.take (lowD l x) := by
  induction l with
  | nil => rfl
  | cons a l ih =>
    have ha' := List.pairwise_cons.1 ha
    by_cases h : ltP a x
    · simp only [lowD, List.filter_cons, h, decide_true, if_true, List.length_cons, List.take_succ_cons]
      show a :: _ = a :: List.take (lowD l x) l
      rw [ih ha'.2]
    · have e : l.filter (fun y => decide (ltP y x)) = [] := List.filter_eq_nil_iff.2 fun y hy => by
        simpa using fun hl => h (ltP_trans (ha'.1 y hy) hl)
      simp only [lowD, List.filter_cons, h, decide_false, Bool.false_eq_true, if_false, e, List.length_nil, List.take_zero]
theorem filter_high {l : List (Int × Int)} (ha : Asc l) {x : Int × Int} : l.filter (fun y => !decide (ltP y x)) = l.drop (lowD l x) := by
  induction l with
  | nil => rfl
  | cons a l ih =>
    have ha' := List.pairwise_cons.1 ha
    by_cases h : ltP a x
    · simp only [lowD, List.filter_cons, h, decide_true, Bool.not_true, Bool.false_eq_true, if_false, if_true, List.length_cons, List.drop_succ_cons]
      show _ = List.drop (lowD l x) l
      rw [ih ha'.2]
    · have e : l.filter (fun y => decide (ltP y x)) = [] := List.filter_eq_nil_iff.2 fun y hy => by
        simpa using fun hl => h (ltP_trans (ha'.1 y hy) hl)
      have e2 : l.filter (fun y => !decide (ltP y x)) = l := List.filter_eq_self.2 fun y hy => by
        simpa using fun hl => h (ltP_trans (ha'.1 y hy) hl)
      simp only [lowD, List.filter_cons, h, decide_false, Bool.false_eq_true, if_false, e, e2, List.length_nil, List.drop_zero, Bool.not_false, if_true]

set_option maxRecDepth 100000 in
set_option maxHeartbeats 4000000 in
theorem refsort_any (ao : Option Addr) (ps : List (Int × Int)) (n cap : Nat) (hn : Hid (ps.length = n)) (hm : n ≤ 1000000) (w : World) (hs : SlP w ao ps) :
    Calls Try.prog 88 #[.slice ao n cap] w (SortTells ps w) := by
  have HS := Lib.hid hs
  clear hs
  go_enter Try.func88, Try.ntmps88
  go_wp2_with fail
  go_loopw [3, 4] (fun v i wr => ∃ k : Nat, k ≤ n ∧ i = .int .i64 (k : Int) ∧ OwnP wr w.heap.size 31 v (sortD (ps.take k)) ∧ Below w.heap.size w wr) (fun _ i _ => n - (intOf i).toNat)
  case atStart => exact ⟨0, by omega, rfl, OwnP.nil _ _ _, Below.refl _ _⟩
  case round =>
    obtain ⟨k, hk, rfl, hown, hB⟩ := hrel
    by_cases hlt : k < n
    · obtain ⟨b, off, u, v, rfl, hbl, c0, c1, hpk⟩ := HS.out.get k (by rw [hn.out]; exact hlt)
      have d0 : wr.cell? ⟨b, off + k * 2, none⟩ = some (.int .i64 u) := (hB.cell (p := ⟨b, off + k * 2, none⟩) hbl).trans c0
      have d1 : wr.cell? ⟨b, off + k * 2 + 1, none⟩ = some (.int .i64 v) := (hB.cell (p := ⟨b, off + k * 2 + 1, none⟩) hbl).trans c1
      have hst : sortD (ps.take (k + 1)) = insD (sortD (ps.take k)) (u, v) := by
        rw [take_snocP hpk.out]; simp [sortD]
      have HST := Lib.hid hst
      have hSl : (sortD (ps.take k)).length ≤ k := Nat.le_trans (sortD_length _) (by rw [List.length_take]; omega)
      have hAs := asc_sortD (ps.take k)
      obtain ⟨S, hS⟩ := nm (sortD (ps.take k))
      rw [← hS.out] at hown hSl hAs
      rw [← hS.out] at HST
      have HA := Lib.hid hAs
      clear hst hAs
      obtain ⟨a3, cap3, rfl, hc3, hcm3, hsl3, hab3⟩ := hown.sl
      have HSL3 := Lib.hid hsl3
      obtain ⟨N, hN⟩ := nm S.length
      have HOWN : Hid (OwnP wr w.heap.size 31 (.slice a3 N cap3) S) := by show OwnP _ _ _ _ _; rw [hN.out]; exact hown
      rw [← hN.out] at hSl hc3 ⊢
      clear hown hsl3
      go_wp2_with fail
      obtain ⟨M, hM⟩ := nm (decide ((u, v) ∈ S))
      refine (refdhas_any a3 S N cap3 (hidSymm hN) (by omega) u v _ HSL3.out M hM).mono ?_; rintro e w2 ⟨rfl, hB2⟩
      have hown2 := Lib.hid (HOWN.out.below hB2)
      have hsl2 := Lib.hid (HSL3.out.below hB2)
      have hB3 := bNext hB hB2
      clear HOWN HSL3 d0 d1
      cases M
      rotate_left
      · have e : insD S (u, v) = S := by unfold insD; rw [if_pos (by simpa using hM.out.symm)]
        rw [e] at HST
        rw [← HST.out] at hown2
        clear hsl2
        have hown3 := hown2.out
        go_wp2_with fail
        go_roundw
        case rel => exact ⟨k + 1, by omega, by go_num, hown3, hB3⟩
        case measure => simp [intOf]; omega
      · have hnin : ¬ (u, v) ∈ S := by simpa using hM.out.symm
        have hins : insD S (u, v) = S.take (lowD S (u, v)) ++ (u, v) :: S.drop (lowD S (u, v)) := by
          unfold insD
          rw [if_neg hnin, filter_low HA.out, filter_high HA.out]
        have HINS := Lib.hid hins
        have hl := lowD_le S (u, v)
        obtain ⟨q, hq⟩ := nm (lowD S (u, v))
        rw [← hq.out, ← hN.out] at hl
        rw [← hq.out] at HINS
        clear hins hM
        have HNIN := Lib.hid hnin
        clear hnin
        go_upto_block 2 with fail
        go_cut [6] (fun s6 wx => s6 = .int .i64 (q : Int) ∧ Below w2.heap.size w2 wx)
        case first =>
          go_wp2_with fail
          go_loopw [6] (fun s6 wx => ∃ t : Nat, t ≤ N ∧ s6 = .int .i64 (t : Int) ∧ Below w2.heap.size w2 wx ∧ Hid (∀ j, t ≤ j → j < N → ltP (u, v) S[j]!)) (fun s6 _ => (intOf s6).toNat)
          case atStart => exact ⟨N, by omega, rfl, Below.refl _ _, by show ∀ j, _; intro j h1 h2; omega⟩
          case round =>
            obtain ⟨t, ht, rfl, hBx, hI⟩ := hrel
            have hfin : (∀ j, j < t → ¬ ltP (u, v) S[j]!) → t = q := by
              intro h
              rw [hq.out]
              refine lowD_of S (u, v) t (by rw [← hN.out]; exact ht) (fun i hi => ?_) fun i hi hl2 => ?_
              · rcases ltP_total S[i]! (u, v) with e | e | e
                · exact e
                · exfalso
                  refine HNIN.out ?_
                  rw [← e, getElem!_pos S i (by rw [← hN.out]; omega)]
                  exact List.getElem_mem _
                · exact absurd e (h i hi)
              · exact ltP_asymm (hI.out i hi (by rw [hN.out]; exact hl2))
            have FIN := Lib.hid hfin
            clear hfin
            by_cases ht0 : t = 0
            · subst ht0
              have e := FIN.out (fun j hj => absurd hj (Nat.not_lt_zero _))
              go_wp2_with fail
              all_goals
                go_meet
                exact ⟨by rw [← e]; try rfl, hBx⟩
            · have hsx := hsl2.out.below hBx
              obtain ⟨g, og, x1, x2, rfl, hgl, e0, e1, hpj⟩ := hsx.get (t - 1) (by rw [← hN.out]; omega)
              have hBq := bNext hB3 hBx
              have d0 : wr.cell? ⟨b, off + k * 2, none⟩ = some (.int .i64 u) := (hBq.cell (p := ⟨b, off + k * 2, none⟩) hbl).trans c0
              have d1 : wr.cell? ⟨b, off + k * 2 + 1, none⟩ = some (.int .i64 v) := (hBq.cell (p := ⟨b, off + k * 2 + 1, none⟩) hbl).trans c1
              obtain ⟨R, hR⟩ := nm (decide (ltP (u, v) (x1, x2)))
              have hw1 : IntKind.i64.wrap ((t : Int) - 1) = ((t - 1 : Nat) : Int) := by rw [IntWalk.i64_in _ (by omega)]; omega
              have hw2 : t - 1 < N := by omega
              have htp : 0 < t := by omega
              clear hsx
              go_wp2_with fail
              refine wp_region_still_tail 9 (by kernel_rfl) (by kernel_rfl) ?_
              simp only [List.take_succ_cons, List.take_zero, List.drop_succ_cons, List.drop_zero]
              change wpStill _ _ (World.drew _) (fun a' => wpList _ _ _ _ a' (World.drew _)) _ _
              repeat still_step
              refine wpStill_nil ?_
              clear d0 d1 e0 e1 hw1
              go_wp2_with fail
              refine (refless_any u v x1 x2 R hR _).mono ?_; rintro e w3 ⟨rfl, hB4⟩
              have hBz : Below w2.heap.size w2 w3 := bNext (below_drewN hBx 1) hB4
              cases R
              · have e := FIN.out (fun j hj hl => by
                  have h1 : ¬ ltP (u, v) (x1, x2) := by simpa using hR.out.symm
                  obtain ⟨g1, g2⟩ := get_of hpj.out
                  rcases Nat.lt_or_ge j (t - 1) with h2 | h2
                  · have := asc_mono HA.out h2 g1
                    rw [g2] at this
                    exact h1 (ltP_trans hl this)
                  · obtain rfl : j = t - 1 := by omega
                    rw [g2] at hl
                    exact h1 hl)
                go_wp2_with fail
                go_meet
                exact ⟨by rw [← e]; try rfl, hBz⟩
              · have HI : Hid (∀ j, t - 1 ≤ j → j < N → ltP (u, v) S[j]!) := by
                  show ∀ j, _
                  intro j h1 h2
                  rcases Nat.lt_or_ge j t with h3 | h3
                  · obtain rfl : j = t - 1 := by omega
                    rw [(get_of hpj.out).2]
                    simpa using hR.out.symm
                  · exact hI.out j h3 h2
                go_wp2_with fail
                go_roundw
                case rel => exact ⟨t - 1, by omega, by go_num, hBz, HI⟩
                case measure => simp [intOf]; omega
        obtain ⟨rfl, hBx⟩ := hcut
        have hBy := bNext hB3 hBx
        have hsx := hsl2.out.below hBx
        have hownx : OwnP wc w.heap.size 31 (.slice a3 N cap3) S := hown2.out.below hBx
        have hT1 : (S.take q).length = q := by rw [List.length_take, ← hN.out]; omega
        have hT2 : (S.drop q).length = N - q := by rw [List.length_drop, ← hN.out]
        have HT2 := Lib.hid hT2
        have HT1 := Lib.hid hT1
        have HNIL : OwnP wc wc.heap.size 31 (.slice none 0 0) [] := OwnP.nil _ _ _
        have dF : ∀ w9 : World, Below wc.heap.size wc w9 → w9.cell? ⟨b, off + k * 2, none⟩ = some (.int .i64 u) ∧ w9.cell? ⟨b, off + k * 2 + 1, none⟩ = some (.int .i64 v) :=
          fun w9 h => ⟨((bNext hBy h).cell (p := ⟨b, off + k * 2, none⟩) hbl).trans c0, ((bNext hBy h).cell (p := ⟨b, off + k * 2 + 1, none⟩) hbl).trans c1⟩
        have DF := Lib.hid dF
        have HSX := Lib.hid hsx
        have HBY := Lib.hid hBy
        have hwy := hBy.size
        clear hT1 hT2 dF hsx hBy hBx hown2 hsl2 hB2 hB3 c0 c1 hB
        obtain ⟨LT, hLT⟩ := nm (S.take q)
        obtain ⟨LD, hLD⟩ := nm (S.drop q)
        rw [← hLT.out, ← hLD.out] at HINS
        rw [← hLT.out] at HT1
        rw [← hLD.out] at HT2
        rcases hownx.2 with ⟨hv, hz0⟩ | ⟨g, cap', cur, hv, hgb, hgh, _⟩
        · cases hv
          obtain rfl : q = 0 := by omega
          have e1 : LT = [] := List.length_eq_zero_iff.1 HT1.out
          have e2 : LD = [] := List.length_eq_zero_iff.1 (by rw [HT2.out])
          have E1 := Lib.hid e1
          have E2 := Lib.hid e2
          clear hownx HSX e1 e2
          go_wp2_with (at_builtin; refine app_pairs rfl (.tmp 40) (.tmp 43) rfl wc.heap.size _ [] rfl HNIL none 0 0 [] rfl rfl (fun _ => rfl) (SlP.nil _ _) (by simp) (Nat.le_refl _) ?_)
          intro v1 w1 hown1 hg1
          have hB1 := own_grown HNIL (Below.refl _ _) (Nat.le_refl _) hg1
          obtain ⟨d0, d1⟩ := DF.out _ hB1
          replace hown1 : OwnP w1 wc.heap.size 31 v1 LT := by rw [E1.out]; simpa using hown1
          go_wp2_with (at_builtin; refine app_pairs rfl (.tmp 45) (.tmp 50) rfl wc.heap.size _ LT rfl (hown1.alloc _) (some ⟨w1.heap.size, 0, none⟩) 1 1 [(u, v)] rfl rfl (fun h => by cases h) (SlP.ofBlk (Blk.new w1 _ _)) (by rw [HT1.out]; omega) (Nat.le_trans hB1.size (by simp)) ?_)
          intro v2 w2 hown2 hg2
          have hB2 := own_grown (hown1.alloc _) (bNew hB1 _) (Nat.le_refl _) hg2
          clear d0 d1 hown1 hg1 hg2 hB1
          go_wp2_with (at_builtin; refine app_pairs rfl (.tmp 52) (.tmp 55) rfl wc.heap.size _ (LT ++ [(u, v)]) rfl hown2 none 0 0 LD rfl (by rw [HT2.out]) (fun _ => rfl) (by rw [E2.out]; exact SlP.nil _ _) (by rw [List.length_append, HT1.out]; simp) hB2.size ?_)
          intro v3 w3 hown3 hg3
          have hB3 := own_grown hown2 hB2 (Nat.le_refl _) hg3
          have hfin : OwnP w3 w.heap.size 31 v3 (sortD (ps.take (k + 1))) := by
            rw [HST.out, HINS.out]
            have := hown3.base hwy
            simpa using this
          have hB4 := bNext HBY.out hB3
          clear hown2 hown3 hg3 hB2 hB3
          go_wp2_with fail
          go_roundw
          case rel => exact ⟨k + 1, by omega, by go_num, hfin, hB4⟩
          case measure => simp [intOf]; omega
        · obtain ⟨rfl, rfl⟩ : a3 = some ⟨g, 0, none⟩ ∧ cap3 = cap' := by injection hv with e1 e2 e3; exact ⟨e1, e3⟩
          clear hv hgh
          have HST1 : SlP wc (some ⟨g, 0, none⟩) LT := by rw [hLT.out]; exact HSX.out.take q
          by_cases hqc : q < cap3
          · go_wp2_with (at_builtin; refine app_pairs rfl (.tmp 40) (.tmp 43) rfl wc.heap.size _ [] rfl HNIL (some ⟨g, 0, none⟩) q cap3 LT rfl HT1.out (fun h => by cases h) HST1 (by simp; omega) (Nat.le_refl _) ?_)
            intro v1 w1 hown1 hg1
            have hB1 := own_grown HNIL (Below.refl _ _) (Nat.le_refl _) hg1
            obtain ⟨d0, d1⟩ := DF.out _ hB1
            replace hown1 : OwnP w1 wc.heap.size 31 v1 LT := by simpa using hown1
            go_wp2_with (at_builtin; refine app_pairs rfl (.tmp 45) (.tmp 50) rfl wc.heap.size _ LT rfl (hown1.alloc _) (some ⟨w1.heap.size, 0, none⟩) 1 1 [(u, v)] rfl rfl (fun h => by cases h) (SlP.ofBlk (Blk.new w1 _ _)) (by rw [HT1.out]; omega) (Nat.le_trans hB1.size (by simp)) ?_)
            intro v2 w2 hown2 hg2
            have hB2 := own_grown (hown1.alloc _) (bNew hB1 _) (Nat.le_refl _) hg2
            have HSD : SlP w2 (some ⟨g, q * 2, none⟩) LD := by
              rw [hLD.out]
              have := (HSX.out.below hB2).drop q
              rwa [Nat.zero_add] at this
            clear d0 d1 hown1 hg1 hg2 hB1
            go_wp2_with (at_builtin; refine app_pairs rfl (.tmp 52) (.tmp 55) rfl wc.heap.size _ (LT ++ [(u, v)]) rfl hown2 (some ⟨g, q * 2, none⟩) (N - q) (cap3 - q) LD rfl HT2.out (fun h => by cases h) HSD (by rw [List.length_append, HT1.out]; simp; omega) hB2.size ?_)
            intro v3 w3 hown3 hg3
            have hB3 := own_grown hown2 hB2 (Nat.le_refl _) hg3
            have hfin : OwnP w3 w.heap.size 31 v3 (sortD (ps.take (k + 1))) := by
              rw [HST.out, HINS.out]
              have := hown3.base hwy
              simpa using this
            have hB4 := bNext HBY.out hB3
            clear hown2 hown3 hg3 hB2 hB3
            go_wp2_with fail
            go_roundw
            case rel => exact ⟨k + 1, by omega, by go_num, hfin, hB4⟩
            case measure => simp [intOf]; omega
          · obtain rfl : q = cap3 := by omega
            go_wp2_with (at_builtin; refine app_pairs rfl (.tmp 40) (.tmp 43) rfl wc.heap.size _ [] rfl HNIL (some ⟨g, 0, none⟩) q q LT rfl HT1.out (fun h => by cases h) HST1 (by simp; omega) (Nat.le_refl _) ?_)
            intro v1 w1 hown1 hg1
            have hB1 := own_grown HNIL (Below.refl _ _) (Nat.le_refl _) hg1
            obtain ⟨d0, d1⟩ := DF.out _ hB1
            replace hown1 : OwnP w1 wc.heap.size 31 v1 LT := by simpa using hown1
            go_wp2_with (at_builtin; refine app_pairs rfl (.tmp 45) (.tmp 50) rfl wc.heap.size _ LT rfl (hown1.alloc _) (some ⟨w1.heap.size, 0, none⟩) 1 1 [(u, v)] rfl rfl (fun h => by cases h) (SlP.ofBlk (Blk.new w1 _ _)) (by rw [HT1.out]; omega) (Nat.le_trans hB1.size (by simp)) ?_)
            intro v2 w2 hown2 hg2
            have hB2 := own_grown (hown1.alloc _) (bNew hB1 _) (Nat.le_refl _) hg2
            clear d0 d1 hown1 hg1 hg2 hB1
            go_wp2_with (at_builtin; refine app_pairs rfl (.tmp 52) (.tmp 55) rfl wc.heap.size _ (LT ++ [(u, v)]) rfl hown2 (some ⟨g, 0, none⟩) 0 0 LD rfl (by rw [HT2.out]; omega) (fun h => by cases h) (by rw [show LD = [] from List.length_eq_zero_iff.1 (by rw [HT2.out]; omega)]; exact SlP.nil _ _) (by rw [List.length_append, HT1.out]; simp; omega) hB2.size ?_)
            intro v3 w3 hown3 hg3
            have hB3 := own_grown hown2 hB2 (Nat.le_refl _) hg3
            have hfin : OwnP w3 w.heap.size 31 v3 (sortD (ps.take (k + 1))) := by
              rw [HST.out, HINS.out]
              have := hown3.base hwy
              simpa using this
            have hB4 := bNext HBY.out hB3
            clear hown2 hown3 hg3 hB2 hB3
            go_wp2_with fail
            go_roundw
            case rel => exact ⟨k + 1, by omega, by go_num, hfin, hB4⟩
            case measure => simp [intOf]; omega
    · obtain rfl : k = n := by omega
      rw [List.take_of_length_le (by rw [hn.out]; exact Nat.le_refl _)] at hown
      obtain ⟨a3, cap3, rfl, hc3, hcm3, hsl3, hab3⟩ := hown.sl
      go_wp2_with fail
      go_ret
      exact ⟨a3, cap3, rfl, hc3, hsl3, hab3, (fun h => by subst h; exact hsl3.none_len), hB⟩
end Go.Proofs.Ytfpjdmplepepjaa

/-! WSortL: A message more: what the document's Put makes of a bag. No program in sight. -/
namespace Go.Proofs.Ytfpjdmplepepjaa
open Go.RowKit

def dotOf (m : Msg5) : Dot2 := (m.node, m.n)
/-- Messages by rising names. -/
def pickM (l : List Msg5) (d : Dot2) : List Msg5 := l.filter fun m => decide (dotOf m = d)
def sortM (l : List Msg5) : List Msg5 := (sortD (l.map dotOf)).flatMap (pickM l)
theorem pickM_one : ∀ (l : List Msg5), (l.map dotOf).Nodup → ∀ m ∈ l, pickM l (dotOf m) = [m]
  | [], _, m, hm => by cases hm
  | x :: l, h, m, hm => by
    rw [List.map_cons] at h
    obtain ⟨h1, h2⟩ := List.nodup_cons.1 h
    unfold pickM
    rcases List.mem_cons.1 hm with rfl | hm
    · rw [List.filter_cons_of_pos (by simp)]
      rw [List.filter_eq_nil_iff.2 fun y hy => by
        simp only [decide_eq_true_eq]
        intro e
        exact h1 (by rw [← e]; exact List.mem_map.2 ⟨y, hy, rfl⟩)]
    · rw [List.filter_cons_of_neg (by
        simp only [decide_eq_true_eq]
        intro e
        exact h1 (by rw [e]; exact List.mem_map.2 ⟨m, hm, rfl⟩))]
      exact pickM_one l h2 m hm
theorem flat_pick {l : List Msg5} (h : (l.map dotOf).Nodup) : ∀ ds : List Dot2, (∀ d ∈ ds, d ∈ l.map dotOf) → (ds.flatMap (pickM l)).map dotOf = ds
  | [], _ => rfl
  | d :: ds, hd => by
    obtain ⟨m, hm, rfl⟩ := List.mem_map.1 (hd d (by simp))
    rw [List.flatMap_cons, pickM_one l h m hm, List.map_append, flat_pick h ds fun e he => hd e (by simp [he])]
    rfl
theorem sortM_dots {l : List Msg5} (h : (l.map dotOf).Nodup) : (sortM l).map dotOf = sortD (l.map dotOf) := flat_pick h _ fun _ hd => (mem_sortD _ _).1 hd
theorem sortM_mem {l : List Msg5} {m : Msg5} (h : m ∈ sortM l) : m ∈ l := by
  obtain ⟨d, _, h2⟩ := List.mem_flatMap.1 h
  exact (List.mem_filter.1 h2).1
theorem sortM_length {l : List Msg5} (h : (l.map dotOf).Nodup) : (sortM l).length ≤ l.length := by
  have e := congrArg List.length (sortM_dots h)
  rw [List.length_map] at e
  rw [e]
  exact Nat.le_trans (sortD_length _) (by rw [List.length_map]; exact Nat.le_refl _)
/-- Messages of a bag that may be: their names rise. -/
theorem chk_asc {g : Msg5 → Prop} {live : List Msg5} (h : Chk g (fun y m => ltP (y.node, y.n) (m.node, m.n)) live live.length) : Asc (live.map dotOf) := by
  have key : ∀ n, n ≤ live.length → Asc ((live.take n).map dotOf) := by
    intro n
    induction n with
    | zero => intro _; simp [Asc]
    | succ n ih =>
      intro hn
      have hi := ih (by omega)
      have hx : live[n]? = some live[n] := List.getElem?_eq_getElem (by omega)
      rw [List.take_succ_eq_append_getElem (by omega), List.map_append]
      cases n with
      | zero => simp [Asc]
      | succ n =>
        have hy : live[n]? = some live[n] := List.getElem?_eq_getElem (by omega)
        have hl := (h (n + 1) _ (by omega) hx).2 n _ rfl hy
        rw [List.take_succ_eq_append_getElem (by omega), List.map_append] at hi ⊢
        exact asc_snoc hi hl
  have := key live.length (Nat.le_refl _)
  rwa [List.take_length] at this
theorem asc_chk {g : Msg5 → Prop} {live : List Msg5} (h : Asc (live.map dotOf)) (hg : ∀ m ∈ live, g m) : Chk g (fun y m => ltP (y.node, y.n) (m.node, m.n)) live live.length := by
  intro i x hi hx
  refine ⟨hg x (List.mem_of_getElem? hx), fun j y hij hy => ?_⟩
  have h1 : (live.map dotOf)[i]? = some (dotOf x) := by rw [List.getElem?_map, hx]; rfl
  have h2 : (live.map dotOf)[j]? = some (dotOf y) := by rw [List.getElem?_map, hy]; rfl
  obtain ⟨g1, g2⟩ := get_of h1
  obtain ⟨g3, g4⟩ := get_of h2
  have := asc_mono h (show j < i by omega) g1
  rw [g2, g4] at this
  exact this
/-- What Put makes of a bag: its messages, its context. -/
def putM (live : List Msg5) (m : Msg5) : List Msg5 := sortM (live ++ [m])
def putB (bs cl : List Dot2) (d : Dot2) : List Dot2 := baseJ bs [] (cl ++ [d]) (nodesL ((bs ++ []) ++ (cl ++ [d])))
def putC (bs cl : List Dot2) (d : Dot2) : List Dot2 := cloudJ bs [] (cl ++ [d]) (nodesL ((bs ++ []) ++ (cl ++ [d])))
theorem put_dots {live : List Msg5} {bs cl : List Dot2} {m : Msg5} (hb : BagP live bs cl) (hn : ¬ hasD bs cl (dotOf m)) : ((live ++ [m]).map dotOf).Nodup := by
  rw [List.map_append]
  have h1 := asc_nodup (chk_asc hb.live)
  refine List.nodup_append.2 ⟨h1, by simp, fun a ha b hb2 e => ?_⟩
  obtain rfl := List.mem_singleton.1 hb2
  subst e
  obtain ⟨y, hy, e⟩ := List.mem_map.1 ha
  exact hn (by rw [← e]; exact (hb.live.all (Nat.le_refl _) y hy).2)
/-- The bag with a message more may be. -/
theorem put_bag {live : List Msg5} {bs cl : List Dot2} {m : Msg5} (hb : BagP live bs cl) (hm : mayM m) (hn : ¬ hasD bs cl (dotOf m)) : BagP (putM live m) (putB bs cl (dotOf m)) (putC bs cl (dotOf m)) := by
  obtain ⟨j1, j2⟩ := join_one hb.ctx hm.1 _ rfl
  refine ⟨j1, asc_chk ?_ fun x hx => ?_⟩
  · unfold putM
    rw [sortM_dots (put_dots hb hn)]
    exact asc_sortD _
  · rcases List.mem_append.1 (sortM_mem hx) with h | h
    · obtain ⟨g1, g2⟩ := hb.live.all (Nat.le_refl _) x h
      exact ⟨g1, (j2 _).2 (.inl g2)⟩
    · obtain rfl := List.mem_singleton.1 h
      exact ⟨hm, (j2 _).2 (.inr rfl)⟩
theorem put_lens {live : List Msg5} {bs cl : List Dot2} {m : Msg5} (hb : BagP live bs cl) (hn : ¬ hasD bs cl (dotOf m)) : (putM live m).length ≤ live.length + 1 ∧ (putB bs cl (dotOf m)).length ≤ bs.length + cl.length + 1 ∧ (putC bs cl (dotOf m)).length ≤ cl.length + 1 := by
  refine ⟨?_, ?_, ?_⟩
  · have := sortM_length (put_dots hb hn)
    simpa [putM] using this
  · refine Nat.le_trans (baseJ_length _ _ _ _) (Nat.le_trans (nodesL_length _) ?_)
    simp; omega
  · refine Nat.le_trans (cloudJ_length (nodesL_rise _)) ?_
    simp
end Go.Proofs.Ytfpjdmplepepjaa

/-! WRefNodes: The document's nodes of a context; what is seen of a node. -/
namespace Go.Proofs.Ytfpjdmplepepjaa
open Go.RowKit

/-- append of rows onto a row that a call owns; where it lies. -/
theorem app_E_at {α : Type} {enc : α → List Value} {k : Nat} (h : EncOk enc k) {st t : TypeId} {z : Value} {bytes : Nat} (hu : Try.prog.underlying st = some (.slice t)) (hinfo : (Try.prog.info? t).map (fun i => (i.zero, i.size, i.bytes)) = some (some z, k, bytes)) (hz : z.cells.size = k) (hby : bytes ≤ 64)
    {w : World} {ops : Array Oper} {rest : List Oper} {o : Oper} {a : Act} {Q : Exit → Act → World → Prop} (hgd : o.guard = none) (s x : Operand)
    (ho : o.op = .call { callee := .builtin .append, args := #[s, x], argTypes := #[st, st] })
    (base : Nat) (v : Value) (xs : List α) (hs : a.eval s = v) (hown : OwnE enc k w base t v xs)
    (ao : Option Addr) (m c : Nat) (ys : List α) (hx : a.eval x = .slice ao m c) (hq : ys.length = m) (hc : ao = none → c = 0) (hsl : SlE enc k w ao ys) (hb : xs.length + m ≤ 1000000000) (hbase : base ≤ w.heap.size)
    (hn : ∀ v' w', OwnE enc k w' base t v' (xs ++ ys) → w.grownBy w' v.ownBlock → (v'.ownBlock = v.ownBlock ∨ v'.ownBlock = some w.heap.size) → wpList Try.prog ops Q rest (a.put o.dst v') w') : wpList Try.prog ops Q (o :: rest) a w := by
  obtain ⟨i0, hi, hz0, hz1, hz2⟩ := info_parts hinfo
  cases ao with
  | none =>
    have h0 := hsl.none_len
    obtain rfl := hc rfl
    obtain rfl : m = 0 := hq.symm.trans h0
    obtain rfl := List.length_eq_zero_iff.1 h0
    refine wpList_append_own_none hgd s x _ ho base t i0 k hu hi v xs.length (flatE enc xs) hs hown hx ?_
    exact hn v w (by rw [List.append_nil]; exact hown) ⟨rfl, rfl, rfl, Nat.le_refl _, fun _ _ _ => rfl⟩ (.inl rfl)
  | some ad =>
    have h2 : (xs.length + m) * bytes ≤ 140737488355328 := Nat.le_trans (Nat.mul_le_mul hb hby) (by decide)
    refine wpList_append_own_at w hgd s x _ ho base t i0 _ k bytes hu hi hz0 hz1 hz2 hz h.pos v xs.length (flatE enc xs) hs hown ad m c (flatE enc ys) hx (by rw [h.flat, hq]) (hsl.news h) (h.flat_one ys) (by unfold maxLen; omega) h2 hbase ?_
    intro v' w' h1 h2 _ h4
    refine hn v' w' ?_ h2 h4
    show w'.ownsRow _ _ _ _ _ _
    rw [flatE_append, List.length_append, hq]
    exact h1
def eInt (z : Int) : List Value := [.int .i64 z]
theorem encInt : EncOk eInt 1 := ⟨by decide, fun _ => rfl, fun x u hu => by simp [eInt] at hu; rw [hu]; rfl⟩
theorem encDot : EncOk eDot 2 := ⟨by decide, fun _ => rfl, fun x u hu => by simp [eDot] at hu; rcases hu with rfl | rfl <;> rfl⟩
theorem OwnE.base {α : Type} {enc : α → List Value} {k : Nat} {w : World} {base base' : Nat} {t : TypeId} {v : Value} {ps : List α} (h : OwnE enc k w base t v ps) (hb : base' ≤ base) : OwnE enc k w base' t v ps := by
  refine ⟨h.1, ?_⟩
  rcases h.2 with h2 | ⟨g, cap, cur, h1, h2, h3⟩
  · exact .inl h2
  · exact .inr ⟨g, cap, cur, h1, Nat.le_trans hb h2, h3⟩
theorem OwnP.e {w : World} {base : Nat} {t : TypeId} {v : Value} {ps : List Dot2} (h : OwnP w base t v ps) : OwnE eDot 2 w base t v ps := h
theorem OwnE.p {w : World} {base : Nat} {t : TypeId} {v : Value} {ps : List Dot2} (h : OwnE eDot 2 w base t v ps) : OwnP w base t v ps := h

set_option maxRecDepth 100000 in
set_option maxHeartbeats 4000000 in
theorem refnodes_any (ab ac : Option Addr) (nb kb nc kc : Nat) (bs cl : List Dot2) (hn : Hid (bs.length = nb)) (hm : nb ≤ 100000) (hn2 : Hid (cl.length = nc)) (hm2 : nc ≤ 100000) (w : World) (hs : SlP w ab bs) (hs2 : SlP w ac cl) :
    Calls Try.prog 108 #[.agg #[.slice ab nb kb, .slice ac nc kc]] w fun e w' => ∃ v, e = .returned v ∧ OwnE eInt 1 w' w.heap.size 3 v (nodesL (bs ++ cl)) ∧ Below w.heap.size w w' := by
  obtain ⟨w0, hw0⟩ := nm (w.alloc (.cells #[.slice ab nb kb, .slice ac nc kc] 25))
  obtain ⟨x, hx⟩ := nm w.heap.size
  have Kx : Hid (Blk w0 x #[.slice ab nb kb, .slice ac nc kc] 25) := blkN hw0.out hx.out
  have HB0 : Hid (Below w.heap.size w w0) := by rw [hw0.out]; exact bOld _
  have HS1 : Hid (SlP w0 ab bs) := hs.below HB0.out
  have HS2 : Hid (SlP w0 ac cl) := hs2.below HB0.out
  clear hs hs2
  obtain ⟨ZB, hZB⟩ := nm (bs.map fun p : Dot2 => (p.1, (0 : Int)))
  obtain ⟨ZC, hZC⟩ := nm (cl.map fun p : Dot2 => (p.1, (0 : Int)))
  have hzb : Hid (ZB.length = nb) := by show _ = _; rw [hZB.out, List.length_map]; exact hn.out
  have hzc : Hid (ZC.length = nc) := by show _ = _; rw [hZC.out, List.length_map]; exact hn2.out
  obtain ⟨B0, hB0⟩ := nm w0.heap.size
  have HXL : Hid (x < B0) := by show _ < _; rw [hB0.out]; exact Kx.out.lt
  go_enter Try.func108, Try.ntmps108
  go_upto_region 1 with fail
  rw [← hw0.out, ← hx.out]
  have c0 : w0.cell? ⟨x, 0, none⟩ = some (.slice ab nb kb) := Kx.out.cell 0
  go_wp2_with fail
  clear c0
  go_loopw [3, 4] (fun u i wr => ∃ (k : Nat) (v : Value), v = u ∧ k ≤ nb ∧ i = .int .i64 (k : Int) ∧ OwnE eDot 2 wr B0 31 v (ZB.take k) ∧ Hid (Below w0.heap.size w0 wr)) (fun _ i _ => nb - (intOf i).toNat)
  case atStart => exact ⟨0, _, rfl, by omega, rfl, OwnE.nil _ _ _, Below.refl _ _⟩
  case round =>
    obtain ⟨k, v, rfl, hk, rfl, hown, hB⟩ := hrel
    have c0 : wr.cell? ⟨x, 0, none⟩ = some (.slice ab nb kb) := (Kx.out.below hB.out Kx.out.lt).cell 0
    by_cases hlt : k < nb
    · obtain ⟨b, off, p, q, rfl, hbl, d0, d1, hp⟩ := (HS1.out.below hB.out).get k (by rw [hn.out]; exact hlt)
      have htk : ZB.take (k + 1) = ZB.take k ++ [(p, 0)] := take_snocE (by rw [hZB.out, List.getElem?_map, hp.out]; rfl)
      have hlz := hzb.out
      have hbs : B0 ≤ wr.heap.size := by rw [hB0.out]; exact hB.out.size
      go_wp2_with (at_builtin; refine app_E encDot Try.underlying23 infoD rfl (by decide) rfl _ _ rfl B0 _ _ rfl (hown.alloc _) (some ⟨wr.heap.size, 0, none⟩) 1 1 [((p, 0) : Dot2)] rfl rfl (fun h => by cases h) (SlE.ofBlk encDot (Blk.new wr _ _)) (by rw [List.length_take]; omega) (Nat.le_trans hbs (by simp)) ?_)
      intro v' w2 hown2 hgrow
      have hB2 : Hid (Below w0.heap.size w0 w2) := OwnE.grownB (hown.alloc _) (bNew hB.out _) (Nat.le_of_eq hB0.out.symm) hgrow
      have hown3 : OwnE eDot 2 w2 B0 31 v' (ZB.take (k + 1)) := by rw [htk]; exact hown2
      clear hown hown2 hgrow hB htk d0 d1 c0 hlz
      go_wp2_with fail
      go_roundw
      case rel => exact ⟨k + 1, _, rfl, by omega, by go_num, hown3, hB2⟩
      case measure => simp [intOf]; omega
    · obtain rfl : k = nb := by omega
      rw [List.take_of_length_le (by rw [hzb.out]; exact Nat.le_refl _)] at hown
      have c1 : wr.cell? ⟨x, 1, none⟩ = some (.slice ac nc kc) := (Kx.out.below hB.out Kx.out.lt).cell 1
      rename World => wA
      have HBA : Hid (Below w0.heap.size w0 wA) := hB
      go_wp2_with fail
      clear c0 c1 hlt
      go_loopw [3, 5] (fun u i wr => ∃ (k : Nat) (v : Value), v = u ∧ k ≤ nc ∧ i = .int .i64 (k : Int) ∧ OwnE eDot 2 wr B0 31 v (ZB ++ ZC.take k) ∧ Hid (Below w0.heap.size w0 wr)) (fun _ i _ => nc - (intOf i).toNat)
      case atStart => exact ⟨0, _, rfl, by omega, rfl, by rw [List.take_zero, List.append_nil]; exact hown, HBA⟩
      case round =>
        clear hown hB
        obtain ⟨j, v2, rfl, hj, rfl, hown, hB⟩ := hrel
        have c1 : wr.cell? ⟨x, 1, none⟩ = some (.slice ac nc kc) := (Kx.out.below hB.out Kx.out.lt).cell 1
        by_cases hlt2 : j < nc
        · obtain ⟨b, off, p, q, rfl, hbl, d0, d1, hp⟩ := (HS2.out.below hB.out).get j (by rw [hn2.out]; exact hlt2)
          have htk : ZC.take (j + 1) = ZC.take j ++ [(p, 0)] := take_snocE (by rw [hZC.out, List.getElem?_map, hp.out]; rfl)
          have hlz := hzb.out
          have hlz2 := hzc.out
          have hbs : B0 ≤ wr.heap.size := by rw [hB0.out]; exact hB.out.size
          go_wp2_with (at_builtin; refine app_E encDot Try.underlying23 infoD rfl (by decide) rfl _ _ rfl B0 _ _ rfl (hown.alloc _) (some ⟨wr.heap.size, 0, none⟩) 1 1 [((p, 0) : Dot2)] rfl rfl (fun h => by cases h) (SlE.ofBlk encDot (Blk.new wr _ _)) (by rw [List.length_append, List.length_take]; omega) (Nat.le_trans hbs (by simp)) ?_)
          intro v' w2 hown2 hgrow
          have hB2 : Hid (Below w0.heap.size w0 w2) := OwnE.grownB (hown.alloc _) (bNew hB.out _) (Nat.le_of_eq hB0.out.symm) hgrow
          have hown3 : OwnE eDot 2 w2 B0 31 v' (ZB ++ ZC.take (j + 1)) := by rw [htk]; first | exact hown2 | (rw [← List.append_assoc]; exact hown2)
          clear hown hown2 hgrow hB htk d0 d1 c1 hlz hlz2
          go_wp2_with fail
          go_roundw
          case rel => exact ⟨j + 1, _, rfl, by omega, by go_num, hown3, hB2⟩
          case measure => simp [intOf]; omega
        · obtain rfl : j = nc := by omega
          rw [List.take_of_length_le (by rw [hzc.out]; exact Nat.le_refl _)] at hown
          obtain ⟨ao, cap, rfl, _, _, hsl, _, _⟩ := hown.sl encDot
          have HBE : Hid (Below w0.heap.size w0 wr) := hB
          obtain ⟨L, hL⟩ := nm (ZB ++ ZC)
          rw [← hL.out] at hsl ⊢
          have hLl : L.length ≤ 200000 := by rw [hL.out, List.length_append, hzb.out, hzc.out]; omega
          obtain ⟨ln, hln⟩ := nm L.length
          rw [← hln.out]
          have HSL := Lib.hid hsl.pairs
          clear hown hsl hB
          go_wp2_with fail
          refine (refsort_any ao L ln cap (show L.length = ln from hln.out.symm) (by rw [hln.out]; omega) _ HSL.out).mono ?_
          rintro e w3 ⟨ao3, cap3, rfl, _, hsl3, _, _, hB3⟩
          have HS3 : Hid (SlP w3 ao3 (sortD L)) := hsl3
          have HB3 : Hid (Below w0.heap.size w0 w3) := bNext HBE.out hB3
          obtain ⟨m, hmm⟩ := nm (sortD L).length
          rw [← hmm.out]
          have hml : m ≤ 200000 := by rw [hmm.out]; exact Nat.le_trans (sortD_length L) hLl
          clear hsl3 hB3 HSL c1
          go_wp2_with fail
          obtain ⟨ZI, hZI⟩ := nm ((sortD L).map fun p : Dot2 => p.1)
          have hzi : Hid (ZI.length = m) := by show _ = _; rw [hZI.out, List.length_map]; exact hmm.out.symm
          go_loopw [6, 7] (fun u i wr => ∃ (k : Nat) (v : Value), v = u ∧ k ≤ m ∧ i = .int .i64 (k : Int) ∧ OwnE eInt 1 wr w3.heap.size 3 v (ZI.take k) ∧ Hid (Below w3.heap.size w3 wr)) (fun _ i _ => m - (intOf i).toNat)
          case atStart => exact ⟨0, _, rfl, by omega, rfl, OwnE.nil _ _ _, Below.refl _ _⟩
          case round =>
            obtain ⟨i, v4, rfl, hi, rfl, hown, hB⟩ := hrel
            by_cases hlt3 : i < m
            · obtain ⟨b, off, p, q, rfl, hbl, d0, d1, hp⟩ := (HS3.out.below hB.out).get i (by rw [← hmm.out]; exact hlt3)
              have htk : ZI.take (i + 1) = ZI.take i ++ [p] := take_snocE (by rw [hZI.out, List.getElem?_map, hp.out]; rfl)
              have hlz := hzi.out
              have hbs : w3.heap.size ≤ wr.heap.size := hB.out.size
              go_wp2_with (at_builtin; refine app_E encInt Try.underlying60 infoInt rfl (by decide) rfl _ _ rfl w3.heap.size _ _ rfl (hown.alloc _) (some ⟨wr.heap.size, 0, none⟩) 1 1 [p] rfl rfl (fun h => by cases h) (SlE.ofBlk encInt (Blk.new wr _ _)) (by rw [List.length_take]; omega) (Nat.le_trans hbs (by simp)) ?_)
              intro v' w4 hown2 hgrow
              have hB2 : Hid (Below w3.heap.size w3 w4) := OwnE.grownB (hown.alloc _) (bNew hB.out _) (Nat.le_refl _) hgrow
              have hown3 : OwnE eInt 1 w4 w3.heap.size 3 v' (ZI.take (i + 1)) := by rw [htk]; exact hown2
              clear hown hown2 hgrow hB htk d0 d1 hlz
              go_wp2_with fail
              go_roundw
              case rel => exact ⟨i + 1, _, rfl, by omega, by go_num, hown3, hB2⟩
              case measure => simp [intOf]; omega
            · obtain rfl : i = m := by omega
              rw [List.take_of_length_le (by rw [hzi.out]; exact Nat.le_refl _)] at hown
              go_wp2_with fail
              go_ret
              refine ⟨_, rfl, ?_, bNext HB0.out (bNext HB3.out hB.out)⟩
              rw [show nodesL (bs ++ cl) = ZI from by rw [hZI.out, hL.out, hZB.out, hZC.out, nodesL, List.map_append]]
              exact hown.base (Nat.le_trans HB0.out.size HB3.out.size)

/-- Of names of one node: step by step. -/
theorem runD_step {L : List Dot2} {k : Nat} {p : Dot2} (h : L[k]? = some p) (u : Int) : runD (L.drop k) u = if p.2 = u + 1 then runD (L.drop (k + 1)) (u + 1) else if u < p.2 then ((runD (L.drop (k + 1)) u).1, p :: (runD (L.drop (k + 1)) u).2) else runD (L.drop (k + 1)) u := by
  obtain ⟨h1, h2⟩ := List.getElem?_eq_some_iff.1 h
  rw [List.drop_eq_getElem_cons h1, h2, runD]

set_option maxRecDepth 100000 in
set_option maxHeartbeats 4000000 in
theorem refofn_any (z u : Int) (ao : Option Addr) (n cap : Nat) (C : List Dot2) (hn : Hid (C.length = n)) (hm : n ≤ 100000) (hd : Hid (∀ p ∈ C, dotP p)) (hu0 : 0 ≤ u) (hu : u ≤ 1099511627776) (w : World) (hs : SlP w ao C) :
    Calls Try.prog 109 #[.int .i64 z, .int .i64 u, .slice ao n cap] w fun e w' => ∃ v, e = .returned (.tuple #[.int .i64 (runD (ofN C z) u).1, v]) ∧ OwnE eDot 2 w' w.heap.size 31 v (runD (ofN C z) u).2 ∧ Below w.heap.size w w' := by
  have HS : Hid (SlP w ao C) := hs
  clear hs
  obtain ⟨L, hL⟩ := nm (ofN C z)
  rw [← hL.out]
  have hll : L.length ≤ n := by
    rw [hL.out, ofN]
    exact Nat.le_trans (List.length_filter_le _ _) (Nat.le_trans (sortD_length _) (Nat.le_of_eq hn.out))
  have HLD : Hid (∀ p ∈ L, 1 ≤ p.2 ∧ p.2 ≤ 1099511627776) := by
    show ∀ p ∈ L, _
    intro p hp
    rw [hL.out] at hp
    have := (hd.out p (mem_ofN.1 hp).1).le
    omega
  obtain ⟨S, hS⟩ := nm (sortD C)
  obtain ⟨sn, hsn⟩ := nm S.length
  have hsl : sn ≤ n := by rw [hsn.out, hS.out]; exact Nat.le_trans (sortD_length _) (Nat.le_of_eq hn.out)
  have HFL : Hid (S.filter (fun p => decide (p.1 = z)) = L) := by show _ = _; rw [hS.out, hL.out]; rfl
  obtain ⟨R, hR⟩ := nm (runD L u)
  rw [← hR.out]
  go_enter Try.func109, Try.ntmps109
  go_wp2_with fail
  refine (refsort_any ao C n cap hn (by omega) _ HS.out).mono ?_
  rintro e w1 ⟨ao1, cap1, rfl, _, hsl1, _, _, hB1⟩
  rw [← hS.out] at hsl1 ⊢
  rw [← hsn.out]
  have HS1 : Hid (SlP w1 ao1 S) := hsl1
  have HB1 : Hid (Below w.heap.size w w1) := hB1
  clear hsl1 hB1
  go_wp2_with fail
  refine (refof_any ao1 S sn cap1 (show S.length = sn from hsn.out.symm) (by omega) z _ HS1.out).mono ?_
  rintro e w2 ⟨v0, rfl, hown0, hB2⟩
  rw [HFL.out] at hown0
  obtain ⟨ao2, cap2, rfl, _, _, hsl2, _, _⟩ := (show OwnE eDot 2 w2 _ _ _ L from hown0).sl encDot
  obtain ⟨ln, hln⟩ := nm L.length
  rw [← hln.out] at hll ⊢
  have HS2 : Hid (SlP w2 ao2 L) := hsl2.pairs
  have HB2 : Hid (Below w.heap.size w w2) := bNext HB1.out hB2
  clear hown0 hB2 hsl2
  go_wp2_with fail
  go_loopw [1, 9, 10] (fun c o i wr => ∃ (k : Nat) (x : Int) (v : Value) (out : List Dot2), v = o ∧ k ≤ ln ∧ i = .int .i64 (k : Int) ∧ c = .int .i64 x ∧ 0 ≤ x ∧ x ≤ 1099511627776 + k ∧ out.length ≤ k ∧ OwnE eDot 2 wr w2.heap.size 31 v out ∧ Hid (Below w2.heap.size w2 wr) ∧ Hid (R = ((runD (L.drop k) x).1, out ++ (runD (L.drop k) x).2))) (fun _ _ i _ => ln - (intOf i).toNat)
  case atStart => exact ⟨0, u, _, [], rfl, by omega, rfl, rfl, hu0, by omega, by simp, OwnE.nil _ _ _, Below.refl _ _, by show _ = _; rw [List.drop_zero, List.nil_append]; exact hR.out⟩
  case round =>
    obtain ⟨k, x, v, out, rfl, hk, rfl, rfl, hx0, hxm, hol, hown, hB, hI⟩ := hrel
    by_cases hlt : k < ln
    · obtain ⟨b, off, p, q, rfl, hbl, d0, d1, hp⟩ := (HS2.out.below hB.out).get k (by rw [← hln.out]; exact hlt)
      have hst := runD_step hp.out x
      simp only at hst
      have hwx : IntKind.i64.wrap (x + 1) = x + 1 := by rw [IntKind.wrap_i64]; omega
      have HPQ : Hid (1 ≤ q ∧ q ≤ 1099511627776) := HLD.out (p, q) (List.mem_of_getElem? hp.out)
      by_cases he : q = x + 1
      · have heb : (q == x + 1) = true := by simp [he]
        rw [if_pos he] at hst
        have HI : Hid (R = ((runD (L.drop (k + 1)) (x + 1)).1, out ++ (runD (L.drop (k + 1)) (x + 1)).2)) := by show _ = _; rw [hI.out, hst]
        clear hst he hI
        go_wp2_with fail
        go_roundw
        case rel => exact ⟨k + 1, x + 1, _, out, rfl, by omega, by go_num, by first | rfl | go_num, by omega, by omega, by omega, hown, hB, HI⟩
        case measure => simp [intOf]; omega
      · have heb : (q == x + 1) = false := by simp [he]
        rw [if_neg he] at hst
        by_cases hg : x < q
        · have hgd : decide (x < q) = true := decide_eq_true hg
          rw [if_pos hg] at hst
          have HI : Hid (R = ((runD (L.drop (k + 1)) x).1, (out ++ [(p, q)]) ++ (runD (L.drop (k + 1)) x).2)) := by show _ = _; rw [hI.out, hst]; simp
          clear hst he hI hg
          go_wp2_with (at_builtin; refine app_E encDot Try.underlying23 infoD rfl (by decide) rfl _ _ rfl w2.heap.size _ out rfl (hown.alloc _) (some ⟨wr.heap.size, 0, none⟩) 1 1 [((p, q) : Dot2)] rfl rfl (fun h => by cases h) (SlE.ofBlk encDot (Blk.new wr _ _)) (by omega) (Nat.le_trans hB.out.size (by simp)) ?_)
          intro v' w4 hown2 hgrow
          have hB2 : Hid (Below w2.heap.size w2 w4) := OwnE.grownB (hown.alloc _) (bNew hB.out _) (Nat.le_refl _) hgrow
          clear hown hgrow hB d0 d1
          go_wp2_with fail
          go_roundw
          case rel => exact ⟨k + 1, x, _, out ++ [(p, q)], rfl, by omega, by go_num, rfl, hx0, by omega, by simp; omega, hown2, hB2, HI⟩
          case measure => simp [intOf]; omega
        · have hgd : decide (x < q) = false := decide_eq_false hg
          rw [if_neg hg] at hst
          have HI : Hid (R = ((runD (L.drop (k + 1)) x).1, out ++ (runD (L.drop (k + 1)) x).2)) := by show _ = _; rw [hI.out, hst]
          clear hst he hI hg
          go_wp2_with fail
          go_roundw
          case rel => exact ⟨k + 1, x, _, out, rfl, by omega, by go_num, rfl, hx0, by omega, by omega, hown, hB, HI⟩
          case measure => simp [intOf]; omega
    · obtain rfl : k = ln := by omega
      have hR2 : R = (x, out) := by
        rw [hI.out, List.drop_of_length_le (by rw [← hln.out]; exact Nat.le_refl _)]
        simp [runD]
      clear hI
      go_wp2_with fail
      go_ret2
      rw [hR2]
      exact ⟨_, rfl, hown.base HB2.out.size, bNext HB2.out hB.out⟩
end Go.Proofs.Ytfpjdmplepepjaa

/-! WRefCheck: The document's checks of catalogues and views. -/
namespace Go.Proofs.Ytfpjdmplepepjaa
open Go.RowKit


end Go.Proofs.Ytfpjdmplepepjaa

/-! WRefJoin: The document's join of two contexts. -/
namespace Go.Proofs.Ytfpjdmplepepjaa
open Go.RowKit

theorem Tri.grown {α : Type} {enc : α → List Value} {k g : Nat} {wa w w' : World} {base : Nat} {t : TypeId} {v : Value} {xs : List α} (h : Tri g g g wa w) (own : OwnE enc k w base t v xs) (hb : wa.heap.size ≤ base) (hg : w.grownBy w' v.ownBlock) : Tri g g g wa w' :=
  ⟨Nat.le_trans h.size hg.size, fun i hi h1 h2 h3 => by
    rw [hg.block i (Nat.lt_of_lt_of_le hi h.size) (by intro e; have := (World.ownsRow.lt own i e.symm).1; omega)]
    exact h.block i hi h1 h2 h3⟩
theorem triCell {o : Nat} {a b : World} (h : Tri o o o a b) {p : Addr} (hp : p.block < a.heap.size) (h1 : p.block ≠ o) : b.cell? p = a.cell? p := by
  unfold World.cell?
  rw [h.block p.block hp h1 h1 h1]
theorem Tri.thenBelow {o B : Nat} {a b c : World} (h : Tri o o o a b) (hB : a.heap.size ≤ B) (g : Below B b c) : Tri o o o a c :=
  ⟨Nat.le_trans h.size g.size, fun i hi h1 h2 h3 => (g.block i (Nat.lt_of_lt_of_le hi hB)).trans (h.block i hi h1 h2 h3)⟩
theorem OwnE.grew {α : Type} {enc : α → List Value} {k B : Nat} {w w' : World} {base : Nat} {t : TypeId} {v : Value} {xs : List α} (own : OwnE enc k w base t v xs) (hB : B ≤ w.heap.size) (hb : B ≤ base) (hg : w.grownBy w' v.ownBlock) : Below B w w' :=
  (Below.refl B w).grown hg hB (fun kk h => Nat.le_trans hb (World.ownsRow.lt own kk h).1)
theorem OwnE.grewBlk {α : Type} {enc : α → List Value} {k : Nat} {w w' : World} {base o : Nat} {t t' : TypeId} {v : Value} {xs : List α} {cs : Array Value} {ob : Obj} (own : OwnE enc k w base t v xs) (ho : o < base) (_hb : base ≤ w.heap.size) (hk : Blk w o cs t') (hg : ((w.alloc ob).drew).grownBy w' v.ownBlock) : Blk w' o cs t' :=
  (hg.block o (by have := hk.lt; simp [World.drew]; omega) (by intro e; have := (World.ownsRow.lt own o e.symm).1; omega)).trans (hk.alloc ob)
structure JSt (w : World) (B0 x y r g : Nat) (A B G : Array Value) (wx : World) : Prop where
  ka : Blk wx x A 25
  kb : Blk wx y B 25
  kr : Blk wx r #[.slice none 0 0, .slice none 0 0] 25
  kg : Blk wx g G 25
  below : Below w.heap.size w wx
  size : B0 ≤ wx.heap.size
theorem JSt.grow {w wa wb : World} {B0 x y r g : Nat} {A B G : Array Value} (h : JSt w B0 x y r g A B G wa) (hb : Below B0 wa wb) (hlt : w.heap.size ≤ B0 ∧ x < B0 ∧ y < B0 ∧ r < B0 ∧ g < B0) : JSt w B0 x y r g A B G wb :=
  ⟨h.ka.below hb hlt.2.1, h.kb.below hb hlt.2.2.1, h.kr.below hb hlt.2.2.2.1, h.kg.below hb hlt.2.2.2.2, h.below.trans (hb.mono hlt.1), Nat.le_trans h.size hb.size⟩
theorem JSt.setG {w wa : World} {B0 x y r g : Nat} {A B G : Array Value} (h : JSt w B0 x y r g A B G wa) (hw : w.heap.size ≤ g) (hn : x ≠ g ∧ y ≠ g ∧ r ≠ g) (i : Nat) (v : Value) : JSt w B0 x y r g A B (G.setIfInBounds i v) (wa.setCell ⟨g, i, none⟩ v) :=
  ⟨h.ka.setOther hn.1 v, h.kb.setOther hn.2.1 v, h.kr.setOther hn.2.2 v, h.kg.set i v, h.below.setCell (p := ⟨g, i, none⟩) hw v, by simpa [World.setCell] using h.size⟩
/-- What Join tells. -/
def JoinTells (w : World) (b c : List Dot2) (e : Ending) (w' : World) : Prop :=
  ∃ (ab ac : Option Addr) (nb kb nc kc : Nat), e = .returned (.agg #[.slice ab nb kb, .slice ac nc kc]) ∧ (b.length = nb ∧ c.length = nc ∧ nb ≤ kb ∧ nc ≤ kc) ∧ (SlP w' ab b ∧ SlP w' ac c) ∧ (ab = none → kb = 0) ∧ (ac = none → kc = 0) ∧ (∀ a, ab = some a → w.heap.size ≤ a.block) ∧ (∀ a, ac = some a → w.heap.size ≤ a.block) ∧ Below w.heap.size w w'
theorem baseD_in {bs : List Dot2} (h : ∀ p ∈ bs, dotP p) (z : Int) : 0 ≤ baseD bs z ∧ baseD bs z ≤ 1099511627776 := by
  rcases baseD_mem (bs := bs) (z := z) with e | ⟨p, hp, _, e⟩
  · rw [e]; omega
  · have := (h p hp).le; rw [e]; omega

set_option maxRecDepth 100000 in
set_option maxHeartbeats 16000000 in
theorem refjoin_any (aa ac ab ad : Option Addr) (na ka nc kc nb kb nd kd : Nat) (bs cl bs2 cl2 : List Dot2) (hna : Hid (bs.length = na)) (hnc : Hid (cl.length = nc)) (hnb : Hid (bs2.length = nb)) (hnd : Hid (cl2.length = nd)) (hma : na ≤ 10000) (hmc : nc ≤ 10000) (hmb : nb ≤ 10000) (hmd : nd ≤ 10000)
    (hka : Hid (aa = none → ka = 0)) (hkc : Hid (ac = none → kc = 0)) (hkb : Hid (ab = none → kb = 0)) (hkd : Hid (ad = none → kd = 0)) (hd1 : Hid (∀ p ∈ bs, dotP p)) (hd2 : Hid (∀ p ∈ bs2, dotP p)) (hd3 : Hid (∀ p ∈ cl ++ cl2, dotP p)) (w : World) (hs1 : SlP w aa bs) (hs2 : SlP w ac cl) (hs3 : SlP w ab bs2) (hs4 : SlP w ad cl2) :
    Calls Try.prog 89 #[.agg #[.slice aa na ka, .slice ac nc kc], .agg #[.slice ab nb kb, .slice ad nd kd]] w (JoinTells w (baseJ bs bs2 (cl ++ cl2) (nodesL ((bs ++ bs2) ++ (cl ++ cl2)))) (cloudJ bs bs2 (cl ++ cl2) (nodesL ((bs ++ bs2) ++ (cl ++ cl2))))) := by
  have S1 := Lib.hid hs1
  have S2 := Lib.hid hs2
  have S3 := Lib.hid hs3
  have S4 := Lib.hid hs4
  clear hs1 hs2 hs3 hs4
  obtain ⟨BB, hBB⟩ := nm (bs ++ bs2)
  obtain ⟨C, hC⟩ := nm (cl ++ cl2)
  rw [← hC.out] at hd3
  rw [← hBB.out, ← hC.out]
  obtain ⟨N, hN⟩ := nm (nodesL (BB ++ C))
  rw [← hN.out]
  obtain ⟨RB, hRB⟩ := nm (baseJ bs bs2 C N)
  obtain ⟨RC, hRC⟩ := nm (cloudJ bs bs2 C N)
  rw [← hRB.out, ← hRC.out]
  obtain ⟨wa, hwa⟩ := nm (w.alloc (.cells #[.slice aa na ka, .slice ac nc kc] 25))
  obtain ⟨wb, hwb⟩ := nm (wa.alloc (.cells #[.slice ab nb kb, .slice ad nd kd] 25))
  obtain ⟨wc, hwc⟩ := nm (wb.alloc (.cells #[.slice none 0 0, .slice none 0 0] 25))
  obtain ⟨w0, hw0⟩ := nm (wc.alloc (.cells #[.slice none 0 0, .slice none 0 0] 25))
  obtain ⟨x, hx⟩ := nm w.heap.size
  obtain ⟨y, hy⟩ := nm wa.heap.size
  obtain ⟨r, hr⟩ := nm wb.heap.size
  obtain ⟨g, hg⟩ := nm wc.heap.size
  obtain ⟨B0, hB0⟩ := nm w0.heap.size
  have HY : Hid (x + 1 = y) := by show _ = _; rw [hy.out, hwa.out, hx.out]; simp
  have HR : Hid (y + 1 = r) := by show _ = _; rw [hr.out, hwb.out, hy.out]; simp
  have HG : Hid (r + 1 = g) := by show _ = _; rw [hg.out, hwc.out, hr.out]; simp
  have HB0 : Hid (g + 1 = B0) := by show _ = _; rw [hB0.out, hw0.out, hg.out]; simp
  have HLT : Hid (w.heap.size ≤ B0 ∧ x < B0 ∧ y < B0 ∧ r < B0 ∧ g < B0) := by show _ ∧ _; have := hx.out; have := HY.out; have := HR.out; have := HG.out; have := HB0.out; omega
  have HNG : Hid (x ≠ g ∧ y ≠ g ∧ r ≠ g) := by show _ ∧ _; have := HY.out; have := HR.out; have := HG.out; omega
  have HWG : Hid (w.heap.size ≤ g) := by show _ ≤ _; have := hx.out; have := HY.out; have := HR.out; have := HG.out; omega
  have HWR0 : Hid (w.heap.size ≤ r) := by show _ ≤ _; have := hx.out; have := HY.out; have := HR.out; omega
  have HJ : Hid (JSt w B0 x y r g #[.slice aa na ka, .slice ac nc kc] #[.slice ab nb kb, .slice ad nd kd] #[.slice none 0 0, .slice none 0 0] w0) := ⟨by rw [hw0.out, hwc.out, hwb.out]; exact ((blkN hwa.out hx.out).alloc _ |>.alloc _ |>.alloc _), by rw [hw0.out, hwc.out]; exact ((blkN hwb.out hy.out).alloc _ |>.alloc _), by rw [hw0.out]; exact (blkN hwc.out hr.out).alloc _, blkN hw0.out hg.out, by rw [hw0.out, hwc.out, hwb.out, hwa.out]; exact bNew (bNew (bNew (bOld _) _) _) _, Nat.le_of_eq hB0.out⟩
  go_enter Try.func89, Try.ntmps89
  go_upto_region 2 with fail
  rw [← hwa.out, ← hwb.out, ← hwc.out, ← hw0.out, ← hx.out]
  rw [HY.out, HR.out, HG.out]
  clear hwa hwb hwc hx hy hr hg
  have cg : w0.cell? ⟨g, 0, none⟩ = some (.slice none 0 0) := HJ.out.kg.cell 0
  have cb : w0.cell? ⟨x, 0, none⟩ = some (.slice aa na ka) := HJ.out.ka.cell 0
  have hbd : ([] : List Dot2).length ≤ 10000 := (by simp)
  have hbs : B0 ≤ w0.heap.size := HJ.out.size
  go_wp2_with (at_builtin; refine app_E_at encDot Try.underlying23 infoD rfl (by decide) rfl _ _ rfl B0 _ ([] : List Dot2) rfl (show OwnE eDot 2 w0 B0 31 (.slice none 0 0) ([] : List Dot2) from OwnE.nil _ _ _) aa na ka bs rfl hna.out hka.out (S1.out.below HJ.out.below).row (by omega) hbs ?_)
  intro v1 w1 own1 grow1 at1
  have HG1 : Hid (Below B0 w0 w1) := OwnE.grew (B := B0) (show OwnE eDot 2 w0 B0 31 (.slice none 0 0) ([] : List Dot2) from OwnE.nil _ _ _) HJ.out.size (Nat.le_refl _) grow1
  replace HJ := Lib.hid (HJ.out.grow HG1.out HLT.out)
  clear cg cb hbd hbs at1 grow1
  try rw [List.nil_append] at own1
  obtain ⟨a2, c2, rfl, hle1, -, -, hno1, hat1⟩ := own1.sl encDot
  have HNO2 : Hid (a2 = none → c2 = 0) := hno1
  have HAT2 : Hid (∀ a, a2 = some a → B0 ≤ a.block) := hat1
  obtain ⟨n2, hn2⟩ := nm (bs).length
  rw [← hn2.out] at own1 hle1 ⊢
  have HLE2 : Hid (n2 ≤ c2) := hle1
  have cg : w1.cell? ⟨g, 0, none⟩ = some (.slice none 0 0) := HJ.out.kg.cell 0
  have fg : w1.frozen? ⟨g, 0, none⟩ = false := HJ.out.kg.free 0
  obtain ⟨w2, hw2⟩ := nm (w1.setCell ⟨g, 0, none⟩ (.slice a2 n2 c2))
  have HO1 : Hid (OwnE eDot 2 w2 B0 31 (.slice a2 n2 c2) (bs)) := by rw [hw2.out]; exact own1.kept (Kept.set (Kept.refl g _) 0 _) HLT.out.2.2.2.2
  replace HJ := Lib.hid (HJ.out.setG HWG.out HNG.out 0 (.slice a2 n2 c2))
  rw [← hw2.out] at HJ
  go_upto_region 3 with fail
  rw [← hw2.out]
  clear cg fg own1 hle1 hno1 hat1 hw2 HG1
  have cg : w2.cell? ⟨g, 0, none⟩ = some (.slice a2 n2 c2) := HJ.out.kg.cell 0
  have cb : w2.cell? ⟨y, 0, none⟩ = some (.slice ab nb kb) := HJ.out.kb.cell 0
  have hbd : bs.length ≤ 10000 := (by rw [hna.out]; omega)
  have hbs : B0 ≤ w2.heap.size := HJ.out.size
  go_wp2_with (at_builtin; refine app_E_at encDot Try.underlying23 infoD rfl (by decide) rfl _ _ rfl B0 _ bs rfl HO1.out ab nb kb bs2 rfl hnb.out hkb.out (S3.out.below HJ.out.below).row (by omega) hbs ?_)
  intro v1 w3 own1 grow1 at1
  have HG1 : Hid (Below B0 w2 w3) := OwnE.grew (B := B0) HO1.out HJ.out.size (Nat.le_refl _) grow1
  replace HJ := Lib.hid (HJ.out.grow HG1.out HLT.out)
  clear cg cb hbd hbs at1 grow1
  obtain ⟨a3, c3, rfl, hle1, -, -, hno1, hat1⟩ := own1.sl encDot
  have HNO3 : Hid (a3 = none → c3 = 0) := hno1
  have HAT3 : Hid (∀ a, a3 = some a → B0 ≤ a.block) := hat1
  obtain ⟨n3, hn3⟩ := nm (bs ++ bs2).length
  rw [← hn3.out] at own1 hle1 ⊢
  have HLE3 : Hid (n3 ≤ c3) := hle1
  have cg : w3.cell? ⟨g, 0, none⟩ = some (.slice a2 n2 c2) := HJ.out.kg.cell 0
  have fg : w3.frozen? ⟨g, 0, none⟩ = false := HJ.out.kg.free 0
  obtain ⟨w4, hw4⟩ := nm (w3.setCell ⟨g, 0, none⟩ (.slice a3 n3 c3))
  have HO2 : Hid (OwnE eDot 2 w4 B0 31 (.slice a3 n3 c3) (bs ++ bs2)) := by rw [hw4.out]; exact own1.kept (Kept.set (Kept.refl g _) 0 _) HLT.out.2.2.2.2
  replace HJ := Lib.hid (HJ.out.setG HWG.out HNG.out 0 (.slice a3 n3 c3))
  rw [← hw4.out] at HJ
  go_upto_region 4 with fail
  rw [← hw4.out]
  clear cg fg own1 hle1 hno1 hat1 hw4 HG1
  obtain ⟨B1, hB1⟩ := nm w4.heap.size
  have hB01 : B0 ≤ B1 := by rw [hB1.out]; exact HJ.out.size
  have HGB : Hid (g < B1) := by show _ < _; have := HLT.out; omega
  rw [← hBB.out] at HO2 hn3
  have HBB : Hid (SlE eDot 2 w4 a3 BB) := by
    obtain ⟨_, _, e, -, -, h, -, -⟩ := HO2.out.sl encDot
    cases e
    exact h
  have HT : Hid (Tri g g g w4 w4) := Tri.refl _ _ _ _
  clear HO1 HO2
  have cg : w4.cell? ⟨g, 1, none⟩ = some (.slice none 0 0) := HJ.out.kg.cell 1
  have cb : w4.cell? ⟨x, 1, none⟩ = some (.slice ac nc kc) := HJ.out.ka.cell 1
  have hbd : ([] : List Dot2).length ≤ 10000 := (by simp)
  have hbs : B1 ≤ w4.heap.size := Nat.le_of_eq hB1.out
  go_wp2_with (at_builtin; refine app_E_at encDot Try.underlying23 infoD rfl (by decide) rfl _ _ rfl B1 _ ([] : List Dot2) rfl (show OwnE eDot 2 w4 B1 31 (.slice none 0 0) ([] : List Dot2) from OwnE.nil _ _ _) ac nc kc cl rfl hnc.out hkc.out (S2.out.below HJ.out.below).row (by omega) hbs ?_)
  intro v1 w5 own1 grow1 at1
  have HG1 : Hid (Below B0 w4 w5) := OwnE.grew (B := B0) (show OwnE eDot 2 w4 B1 31 (.slice none 0 0) ([] : List Dot2) from OwnE.nil _ _ _) HJ.out.size hB01 grow1
  replace HT := Lib.hid (HT.out.grown (base := B1) (show OwnE eDot 2 w4 B1 31 (.slice none 0 0) ([] : List Dot2) from OwnE.nil _ _ _) (Nat.le_of_eq hB1.out.symm) grow1)
  replace HJ := Lib.hid (HJ.out.grow HG1.out HLT.out)
  clear cg cb hbd hbs at1 grow1
  try rw [List.nil_append] at own1
  obtain ⟨a4, c4, rfl, hle1, -, -, hno1, hat1⟩ := own1.sl encDot
  have HNO4 : Hid (a4 = none → c4 = 0) := hno1
  have HAT4 : Hid (∀ a, a4 = some a → B1 ≤ a.block) := hat1
  obtain ⟨n4, hn4⟩ := nm (cl).length
  rw [← hn4.out] at own1 hle1 ⊢
  have HLE4 : Hid (n4 ≤ c4) := hle1
  have cg : w5.cell? ⟨g, 1, none⟩ = some (.slice none 0 0) := HJ.out.kg.cell 1
  have fg : w5.frozen? ⟨g, 1, none⟩ = false := HJ.out.kg.free 1
  obtain ⟨w6, hw6⟩ := nm (w5.setCell ⟨g, 1, none⟩ (.slice a4 n4 c4))
  have HO1 : Hid (OwnE eDot 2 w6 B1 31 (.slice a4 n4 c4) (cl)) := by rw [hw6.out]; exact own1.kept (Kept.set (Kept.refl g _) 1 _) HGB.out
  replace HJ := Lib.hid (HJ.out.setG HWG.out HNG.out 1 (.slice a4 n4 c4))
  rw [← hw6.out] at HJ
  replace HT : Hid (Tri g g g w4 w6) := by show Tri _ _ _ _ _; rw [hw6.out]; exact HT.out.set (p := ⟨g, 1, none⟩) (.inl rfl) _
  go_upto_region 5 with fail
  rw [← hw6.out]
  clear cg fg own1 hle1 hno1 hat1 hw6 HG1
  have cg : w6.cell? ⟨g, 1, none⟩ = some (.slice a4 n4 c4) := HJ.out.kg.cell 1
  have cb : w6.cell? ⟨y, 1, none⟩ = some (.slice ad nd kd) := HJ.out.kb.cell 1
  have hbd : cl.length ≤ 10000 := (by rw [hnc.out]; omega)
  have hbs : B1 ≤ w6.heap.size := by rw [hB1.out]; exact HT.out.size
  go_wp2_with (at_builtin; refine app_E_at encDot Try.underlying23 infoD rfl (by decide) rfl _ _ rfl B1 _ cl rfl HO1.out ad nd kd cl2 rfl hnd.out hkd.out (S4.out.below HJ.out.below).row (by omega) hbs ?_)
  intro v1 w7 own1 grow1 at1
  have HG1 : Hid (Below B0 w6 w7) := OwnE.grew (B := B0) HO1.out HJ.out.size hB01 grow1
  replace HT := Lib.hid (HT.out.grown (base := B1) HO1.out (Nat.le_of_eq hB1.out.symm) grow1)
  replace HJ := Lib.hid (HJ.out.grow HG1.out HLT.out)
  clear cg cb hbd hbs at1 grow1
  obtain ⟨a5, c5, rfl, hle1, -, -, hno1, hat1⟩ := own1.sl encDot
  have HNO5 : Hid (a5 = none → c5 = 0) := hno1
  have HAT5 : Hid (∀ a, a5 = some a → B1 ≤ a.block) := hat1
  obtain ⟨n5, hn5⟩ := nm (cl ++ cl2).length
  rw [← hn5.out] at own1 hle1 ⊢
  have HLE5 : Hid (n5 ≤ c5) := hle1
  have cg : w7.cell? ⟨g, 1, none⟩ = some (.slice a4 n4 c4) := HJ.out.kg.cell 1
  have fg : w7.frozen? ⟨g, 1, none⟩ = false := HJ.out.kg.free 1
  obtain ⟨w8, hw8⟩ := nm (w7.setCell ⟨g, 1, none⟩ (.slice a5 n5 c5))
  have HO2 : Hid (OwnE eDot 2 w8 B1 31 (.slice a5 n5 c5) (cl ++ cl2)) := by rw [hw8.out]; exact own1.kept (Kept.set (Kept.refl g _) 1 _) HGB.out
  replace HJ := Lib.hid (HJ.out.setG HWG.out HNG.out 1 (.slice a5 n5 c5))
  rw [← hw8.out] at HJ
  replace HT : Hid (Tri g g g w4 w8) := by show Tri _ _ _ _ _; rw [hw8.out]; exact HT.out.set (p := ⟨g, 1, none⟩) (.inl rfl) _
  go_upto_region 6 with fail
  rw [← hw8.out]
  clear cg fg own1 hle1 hno1 hat1 hw8 HG1
  rw [← hC.out] at HO2 hn5
  have HJ8 : Hid (JSt w B0 x y r g #[.slice aa na ka, .slice ac nc kc] #[.slice ab nb kb, .slice ad nd kd] #[.slice a3 n3 c3, .slice a5 n5 c5] w8) := HJ.out
  have HCC : Hid (SlE eDot 2 w8 a5 C) := by
    obtain ⟨_, _, e, -, -, h, -, -⟩ := HO2.out.sl encDot
    cases e
    exact h
  have HAC : Hid (∀ a, a5 = some a → a.block < w8.heap.size) := fun a ha => (World.ownsRow.lt HO2.out a.block (by rw [ha]; rfl)).2
  replace HBB : Hid (SlE eDot 2 w8 a3 BB) := HBB.out.tri (fun a ha => by have := HAT3.out a ha; have := HLT.out; exact ⟨by omega, by omega, by omega⟩) HT.out
  have hlB : n3 ≤ 20000 := by rw [hn3.out, hBB.out, List.length_append, hna.out, hnb.out]; omega
  have hlC : n5 ≤ 20000 := by rw [hn5.out, hC.out, List.length_append, hnc.out, hnd.out]; omega
  obtain ⟨o, ho⟩ := nm w8.heap.size
  obtain ⟨w9, hw9⟩ := nm (w8.alloc (.cells #[.slice none 0 0, .slice none 0 0] 25))
  have Ko : Hid (Blk w9 o #[.slice none 0 0, .slice none 0 0] 25) := blkN hw9.out ho.out
  have HBo : Hid (B0 ≤ o) := by show _ ≤ _; rw [ho.out]; exact HJ8.out.size
  rw [← ho.out] at HAC
  replace HJ8 : Hid (JSt w B0 x y r g #[.slice aa na ka, .slice ac nc kc] #[.slice ab nb kb, .slice ad nd kd] #[.slice a3 n3 c3, .slice a5 n5 c5] w9) := by rw [hw9.out]; exact HJ8.out.grow ((bOld _).mono HJ8.out.size) HLT.out
  replace HCC : Hid (SlE eDot 2 w9 a5 C) := by rw [hw9.out]; exact HCC.out.below (bOld _)
  replace HBB : Hid (SlE eDot 2 w9 a3 BB) := by rw [hw9.out]; exact HBB.out.below (bOld _)
  go_upto_region 7 with fail
  rw [← hw9.out, ← ho.out]
  clear HJ HO1 HO2 HT hw9 ho HNO2 HNO3 HNO4 HNO5 HAT2 HAT3 HAT4 HAT5 HLE2 HLE3 HLE4 HLE5
  have cg0 : w9.cell? ⟨g, 0, none⟩ = some (.slice a3 n3 c3) := HJ8.out.kg.cell 0
  have cg1 : w9.cell? ⟨g, 1, none⟩ = some (.slice a5 n5 c5) := HJ8.out.kg.cell 1
  go_wp2_with fail
  refine (refnodes_any a3 a5 n3 c3 n5 c5 BB C (show BB.length = n3 from hn3.out.symm) (by omega) (show C.length = n5 from hn5.out.symm) (by omega) _ HBB.out.pairs HCC.out.pairs).mono ?_
  rintro e w10 ⟨v, rfl, own, hB⟩
  rw [← hN.out] at own
  have HNP : Hid (N.Pairwise (· < ·)) := by rw [hN.out]; exact nodesL_rise _
  have hlN : N.length ≤ 40000 := by rw [hN.out]; exact Nat.le_trans (nodesL_length _) (by rw [List.length_append, ← hn3.out, ← hn5.out]; omega)
  obtain ⟨an, cn, rfl, -, -, hsl, -, hatn⟩ := own.sl encInt
  have SN := Lib.hid hsl
  have hno9 : o < w9.heap.size := Ko.out.lt
  have HANO : Hid (∀ a, an = some a → o < a.block) := fun a ha => Nat.lt_of_lt_of_le hno9 (hatn a ha)
  obtain ⟨nn, hnn⟩ := nm N.length
  rw [← hnn.out] at hlN ⊢
  have HJA := Lib.hid (HJ8.out.grow (hB.mono HJ8.out.size) HLT.out)
  have KoA := Lib.hid (Ko.out.below hB hno9)
  have HCA : Hid (SlE eDot 2 w10 a5 C) := HCC.out.below hB
  obtain ⟨B2, hB2⟩ := nm w10.heap.size
  have HoB : Hid (o < B2) := by show _ < _; rw [hB2.out]; exact Nat.lt_of_lt_of_le hno9 hB.size
  have HB02 : Hid (B0 ≤ B2) := by show _ ≤ _; have := HBo.out; have := HoB.out; omega
  clear cg0 cg1 own hsl hatn HJ8 Ko HCC HBB hB hno9
  go_wp2_with fail
  go_loopw [8] (fun i wr => ∃ (k : Nat) (vB vC : Value) (Bk Ck : List Dot2), k ≤ nn ∧ i = .int .i64 (k : Int) ∧ Hid (Blk wr o #[vB, vC] 25) ∧ OwnE eDot 2 wr B2 31 vB Bk ∧ OwnE eDot 2 wr B2 31 vC Ck ∧ Hid (∀ g, vB.ownBlock = some g → ∀ h, vC.ownBlock = some h → g ≠ h) ∧ Hid (Below B0 w10 wr) ∧ Hid (Tri o o o w10 wr) ∧ Hid (Bk = baseJ bs bs2 C (N.take k) ∧ Ck = cloudJ bs bs2 C (N.take k))) (fun i _ => nn - (intOf i).toNat)
  case atStart => exact ⟨0, _, _, [], [], by omega, rfl, KoA, OwnE.nil _ _ _, OwnE.nil _ _ _, fun g hg => (by cases hg), Below.refl _ _, Tri.refl _ _ _ _, ⟨rfl, rfl⟩⟩
  case round =>
    obtain ⟨k, vB, vC, Bk, Ck, hk, rfl, hKo, hownB, hownC, hap, hB, hT, hBC⟩ := hrel
    have HJR := Lib.hid (HJA.out.grow hB.out HLT.out)
    have hszr : B2 ≤ wr.heap.size := by rw [hB2.out]; exact hB.out.size
    have hlBk : Bk.length ≤ 40000 := by
      rw [hBC.out.1]; refine Nat.le_trans (baseJ_length _ _ _ _) (Nat.le_trans (by rw [List.length_take]; exact Nat.min_le_right _ _) ?_); rw [← hnn.out]; exact hlN
    have hlCk : Ck.length ≤ 20000 := by
      rw [hBC.out.2]; exact Nat.le_trans (cloudJ_length (HNP.out.sublist (List.take_sublist _ _))) (by rw [← hn5.out]; exact hlC)
    by_cases hlt : k < nn
    · obtain ⟨b, off, z, hbb, hbl0, hpk, hcells⟩ := SN.out.get k (by rw [← hnn.out]; exact hlt)
      obtain rfl := hbb
      have hob : o < b := HANO.out _ rfl
      have dn : wr.cell? ⟨b, off + k, none⟩ = some (.int .i64 z) := by
        have h1 := hcells 0 _ rfl
        have h2 : wr.cell? ⟨b, off + k, none⟩ = w10.cell? ⟨b, off + k, none⟩ := triCell hT.out (p := ⟨b, off + k, none⟩) hbl0 (by show b ≠ o; omega)
        rw [h2]; simpa using h1
      have hbl : b < wr.heap.size := Nat.lt_of_lt_of_le hbl0 hB.out.size
      have hbB2 : b < B2 := by rw [hB2.out]; exact hbl0
      have HCr : Hid (SlP wr a5 C) := (HCA.out.tri (fun a ha => by have := HAC.out a ha; exact ⟨by omega, by omega, by omega⟩) hT.out).pairs
      have htk : N.take (k + 1) = N.take k ++ [z] := take_snocE hpk.out
      have hti0 : (0 : Int) ≤ (k : Int) := by omega
      have hti1 : (k : Int) < (nn : Int) := by omega
      obtain ⟨ua, hua⟩ := nm (baseD bs z)
      obtain ⟨ub, hub⟩ := nm (baseD bs2 z)
      have hua1 := baseD_in hd1.out z
      have hub1 := baseD_in hd2.out z
      rw [← hua.out] at hua1
      rw [← hub.out] at hub1
      obtain ⟨u, hu⟩ := nm (max ua ub)
      have hu0 : 0 ≤ u := by rw [hu.out]; omega
      have hu1 : u ≤ 1099511627776 := by rw [hu.out]; omega
      obtain ⟨⟨KK, L⟩, hRD⟩ := nm (runD (ofN C z) u)
      have HND : Hid (nodeD bs bs2 C z = (KK, L)) := by
        show nodeD _ _ _ _ = _
        rw [hRD.out, hu.out, hua.out, hub.out]; rfl
      have hof := fun w h => refofn_any z u a5 n5 c5 C (show C.length = n5 from hn5.out.symm) (by omega) hd3 hu0 hu1 w h
      rw [← hRD.out] at hof
      simp only at hof
      have HOF := Lib.hid hof
      have HBN : Hid (baseJ bs bs2 C (N.take (k + 1)) = Bk ++ if 0 < KK then [(z, KK)] else []) := by
        show _ = _
        rw [htk, baseJ_snoc, ← hBC.out.1, HND.out]
      have HCN : Hid (cloudJ bs bs2 C (N.take (k + 1)) = Ck ++ L) := by
        show _ = _
        rw [htk, cloudJ_snoc, ← hBC.out.2, HND.out]
      have HQ : Hid (Below wr.heap.size wr wr) := Below.refl _ _
      have HBS : Hid (B0 ≤ wr.heap.size) := Nat.le_trans HB02.out hszr
      clear hof hcells htk hRD hbl0
      by_cases hgt : ua < ub
      · have HU : Hid (u = baseD bs2 z) := by show _ = _; rw [hu.out, ← hub.out]; omega
        have hdgt : decide (ua < u) = true := decide_eq_true (by rw [hu.out]; omega)
        clear hu
        have HJW := Lib.hid (HJR.out.grow (HQ.out.mono HBS.out) HLT.out)
        have c0 : wr.cell? ⟨x, 0, none⟩ = some (.slice aa na ka) := HJW.out.ka.cell 0
        have c1 : wr.cell? ⟨x, 1, none⟩ = some (.slice ac nc kc) := HJW.out.ka.cell 1
        have dw : wr.cell? ⟨b, off + k, none⟩ = some (.int .i64 z) := (HQ.out.cell (p := ⟨b, off + k, none⟩) hbl).trans dn
        have hblW : b < wr.heap.size := Nat.lt_of_lt_of_le hbl HQ.out.size
        have KEEP : Hid (∀ wq : World, Below wr.drew.heap.size wr.drew wq → wq.cell? ⟨x, 0, none⟩ = some (.slice aa na ka) ∧ wq.cell? ⟨x, 1, none⟩ = some (.slice ac nc kc) ∧ wq.cell? ⟨b, off + k, none⟩ = some (.int .i64 z)) := by
          show ∀ wq : World, _
          intro wq h
          have h1 := Blk.below (w := wr.drew) HJW.out.ka h HJW.out.ka.lt
          exact ⟨h1.cell 0, h1.cell 1, (h.cell (p := ⟨b, off + k, none⟩) hblW).trans dw⟩
        go_wp2_with fail
        refine wp_region_noPanic ?_
        refine wp_region_held_drew (S := fun w' => w'.cell? ⟨x, 0, none⟩ = some (.slice aa na ka) ∧ w'.cell? ⟨x, 1, none⟩ = some (.slice ac nc kc) ∧ w'.cell? ⟨b, off + k, none⟩ = some (.int .i64 z)) (by kernel_rfl) (⟨c0, c1, dw⟩) (fun hHeld => ?_)
        refine wpAnyH_take (i := 0) (v := ?_) (takeL rfl) (by kernel_rfl) (by kernel_rfl) (by kernel_rfl) (fun _ _ _ h => h) (Or.inl ⟨by rfl, ?_⟩) (by assumption) ?_
        rotate_left
        · (intro w hSw; (try dsimp only at hSw); first | (go_simp; done) | (go_simp; with_reducible rfl))
        try simp only [Act.put, List.setIfInBounds_toArray, List.set_cons_zero, List.set_cons_succ]
        refine wpAnyH_take (i := 1) (v := ?_) (takeL rfl) (by kernel_rfl) (by kernel_rfl) (by kernel_rfl) (fun _ _ _ h => h) (Or.inl ⟨by rfl, ?_⟩) (by assumption) ?_
        rotate_left
        · (intro w hSw; (try dsimp only at hSw); first | (go_simp; done) | (go_simp; with_reducible rfl))
        try simp only [Act.put, List.setIfInBounds_toArray, List.set_cons_zero, List.set_cons_succ]
        refine wpAnyH_take (i := 2) (v := ?_) (takeL rfl) (by kernel_rfl) (by kernel_rfl) (by kernel_rfl) (fun _ _ _ h => h) (Or.inl ⟨by rfl, ?_⟩) (by assumption) ?_
        rotate_left
        · (intro w hSw; (try dsimp only at hSw); first | (go_simp; done) | (go_simp; with_reducible rfl))
        try simp only [Act.put, List.setIfInBounds_toArray, List.set_cons_zero, List.set_cons_succ]
        refine wpAnyH_take (i := 3) (v := ?_) (takeL rfl) (by kernel_rfl) (by kernel_rfl) (by kernel_rfl) (fun _ _ _ h => h) (Or.inl ⟨by rfl, ?_⟩) (by assumption) ?_
        rotate_left
        · (intro w hSw; (try dsimp only at hSw); first | (go_simp; done) | (go_simp; with_reducible rfl))
        try simp only [Act.put, List.setIfInBounds_toArray, List.set_cons_zero, List.set_cons_succ]
        refine wpAnyH_take (i := 4) (v := ?_) (takeL rfl) (by kernel_rfl) (by kernel_rfl) (by kernel_rfl) (fun _ _ _ h => h) (Or.inl ⟨by rfl, ?_⟩) (by assumption) ?_
        rotate_left
        · (intro w hSw; (try dsimp only at hSw); first | (go_simp; done) | (go_simp; with_reducible rfl))
        try simp only [Act.put, List.setIfInBounds_toArray, List.set_cons_zero, List.set_cons_succ]
        refine wpAnyH_ready (rs := [5]) (by kernel_rfl) (by simp) ?_
        refine AllReadyH.cons (takeL rfl) (fun K hK => ?_) AllReadyH.nil
        go_simp
        refine (refbase_any aa ac na ka nc kc bs hna (by omega) z ua hua _ (S1.out.below (bDrew HJW.out.below))).mono ?_; rintro e w11 ⟨rfl, hBn⟩
        go_wp2_with fail
        refine hK.out _ _ (KEEP.out _ hBn) (fun hHeld => ?_)
        clear hK K
        refine wpAnyH_take (i := 6) (v := ?_) (takeL rfl) (by kernel_rfl) (by kernel_rfl) (by kernel_rfl) (fun _ _ _ h => h) (Or.inl ⟨by rfl, ?_⟩) (by assumption) ?_
        rotate_left
        · (intro w hSw; (try dsimp only at hSw); first | (go_simp; done) | (go_simp; with_reducible rfl))
        try simp only [Act.put, List.setIfInBounds_toArray, List.set_cons_zero, List.set_cons_succ]
        refine wpAnyH_done (by kernel_rfl) ?_ _
        refine NoPanic.normal ?_
        replace HQ := Lib.hid (bNext (bDrew HQ.out) hBn)
        clear KEEP hBn HJW c0 c1 dw hblW hHeld
        have HJW := Lib.hid (HJR.out.grow (HQ.out.mono HBS.out) HLT.out)
        have c0 : w11.cell? ⟨y, 0, none⟩ = some (.slice ab nb kb) := HJW.out.kb.cell 0
        have c1 : w11.cell? ⟨y, 1, none⟩ = some (.slice ad nd kd) := HJW.out.kb.cell 1
        have dw : w11.cell? ⟨b, off + k, none⟩ = some (.int .i64 z) := (HQ.out.cell (p := ⟨b, off + k, none⟩) hbl).trans dn
        have hblW : b < w11.heap.size := Nat.lt_of_lt_of_le hbl HQ.out.size
        have KEEP : Hid (∀ wq : World, Below w11.drew.heap.size w11.drew wq → wq.cell? ⟨y, 0, none⟩ = some (.slice ab nb kb) ∧ wq.cell? ⟨y, 1, none⟩ = some (.slice ad nd kd) ∧ wq.cell? ⟨b, off + k, none⟩ = some (.int .i64 z)) := by
          show ∀ wq : World, _
          intro wq h
          have h1 := Blk.below (w := w11.drew) HJW.out.kb h HJW.out.kb.lt
          exact ⟨h1.cell 0, h1.cell 1, (h.cell (p := ⟨b, off + k, none⟩) hblW).trans dw⟩
        go_wp2_with fail
        refine wp_region_noPanic ?_
        refine wp_region_held_drew (S := fun w' => w'.cell? ⟨y, 0, none⟩ = some (.slice ab nb kb) ∧ w'.cell? ⟨y, 1, none⟩ = some (.slice ad nd kd) ∧ w'.cell? ⟨b, off + k, none⟩ = some (.int .i64 z)) (by kernel_rfl) (⟨c0, c1, dw⟩) (fun hHeld => ?_)
        refine wpAnyH_take (i := 0) (v := ?_) (takeL rfl) (by kernel_rfl) (by kernel_rfl) (by kernel_rfl) (fun _ _ _ h => h) (Or.inl ⟨by rfl, ?_⟩) (by assumption) ?_
        rotate_left
        · (intro w hSw; (try dsimp only at hSw); first | (go_simp; done) | (go_simp; with_reducible rfl))
        try simp only [Act.put, List.setIfInBounds_toArray, List.set_cons_zero, List.set_cons_succ]
        refine wpAnyH_take (i := 1) (v := ?_) (takeL rfl) (by kernel_rfl) (by kernel_rfl) (by kernel_rfl) (fun _ _ _ h => h) (Or.inl ⟨by rfl, ?_⟩) (by assumption) ?_
        rotate_left
        · (intro w hSw; (try dsimp only at hSw); first | (go_simp; done) | (go_simp; with_reducible rfl))
        try simp only [Act.put, List.setIfInBounds_toArray, List.set_cons_zero, List.set_cons_succ]
        refine wpAnyH_take (i := 2) (v := ?_) (takeL rfl) (by kernel_rfl) (by kernel_rfl) (by kernel_rfl) (fun _ _ _ h => h) (Or.inl ⟨by rfl, ?_⟩) (by assumption) ?_
        rotate_left
        · (intro w hSw; (try dsimp only at hSw); first | (go_simp; done) | (go_simp; with_reducible rfl))
        try simp only [Act.put, List.setIfInBounds_toArray, List.set_cons_zero, List.set_cons_succ]
        refine wpAnyH_take (i := 3) (v := ?_) (takeL rfl) (by kernel_rfl) (by kernel_rfl) (by kernel_rfl) (fun _ _ _ h => h) (Or.inl ⟨by rfl, ?_⟩) (by assumption) ?_
        rotate_left
        · (intro w hSw; (try dsimp only at hSw); first | (go_simp; done) | (go_simp; with_reducible rfl))
        try simp only [Act.put, List.setIfInBounds_toArray, List.set_cons_zero, List.set_cons_succ]
        refine wpAnyH_take (i := 4) (v := ?_) (takeL rfl) (by kernel_rfl) (by kernel_rfl) (by kernel_rfl) (fun _ _ _ h => h) (Or.inl ⟨by rfl, ?_⟩) (by assumption) ?_
        rotate_left
        · (intro w hSw; (try dsimp only at hSw); first | (go_simp; done) | (go_simp; with_reducible rfl))
        try simp only [Act.put, List.setIfInBounds_toArray, List.set_cons_zero, List.set_cons_succ]
        refine wpAnyH_take (i := 6) (v := ?_) (takeL rfl) (by kernel_rfl) (by kernel_rfl) (by kernel_rfl) (fun _ _ _ h => h) (Or.inl ⟨by rfl, ?_⟩) (by assumption) ?_
        rotate_left
        · (intro w hSw; (try dsimp only at hSw); first | (go_simp; done) | (go_simp; with_reducible rfl))
        try simp only [Act.put, List.setIfInBounds_toArray, List.set_cons_zero, List.set_cons_succ]
        refine wpAnyH_ready (rs := [5]) (by kernel_rfl) (by simp) ?_
        refine AllReadyH.cons (takeL rfl) (fun K hK => ?_) AllReadyH.nil
        go_simp
        refine (refbase_any ab ad nb kb nd kd bs2 hnb (by omega) z u HU _ (S3.out.below (bDrew HJW.out.below))).mono ?_; rintro e w12 ⟨rfl, hBn⟩
        go_wp2_with fail
        refine hK.out _ _ (KEEP.out _ hBn) (fun hHeld => ?_)
        clear hK K
        refine wpAnyH_take (i := 7) (v := ?_) (takeL rfl) (by kernel_rfl) (by kernel_rfl) (by kernel_rfl) (fun _ _ _ h => h) (Or.inl ⟨by rfl, ?_⟩) (by assumption) ?_
        rotate_left
        · (intro w hSw; (try dsimp only at hSw); first | (go_simp; done) | (go_simp; with_reducible rfl))
        try simp only [Act.put, List.setIfInBounds_toArray, List.set_cons_zero, List.set_cons_succ]
        refine wpAnyH_done (by kernel_rfl) ?_ _
        refine NoPanic.normal ?_
        replace HQ := Lib.hid (bNext (bDrew HQ.out) hBn)
        clear KEEP hBn HJW c0 c1 dw hblW hHeld
        have HJW := Lib.hid (HJR.out.grow (HQ.out.mono HBS.out) HLT.out)
        have c0 : w12.cell? ⟨y, 0, none⟩ = some (.slice ab nb kb) := HJW.out.kb.cell 0
        have c1 : w12.cell? ⟨y, 1, none⟩ = some (.slice ad nd kd) := HJW.out.kb.cell 1
        have dw : w12.cell? ⟨b, off + k, none⟩ = some (.int .i64 z) := (HQ.out.cell (p := ⟨b, off + k, none⟩) hbl).trans dn
        have hblW : b < w12.heap.size := Nat.lt_of_lt_of_le hbl HQ.out.size
        have KEEP : Hid (∀ wq : World, Below w12.drew.heap.size w12.drew wq → wq.cell? ⟨y, 0, none⟩ = some (.slice ab nb kb) ∧ wq.cell? ⟨y, 1, none⟩ = some (.slice ad nd kd) ∧ wq.cell? ⟨b, off + k, none⟩ = some (.int .i64 z)) := by
          show ∀ wq : World, _
          intro wq h
          have h1 := Blk.below (w := w12.drew) HJW.out.kb h HJW.out.kb.lt
          exact ⟨h1.cell 0, h1.cell 1, (h.cell (p := ⟨b, off + k, none⟩) hblW).trans dw⟩
        go_wp2_with fail
        refine wp_region_noPanic ?_
        refine wp_region_held_drew (S := fun w' => w'.cell? ⟨y, 0, none⟩ = some (.slice ab nb kb) ∧ w'.cell? ⟨y, 1, none⟩ = some (.slice ad nd kd) ∧ w'.cell? ⟨b, off + k, none⟩ = some (.int .i64 z)) (by kernel_rfl) (⟨c0, c1, dw⟩) (fun hHeld => ?_)
        refine wpAnyH_take (i := 0) (v := ?_) (takeL rfl) (by kernel_rfl) (by kernel_rfl) (by kernel_rfl) (fun _ _ _ h => h) (Or.inl ⟨by rfl, ?_⟩) (by assumption) ?_
        rotate_left
        · (intro w hSw; (try dsimp only at hSw); first | (go_simp; done) | (go_simp; with_reducible rfl))
        try simp only [Act.put, List.setIfInBounds_toArray, List.set_cons_zero, List.set_cons_succ]
        refine wpAnyH_take (i := 1) (v := ?_) (takeL rfl) (by kernel_rfl) (by kernel_rfl) (by kernel_rfl) (fun _ _ _ h => h) (Or.inl ⟨by rfl, ?_⟩) (by assumption) ?_
        rotate_left
        · (intro w hSw; (try dsimp only at hSw); first | (go_simp; done) | (go_simp; with_reducible rfl))
        try simp only [Act.put, List.setIfInBounds_toArray, List.set_cons_zero, List.set_cons_succ]
        refine wpAnyH_take (i := 2) (v := ?_) (takeL rfl) (by kernel_rfl) (by kernel_rfl) (by kernel_rfl) (fun _ _ _ h => h) (Or.inl ⟨by rfl, ?_⟩) (by assumption) ?_
        rotate_left
        · (intro w hSw; (try dsimp only at hSw); first | (go_simp; done) | (go_simp; with_reducible rfl))
        try simp only [Act.put, List.setIfInBounds_toArray, List.set_cons_zero, List.set_cons_succ]
        refine wpAnyH_take (i := 3) (v := ?_) (takeL rfl) (by kernel_rfl) (by kernel_rfl) (by kernel_rfl) (fun _ _ _ h => h) (Or.inl ⟨by rfl, ?_⟩) (by assumption) ?_
        rotate_left
        · (intro w hSw; (try dsimp only at hSw); first | (go_simp; done) | (go_simp; with_reducible rfl))
        try simp only [Act.put, List.setIfInBounds_toArray, List.set_cons_zero, List.set_cons_succ]
        refine wpAnyH_take (i := 4) (v := ?_) (takeL rfl) (by kernel_rfl) (by kernel_rfl) (by kernel_rfl) (fun _ _ _ h => h) (Or.inl ⟨by rfl, ?_⟩) (by assumption) ?_
        rotate_left
        · (intro w hSw; (try dsimp only at hSw); first | (go_simp; done) | (go_simp; with_reducible rfl))
        try simp only [Act.put, List.setIfInBounds_toArray, List.set_cons_zero, List.set_cons_succ]
        refine wpAnyH_ready (rs := [5]) (by kernel_rfl) (by simp) ?_
        refine AllReadyH.cons (takeL rfl) (fun K hK => ?_) AllReadyH.nil
        go_simp
        refine (refbase_any ab ad nb kb nd kd bs2 hnb (by omega) z u HU _ (S3.out.below (bDrew HJW.out.below))).mono ?_; rintro e w13 ⟨rfl, hBn⟩
        go_wp2_with fail
        refine hK.out _ _ (KEEP.out _ hBn) (fun hHeld => ?_)
        clear hK K
        refine wpAnyH_take (i := 6) (v := ?_) (takeL rfl) (by kernel_rfl) (by kernel_rfl) (by kernel_rfl) (fun _ _ _ h => h) (Or.inl ⟨by rfl, ?_⟩) (by assumption) ?_
        rotate_left
        · (intro w hSw; (try dsimp only at hSw); first | (go_simp; done) | (go_simp; with_reducible rfl))
        try simp only [Act.put, List.setIfInBounds_toArray, List.set_cons_zero, List.set_cons_succ]
        refine wpAnyH_done (by kernel_rfl) ?_ _
        refine NoPanic.normal ?_
        replace HQ := Lib.hid (bNext (bDrew HQ.out) hBn)
        clear KEEP hBn HJW c0 c1 dw hblW hHeld
        have HSW : Hid (wr.heap.size ≤ w13.heap.size) := HQ.out.size
        have HJW := Lib.hid (HJR.out.grow (HQ.out.mono HBS.out) HLT.out)
        have c0 : w13.cell? ⟨g, 0, none⟩ = some (.slice a3 n3 c3) := HJW.out.kg.cell 0
        have c1 : w13.cell? ⟨g, 1, none⟩ = some (.slice a5 n5 c5) := HJW.out.kg.cell 1
        have dw : w13.cell? ⟨b, off + k, none⟩ = some (.int .i64 z) := (HQ.out.cell (p := ⟨b, off + k, none⟩) hbl).trans dn
        have hblW : b < w13.heap.size := Nat.lt_of_lt_of_le hbl HQ.out.size
        have KEEP : Hid (∀ wq : World, Below w13.drew.heap.size w13.drew wq → wq.cell? ⟨g, 0, none⟩ = some (.slice a3 n3 c3) ∧ wq.cell? ⟨g, 1, none⟩ = some (.slice a5 n5 c5) ∧ wq.cell? ⟨b, off + k, none⟩ = some (.int .i64 z)) := by
          show ∀ wq : World, _
          intro wq h
          have h1 := Blk.below (w := w13.drew) HJW.out.kg h HJW.out.kg.lt
          exact ⟨h1.cell 0, h1.cell 1, (h.cell (p := ⟨b, off + k, none⟩) hblW).trans dw⟩
        go_wp2_with fail
        refine wp_region_noPanic ?_
        refine wp_region_held_drew (S := fun w' => w'.cell? ⟨g, 0, none⟩ = some (.slice a3 n3 c3) ∧ w'.cell? ⟨g, 1, none⟩ = some (.slice a5 n5 c5) ∧ w'.cell? ⟨b, off + k, none⟩ = some (.int .i64 z)) (by kernel_rfl) (⟨c0, c1, dw⟩) (fun hHeld => ?_)
        refine wpAnyH_take (i := 0) (v := ?_) (takeL rfl) (by kernel_rfl) (by kernel_rfl) (by kernel_rfl) (fun _ _ _ h => h) (Or.inl ⟨by rfl, ?_⟩) (by assumption) ?_
        rotate_left
        · (intro w hSw; (try dsimp only at hSw); first | (go_simp; done) | (go_simp; with_reducible rfl))
        try simp only [Act.put, List.setIfInBounds_toArray, List.set_cons_zero, List.set_cons_succ]
        refine wpAnyH_take (i := 1) (v := ?_) (takeL rfl) (by kernel_rfl) (by kernel_rfl) (by kernel_rfl) (fun _ _ _ h => h) (Or.inl ⟨by rfl, ?_⟩) (by assumption) ?_
        rotate_left
        · (intro w hSw; (try dsimp only at hSw); first | (go_simp; done) | (go_simp; with_reducible rfl))
        try simp only [Act.put, List.setIfInBounds_toArray, List.set_cons_zero, List.set_cons_succ]
        refine wpAnyH_take (i := 2) (v := ?_) (takeL rfl) (by kernel_rfl) (by kernel_rfl) (by kernel_rfl) (fun _ _ _ h => h) (Or.inl ⟨by rfl, ?_⟩) (by assumption) ?_
        rotate_left
        · (intro w hSw; (try dsimp only at hSw); first | (go_simp; done) | (go_simp; with_reducible rfl))
        try simp only [Act.put, List.setIfInBounds_toArray, List.set_cons_zero, List.set_cons_succ]
        refine wpAnyH_take (i := 3) (v := ?_) (takeL rfl) (by kernel_rfl) (by kernel_rfl) (by kernel_rfl) (fun _ _ _ h => h) (Or.inl ⟨by rfl, ?_⟩) (by assumption) ?_
        rotate_left
        · (intro w hSw; (try dsimp only at hSw); first | (go_simp; done) | (go_simp; with_reducible rfl))
        try simp only [Act.put, List.setIfInBounds_toArray, List.set_cons_zero, List.set_cons_succ]
        refine wpAnyH_take (i := 4) (v := ?_) (takeL rfl) (by kernel_rfl) (by kernel_rfl) (by kernel_rfl) (fun _ _ _ h => h) (Or.inl ⟨by rfl, ?_⟩) (by assumption) ?_
        rotate_left
        · (intro w hSw; (try dsimp only at hSw); first | (go_simp; done) | (go_simp; with_reducible rfl))
        try simp only [Act.put, List.setIfInBounds_toArray, List.set_cons_zero, List.set_cons_succ]
        refine wpAnyH_take (i := 5) (v := ?_) (takeL rfl) (by kernel_rfl) (by kernel_rfl) (by kernel_rfl) (fun _ _ _ h => h) (Or.inl ⟨by rfl, ?_⟩) (by assumption) ?_
        rotate_left
        · (intro w hSw; (try dsimp only at hSw); first | (go_simp; done) | (go_simp; with_reducible rfl))
        try simp only [Act.put, List.setIfInBounds_toArray, List.set_cons_zero, List.set_cons_succ]
        refine wpAnyH_take (i := 6) (v := ?_) (takeL rfl) (by kernel_rfl) (by kernel_rfl) (by kernel_rfl) (fun _ _ _ h => h) (Or.inl ⟨by rfl, ?_⟩) (by assumption) ?_
        rotate_left
        · (intro w hSw; (try dsimp only at hSw); first | (go_simp; done) | (go_simp; with_reducible rfl))
        try simp only [Act.put, List.setIfInBounds_toArray, List.set_cons_zero, List.set_cons_succ]
        refine wpAnyH_ready (rs := [7]) (by kernel_rfl) (by simp) ?_
        refine AllReadyH.cons (takeL rfl) (fun K hK => ?_) AllReadyH.nil
        go_simp
        refine (HOF.out _ (HCr.out.below (bDrew HQ.out))).mono ?_; rintro e w14 ⟨vL, rfl, ownL, hBn⟩
        go_wp2_with fail
        refine hK.out _ _ (KEEP.out _ hBn) (fun hHeld => ?_)
        clear hK K
        refine wpAnyH_take (i := 8) (v := ?_) (takeL rfl) (by kernel_rfl) (by kernel_rfl) (by kernel_rfl) (fun _ _ _ h => h) (Or.inl ⟨by rfl, ?_⟩) (by assumption) ?_
        rotate_left
        · (intro w hSw; (try dsimp only at hSw); first | (go_simp; done) | (go_simp; with_reducible rfl))
        try simp only [Act.put, List.setIfInBounds_toArray, List.set_cons_zero, List.set_cons_succ]
        refine wpAnyH_take (i := 9) (v := ?_) (takeL rfl) (by kernel_rfl) (by kernel_rfl) (by kernel_rfl) (fun _ _ _ h => h) (Or.inl ⟨by rfl, ?_⟩) (by assumption) ?_
        rotate_left
        · (intro w hSw; (try dsimp only at hSw); first | (go_simp; done) | (go_simp; with_reducible rfl))
        try simp only [Act.put, List.setIfInBounds_toArray, List.set_cons_zero, List.set_cons_succ]
        refine wpAnyH_take (i := 10) (v := ?_) (takeL rfl) (by kernel_rfl) (by kernel_rfl) (by kernel_rfl) (fun _ _ _ h => h) (Or.inl ⟨by rfl, ?_⟩) (by assumption) ?_
        rotate_left
        · (intro w hSw; (try dsimp only at hSw); first | (go_simp; done) | (go_simp; with_reducible rfl))
        try simp only [Act.put, List.setIfInBounds_toArray, List.set_cons_zero, List.set_cons_succ]
        refine wpAnyH_take (i := 11) (v := ?_) (takeL rfl) (by kernel_rfl) (by kernel_rfl) (by kernel_rfl) (fun _ _ _ h => h) (Or.inl ⟨by rfl, ?_⟩) (by assumption) ?_
        rotate_left
        · (intro w hSw; (try dsimp only at hSw); first | (go_simp; done) | (go_simp; with_reducible rfl))
        try simp only [Act.put, List.setIfInBounds_toArray, List.set_cons_zero, List.set_cons_succ]
        refine wpAnyH_take (i := 12) (v := ?_) (takeL rfl) (by kernel_rfl) (by kernel_rfl) (by kernel_rfl) (fun _ _ _ h => h) (Or.inl ⟨by rfl, ?_⟩) (by assumption) ?_
        rotate_left
        · (intro w hSw; (try dsimp only at hSw); first | (go_simp; done) | (go_simp; with_reducible rfl))
        try simp only [Act.put, List.setIfInBounds_toArray, List.set_cons_zero, List.set_cons_succ]
        refine wpAnyH_done (by kernel_rfl) ?_ _
        refine NoPanic.normal ?_
        replace HQ := Lib.hid (bNext (bDrew HQ.out) hBn)
        clear KEEP hBn HJW c0 c1 dw hblW hHeld
        obtain ⟨aL, cL, rfl, -, -, -, hnoL, -⟩ := ownL.sl encDot
        have HNL : Hid (aL = none → cL = 0) := hnoL
        obtain ⟨nL, hnL⟩ := nm L.length
        rw [← hnL.out] at ownL ⊢
        have OWL : Hid (OwnE eDot 2 w14 w13.heap.size 31 (.slice aL nL cL) L) := ownL
        have hnL2 : nL ≤ 1000000 := by
          have h1 : (Ck ++ L).length ≤ 20000 := by
            rw [← HCN.out]; exact Nat.le_trans (cloudJ_length (HNP.out.sublist (List.take_sublist _ _))) (by rw [← hn5.out]; exact hlC)
          rw [List.length_append, ← hnL.out] at h1; omega
        have hK4 := Lib.hid (hKo.out.below HQ.out hKo.out.lt)
        have hoB4 := hownB.below HQ.out
        have hoC4 := hownC.below HQ.out
        have hQB : Hid (Below B0 w10 w14) := hB.out.trans (HQ.out.mono HBS.out)
        have hQT : Hid (Tri o o o w10 w14) := hT.out.trans (Tri.ofBelow HQ.out)
        have dw : w14.cell? ⟨b, off + k, none⟩ = some (.int .i64 z) := (HQ.out.cell (p := ⟨b, off + k, none⟩) hbl).trans dn
        have hsz4 : B2 ≤ w14.heap.size := Nat.le_trans hszr HQ.out.size
        have HVB : Hid (∀ h, vB.ownBlock = some h → h < wr.heap.size) := fun h e => (World.ownsRow.lt hownB h e).2
        clear ownL hnoL hownB hownC
        by_cases hK0 : 0 < KK
        · have hdK : decide (0 < KK) = true := decide_eq_true hK0
          rw [if_pos hK0] at HBN
          obtain ⟨i0, hi, hz0, hz1, hz2⟩ := info_parts infoD
          have co0 : w14.cell? ⟨o, 0, none⟩ = some vB := hK4.out.cell 0
          have hneb : vB.ownBlock ≠ some b := fun e => by have := (World.ownsRow.lt hoB4 b e).1; omega
          have hneo : vB.ownBlock ≠ some o := fun e => by have := (World.ownsRow.lt hoB4 o e).1; have := HoB.out; omega
          have hblr : b < w14.heap.size := by omega
          have hor : o < w14.heap.size := hK4.out.lt
          go_wp2_with fail
          refine wp_region_noPanic ?_
          refine wp_region_held_drew (S := fun w' => w'.cell? ⟨b, off + k, none⟩ = some (.int .i64 z)) (by kernel_rfl) (cell_dr dw) (fun hHeld => ?_)
          refine wpAnyH_take (i := 0) (v := ?_) (takeL rfl) (by kernel_rfl) (by kernel_rfl) (by kernel_rfl) (fun _ _ _ h => h) (Or.inl ⟨by rfl, ?_⟩) (by assumption) ?_
          rotate_left
          · (intro w hSw; (try dsimp only at hSw); first | (go_simp; done) | (go_simp; with_reducible rfl))
          try simp only [Act.put, List.setIfInBounds_toArray, List.set_cons_zero, List.set_cons_succ]
          refine wpAnyH_take (i := 2) (v := ?_) (takeL rfl) (by kernel_rfl) (by kernel_rfl) (by kernel_rfl) (fun _ _ _ h => h) (Or.inl ⟨by rfl, ?_⟩) (by assumption) ?_
          rotate_left
          · (intro w hSw; (try dsimp only at hSw); first | (go_simp; done) | (go_simp; with_reducible rfl))
          try simp only [Act.put, List.setIfInBounds_toArray, List.set_cons_zero, List.set_cons_succ]
          refine wpAnyH_take (i := 3) (v := ?_) (takeL rfl) (by kernel_rfl) (by kernel_rfl) (by kernel_rfl) (fun _ _ _ h => h) (Or.inl ⟨by rfl, ?_⟩) (by assumption) ?_
          rotate_left
          · (intro w hSw; (try dsimp only at hSw); first | (go_simp; done) | (go_simp; with_reducible rfl))
          try simp only [Act.put, List.setIfInBounds_toArray, List.set_cons_zero, List.set_cons_succ]
          refine wpAnyH_take (i := 4) (v := ?_) (takeL rfl) (by kernel_rfl) (by kernel_rfl) (by kernel_rfl) (fun _ _ _ h => h) (Or.inl ⟨by rfl, ?_⟩) (by assumption) ?_
          rotate_left
          · (intro w hSw; (try dsimp only at hSw); first | (go_simp; done) | (go_simp; with_reducible rfl))
          try simp only [Act.put, List.setIfInBounds_toArray, List.set_cons_zero, List.set_cons_succ]
          refine wpAnyH_take (i := 5) (v := ?_) (takeL rfl) (by kernel_rfl) (by kernel_rfl) (by kernel_rfl) (fun _ _ _ h => h) (Or.inl ⟨by rfl, ?_⟩) (by assumption) ?_
          rotate_left
          · (intro w hSw; (try dsimp only at hSw); first | (go_simp; done) | (go_simp; with_reducible rfl))
          try simp only [Act.put, List.setIfInBounds_toArray, List.set_cons_zero, List.set_cons_succ]
          refine wpAnyH_take (i := 6) (v := ?_) (takeL rfl) (by kernel_rfl) (by kernel_rfl) (by kernel_rfl) (fun _ _ _ h => h) (Or.inl ⟨by rfl, ?_⟩) (by assumption) ?_
          rotate_left
          · (intro w hSw; (try dsimp only at hSw); first | (go_simp; done) | (go_simp; with_reducible rfl))
          try simp only [Act.put, List.setIfInBounds_toArray, List.set_cons_zero, List.set_cons_succ]
          refine wpAnyH_take (i := 7) (v := ?_) (takeL rfl) (by kernel_rfl) (by kernel_rfl) (by kernel_rfl) (fun _ _ _ h => h) (Or.inl ⟨by rfl, ?_⟩) (by assumption) ?_
          rotate_left
          · (intro w hSw; (try dsimp only at hSw); first | (go_simp; done) | (go_simp; with_reducible rfl))
          try simp only [Act.put, List.setIfInBounds_toArray, List.set_cons_zero, List.set_cons_succ]
          refine wpAnyH_ready (rs := [1, 8]) (by kernel_rfl) (by simp) ?_
          refine AllReadyH.cons (takeL rfl) (fun K hK => ?_) (AllReadyH.cons (takeL rfl) (fun K hK => ?_) AllReadyH.nil)
          · go_simp
            refine hK.out _ _ hHeld (fun hHeld => ?_)
            clear hK K
            refine wpAnyH_ready (rs := [8]) (by kernel_rfl) (by simp) ?_
            refine AllReadyH.cons (takeL rfl) (fun K hK => ?_) AllReadyH.nil
            go_simp
            refine hK.out _ _ (cell_al hHeld) (fun hHeld => ?_)
            clear hK K
            refine wpAnyH_ready (rs := [9]) (by kernel_rfl) (by simp) ?_
            refine AllReadyH.cons (takeL rfl) (fun K hK => ?_) AllReadyH.nil
            refine step_append_lies _ (by rfl) _ _ _ (by rfl) B2 31 i0 _ 2 16 Try.underlying23 hi hz0 hz1 hz2 rfl (by decide) _ Bk.length (flatE eDot Bk) (by rfl) ((World.ownsRow.alloc hoB4 _).drew) ⟨w14.heap.size, 0, none⟩ 1 1 [.int .i64 z, .int .i64 KK] (by rfl) (by rfl) (World.news_of_block (cs := #[.int .i64 z, .int .i64 KK]) (t := 31) (fr := (0, 0)) (heap_alloc_new w14 _)) (by simp [Value.oneCell']) (by decide) (by unfold maxLen; omega) (by omega) (by simp; omega) (w14.heap.size + 1) (by simp) ?_
            intro gg cap2 w15 hown6 hgrow hat hlt9
            have hK5 := hoB4.grewBlk HoB.out hsz4 hK4.out hgrow
            have co0 : w15.cell? ⟨o, 0, none⟩ = some vB := hK5.cell 0
            have fo0 : w15.frozen? ⟨o, 0, none⟩ = false := hK5.free 0
            refine hK.out _ _ (by rw [hgrow.cell_far _ (by simp; omega) (Ne.symm hneb)]; exact cell_al (cell_dr dw)) (fun hHeld => ?_)
            clear hK K
            refine wpAnyH_take (i := 10) (v := ?_) (takeL rfl) (by kernel_rfl) (by kernel_rfl) (by kernel_rfl) (fun _ _ _ h => h) (Or.inl ⟨by rfl, ?_⟩) (by assumption) ?_
            rotate_left
            · (intro w hSw; (try dsimp only at hSw); first | (go_simp; done) | (go_simp; with_reducible rfl))
            try simp only [Act.put, List.setIfInBounds_toArray, List.set_cons_zero, List.set_cons_succ]
            refine wpAnyH_ready (rs := [11]) (by kernel_rfl) (by simp) ?_
            refine AllReadyH.cons (takeL rfl) (fun K hK => ?_) AllReadyH.nil
            go_simp
            refine hK.out _ _ (by rw [World.cell?_setCell_far _ _ _ _ (by simp; omega)]; exact hHeld) (fun hHeld => ?_)
            clear hK K
            refine wpAnyH_done (by kernel_rfl) ?_ _
            refine NoPanic.normal ?_
            have HB6 : Hid (Below B2 w14 w15) := (bDrew ((Below.refl B2 w14).alloc hsz4 _)).grown hgrow (by simp; omega) (fun kk h => (World.ownsRow.lt hoB4 kk h).1)
            have hown7 : OwnE eDot 2 w15 B2 31 (.slice (some ⟨gg, 0, none⟩) (Bk.length + 1) cap2) (Bk ++ [(z, KK)]) := by
              show w15.ownsRow _ _ _ _ _ _
              rw [List.length_append, flatE_append]
              exact hown6
            have hoC6 : OwnE eDot 2 w15 B2 31 vC Ck := OwnE.keptBy (OwnE.drew (OwnE.alloc hoC4 _)) hgrow (by
              cases hv : vC.ownBlock with
              | none => exact .inl rfl
              | some h => exact .inr (fun e => hap.out h e.symm h hv rfl))
            have howL6 : OwnE eDot 2 w15 w13.heap.size 31 (.slice aL nL cL) L := OwnE.keptBy (OwnE.drew (OwnE.alloc OWL.out _)) hgrow (by
              cases hv : (Value.slice aL nL cL).ownBlock with
              | none => exact .inl rfl
              | some h => exact .inr (fun e => by have h1 := (World.ownsRow.lt OWL.out h hv).1; have h2 := HVB.out h e.symm; have h3 := HSW.out; omega))
            have hap6' : Hid (∀ g, (Value.slice (some ⟨gg, 0, none⟩) (Bk.length + 1) cap2).ownBlock = some g → ∀ h, vC.ownBlock = some h → g ≠ h) := by
              show ∀ g, _ → ∀ h, _ → _
              intro g hg h hh
              obtain rfl : gg = g := by simpa [Value.ownBlock] using hg
              rcases hat with e | e
              · exact hap.out _ e h hh
              · have := (World.ownsRow.lt hoC4 h hh).2
                omega
            obtain ⟨nB, hnB⟩ := nm (Bk.length + 1)
            obtain ⟨BK2, hBK2⟩ := nm (Bk ++ [((z, KK) : Dot2)])
            rw [← hBK2.out] at hown7 HBN
            rw [← hnB.out] at hown7 hap6' ⊢
            obtain ⟨wS, hwS⟩ := nm (w15.setCell ⟨o, 0, none⟩ (.slice (some ⟨gg, 0, none⟩) nB cap2))
            have hKS : Hid (Blk wS o #[.slice (some ⟨gg, 0, none⟩) nB cap2, vC] 25) := by rw [hwS.out]; exact hK5.set 0 _
            have hBS : Hid (Below B0 w10 wS) := by rw [hwS.out]; exact (hQB.out.trans (HB6.out.mono HB02.out)).setCell (p := ⟨o, 0, none⟩) HBo.out _
            have hTS : Hid (Tri o o o w10 wS) := by rw [hwS.out]; exact (Tri.thenBelow hQT.out (Nat.le_of_eq hB2.out.symm) HB6.out).set (p := ⟨o, 0, none⟩) (.inl rfl) _
            have hoBS : OwnE eDot 2 wS B2 31 (.slice (some ⟨gg, 0, none⟩) nB cap2) BK2 := by rw [hwS.out]; exact hown7.kept (Kept.set (Kept.refl o _) 0 _) HoB.out
            have hoCS : OwnE eDot 2 wS B2 31 vC Ck := by rw [hwS.out]; exact hoC6.kept (Kept.set (Kept.refl o _) 0 _) HoB.out
            have howLS : OwnE eDot 2 wS w13.heap.size 31 (.slice aL nL cL) L := by rw [hwS.out]; exact howL6.kept (Kept.set (Kept.refl o _) 0 _) (by have := HoB.out; have := HSW.out; omega)
            have HSL : Hid (SlE eDot 2 wS aL L) := by
              obtain ⟨_, _, e, -, -, h, -, -⟩ := howLS.sl encDot
              cases e
              exact h
            rw [← hwS.out]
            clear co0 fo0 hown6 hgrow hat hlt9 hHeld HB6 hown7 hoC6 howL6 hwS hoB4 hoC4 howLS hi hz0 hz1 hz2
            have co1 : wS.cell? ⟨o, 1, none⟩ = some vC := hKS.out.cell 1
            have hbs5 : B2 ≤ wS.heap.size := Nat.le_trans (Nat.le_of_eq hB2.out) hBS.out.size
            go_wp2_with (at_builtin; refine app_E_at encDot Try.underlying23 infoD rfl (by decide) rfl _ _ rfl B2 _ Ck rfl hoCS aL nL cL L rfl hnL.out.symm HNL.out HSL.out (by omega) hbs5 ?_)
            intro v6 w16 own6 grow6 at6
            have HG6 : Hid (Below B2 wS w16) := OwnE.grew (B := B2) hoCS hbs5 (Nat.le_refl _) grow6
            have hT6 : Hid (Tri o o o w10 w16) := hTS.out.grown hoCS (Nat.le_of_eq hB2.out.symm) grow6
            have hK6 := Lib.hid (hKS.out.below HG6.out HoB.out)
            have hoB6 := OwnE.keptBy hoBS grow6 (by
              cases hv : (.slice (some ⟨gg, 0, none⟩) nB cap2 : Value).ownBlock with
              | none => exact .inl rfl
              | some h => exact .inr (fun e => hap6'.out h hv h e.symm rfl))
            have hap6 : Hid (∀ g, (.slice (some ⟨gg, 0, none⟩) nB cap2 : Value).ownBlock = some g → ∀ h, v6.ownBlock = some h → g ≠ h) := by
              show ∀ g, _ → ∀ h, _ → _
              intro g hg h hh
              rcases at6 with e | e
              · exact hap6'.out g hg h (by rw [← e]; exact hh)
              · have h1 := (World.ownsRow.lt hoBS g hg).2
                rw [e] at hh
                cases hh
                omega
            obtain ⟨a6, c6, rfl, -, -, -, -, -⟩ := own6.sl encDot
            have HCK : Hid (Ck ++ L = cloudJ bs bs2 C (N.take (k + 1))) := HCN.out.symm
            obtain ⟨CL, hCL⟩ := nm (Ck ++ L)
            rw [← hCL.out] at own6 hap6 HCK ⊢
            obtain ⟨n6, hn6⟩ := nm CL.length
            rw [← hn6.out] at own6 hap6 ⊢
            have co1 : w16.cell? ⟨o, 1, none⟩ = some vC := hK6.out.cell 1
            have fo1 : w16.frozen? ⟨o, 1, none⟩ = false := hK6.out.free 1
            obtain ⟨w17, hw17⟩ := nm (w16.setCell ⟨o, 1, none⟩ (.slice a6 n6 c6))
            have hK7 : Hid (Blk w17 o #[.slice (some ⟨gg, 0, none⟩) nB cap2, .slice a6 n6 c6] 25) := by rw [hw17.out]; exact hK6.out.set 1 _
            have hB7 : Hid (Below B0 w10 w17) := by rw [hw17.out]; exact ((hBS.out.trans (HG6.out.mono HB02.out))).setCell (p := ⟨o, 1, none⟩) HBo.out _
            have hT7 : Hid (Tri o o o w10 w17) := by rw [hw17.out]; exact hT6.out.set (p := ⟨o, 1, none⟩) (.inl rfl) _
            have hoB7 : OwnE eDot 2 w17 B2 31 (.slice (some ⟨gg, 0, none⟩) nB cap2) BK2 := by rw [hw17.out]; exact hoB6.kept (Kept.set (Kept.refl o _) 1 _) HoB.out
            have hoC7 : OwnE eDot 2 w17 B2 31 (.slice a6 n6 c6) CL := by rw [hw17.out]; exact own6.kept (Kept.set (Kept.refl o _) 1 _) HoB.out
            go_upto_region 10 with fail
            rw [← hw17.out]
            clear co1 fo1 hw17 own6 grow6 at6 hK6 hoB6
            go_wp2_with fail
            go_roundw
            case rel => exact ⟨k + 1, _, _, BK2, CL, by omega, by go_num, hK7, hoB7, hoC7, hap6, hB7, hT7, ⟨HBN.out.symm, HCK.out⟩⟩
            case measure => simp [intOf]; omega
          · go_simp
            refine hK.out _ _ (cell_al hHeld) (fun hHeld => ?_)
            clear hK K
            refine wpAnyH_ready (rs := [1]) (by kernel_rfl) (by simp) ?_
            refine AllReadyH.cons (takeL rfl) (fun K hK => ?_) AllReadyH.nil
            go_simp
            refine hK.out _ _ hHeld (fun hHeld => ?_)
            clear hK K
            refine wpAnyH_ready (rs := [9]) (by kernel_rfl) (by simp) ?_
            refine AllReadyH.cons (takeL rfl) (fun K hK => ?_) AllReadyH.nil
            refine step_append_lies _ (by rfl) _ _ _ (by rfl) B2 31 i0 _ 2 16 Try.underlying23 hi hz0 hz1 hz2 rfl (by decide) _ Bk.length (flatE eDot Bk) (by rfl) ((World.ownsRow.alloc hoB4 _).drew) ⟨w14.heap.size, 0, none⟩ 1 1 [.int .i64 z, .int .i64 KK] (by rfl) (by rfl) (World.news_of_block (cs := #[.int .i64 z, .int .i64 KK]) (t := 31) (fr := (0, 0)) (heap_alloc_new w14 _)) (by simp [Value.oneCell']) (by decide) (by unfold maxLen; omega) (by omega) (by simp; omega) (w14.heap.size + 1) (by simp) ?_
            intro gg cap2 w15 hown6 hgrow hat hlt9
            have hK5 := hoB4.grewBlk HoB.out hsz4 hK4.out hgrow
            have co0 : w15.cell? ⟨o, 0, none⟩ = some vB := hK5.cell 0
            have fo0 : w15.frozen? ⟨o, 0, none⟩ = false := hK5.free 0
            refine hK.out _ _ (by rw [hgrow.cell_far _ (by simp; omega) (Ne.symm hneb)]; exact cell_al (cell_dr dw)) (fun hHeld => ?_)
            clear hK K
            refine wpAnyH_take (i := 10) (v := ?_) (takeL rfl) (by kernel_rfl) (by kernel_rfl) (by kernel_rfl) (fun _ _ _ h => h) (Or.inl ⟨by rfl, ?_⟩) (by assumption) ?_
            rotate_left
            · (intro w hSw; (try dsimp only at hSw); first | (go_simp; done) | (go_simp; with_reducible rfl))
            try simp only [Act.put, List.setIfInBounds_toArray, List.set_cons_zero, List.set_cons_succ]
            refine wpAnyH_ready (rs := [11]) (by kernel_rfl) (by simp) ?_
            refine AllReadyH.cons (takeL rfl) (fun K hK => ?_) AllReadyH.nil
            go_simp
            refine hK.out _ _ (by rw [World.cell?_setCell_far _ _ _ _ (by simp; omega)]; exact hHeld) (fun hHeld => ?_)
            clear hK K
            refine wpAnyH_done (by kernel_rfl) ?_ _
            refine NoPanic.normal ?_
            have HB6 : Hid (Below B2 w14 w15) := (bDrew ((Below.refl B2 w14).alloc hsz4 _)).grown hgrow (by simp; omega) (fun kk h => (World.ownsRow.lt hoB4 kk h).1)
            have hown7 : OwnE eDot 2 w15 B2 31 (.slice (some ⟨gg, 0, none⟩) (Bk.length + 1) cap2) (Bk ++ [(z, KK)]) := by
              show w15.ownsRow _ _ _ _ _ _
              rw [List.length_append, flatE_append]
              exact hown6
            have hoC6 : OwnE eDot 2 w15 B2 31 vC Ck := OwnE.keptBy (OwnE.drew (OwnE.alloc hoC4 _)) hgrow (by
              cases hv : vC.ownBlock with
              | none => exact .inl rfl
              | some h => exact .inr (fun e => hap.out h e.symm h hv rfl))
            have howL6 : OwnE eDot 2 w15 w13.heap.size 31 (.slice aL nL cL) L := OwnE.keptBy (OwnE.drew (OwnE.alloc OWL.out _)) hgrow (by
              cases hv : (Value.slice aL nL cL).ownBlock with
              | none => exact .inl rfl
              | some h => exact .inr (fun e => by have h1 := (World.ownsRow.lt OWL.out h hv).1; have h2 := HVB.out h e.symm; have h3 := HSW.out; omega))
            have hap6' : Hid (∀ g, (Value.slice (some ⟨gg, 0, none⟩) (Bk.length + 1) cap2).ownBlock = some g → ∀ h, vC.ownBlock = some h → g ≠ h) := by
              show ∀ g, _ → ∀ h, _ → _
              intro g hg h hh
              obtain rfl : gg = g := by simpa [Value.ownBlock] using hg
              rcases hat with e | e
              · exact hap.out _ e h hh
              · have := (World.ownsRow.lt hoC4 h hh).2
                omega
            obtain ⟨nB, hnB⟩ := nm (Bk.length + 1)
            obtain ⟨BK2, hBK2⟩ := nm (Bk ++ [((z, KK) : Dot2)])
            rw [← hBK2.out] at hown7 HBN
            rw [← hnB.out] at hown7 hap6' ⊢
            obtain ⟨wS, hwS⟩ := nm (w15.setCell ⟨o, 0, none⟩ (.slice (some ⟨gg, 0, none⟩) nB cap2))
            have hKS : Hid (Blk wS o #[.slice (some ⟨gg, 0, none⟩) nB cap2, vC] 25) := by rw [hwS.out]; exact hK5.set 0 _
            have hBS : Hid (Below B0 w10 wS) := by rw [hwS.out]; exact (hQB.out.trans (HB6.out.mono HB02.out)).setCell (p := ⟨o, 0, none⟩) HBo.out _
            have hTS : Hid (Tri o o o w10 wS) := by rw [hwS.out]; exact (Tri.thenBelow hQT.out (Nat.le_of_eq hB2.out.symm) HB6.out).set (p := ⟨o, 0, none⟩) (.inl rfl) _
            have hoBS : OwnE eDot 2 wS B2 31 (.slice (some ⟨gg, 0, none⟩) nB cap2) BK2 := by rw [hwS.out]; exact hown7.kept (Kept.set (Kept.refl o _) 0 _) HoB.out
            have hoCS : OwnE eDot 2 wS B2 31 vC Ck := by rw [hwS.out]; exact hoC6.kept (Kept.set (Kept.refl o _) 0 _) HoB.out
            have howLS : OwnE eDot 2 wS w13.heap.size 31 (.slice aL nL cL) L := by rw [hwS.out]; exact howL6.kept (Kept.set (Kept.refl o _) 0 _) (by have := HoB.out; have := HSW.out; omega)
            have HSL : Hid (SlE eDot 2 wS aL L) := by
              obtain ⟨_, _, e, -, -, h, -, -⟩ := howLS.sl encDot
              cases e
              exact h
            rw [← hwS.out]
            clear co0 fo0 hown6 hgrow hat hlt9 hHeld HB6 hown7 hoC6 howL6 hwS hoB4 hoC4 howLS hi hz0 hz1 hz2
            have co1 : wS.cell? ⟨o, 1, none⟩ = some vC := hKS.out.cell 1
            have hbs5 : B2 ≤ wS.heap.size := Nat.le_trans (Nat.le_of_eq hB2.out) hBS.out.size
            go_wp2_with (at_builtin; refine app_E_at encDot Try.underlying23 infoD rfl (by decide) rfl _ _ rfl B2 _ Ck rfl hoCS aL nL cL L rfl hnL.out.symm HNL.out HSL.out (by omega) hbs5 ?_)
            intro v6 w16 own6 grow6 at6
            have HG6 : Hid (Below B2 wS w16) := OwnE.grew (B := B2) hoCS hbs5 (Nat.le_refl _) grow6
            have hT6 : Hid (Tri o o o w10 w16) := hTS.out.grown hoCS (Nat.le_of_eq hB2.out.symm) grow6
            have hK6 := Lib.hid (hKS.out.below HG6.out HoB.out)
            have hoB6 := OwnE.keptBy hoBS grow6 (by
              cases hv : (.slice (some ⟨gg, 0, none⟩) nB cap2 : Value).ownBlock with
              | none => exact .inl rfl
              | some h => exact .inr (fun e => hap6'.out h hv h e.symm rfl))
            have hap6 : Hid (∀ g, (.slice (some ⟨gg, 0, none⟩) nB cap2 : Value).ownBlock = some g → ∀ h, v6.ownBlock = some h → g ≠ h) := by
              show ∀ g, _ → ∀ h, _ → _
              intro g hg h hh
              rcases at6 with e | e
              · exact hap6'.out g hg h (by rw [← e]; exact hh)
              · have h1 := (World.ownsRow.lt hoBS g hg).2
                rw [e] at hh
                cases hh
                omega
            obtain ⟨a6, c6, rfl, -, -, -, -, -⟩ := own6.sl encDot
            have HCK : Hid (Ck ++ L = cloudJ bs bs2 C (N.take (k + 1))) := HCN.out.symm
            obtain ⟨CL, hCL⟩ := nm (Ck ++ L)
            rw [← hCL.out] at own6 hap6 HCK ⊢
            obtain ⟨n6, hn6⟩ := nm CL.length
            rw [← hn6.out] at own6 hap6 ⊢
            have co1 : w16.cell? ⟨o, 1, none⟩ = some vC := hK6.out.cell 1
            have fo1 : w16.frozen? ⟨o, 1, none⟩ = false := hK6.out.free 1
            obtain ⟨w17, hw17⟩ := nm (w16.setCell ⟨o, 1, none⟩ (.slice a6 n6 c6))
            have hK7 : Hid (Blk w17 o #[.slice (some ⟨gg, 0, none⟩) nB cap2, .slice a6 n6 c6] 25) := by rw [hw17.out]; exact hK6.out.set 1 _
            have hB7 : Hid (Below B0 w10 w17) := by rw [hw17.out]; exact ((hBS.out.trans (HG6.out.mono HB02.out))).setCell (p := ⟨o, 1, none⟩) HBo.out _
            have hT7 : Hid (Tri o o o w10 w17) := by rw [hw17.out]; exact hT6.out.set (p := ⟨o, 1, none⟩) (.inl rfl) _
            have hoB7 : OwnE eDot 2 w17 B2 31 (.slice (some ⟨gg, 0, none⟩) nB cap2) BK2 := by rw [hw17.out]; exact hoB6.kept (Kept.set (Kept.refl o _) 1 _) HoB.out
            have hoC7 : OwnE eDot 2 w17 B2 31 (.slice a6 n6 c6) CL := by rw [hw17.out]; exact own6.kept (Kept.set (Kept.refl o _) 1 _) HoB.out
            go_upto_region 10 with fail
            rw [← hw17.out]
            clear co1 fo1 hw17 own6 grow6 at6 hK6 hoB6
            go_wp2_with fail
            go_roundw
            case rel => exact ⟨k + 1, _, _, BK2, CL, by omega, by go_num, hK7, hoB7, hoC7, hap6, hB7, hT7, ⟨HBN.out.symm, HCK.out⟩⟩
            case measure => simp [intOf]; omega
        · have hdK : decide (0 < KK) = false := decide_eq_false hK0
          rw [if_neg hK0, List.append_nil] at HBN
          have HSL : Hid (SlE eDot 2 w14 aL L) := by
            obtain ⟨_, _, e, -, -, h, -, -⟩ := OWL.out.sl encDot
            cases e
            exact h
          have co1 : w14.cell? ⟨o, 1, none⟩ = some vC := hK4.out.cell 1
          have hbs5 : B2 ≤ w14.heap.size := Nat.le_trans (Nat.le_of_eq hB2.out) hQB.out.size
          go_wp2_with (at_builtin; refine app_E_at encDot Try.underlying23 infoD rfl (by decide) rfl _ _ rfl B2 _ Ck rfl hoC4 aL nL cL L rfl hnL.out.symm HNL.out HSL.out (by omega) hbs5 ?_)
          intro v6 w16 own6 grow6 at6
          have HG6 : Hid (Below B2 w14 w16) := OwnE.grew (B := B2) hoC4 hbs5 (Nat.le_refl _) grow6
          have hT6 : Hid (Tri o o o w10 w16) := hQT.out.grown hoC4 (Nat.le_of_eq hB2.out.symm) grow6
          have hK6 := Lib.hid (hK4.out.below HG6.out HoB.out)
          have hoB6 := OwnE.keptBy hoB4 grow6 (by
            cases hv : (vB : Value).ownBlock with
            | none => exact .inl rfl
            | some h => exact .inr (fun e => hap.out h hv h e.symm rfl))
          have hap6 : Hid (∀ g, (vB : Value).ownBlock = some g → ∀ h, v6.ownBlock = some h → g ≠ h) := by
            show ∀ g, _ → ∀ h, _ → _
            intro g hg h hh
            rcases at6 with e | e
            · exact hap.out g hg h (by rw [← e]; exact hh)
            · have h1 := (World.ownsRow.lt hoB4 g hg).2
              rw [e] at hh
              cases hh
              omega
          obtain ⟨a6, c6, rfl, -, -, -, -, -⟩ := own6.sl encDot
          have HCK : Hid (Ck ++ L = cloudJ bs bs2 C (N.take (k + 1))) := HCN.out.symm
          obtain ⟨CL, hCL⟩ := nm (Ck ++ L)
          rw [← hCL.out] at own6 hap6 HCK ⊢
          obtain ⟨n6, hn6⟩ := nm CL.length
          rw [← hn6.out] at own6 hap6 ⊢
          have co1 : w16.cell? ⟨o, 1, none⟩ = some vC := hK6.out.cell 1
          have fo1 : w16.frozen? ⟨o, 1, none⟩ = false := hK6.out.free 1
          obtain ⟨w17, hw17⟩ := nm (w16.setCell ⟨o, 1, none⟩ (.slice a6 n6 c6))
          have hK7 : Hid (Blk w17 o #[vB, .slice a6 n6 c6] 25) := by rw [hw17.out]; exact hK6.out.set 1 _
          have hB7 : Hid (Below B0 w10 w17) := by rw [hw17.out]; exact ((hQB.out.trans (HG6.out.mono HB02.out))).setCell (p := ⟨o, 1, none⟩) HBo.out _
          have hT7 : Hid (Tri o o o w10 w17) := by rw [hw17.out]; exact hT6.out.set (p := ⟨o, 1, none⟩) (.inl rfl) _
          have hoB7 : OwnE eDot 2 w17 B2 31 (vB) Bk := by rw [hw17.out]; exact hoB6.kept (Kept.set (Kept.refl o _) 1 _) HoB.out
          have hoC7 : OwnE eDot 2 w17 B2 31 (.slice a6 n6 c6) CL := by rw [hw17.out]; exact own6.kept (Kept.set (Kept.refl o _) 1 _) HoB.out
          go_upto_region 10 with fail
          rw [← hw17.out]
          clear co1 fo1 hw17 own6 grow6 at6 hK6 hoB6
          go_wp2_with fail
          go_roundw
          case rel => exact ⟨k + 1, _, _, Bk, CL, by omega, by go_num, hK7, hoB7, hoC7, hap6, hB7, hT7, ⟨HBN.out.symm, HCK.out⟩⟩
          case measure => simp [intOf]; omega
      · have HU : Hid (u = baseD bs z) := by show _ = _; rw [hu.out, ← hua.out]; omega
        have hdgt : decide (u < ub) = false := decide_eq_false (by rw [hu.out]; omega)
        clear hu
        have HJW := Lib.hid (HJR.out.grow (HQ.out.mono HBS.out) HLT.out)
        have c0 : wr.cell? ⟨x, 0, none⟩ = some (.slice aa na ka) := HJW.out.ka.cell 0
        have c1 : wr.cell? ⟨x, 1, none⟩ = some (.slice ac nc kc) := HJW.out.ka.cell 1
        have dw : wr.cell? ⟨b, off + k, none⟩ = some (.int .i64 z) := (HQ.out.cell (p := ⟨b, off + k, none⟩) hbl).trans dn
        have hblW : b < wr.heap.size := Nat.lt_of_lt_of_le hbl HQ.out.size
        have KEEP : Hid (∀ wq : World, Below wr.drew.heap.size wr.drew wq → wq.cell? ⟨x, 0, none⟩ = some (.slice aa na ka) ∧ wq.cell? ⟨x, 1, none⟩ = some (.slice ac nc kc) ∧ wq.cell? ⟨b, off + k, none⟩ = some (.int .i64 z)) := by
          show ∀ wq : World, _
          intro wq h
          have h1 := Blk.below (w := wr.drew) HJW.out.ka h HJW.out.ka.lt
          exact ⟨h1.cell 0, h1.cell 1, (h.cell (p := ⟨b, off + k, none⟩) hblW).trans dw⟩
        go_wp2_with fail
        refine wp_region_noPanic ?_
        refine wp_region_held_drew (S := fun w' => w'.cell? ⟨x, 0, none⟩ = some (.slice aa na ka) ∧ w'.cell? ⟨x, 1, none⟩ = some (.slice ac nc kc) ∧ w'.cell? ⟨b, off + k, none⟩ = some (.int .i64 z)) (by kernel_rfl) (⟨c0, c1, dw⟩) (fun hHeld => ?_)
        refine wpAnyH_take (i := 0) (v := ?_) (takeL rfl) (by kernel_rfl) (by kernel_rfl) (by kernel_rfl) (fun _ _ _ h => h) (Or.inl ⟨by rfl, ?_⟩) (by assumption) ?_
        rotate_left
        · (intro w hSw; (try dsimp only at hSw); first | (go_simp; done) | (go_simp; with_reducible rfl))
        try simp only [Act.put, List.setIfInBounds_toArray, List.set_cons_zero, List.set_cons_succ]
        refine wpAnyH_take (i := 1) (v := ?_) (takeL rfl) (by kernel_rfl) (by kernel_rfl) (by kernel_rfl) (fun _ _ _ h => h) (Or.inl ⟨by rfl, ?_⟩) (by assumption) ?_
        rotate_left
        · (intro w hSw; (try dsimp only at hSw); first | (go_simp; done) | (go_simp; with_reducible rfl))
        try simp only [Act.put, List.setIfInBounds_toArray, List.set_cons_zero, List.set_cons_succ]
        refine wpAnyH_take (i := 2) (v := ?_) (takeL rfl) (by kernel_rfl) (by kernel_rfl) (by kernel_rfl) (fun _ _ _ h => h) (Or.inl ⟨by rfl, ?_⟩) (by assumption) ?_
        rotate_left
        · (intro w hSw; (try dsimp only at hSw); first | (go_simp; done) | (go_simp; with_reducible rfl))
        try simp only [Act.put, List.setIfInBounds_toArray, List.set_cons_zero, List.set_cons_succ]
        refine wpAnyH_take (i := 3) (v := ?_) (takeL rfl) (by kernel_rfl) (by kernel_rfl) (by kernel_rfl) (fun _ _ _ h => h) (Or.inl ⟨by rfl, ?_⟩) (by assumption) ?_
        rotate_left
        · (intro w hSw; (try dsimp only at hSw); first | (go_simp; done) | (go_simp; with_reducible rfl))
        try simp only [Act.put, List.setIfInBounds_toArray, List.set_cons_zero, List.set_cons_succ]
        refine wpAnyH_take (i := 4) (v := ?_) (takeL rfl) (by kernel_rfl) (by kernel_rfl) (by kernel_rfl) (fun _ _ _ h => h) (Or.inl ⟨by rfl, ?_⟩) (by assumption) ?_
        rotate_left
        · (intro w hSw; (try dsimp only at hSw); first | (go_simp; done) | (go_simp; with_reducible rfl))
        try simp only [Act.put, List.setIfInBounds_toArray, List.set_cons_zero, List.set_cons_succ]
        refine wpAnyH_ready (rs := [5]) (by kernel_rfl) (by simp) ?_
        refine AllReadyH.cons (takeL rfl) (fun K hK => ?_) AllReadyH.nil
        go_simp
        refine (refbase_any aa ac na ka nc kc bs hna (by omega) z u HU _ (S1.out.below (bDrew HJW.out.below))).mono ?_; rintro e w11 ⟨rfl, hBn⟩
        go_wp2_with fail
        refine hK.out _ _ (KEEP.out _ hBn) (fun hHeld => ?_)
        clear hK K
        refine wpAnyH_take (i := 6) (v := ?_) (takeL rfl) (by kernel_rfl) (by kernel_rfl) (by kernel_rfl) (fun _ _ _ h => h) (Or.inl ⟨by rfl, ?_⟩) (by assumption) ?_
        rotate_left
        · (intro w hSw; (try dsimp only at hSw); first | (go_simp; done) | (go_simp; with_reducible rfl))
        try simp only [Act.put, List.setIfInBounds_toArray, List.set_cons_zero, List.set_cons_succ]
        refine wpAnyH_done (by kernel_rfl) ?_ _
        refine NoPanic.normal ?_
        replace HQ := Lib.hid (bNext (bDrew HQ.out) hBn)
        clear KEEP hBn HJW c0 c1 dw hblW hHeld
        have HJW := Lib.hid (HJR.out.grow (HQ.out.mono HBS.out) HLT.out)
        have c0 : w11.cell? ⟨y, 0, none⟩ = some (.slice ab nb kb) := HJW.out.kb.cell 0
        have c1 : w11.cell? ⟨y, 1, none⟩ = some (.slice ad nd kd) := HJW.out.kb.cell 1
        have dw : w11.cell? ⟨b, off + k, none⟩ = some (.int .i64 z) := (HQ.out.cell (p := ⟨b, off + k, none⟩) hbl).trans dn
        have hblW : b < w11.heap.size := Nat.lt_of_lt_of_le hbl HQ.out.size
        have KEEP : Hid (∀ wq : World, Below w11.drew.heap.size w11.drew wq → wq.cell? ⟨y, 0, none⟩ = some (.slice ab nb kb) ∧ wq.cell? ⟨y, 1, none⟩ = some (.slice ad nd kd) ∧ wq.cell? ⟨b, off + k, none⟩ = some (.int .i64 z)) := by
          show ∀ wq : World, _
          intro wq h
          have h1 := Blk.below (w := w11.drew) HJW.out.kb h HJW.out.kb.lt
          exact ⟨h1.cell 0, h1.cell 1, (h.cell (p := ⟨b, off + k, none⟩) hblW).trans dw⟩
        go_wp2_with fail
        refine wp_region_noPanic ?_
        refine wp_region_held_drew (S := fun w' => w'.cell? ⟨y, 0, none⟩ = some (.slice ab nb kb) ∧ w'.cell? ⟨y, 1, none⟩ = some (.slice ad nd kd) ∧ w'.cell? ⟨b, off + k, none⟩ = some (.int .i64 z)) (by kernel_rfl) (⟨c0, c1, dw⟩) (fun hHeld => ?_)
        refine wpAnyH_take (i := 0) (v := ?_) (takeL rfl) (by kernel_rfl) (by kernel_rfl) (by kernel_rfl) (fun _ _ _ h => h) (Or.inl ⟨by rfl, ?_⟩) (by assumption) ?_
        rotate_left
        · (intro w hSw; (try dsimp only at hSw); first | (go_simp; done) | (go_simp; with_reducible rfl))
        try simp only [Act.put, List.setIfInBounds_toArray, List.set_cons_zero, List.set_cons_succ]
        refine wpAnyH_take (i := 1) (v := ?_) (takeL rfl) (by kernel_rfl) (by kernel_rfl) (by kernel_rfl) (fun _ _ _ h => h) (Or.inl ⟨by rfl, ?_⟩) (by assumption) ?_
        rotate_left
        · (intro w hSw; (try dsimp only at hSw); first | (go_simp; done) | (go_simp; with_reducible rfl))
        try simp only [Act.put, List.setIfInBounds_toArray, List.set_cons_zero, List.set_cons_succ]
        refine wpAnyH_take (i := 2) (v := ?_) (takeL rfl) (by kernel_rfl) (by kernel_rfl) (by kernel_rfl) (fun _ _ _ h => h) (Or.inl ⟨by rfl, ?_⟩) (by assumption) ?_
        rotate_left
        · (intro w hSw; (try dsimp only at hSw); first | (go_simp; done) | (go_simp; with_reducible rfl))
        try simp only [Act.put, List.setIfInBounds_toArray, List.set_cons_zero, List.set_cons_succ]
        refine wpAnyH_take (i := 3) (v := ?_) (takeL rfl) (by kernel_rfl) (by kernel_rfl) (by kernel_rfl) (fun _ _ _ h => h) (Or.inl ⟨by rfl, ?_⟩) (by assumption) ?_
        rotate_left
        · (intro w hSw; (try dsimp only at hSw); first | (go_simp; done) | (go_simp; with_reducible rfl))
        try simp only [Act.put, List.setIfInBounds_toArray, List.set_cons_zero, List.set_cons_succ]
        refine wpAnyH_take (i := 4) (v := ?_) (takeL rfl) (by kernel_rfl) (by kernel_rfl) (by kernel_rfl) (fun _ _ _ h => h) (Or.inl ⟨by rfl, ?_⟩) (by assumption) ?_
        rotate_left
        · (intro w hSw; (try dsimp only at hSw); first | (go_simp; done) | (go_simp; with_reducible rfl))
        try simp only [Act.put, List.setIfInBounds_toArray, List.set_cons_zero, List.set_cons_succ]
        refine wpAnyH_take (i := 6) (v := ?_) (takeL rfl) (by kernel_rfl) (by kernel_rfl) (by kernel_rfl) (fun _ _ _ h => h) (Or.inl ⟨by rfl, ?_⟩) (by assumption) ?_
        rotate_left
        · (intro w hSw; (try dsimp only at hSw); first | (go_simp; done) | (go_simp; with_reducible rfl))
        try simp only [Act.put, List.setIfInBounds_toArray, List.set_cons_zero, List.set_cons_succ]
        refine wpAnyH_ready (rs := [5]) (by kernel_rfl) (by simp) ?_
        refine AllReadyH.cons (takeL rfl) (fun K hK => ?_) AllReadyH.nil
        go_simp
        refine (refbase_any ab ad nb kb nd kd bs2 hnb (by omega) z ub hub _ (S3.out.below (bDrew HJW.out.below))).mono ?_; rintro e w12 ⟨rfl, hBn⟩
        go_wp2_with fail
        refine hK.out _ _ (KEEP.out _ hBn) (fun hHeld => ?_)
        clear hK K
        refine wpAnyH_take (i := 7) (v := ?_) (takeL rfl) (by kernel_rfl) (by kernel_rfl) (by kernel_rfl) (fun _ _ _ h => h) (Or.inl ⟨by rfl, ?_⟩) (by assumption) ?_
        rotate_left
        · (intro w hSw; (try dsimp only at hSw); first | (go_simp; done) | (go_simp; with_reducible rfl))
        try simp only [Act.put, List.setIfInBounds_toArray, List.set_cons_zero, List.set_cons_succ]
        refine wpAnyH_done (by kernel_rfl) ?_ _
        refine NoPanic.normal ?_
        replace HQ := Lib.hid (bNext (bDrew HQ.out) hBn)
        clear KEEP hBn HJW c0 c1 dw hblW hHeld
        have HSW : Hid (wr.heap.size ≤ w12.heap.size) := HQ.out.size
        have HJW := Lib.hid (HJR.out.grow (HQ.out.mono HBS.out) HLT.out)
        have c0 : w12.cell? ⟨g, 0, none⟩ = some (.slice a3 n3 c3) := HJW.out.kg.cell 0
        have c1 : w12.cell? ⟨g, 1, none⟩ = some (.slice a5 n5 c5) := HJW.out.kg.cell 1
        have dw : w12.cell? ⟨b, off + k, none⟩ = some (.int .i64 z) := (HQ.out.cell (p := ⟨b, off + k, none⟩) hbl).trans dn
        have hblW : b < w12.heap.size := Nat.lt_of_lt_of_le hbl HQ.out.size
        have KEEP : Hid (∀ wq : World, Below w12.drew.heap.size w12.drew wq → wq.cell? ⟨g, 0, none⟩ = some (.slice a3 n3 c3) ∧ wq.cell? ⟨g, 1, none⟩ = some (.slice a5 n5 c5) ∧ wq.cell? ⟨b, off + k, none⟩ = some (.int .i64 z)) := by
          show ∀ wq : World, _
          intro wq h
          have h1 := Blk.below (w := w12.drew) HJW.out.kg h HJW.out.kg.lt
          exact ⟨h1.cell 0, h1.cell 1, (h.cell (p := ⟨b, off + k, none⟩) hblW).trans dw⟩
        go_wp2_with fail
        refine wp_region_noPanic ?_
        refine wp_region_held_drew (S := fun w' => w'.cell? ⟨g, 0, none⟩ = some (.slice a3 n3 c3) ∧ w'.cell? ⟨g, 1, none⟩ = some (.slice a5 n5 c5) ∧ w'.cell? ⟨b, off + k, none⟩ = some (.int .i64 z)) (by kernel_rfl) (⟨c0, c1, dw⟩) (fun hHeld => ?_)
        refine wpAnyH_take (i := 0) (v := ?_) (takeL rfl) (by kernel_rfl) (by kernel_rfl) (by kernel_rfl) (fun _ _ _ h => h) (Or.inl ⟨by rfl, ?_⟩) (by assumption) ?_
        rotate_left
        · (intro w hSw; (try dsimp only at hSw); first | (go_simp; done) | (go_simp; with_reducible rfl))
        try simp only [Act.put, List.setIfInBounds_toArray, List.set_cons_zero, List.set_cons_succ]
        refine wpAnyH_take (i := 1) (v := ?_) (takeL rfl) (by kernel_rfl) (by kernel_rfl) (by kernel_rfl) (fun _ _ _ h => h) (Or.inl ⟨by rfl, ?_⟩) (by assumption) ?_
        rotate_left
        · (intro w hSw; (try dsimp only at hSw); first | (go_simp; done) | (go_simp; with_reducible rfl))
        try simp only [Act.put, List.setIfInBounds_toArray, List.set_cons_zero, List.set_cons_succ]
        refine wpAnyH_take (i := 2) (v := ?_) (takeL rfl) (by kernel_rfl) (by kernel_rfl) (by kernel_rfl) (fun _ _ _ h => h) (Or.inl ⟨by rfl, ?_⟩) (by assumption) ?_
        rotate_left
        · (intro w hSw; (try dsimp only at hSw); first | (go_simp; done) | (go_simp; with_reducible rfl))
        try simp only [Act.put, List.setIfInBounds_toArray, List.set_cons_zero, List.set_cons_succ]
        refine wpAnyH_take (i := 3) (v := ?_) (takeL rfl) (by kernel_rfl) (by kernel_rfl) (by kernel_rfl) (fun _ _ _ h => h) (Or.inl ⟨by rfl, ?_⟩) (by assumption) ?_
        rotate_left
        · (intro w hSw; (try dsimp only at hSw); first | (go_simp; done) | (go_simp; with_reducible rfl))
        try simp only [Act.put, List.setIfInBounds_toArray, List.set_cons_zero, List.set_cons_succ]
        refine wpAnyH_take (i := 4) (v := ?_) (takeL rfl) (by kernel_rfl) (by kernel_rfl) (by kernel_rfl) (fun _ _ _ h => h) (Or.inl ⟨by rfl, ?_⟩) (by assumption) ?_
        rotate_left
        · (intro w hSw; (try dsimp only at hSw); first | (go_simp; done) | (go_simp; with_reducible rfl))
        try simp only [Act.put, List.setIfInBounds_toArray, List.set_cons_zero, List.set_cons_succ]
        refine wpAnyH_take (i := 5) (v := ?_) (takeL rfl) (by kernel_rfl) (by kernel_rfl) (by kernel_rfl) (fun _ _ _ h => h) (Or.inl ⟨by rfl, ?_⟩) (by assumption) ?_
        rotate_left
        · (intro w hSw; (try dsimp only at hSw); first | (go_simp; done) | (go_simp; with_reducible rfl))
        try simp only [Act.put, List.setIfInBounds_toArray, List.set_cons_zero, List.set_cons_succ]
        refine wpAnyH_take (i := 6) (v := ?_) (takeL rfl) (by kernel_rfl) (by kernel_rfl) (by kernel_rfl) (fun _ _ _ h => h) (Or.inl ⟨by rfl, ?_⟩) (by assumption) ?_
        rotate_left
        · (intro w hSw; (try dsimp only at hSw); first | (go_simp; done) | (go_simp; with_reducible rfl))
        try simp only [Act.put, List.setIfInBounds_toArray, List.set_cons_zero, List.set_cons_succ]
        refine wpAnyH_ready (rs := [7]) (by kernel_rfl) (by simp) ?_
        refine AllReadyH.cons (takeL rfl) (fun K hK => ?_) AllReadyH.nil
        go_simp
        refine (HOF.out _ (HCr.out.below (bDrew HQ.out))).mono ?_; rintro e w14 ⟨vL, rfl, ownL, hBn⟩
        go_wp2_with fail
        refine hK.out _ _ (KEEP.out _ hBn) (fun hHeld => ?_)
        clear hK K
        refine wpAnyH_take (i := 8) (v := ?_) (takeL rfl) (by kernel_rfl) (by kernel_rfl) (by kernel_rfl) (fun _ _ _ h => h) (Or.inl ⟨by rfl, ?_⟩) (by assumption) ?_
        rotate_left
        · (intro w hSw; (try dsimp only at hSw); first | (go_simp; done) | (go_simp; with_reducible rfl))
        try simp only [Act.put, List.setIfInBounds_toArray, List.set_cons_zero, List.set_cons_succ]
        refine wpAnyH_take (i := 9) (v := ?_) (takeL rfl) (by kernel_rfl) (by kernel_rfl) (by kernel_rfl) (fun _ _ _ h => h) (Or.inl ⟨by rfl, ?_⟩) (by assumption) ?_
        rotate_left
        · (intro w hSw; (try dsimp only at hSw); first | (go_simp; done) | (go_simp; with_reducible rfl))
        try simp only [Act.put, List.setIfInBounds_toArray, List.set_cons_zero, List.set_cons_succ]
        refine wpAnyH_take (i := 10) (v := ?_) (takeL rfl) (by kernel_rfl) (by kernel_rfl) (by kernel_rfl) (fun _ _ _ h => h) (Or.inl ⟨by rfl, ?_⟩) (by assumption) ?_
        rotate_left
        · (intro w hSw; (try dsimp only at hSw); first | (go_simp; done) | (go_simp; with_reducible rfl))
        try simp only [Act.put, List.setIfInBounds_toArray, List.set_cons_zero, List.set_cons_succ]
        refine wpAnyH_take (i := 11) (v := ?_) (takeL rfl) (by kernel_rfl) (by kernel_rfl) (by kernel_rfl) (fun _ _ _ h => h) (Or.inl ⟨by rfl, ?_⟩) (by assumption) ?_
        rotate_left
        · (intro w hSw; (try dsimp only at hSw); first | (go_simp; done) | (go_simp; with_reducible rfl))
        try simp only [Act.put, List.setIfInBounds_toArray, List.set_cons_zero, List.set_cons_succ]
        refine wpAnyH_take (i := 12) (v := ?_) (takeL rfl) (by kernel_rfl) (by kernel_rfl) (by kernel_rfl) (fun _ _ _ h => h) (Or.inl ⟨by rfl, ?_⟩) (by assumption) ?_
        rotate_left
        · (intro w hSw; (try dsimp only at hSw); first | (go_simp; done) | (go_simp; with_reducible rfl))
        try simp only [Act.put, List.setIfInBounds_toArray, List.set_cons_zero, List.set_cons_succ]
        refine wpAnyH_done (by kernel_rfl) ?_ _
        refine NoPanic.normal ?_
        replace HQ := Lib.hid (bNext (bDrew HQ.out) hBn)
        clear KEEP hBn HJW c0 c1 dw hblW hHeld
        obtain ⟨aL, cL, rfl, -, -, -, hnoL, -⟩ := ownL.sl encDot
        have HNL : Hid (aL = none → cL = 0) := hnoL
        obtain ⟨nL, hnL⟩ := nm L.length
        rw [← hnL.out] at ownL ⊢
        have OWL : Hid (OwnE eDot 2 w14 w12.heap.size 31 (.slice aL nL cL) L) := ownL
        have hnL2 : nL ≤ 1000000 := by
          have h1 : (Ck ++ L).length ≤ 20000 := by
            rw [← HCN.out]; exact Nat.le_trans (cloudJ_length (HNP.out.sublist (List.take_sublist _ _))) (by rw [← hn5.out]; exact hlC)
          rw [List.length_append, ← hnL.out] at h1; omega
        have hK4 := Lib.hid (hKo.out.below HQ.out hKo.out.lt)
        have hoB4 := hownB.below HQ.out
        have hoC4 := hownC.below HQ.out
        have hQB : Hid (Below B0 w10 w14) := hB.out.trans (HQ.out.mono HBS.out)
        have hQT : Hid (Tri o o o w10 w14) := hT.out.trans (Tri.ofBelow HQ.out)
        have dw : w14.cell? ⟨b, off + k, none⟩ = some (.int .i64 z) := (HQ.out.cell (p := ⟨b, off + k, none⟩) hbl).trans dn
        have hsz4 : B2 ≤ w14.heap.size := Nat.le_trans hszr HQ.out.size
        have HVB : Hid (∀ h, vB.ownBlock = some h → h < wr.heap.size) := fun h e => (World.ownsRow.lt hownB h e).2
        clear ownL hnoL hownB hownC
        by_cases hK0 : 0 < KK
        · have hdK : decide (0 < KK) = true := decide_eq_true hK0
          rw [if_pos hK0] at HBN
          obtain ⟨i0, hi, hz0, hz1, hz2⟩ := info_parts infoD
          have co0 : w14.cell? ⟨o, 0, none⟩ = some vB := hK4.out.cell 0
          have hneb : vB.ownBlock ≠ some b := fun e => by have := (World.ownsRow.lt hoB4 b e).1; omega
          have hneo : vB.ownBlock ≠ some o := fun e => by have := (World.ownsRow.lt hoB4 o e).1; have := HoB.out; omega
          have hblr : b < w14.heap.size := by omega
          have hor : o < w14.heap.size := hK4.out.lt
          go_wp2_with fail
          refine wp_region_noPanic ?_
          refine wp_region_held_drew (S := fun w' => w'.cell? ⟨b, off + k, none⟩ = some (.int .i64 z)) (by kernel_rfl) (cell_dr dw) (fun hHeld => ?_)
          refine wpAnyH_take (i := 0) (v := ?_) (takeL rfl) (by kernel_rfl) (by kernel_rfl) (by kernel_rfl) (fun _ _ _ h => h) (Or.inl ⟨by rfl, ?_⟩) (by assumption) ?_
          rotate_left
          · (intro w hSw; (try dsimp only at hSw); first | (go_simp; done) | (go_simp; with_reducible rfl))
          try simp only [Act.put, List.setIfInBounds_toArray, List.set_cons_zero, List.set_cons_succ]
          refine wpAnyH_take (i := 2) (v := ?_) (takeL rfl) (by kernel_rfl) (by kernel_rfl) (by kernel_rfl) (fun _ _ _ h => h) (Or.inl ⟨by rfl, ?_⟩) (by assumption) ?_
          rotate_left
          · (intro w hSw; (try dsimp only at hSw); first | (go_simp; done) | (go_simp; with_reducible rfl))
          try simp only [Act.put, List.setIfInBounds_toArray, List.set_cons_zero, List.set_cons_succ]
          refine wpAnyH_take (i := 3) (v := ?_) (takeL rfl) (by kernel_rfl) (by kernel_rfl) (by kernel_rfl) (fun _ _ _ h => h) (Or.inl ⟨by rfl, ?_⟩) (by assumption) ?_
          rotate_left
          · (intro w hSw; (try dsimp only at hSw); first | (go_simp; done) | (go_simp; with_reducible rfl))
          try simp only [Act.put, List.setIfInBounds_toArray, List.set_cons_zero, List.set_cons_succ]
          refine wpAnyH_take (i := 4) (v := ?_) (takeL rfl) (by kernel_rfl) (by kernel_rfl) (by kernel_rfl) (fun _ _ _ h => h) (Or.inl ⟨by rfl, ?_⟩) (by assumption) ?_
          rotate_left
          · (intro w hSw; (try dsimp only at hSw); first | (go_simp; done) | (go_simp; with_reducible rfl))
          try simp only [Act.put, List.setIfInBounds_toArray, List.set_cons_zero, List.set_cons_succ]
          refine wpAnyH_take (i := 5) (v := ?_) (takeL rfl) (by kernel_rfl) (by kernel_rfl) (by kernel_rfl) (fun _ _ _ h => h) (Or.inl ⟨by rfl, ?_⟩) (by assumption) ?_
          rotate_left
          · (intro w hSw; (try dsimp only at hSw); first | (go_simp; done) | (go_simp; with_reducible rfl))
          try simp only [Act.put, List.setIfInBounds_toArray, List.set_cons_zero, List.set_cons_succ]
          refine wpAnyH_take (i := 6) (v := ?_) (takeL rfl) (by kernel_rfl) (by kernel_rfl) (by kernel_rfl) (fun _ _ _ h => h) (Or.inl ⟨by rfl, ?_⟩) (by assumption) ?_
          rotate_left
          · (intro w hSw; (try dsimp only at hSw); first | (go_simp; done) | (go_simp; with_reducible rfl))
          try simp only [Act.put, List.setIfInBounds_toArray, List.set_cons_zero, List.set_cons_succ]
          refine wpAnyH_take (i := 7) (v := ?_) (takeL rfl) (by kernel_rfl) (by kernel_rfl) (by kernel_rfl) (fun _ _ _ h => h) (Or.inl ⟨by rfl, ?_⟩) (by assumption) ?_
          rotate_left
          · (intro w hSw; (try dsimp only at hSw); first | (go_simp; done) | (go_simp; with_reducible rfl))
          try simp only [Act.put, List.setIfInBounds_toArray, List.set_cons_zero, List.set_cons_succ]
          refine wpAnyH_ready (rs := [1, 8]) (by kernel_rfl) (by simp) ?_
          refine AllReadyH.cons (takeL rfl) (fun K hK => ?_) (AllReadyH.cons (takeL rfl) (fun K hK => ?_) AllReadyH.nil)
          · go_simp
            refine hK.out _ _ hHeld (fun hHeld => ?_)
            clear hK K
            refine wpAnyH_ready (rs := [8]) (by kernel_rfl) (by simp) ?_
            refine AllReadyH.cons (takeL rfl) (fun K hK => ?_) AllReadyH.nil
            go_simp
            refine hK.out _ _ (cell_al hHeld) (fun hHeld => ?_)
            clear hK K
            refine wpAnyH_ready (rs := [9]) (by kernel_rfl) (by simp) ?_
            refine AllReadyH.cons (takeL rfl) (fun K hK => ?_) AllReadyH.nil
            refine step_append_lies _ (by rfl) _ _ _ (by rfl) B2 31 i0 _ 2 16 Try.underlying23 hi hz0 hz1 hz2 rfl (by decide) _ Bk.length (flatE eDot Bk) (by rfl) ((World.ownsRow.alloc hoB4 _).drew) ⟨w14.heap.size, 0, none⟩ 1 1 [.int .i64 z, .int .i64 KK] (by rfl) (by rfl) (World.news_of_block (cs := #[.int .i64 z, .int .i64 KK]) (t := 31) (fr := (0, 0)) (heap_alloc_new w14 _)) (by simp [Value.oneCell']) (by decide) (by unfold maxLen; omega) (by omega) (by simp; omega) (w14.heap.size + 1) (by simp) ?_
            intro gg cap2 w15 hown6 hgrow hat hlt9
            have hK5 := hoB4.grewBlk HoB.out hsz4 hK4.out hgrow
            have co0 : w15.cell? ⟨o, 0, none⟩ = some vB := hK5.cell 0
            have fo0 : w15.frozen? ⟨o, 0, none⟩ = false := hK5.free 0
            refine hK.out _ _ (by rw [hgrow.cell_far _ (by simp; omega) (Ne.symm hneb)]; exact cell_al (cell_dr dw)) (fun hHeld => ?_)
            clear hK K
            refine wpAnyH_take (i := 10) (v := ?_) (takeL rfl) (by kernel_rfl) (by kernel_rfl) (by kernel_rfl) (fun _ _ _ h => h) (Or.inl ⟨by rfl, ?_⟩) (by assumption) ?_
            rotate_left
            · (intro w hSw; (try dsimp only at hSw); first | (go_simp; done) | (go_simp; with_reducible rfl))
            try simp only [Act.put, List.setIfInBounds_toArray, List.set_cons_zero, List.set_cons_succ]
            refine wpAnyH_ready (rs := [11]) (by kernel_rfl) (by simp) ?_
            refine AllReadyH.cons (takeL rfl) (fun K hK => ?_) AllReadyH.nil
            go_simp
            refine hK.out _ _ (by rw [World.cell?_setCell_far _ _ _ _ (by simp; omega)]; exact hHeld) (fun hHeld => ?_)
            clear hK K
            refine wpAnyH_done (by kernel_rfl) ?_ _
            refine NoPanic.normal ?_
            have HB6 : Hid (Below B2 w14 w15) := (bDrew ((Below.refl B2 w14).alloc hsz4 _)).grown hgrow (by simp; omega) (fun kk h => (World.ownsRow.lt hoB4 kk h).1)
            have hown7 : OwnE eDot 2 w15 B2 31 (.slice (some ⟨gg, 0, none⟩) (Bk.length + 1) cap2) (Bk ++ [(z, KK)]) := by
              show w15.ownsRow _ _ _ _ _ _
              rw [List.length_append, flatE_append]
              exact hown6
            have hoC6 : OwnE eDot 2 w15 B2 31 vC Ck := OwnE.keptBy (OwnE.drew (OwnE.alloc hoC4 _)) hgrow (by
              cases hv : vC.ownBlock with
              | none => exact .inl rfl
              | some h => exact .inr (fun e => hap.out h e.symm h hv rfl))
            have howL6 : OwnE eDot 2 w15 w12.heap.size 31 (.slice aL nL cL) L := OwnE.keptBy (OwnE.drew (OwnE.alloc OWL.out _)) hgrow (by
              cases hv : (Value.slice aL nL cL).ownBlock with
              | none => exact .inl rfl
              | some h => exact .inr (fun e => by have h1 := (World.ownsRow.lt OWL.out h hv).1; have h2 := HVB.out h e.symm; have h3 := HSW.out; omega))
            have hap6' : Hid (∀ g, (Value.slice (some ⟨gg, 0, none⟩) (Bk.length + 1) cap2).ownBlock = some g → ∀ h, vC.ownBlock = some h → g ≠ h) := by
              show ∀ g, _ → ∀ h, _ → _
              intro g hg h hh
              obtain rfl : gg = g := by simpa [Value.ownBlock] using hg
              rcases hat with e | e
              · exact hap.out _ e h hh
              · have := (World.ownsRow.lt hoC4 h hh).2
                omega
            obtain ⟨nB, hnB⟩ := nm (Bk.length + 1)
            obtain ⟨BK2, hBK2⟩ := nm (Bk ++ [((z, KK) : Dot2)])
            rw [← hBK2.out] at hown7 HBN
            rw [← hnB.out] at hown7 hap6' ⊢
            obtain ⟨wS, hwS⟩ := nm (w15.setCell ⟨o, 0, none⟩ (.slice (some ⟨gg, 0, none⟩) nB cap2))
            have hKS : Hid (Blk wS o #[.slice (some ⟨gg, 0, none⟩) nB cap2, vC] 25) := by rw [hwS.out]; exact hK5.set 0 _
            have hBS : Hid (Below B0 w10 wS) := by rw [hwS.out]; exact (hQB.out.trans (HB6.out.mono HB02.out)).setCell (p := ⟨o, 0, none⟩) HBo.out _
            have hTS : Hid (Tri o o o w10 wS) := by rw [hwS.out]; exact (Tri.thenBelow hQT.out (Nat.le_of_eq hB2.out.symm) HB6.out).set (p := ⟨o, 0, none⟩) (.inl rfl) _
            have hoBS : OwnE eDot 2 wS B2 31 (.slice (some ⟨gg, 0, none⟩) nB cap2) BK2 := by rw [hwS.out]; exact hown7.kept (Kept.set (Kept.refl o _) 0 _) HoB.out
            have hoCS : OwnE eDot 2 wS B2 31 vC Ck := by rw [hwS.out]; exact hoC6.kept (Kept.set (Kept.refl o _) 0 _) HoB.out
            have howLS : OwnE eDot 2 wS w12.heap.size 31 (.slice aL nL cL) L := by rw [hwS.out]; exact howL6.kept (Kept.set (Kept.refl o _) 0 _) (by have := HoB.out; have := HSW.out; omega)
            have HSL : Hid (SlE eDot 2 wS aL L) := by
              obtain ⟨_, _, e, -, -, h, -, -⟩ := howLS.sl encDot
              cases e
              exact h
            rw [← hwS.out]
            clear co0 fo0 hown6 hgrow hat hlt9 hHeld HB6 hown7 hoC6 howL6 hwS hoB4 hoC4 howLS hi hz0 hz1 hz2
            have co1 : wS.cell? ⟨o, 1, none⟩ = some vC := hKS.out.cell 1
            have hbs5 : B2 ≤ wS.heap.size := Nat.le_trans (Nat.le_of_eq hB2.out) hBS.out.size
            go_wp2_with (at_builtin; refine app_E_at encDot Try.underlying23 infoD rfl (by decide) rfl _ _ rfl B2 _ Ck rfl hoCS aL nL cL L rfl hnL.out.symm HNL.out HSL.out (by omega) hbs5 ?_)
            intro v6 w16 own6 grow6 at6
            have HG6 : Hid (Below B2 wS w16) := OwnE.grew (B := B2) hoCS hbs5 (Nat.le_refl _) grow6
            have hT6 : Hid (Tri o o o w10 w16) := hTS.out.grown hoCS (Nat.le_of_eq hB2.out.symm) grow6
            have hK6 := Lib.hid (hKS.out.below HG6.out HoB.out)
            have hoB6 := OwnE.keptBy hoBS grow6 (by
              cases hv : (.slice (some ⟨gg, 0, none⟩) nB cap2 : Value).ownBlock with
              | none => exact .inl rfl
              | some h => exact .inr (fun e => hap6'.out h hv h e.symm rfl))
            have hap6 : Hid (∀ g, (.slice (some ⟨gg, 0, none⟩) nB cap2 : Value).ownBlock = some g → ∀ h, v6.ownBlock = some h → g ≠ h) := by
              show ∀ g, _ → ∀ h, _ → _
              intro g hg h hh
              rcases at6 with e | e
              · exact hap6'.out g hg h (by rw [← e]; exact hh)
              · have h1 := (World.ownsRow.lt hoBS g hg).2
                rw [e] at hh
                cases hh
                omega
            obtain ⟨a6, c6, rfl, -, -, -, -, -⟩ := own6.sl encDot
            have HCK : Hid (Ck ++ L = cloudJ bs bs2 C (N.take (k + 1))) := HCN.out.symm
            obtain ⟨CL, hCL⟩ := nm (Ck ++ L)
            rw [← hCL.out] at own6 hap6 HCK ⊢
            obtain ⟨n6, hn6⟩ := nm CL.length
            rw [← hn6.out] at own6 hap6 ⊢
            have co1 : w16.cell? ⟨o, 1, none⟩ = some vC := hK6.out.cell 1
            have fo1 : w16.frozen? ⟨o, 1, none⟩ = false := hK6.out.free 1
            obtain ⟨w17, hw17⟩ := nm (w16.setCell ⟨o, 1, none⟩ (.slice a6 n6 c6))
            have hK7 : Hid (Blk w17 o #[.slice (some ⟨gg, 0, none⟩) nB cap2, .slice a6 n6 c6] 25) := by rw [hw17.out]; exact hK6.out.set 1 _
            have hB7 : Hid (Below B0 w10 w17) := by rw [hw17.out]; exact ((hBS.out.trans (HG6.out.mono HB02.out))).setCell (p := ⟨o, 1, none⟩) HBo.out _
            have hT7 : Hid (Tri o o o w10 w17) := by rw [hw17.out]; exact hT6.out.set (p := ⟨o, 1, none⟩) (.inl rfl) _
            have hoB7 : OwnE eDot 2 w17 B2 31 (.slice (some ⟨gg, 0, none⟩) nB cap2) BK2 := by rw [hw17.out]; exact hoB6.kept (Kept.set (Kept.refl o _) 1 _) HoB.out
            have hoC7 : OwnE eDot 2 w17 B2 31 (.slice a6 n6 c6) CL := by rw [hw17.out]; exact own6.kept (Kept.set (Kept.refl o _) 1 _) HoB.out
            go_upto_region 10 with fail
            rw [← hw17.out]
            clear co1 fo1 hw17 own6 grow6 at6 hK6 hoB6
            go_wp2_with fail
            go_roundw
            case rel => exact ⟨k + 1, _, _, BK2, CL, by omega, by go_num, hK7, hoB7, hoC7, hap6, hB7, hT7, ⟨HBN.out.symm, HCK.out⟩⟩
            case measure => simp [intOf]; omega
          · go_simp
            refine hK.out _ _ (cell_al hHeld) (fun hHeld => ?_)
            clear hK K
            refine wpAnyH_ready (rs := [1]) (by kernel_rfl) (by simp) ?_
            refine AllReadyH.cons (takeL rfl) (fun K hK => ?_) AllReadyH.nil
            go_simp
            refine hK.out _ _ hHeld (fun hHeld => ?_)
            clear hK K
            refine wpAnyH_ready (rs := [9]) (by kernel_rfl) (by simp) ?_
            refine AllReadyH.cons (takeL rfl) (fun K hK => ?_) AllReadyH.nil
            refine step_append_lies _ (by rfl) _ _ _ (by rfl) B2 31 i0 _ 2 16 Try.underlying23 hi hz0 hz1 hz2 rfl (by decide) _ Bk.length (flatE eDot Bk) (by rfl) ((World.ownsRow.alloc hoB4 _).drew) ⟨w14.heap.size, 0, none⟩ 1 1 [.int .i64 z, .int .i64 KK] (by rfl) (by rfl) (World.news_of_block (cs := #[.int .i64 z, .int .i64 KK]) (t := 31) (fr := (0, 0)) (heap_alloc_new w14 _)) (by simp [Value.oneCell']) (by decide) (by unfold maxLen; omega) (by omega) (by simp; omega) (w14.heap.size + 1) (by simp) ?_
            intro gg cap2 w15 hown6 hgrow hat hlt9
            have hK5 := hoB4.grewBlk HoB.out hsz4 hK4.out hgrow
            have co0 : w15.cell? ⟨o, 0, none⟩ = some vB := hK5.cell 0
            have fo0 : w15.frozen? ⟨o, 0, none⟩ = false := hK5.free 0
            refine hK.out _ _ (by rw [hgrow.cell_far _ (by simp; omega) (Ne.symm hneb)]; exact cell_al (cell_dr dw)) (fun hHeld => ?_)
            clear hK K
            refine wpAnyH_take (i := 10) (v := ?_) (takeL rfl) (by kernel_rfl) (by kernel_rfl) (by kernel_rfl) (fun _ _ _ h => h) (Or.inl ⟨by rfl, ?_⟩) (by assumption) ?_
            rotate_left
            · (intro w hSw; (try dsimp only at hSw); first | (go_simp; done) | (go_simp; with_reducible rfl))
            try simp only [Act.put, List.setIfInBounds_toArray, List.set_cons_zero, List.set_cons_succ]
            refine wpAnyH_ready (rs := [11]) (by kernel_rfl) (by simp) ?_
            refine AllReadyH.cons (takeL rfl) (fun K hK => ?_) AllReadyH.nil
            go_simp
            refine hK.out _ _ (by rw [World.cell?_setCell_far _ _ _ _ (by simp; omega)]; exact hHeld) (fun hHeld => ?_)
            clear hK K
            refine wpAnyH_done (by kernel_rfl) ?_ _
            refine NoPanic.normal ?_
            have HB6 : Hid (Below B2 w14 w15) := (bDrew ((Below.refl B2 w14).alloc hsz4 _)).grown hgrow (by simp; omega) (fun kk h => (World.ownsRow.lt hoB4 kk h).1)
            have hown7 : OwnE eDot 2 w15 B2 31 (.slice (some ⟨gg, 0, none⟩) (Bk.length + 1) cap2) (Bk ++ [(z, KK)]) := by
              show w15.ownsRow _ _ _ _ _ _
              rw [List.length_append, flatE_append]
              exact hown6
            have hoC6 : OwnE eDot 2 w15 B2 31 vC Ck := OwnE.keptBy (OwnE.drew (OwnE.alloc hoC4 _)) hgrow (by
              cases hv : vC.ownBlock with
              | none => exact .inl rfl
              | some h => exact .inr (fun e => hap.out h e.symm h hv rfl))
            have howL6 : OwnE eDot 2 w15 w12.heap.size 31 (.slice aL nL cL) L := OwnE.keptBy (OwnE.drew (OwnE.alloc OWL.out _)) hgrow (by
              cases hv : (Value.slice aL nL cL).ownBlock with
              | none => exact .inl rfl
              | some h => exact .inr (fun e => by have h1 := (World.ownsRow.lt OWL.out h hv).1; have h2 := HVB.out h e.symm; have h3 := HSW.out; omega))
            have hap6' : Hid (∀ g, (Value.slice (some ⟨gg, 0, none⟩) (Bk.length + 1) cap2).ownBlock = some g → ∀ h, vC.ownBlock = some h → g ≠ h) := by
              show ∀ g, _ → ∀ h, _ → _
              intro g hg h hh
              obtain rfl : gg = g := by simpa [Value.ownBlock] using hg
              rcases hat with e | e
              · exact hap.out _ e h hh
              · have := (World.ownsRow.lt hoC4 h hh).2
                omega
            obtain ⟨nB, hnB⟩ := nm (Bk.length + 1)
            obtain ⟨BK2, hBK2⟩ := nm (Bk ++ [((z, KK) : Dot2)])
            rw [← hBK2.out] at hown7 HBN
            rw [← hnB.out] at hown7 hap6' ⊢
            obtain ⟨wS, hwS⟩ := nm (w15.setCell ⟨o, 0, none⟩ (.slice (some ⟨gg, 0, none⟩) nB cap2))
            have hKS : Hid (Blk wS o #[.slice (some ⟨gg, 0, none⟩) nB cap2, vC] 25) := by rw [hwS.out]; exact hK5.set 0 _
            have hBS : Hid (Below B0 w10 wS) := by rw [hwS.out]; exact (hQB.out.trans (HB6.out.mono HB02.out)).setCell (p := ⟨o, 0, none⟩) HBo.out _
            have hTS : Hid (Tri o o o w10 wS) := by rw [hwS.out]; exact (Tri.thenBelow hQT.out (Nat.le_of_eq hB2.out.symm) HB6.out).set (p := ⟨o, 0, none⟩) (.inl rfl) _
            have hoBS : OwnE eDot 2 wS B2 31 (.slice (some ⟨gg, 0, none⟩) nB cap2) BK2 := by rw [hwS.out]; exact hown7.kept (Kept.set (Kept.refl o _) 0 _) HoB.out
            have hoCS : OwnE eDot 2 wS B2 31 vC Ck := by rw [hwS.out]; exact hoC6.kept (Kept.set (Kept.refl o _) 0 _) HoB.out
            have howLS : OwnE eDot 2 wS w12.heap.size 31 (.slice aL nL cL) L := by rw [hwS.out]; exact howL6.kept (Kept.set (Kept.refl o _) 0 _) (by have := HoB.out; have := HSW.out; omega)
            have HSL : Hid (SlE eDot 2 wS aL L) := by
              obtain ⟨_, _, e, -, -, h, -, -⟩ := howLS.sl encDot
              cases e
              exact h
            rw [← hwS.out]
            clear co0 fo0 hown6 hgrow hat hlt9 hHeld HB6 hown7 hoC6 howL6 hwS hoB4 hoC4 howLS hi hz0 hz1 hz2
            have co1 : wS.cell? ⟨o, 1, none⟩ = some vC := hKS.out.cell 1
            have hbs5 : B2 ≤ wS.heap.size := Nat.le_trans (Nat.le_of_eq hB2.out) hBS.out.size
            go_wp2_with (at_builtin; refine app_E_at encDot Try.underlying23 infoD rfl (by decide) rfl _ _ rfl B2 _ Ck rfl hoCS aL nL cL L rfl hnL.out.symm HNL.out HSL.out (by omega) hbs5 ?_)
            intro v6 w16 own6 grow6 at6
            have HG6 : Hid (Below B2 wS w16) := OwnE.grew (B := B2) hoCS hbs5 (Nat.le_refl _) grow6
            have hT6 : Hid (Tri o o o w10 w16) := hTS.out.grown hoCS (Nat.le_of_eq hB2.out.symm) grow6
            have hK6 := Lib.hid (hKS.out.below HG6.out HoB.out)
            have hoB6 := OwnE.keptBy hoBS grow6 (by
              cases hv : (.slice (some ⟨gg, 0, none⟩) nB cap2 : Value).ownBlock with
              | none => exact .inl rfl
              | some h => exact .inr (fun e => hap6'.out h hv h e.symm rfl))
            have hap6 : Hid (∀ g, (.slice (some ⟨gg, 0, none⟩) nB cap2 : Value).ownBlock = some g → ∀ h, v6.ownBlock = some h → g ≠ h) := by
              show ∀ g, _ → ∀ h, _ → _
              intro g hg h hh
              rcases at6 with e | e
              · exact hap6'.out g hg h (by rw [← e]; exact hh)
              · have h1 := (World.ownsRow.lt hoBS g hg).2
                rw [e] at hh
                cases hh
                omega
            obtain ⟨a6, c6, rfl, -, -, -, -, -⟩ := own6.sl encDot
            have HCK : Hid (Ck ++ L = cloudJ bs bs2 C (N.take (k + 1))) := HCN.out.symm
            obtain ⟨CL, hCL⟩ := nm (Ck ++ L)
            rw [← hCL.out] at own6 hap6 HCK ⊢
            obtain ⟨n6, hn6⟩ := nm CL.length
            rw [← hn6.out] at own6 hap6 ⊢
            have co1 : w16.cell? ⟨o, 1, none⟩ = some vC := hK6.out.cell 1
            have fo1 : w16.frozen? ⟨o, 1, none⟩ = false := hK6.out.free 1
            obtain ⟨w17, hw17⟩ := nm (w16.setCell ⟨o, 1, none⟩ (.slice a6 n6 c6))
            have hK7 : Hid (Blk w17 o #[.slice (some ⟨gg, 0, none⟩) nB cap2, .slice a6 n6 c6] 25) := by rw [hw17.out]; exact hK6.out.set 1 _
            have hB7 : Hid (Below B0 w10 w17) := by rw [hw17.out]; exact ((hBS.out.trans (HG6.out.mono HB02.out))).setCell (p := ⟨o, 1, none⟩) HBo.out _
            have hT7 : Hid (Tri o o o w10 w17) := by rw [hw17.out]; exact hT6.out.set (p := ⟨o, 1, none⟩) (.inl rfl) _
            have hoB7 : OwnE eDot 2 w17 B2 31 (.slice (some ⟨gg, 0, none⟩) nB cap2) BK2 := by rw [hw17.out]; exact hoB6.kept (Kept.set (Kept.refl o _) 1 _) HoB.out
            have hoC7 : OwnE eDot 2 w17 B2 31 (.slice a6 n6 c6) CL := by rw [hw17.out]; exact own6.kept (Kept.set (Kept.refl o _) 1 _) HoB.out
            go_upto_region 10 with fail
            rw [← hw17.out]
            clear co1 fo1 hw17 own6 grow6 at6 hK6 hoB6
            go_wp2_with fail
            go_roundw
            case rel => exact ⟨k + 1, _, _, BK2, CL, by omega, by go_num, hK7, hoB7, hoC7, hap6, hB7, hT7, ⟨HBN.out.symm, HCK.out⟩⟩
            case measure => simp [intOf]; omega
        · have hdK : decide (0 < KK) = false := decide_eq_false hK0
          rw [if_neg hK0, List.append_nil] at HBN
          have HSL : Hid (SlE eDot 2 w14 aL L) := by
            obtain ⟨_, _, e, -, -, h, -, -⟩ := OWL.out.sl encDot
            cases e
            exact h
          have co1 : w14.cell? ⟨o, 1, none⟩ = some vC := hK4.out.cell 1
          have hbs5 : B2 ≤ w14.heap.size := Nat.le_trans (Nat.le_of_eq hB2.out) hQB.out.size
          go_wp2_with (at_builtin; refine app_E_at encDot Try.underlying23 infoD rfl (by decide) rfl _ _ rfl B2 _ Ck rfl hoC4 aL nL cL L rfl hnL.out.symm HNL.out HSL.out (by omega) hbs5 ?_)
          intro v6 w16 own6 grow6 at6
          have HG6 : Hid (Below B2 w14 w16) := OwnE.grew (B := B2) hoC4 hbs5 (Nat.le_refl _) grow6
          have hT6 : Hid (Tri o o o w10 w16) := hQT.out.grown hoC4 (Nat.le_of_eq hB2.out.symm) grow6
          have hK6 := Lib.hid (hK4.out.below HG6.out HoB.out)
          have hoB6 := OwnE.keptBy hoB4 grow6 (by
            cases hv : (vB : Value).ownBlock with
            | none => exact .inl rfl
            | some h => exact .inr (fun e => hap.out h hv h e.symm rfl))
          have hap6 : Hid (∀ g, (vB : Value).ownBlock = some g → ∀ h, v6.ownBlock = some h → g ≠ h) := by
            show ∀ g, _ → ∀ h, _ → _
            intro g hg h hh
            rcases at6 with e | e
            · exact hap.out g hg h (by rw [← e]; exact hh)
            · have h1 := (World.ownsRow.lt hoB4 g hg).2
              rw [e] at hh
              cases hh
              omega
          obtain ⟨a6, c6, rfl, -, -, -, -, -⟩ := own6.sl encDot
          have HCK : Hid (Ck ++ L = cloudJ bs bs2 C (N.take (k + 1))) := HCN.out.symm
          obtain ⟨CL, hCL⟩ := nm (Ck ++ L)
          rw [← hCL.out] at own6 hap6 HCK ⊢
          obtain ⟨n6, hn6⟩ := nm CL.length
          rw [← hn6.out] at own6 hap6 ⊢
          have co1 : w16.cell? ⟨o, 1, none⟩ = some vC := hK6.out.cell 1
          have fo1 : w16.frozen? ⟨o, 1, none⟩ = false := hK6.out.free 1
          obtain ⟨w17, hw17⟩ := nm (w16.setCell ⟨o, 1, none⟩ (.slice a6 n6 c6))
          have hK7 : Hid (Blk w17 o #[vB, .slice a6 n6 c6] 25) := by rw [hw17.out]; exact hK6.out.set 1 _
          have hB7 : Hid (Below B0 w10 w17) := by rw [hw17.out]; exact ((hQB.out.trans (HG6.out.mono HB02.out))).setCell (p := ⟨o, 1, none⟩) HBo.out _
          have hT7 : Hid (Tri o o o w10 w17) := by rw [hw17.out]; exact hT6.out.set (p := ⟨o, 1, none⟩) (.inl rfl) _
          have hoB7 : OwnE eDot 2 w17 B2 31 (vB) Bk := by rw [hw17.out]; exact hoB6.kept (Kept.set (Kept.refl o _) 1 _) HoB.out
          have hoC7 : OwnE eDot 2 w17 B2 31 (.slice a6 n6 c6) CL := by rw [hw17.out]; exact own6.kept (Kept.set (Kept.refl o _) 1 _) HoB.out
          go_upto_region 10 with fail
          rw [← hw17.out]
          clear co1 fo1 hw17 own6 grow6 at6 hK6 hoB6
          go_wp2_with fail
          go_roundw
          case rel => exact ⟨k + 1, _, _, Bk, CL, by omega, by go_num, hK7, hoB7, hoC7, hap6, hB7, hT7, ⟨HBN.out.symm, HCK.out⟩⟩
          case measure => simp [intOf]; omega
    · obtain rfl : k = nn := by omega
      rw [List.take_of_length_le (by rw [← hnn.out]; exact Nat.le_refl _), ← hRB.out, ← hRC.out] at hBC
      obtain ⟨a8, c8, rfl, h81, -, h82, h83, h84⟩ := hownB.sl encDot
      obtain ⟨a9, c9, rfl, h91, -, h92, h93, h94⟩ := hownC.sl encDot
      obtain ⟨rfl, rfl⟩ := hBC.out
      have HR1 : Hid (Bk.length ≤ c8 ∧ Ck.length ≤ c9) := ⟨h81, h91⟩
      have HR2 : Hid (SlE eDot 2 wr a8 Bk ∧ SlE eDot 2 wr a9 Ck) := ⟨h82, h92⟩
      have HR3 : Hid (a8 = none → c8 = 0) := h83
      have HR4 : Hid (a9 = none → c9 = 0) := h93
      have HR5 : Hid (∀ a, a8 = some a → B2 ≤ a.block) := h84
      have HR6 : Hid (∀ a, a9 = some a → B2 ≤ a.block) := h94
      obtain ⟨n8, hn8⟩ := nm Bk.length
      obtain ⟨n9, hn9⟩ := nm Ck.length
      rw [← hn8.out] at hKo
      rw [← hn9.out] at hKo
      have HWR : Hid (w.heap.size ≤ r ∧ r < B2 ∧ w.heap.size ≤ B2) := by show _ ∧ _; have := HLT.out; have := HB02.out; have := HWR0.out; omega
      have co0 : wr.cell? ⟨o, 0, none⟩ = some (.slice a8 n8 c8) := hKo.out.cell 0
      have co1 : wr.cell? ⟨o, 1, none⟩ = some (.slice a9 n9 c9) := hKo.out.cell 1
      have cr0 : wr.cell? ⟨r, 0, none⟩ = some (.slice none 0 0) := HJR.out.kr.cell 0
      have cr1 : wr.cell? ⟨r, 1, none⟩ = some (.slice none 0 0) := HJR.out.kr.cell 1
      have fr0 : wr.frozen? ⟨r, 0, none⟩ = false := HJR.out.kr.free 0
      have fr1 : wr.frozen? ⟨r, 1, none⟩ = false := HJR.out.kr.free 1
      clear h81 h82 h83 h84 h91 h92 h93 h94 hownB hownC hap hT
      go_wp2_with fail
      obtain ⟨wz, hwz⟩ := nm ((wr.setCell ⟨r, 0, none⟩ (.slice a8 n8 c8)).setCell ⟨r, 1, none⟩ (.slice a9 n9 c9))
      rw [← hwz.out]
      have Kz : Blk wz r #[.slice a8 n8 c8, .slice a9 n9 c9] 25 := by rw [hwz.out]; exact (HJR.out.kr.set 0 _).set 1 _
      have r0 : wz.cell? ⟨r, 0, none⟩ = some (.slice a8 n8 c8) := Kz.cell 0
      have r1 : wz.cell? ⟨r, 1, none⟩ = some (.slice a9 n9 c9) := Kz.cell 1
      refine bodyPost_ret (v := .agg #[.slice a8 n8 c8, .slice a9 n9 c9]) (by simp [results, Try.results89, go_sem, r0, r1]) rfl ?_
      refine ⟨a8, a9, n8, c8, n9, c9, rfl, ⟨hn8.out.symm, hn9.out.symm, by have := HR1.out; have := hn8.out; omega, by have := HR1.out; have := hn9.out; omega⟩, ⟨(SlE.tri (x := r) (y := r) (z := r) HR2.out.1 (fun a ha => by have := HR5.out a ha; have := HWR.out; exact ⟨by omega, by omega, by omega⟩) ?_).pairs, (SlE.tri (x := r) (y := r) (z := r) HR2.out.2 (fun a ha => by have := HR6.out a ha; have := HWR.out; exact ⟨by omega, by omega, by omega⟩) ?_).pairs⟩, HR3.out, HR4.out, fun a ha => by have := HR5.out a ha; have := HWR.out; omega, fun a ha => by have := HR6.out a ha; have := HWR.out; omega, ?_⟩
      · rw [hwz.out]; exact ((Tri.refl r r r wr).set (p := ⟨r, 0, none⟩) (.inl rfl) _).set (p := ⟨r, 1, none⟩) (.inl rfl) _
      · rw [hwz.out]; exact ((Tri.refl r r r wr).set (p := ⟨r, 0, none⟩) (.inl rfl) _).set (p := ⟨r, 1, none⟩) (.inl rfl) _
      · rw [hwz.out]; exact (HJR.out.below.setCell (p := ⟨r, 0, none⟩) HWR.out.1 _).setCell (p := ⟨r, 1, none⟩) HWR.out.1 _
end Go.Proofs.Ytfpjdmplepepjaa

/-! WRefAdd: The document's Add of one name to a context. -/
namespace Go.Proofs.Ytfpjdmplepepjaa
open Go.RowKit

theorem sortD_one (d : Dot2) : sortD [d] = [d] := rfl
set_option maxRecDepth 100000 in
set_option maxHeartbeats 8000000 in
theorem refadd_any (ab ac : Option Addr) (nb kb nc kc kl b off : Nat) (bs cl : List Dot2) (p q : Int) (hnb : Hid (bs.length = nb)) (hnc : Hid (cl.length = nc)) (hmb : nb ≤ 10000) (hmc : nc ≤ 9999) (hkb : Hid (ab = none → kb = 0)) (hkc : Hid (ac = none → kc = 0)) (hd1 : Hid (∀ p ∈ bs, dotP p)) (hd3 : Hid (∀ p ∈ cl, dotP p)) (hd : Hid (dotP (p, q))) (w : World) (hs1 : SlP w ab bs) (hs2 : SlP w ac cl) (hbl : b < w.heap.size) (e0 : w.cell? ⟨b, off, none⟩ = some (.int .i64 p)) (e1 : w.cell? ⟨b, off + 1, none⟩ = some (.int .i64 q)) :
    Calls Try.prog 51 #[.agg #[.slice ab nb kb, .slice ac nc kc], .slice (some ⟨b, off, none⟩) 1 kl] w (JoinTells w (putB bs cl (p, q)) (putC bs cl (p, q))) := by
  have S1 := Lib.hid hs1
  have S2 := Lib.hid hs2
  clear hs1 hs2
  obtain ⟨RB, hRB⟩ := nm (putB bs cl (p, q))
  obtain ⟨RC, hRC⟩ := nm (putC bs cl (p, q))
  rw [← hRB.out, ← hRC.out]
  obtain ⟨wa, hwa⟩ := nm (w.alloc (.cells #[.slice ab nb kb, .slice ac nc kc] 25))
  obtain ⟨wb, hwb⟩ := nm (wa.alloc (.cells #[.slice none 0 0, .slice none 0 0] 25))
  obtain ⟨w0, hw0⟩ := nm (wb.alloc (.cells #[.slice none 0 0, .slice none 0 0] 25))
  obtain ⟨x, hx⟩ := nm w.heap.size
  obtain ⟨r, hr⟩ := nm wa.heap.size
  obtain ⟨g, hg⟩ := nm wb.heap.size
  obtain ⟨B0, hB0⟩ := nm w0.heap.size
  have HR : Hid (x + 1 = r) := by show _ = _; rw [hr.out, hwa.out, hx.out]; simp
  have HG : Hid (r + 1 = g) := by show _ = _; rw [hg.out, hwb.out, hr.out]; simp
  have HB0 : Hid (g + 1 = B0) := by show _ = _; rw [hB0.out, hw0.out, hg.out]; simp
  have HLT : Hid (w.heap.size ≤ B0 ∧ x < B0 ∧ x < B0 ∧ r < B0 ∧ g < B0) := by show _ ∧ _; have := hx.out; have := HR.out; have := HG.out; have := HB0.out; omega
  have HNG : Hid (x ≠ g ∧ x ≠ g ∧ r ≠ g) := by show _ ∧ _; have := HR.out; have := HG.out; omega
  have HWG : Hid (w.heap.size ≤ g) := by show _ ≤ _; have := hx.out; have := HR.out; have := HG.out; omega
  have HWR : Hid (w.heap.size ≤ r) := by show _ ≤ _; have := hx.out; have := HR.out; omega
  have HJ : Hid (JSt w B0 x x r g #[.slice ab nb kb, .slice ac nc kc] #[.slice ab nb kb, .slice ac nc kc] #[.slice none 0 0, .slice none 0 0] w0) := ⟨by rw [hw0.out, hwb.out]; exact ((blkN hwa.out hx.out).alloc _ |>.alloc _), by rw [hw0.out, hwb.out]; exact ((blkN hwa.out hx.out).alloc _ |>.alloc _), by rw [hw0.out]; exact (blkN hwb.out hr.out).alloc _, blkN hw0.out hg.out, by rw [hw0.out, hwb.out, hwa.out]; exact bNew (bNew (bOld _) _) _, Nat.le_of_eq hB0.out⟩
  have hbB : b < B0 := by have := HLT.out; omega
  have hbg : b ≠ g := by have := HWG.out; omega
  have HCE : Hid (∀ wq : World, Below w.heap.size w wq → wq.cell? ⟨b, off, none⟩ = some (.int .i64 p) ∧ wq.cell? ⟨b, off + 1, none⟩ = some (.int .i64 q)) := by
    show ∀ wq : World, _
    intro wq h
    exact ⟨(h.cell (p := ⟨b, off, none⟩) hbl).trans e0, (h.cell (p := ⟨b, off + 1, none⟩) hbl).trans e1⟩
  clear e0 e1
  go_enter Try.func51, Try.ntmps51
  go_upto_region 2 with fail
  rw [← hwa.out, ← hwb.out, ← hw0.out, ← hx.out]
  rw [HR.out, HG.out]
  clear hwa hwb hw0 hx hr hg
  go_wp2_with fail
  go_loopw [6] (fun i wr => ∃ (k : Nat) (v : Value) (L : List Dot2), k ≤ 1 ∧ i = .int .i64 (k : Int) ∧ Hid (JSt w B0 x x r g #[.slice ab nb kb, .slice ac nc kc] #[.slice ab nb kb, .slice ac nc kc] #[.slice none 0 0, v] wr) ∧ OwnE eDot 2 wr B0 31 v L ∧ Hid (L = [((p, q) : Dot2)].take k)) (fun i _ => 1 - (intOf i).toNat)
  case atStart => exact ⟨0, _, [], by omega, rfl, HJ, OwnE.nil _ _ _, rfl⟩
  case round =>
    clear HJ
    obtain ⟨k, v, L, hk, rfl, hJ, hown, hL⟩ := hrel
    have hszr : B0 ≤ wr.heap.size := hJ.out.size
    by_cases hlt : k < 1
    · obtain rfl : k = 0 := by omega
      obtain rfl : L = [] := hL.out
      obtain ⟨e0, e1⟩ := HCE.out wr hJ.out.below
      go_wp2_with fail
      refine (refcheck_any p q true (show true = okD p q from hd.out.symm) _).mono ?_; rintro e w2 ⟨rfl, hB2⟩
      have hJ2 := Lib.hid (hJ.out.grow (hB2.mono hszr) HLT.out)
      have hown2 := hown.below hB2
      have hsz2 : B0 ≤ w2.heap.size := hJ2.out.size
      clear e0 e1 hB2 hown
      obtain ⟨e0, e1⟩ := HCE.out w2 hJ2.out.below
      have cg : w2.cell? ⟨g, 1, none⟩ = some v := hJ2.out.kg.cell 1
      obtain ⟨i0, hi, hz0, hz1, hz2⟩ := info_parts infoD
      have hneb : v.ownBlock ≠ some b := fun e => by have := (World.ownsRow.lt hown2 b e).1; omega
      have hneg : v.ownBlock ≠ some g := fun e => by have := (World.ownsRow.lt hown2 g e).1; have := HLT.out; omega
      have hblr : b < w2.heap.size := by omega
      have hgr : g < w2.heap.size := hJ2.out.kg.lt
      go_wp2_with fail
      refine wp_region_noPanic ?_
      refine wp_region_held_drew (S := fun w' => w'.cell? ⟨b, off, none⟩ = some (.int .i64 p) ∧ w'.cell? ⟨b, off + 1, none⟩ = some (.int .i64 q)) (by kernel_rfl) ⟨cell_dr e0, cell_dr e1⟩ (fun hHeld => ?_)
      refine wpAnyH_take (i := 0) (v := ?_) (takeL rfl) (by kernel_rfl) (by kernel_rfl) (by kernel_rfl) (fun _ _ _ h => h) (Or.inl ⟨by rfl, ?_⟩) (by assumption) ?_
      rotate_left
      · (intro w hSw; (try dsimp only at hSw); first | (go_simp; done) | (go_simp; with_reducible rfl))
      try simp only [Act.put, List.setIfInBounds_toArray, List.set_cons_zero, List.set_cons_succ]
      refine wpAnyH_take (i := 2) (v := ?_) (takeL rfl) (by kernel_rfl) (by kernel_rfl) (by kernel_rfl) (fun _ _ _ h => h) (Or.inl ⟨by rfl, ?_⟩) (by assumption) ?_
      rotate_left
      · (intro w hSw; (try dsimp only at hSw); first | (go_simp; done) | (go_simp; with_reducible rfl))
      try simp only [Act.put, List.setIfInBounds_toArray, List.set_cons_zero, List.set_cons_succ]
      refine wpAnyH_take (i := 3) (v := ?_) (takeL rfl) (by kernel_rfl) (by kernel_rfl) (by kernel_rfl) (fun _ _ _ h => h) (Or.inl ⟨by rfl, ?_⟩) (by assumption) ?_
      rotate_left
      · (intro w hSw; (try dsimp only at hSw); first | (go_simp; done) | (go_simp; with_reducible rfl))
      try simp only [Act.put, List.setIfInBounds_toArray, List.set_cons_zero, List.set_cons_succ]
      refine wpAnyH_take (i := 4) (v := ?_) (takeL rfl) (by kernel_rfl) (by kernel_rfl) (by kernel_rfl) (fun _ _ _ h => h) (Or.inl ⟨by rfl, ?_⟩) (by assumption) ?_
      rotate_left
      · (intro w hSw; (try dsimp only at hSw); first | (go_simp; done) | (go_simp; with_reducible rfl))
      try simp only [Act.put, List.setIfInBounds_toArray, List.set_cons_zero, List.set_cons_succ]
      refine wpAnyH_take (i := 5) (v := ?_) (takeL rfl) (by kernel_rfl) (by kernel_rfl) (by kernel_rfl) (fun _ _ _ h => h) (Or.inl ⟨by rfl, ?_⟩) (by assumption) ?_
      rotate_left
      · (intro w hSw; (try dsimp only at hSw); first | (go_simp; done) | (go_simp; with_reducible rfl))
      try simp only [Act.put, List.setIfInBounds_toArray, List.set_cons_zero, List.set_cons_succ]
      refine wpAnyH_ready (rs := [1, 6]) (by kernel_rfl) (by simp) ?_
      refine AllReadyH.cons (takeL rfl) (fun K hK => ?_) (AllReadyH.cons (takeL rfl) (fun K hK => ?_) AllReadyH.nil)
      · go_simp
        refine hK.out _ _ hHeld (fun hHeld => ?_)
        clear hK K
        refine wpAnyH_ready (rs := [6]) (by kernel_rfl) (by simp) ?_
        refine AllReadyH.cons (takeL rfl) (fun K hK => ?_) AllReadyH.nil
        go_simp
        refine hK.out _ _ ⟨cell_al hHeld.1, cell_al hHeld.2⟩ (fun hHeld => ?_)
        clear hK K
        refine wpAnyH_ready (rs := [7]) (by kernel_rfl) (by simp) ?_
        refine AllReadyH.cons (takeL rfl) (fun K hK => ?_) AllReadyH.nil
        refine step_append_lies _ (by rfl) _ _ _ (by rfl) B0 31 i0 _ 2 16 Try.underlying23 hi hz0 hz1 hz2 rfl (by decide) _ 0 (flatE eDot ([] : List Dot2)) (by rfl) ((World.ownsRow.alloc hown2 _).drew) ⟨w2.heap.size, 0, none⟩ 1 1 [.int .i64 p, .int .i64 q] (by rfl) (by rfl) (World.news_of_block (cs := #[.int .i64 p, .int .i64 q]) (t := 31) (fr := (0, 0)) (heap_alloc_new w2 _)) (by simp [Value.oneCell']) (by decide) (by unfold maxLen; omega) (by omega) (by simp; omega) (w2.heap.size + 1) (by simp) ?_
        intro gg cap2 w3 hown3 hgrow _ _
        have HB3 : Hid (Below B0 w2 w3) := (bDrew ((Below.refl B0 w2).alloc hsz2 _)).grown hgrow (by simp; omega) (fun kk h => (World.ownsRow.lt hown2 kk h).1)
        have hJ3 := Lib.hid (hJ2.out.grow HB3.out HLT.out)
        have cg3 : w3.cell? ⟨g, 1, none⟩ = some v := hJ3.out.kg.cell 1
        have fg3 : w3.frozen? ⟨g, 1, none⟩ = false := hJ3.out.kg.free 1
        refine hK.out _ _ ⟨by rw [hgrow.cell_far _ (by simp; omega) (Ne.symm hneb)]; exact cell_al (cell_dr e0), by rw [hgrow.cell_far _ (by simp; omega) (Ne.symm hneb)]; exact cell_al (cell_dr e1)⟩ (fun hHeld => ?_)
        clear hK K
        refine wpAnyH_take (i := 8) (v := ?_) (takeL rfl) (by kernel_rfl) (by kernel_rfl) (by kernel_rfl) (fun _ _ _ h => h) (Or.inl ⟨by rfl, ?_⟩) (by assumption) ?_
        rotate_left
        · (intro w hSw; (try dsimp only at hSw); first | (go_simp; done) | (go_simp; with_reducible rfl))
        try simp only [Act.put, List.setIfInBounds_toArray, List.set_cons_zero, List.set_cons_succ]
        refine wpAnyH_ready (rs := [9]) (by kernel_rfl) (by simp) ?_
        refine AllReadyH.cons (takeL rfl) (fun K hK => ?_) AllReadyH.nil
        go_simp
        refine hK.out _ _ ⟨by rw [World.cell?_setCell_far _ _ _ _ (by simp; omega)]; exact hHeld.1, by rw [World.cell?_setCell_far _ _ _ _ (by simp; omega)]; exact hHeld.2⟩ (fun hHeld => ?_)
        clear hK K
        refine wpAnyH_done (by kernel_rfl) ?_ _
        refine NoPanic.normal ?_
        obtain ⟨w4, hw4⟩ := nm (w3.setCell ⟨g, 1, none⟩ (.slice (some ⟨gg, 0, none⟩) 1 cap2))
        have hJ4 : Hid (JSt w B0 x x r g #[.slice ab nb kb, .slice ac nc kc] #[.slice ab nb kb, .slice ac nc kc] #[.slice none 0 0, .slice (some ⟨gg, 0, none⟩) 1 cap2] w4) := by rw [hw4.out]; exact hJ3.out.setG HWG.out HNG.out 1 _
        have hown4 : OwnE eDot 2 w4 B0 31 (.slice (some ⟨gg, 0, none⟩) 1 cap2) [((p, q) : Dot2)] := by
          rw [hw4.out]
          have h3 : OwnE eDot 2 w3 B0 31 (.slice (some ⟨gg, 0, none⟩) 1 cap2) [((p, q) : Dot2)] := hown3
          exact h3.kept (Kept.set (Kept.refl g _) 1 _) HLT.out.2.2.2.2
        first | rw [← hw4.out] | (simp only [Nat.zero_add]; rw [← hw4.out])
        clear cg cg3 fg3 hown3 hgrow hHeld hw4 hi hz0 hz1 hz2 hown2 e0 e1
        go_wp2_with fail
        go_roundw
        case rel => exact ⟨1, _, [((p, q) : Dot2)], by omega, by go_num, hJ4, hown4, rfl⟩
        case measure => simp [intOf]
      · go_simp
        refine hK.out _ _ ⟨cell_al hHeld.1, cell_al hHeld.2⟩ (fun hHeld => ?_)
        clear hK K
        refine wpAnyH_ready (rs := [1]) (by kernel_rfl) (by simp) ?_
        refine AllReadyH.cons (takeL rfl) (fun K hK => ?_) AllReadyH.nil
        go_simp
        refine hK.out _ _ hHeld (fun hHeld => ?_)
        clear hK K
        refine wpAnyH_ready (rs := [7]) (by kernel_rfl) (by simp) ?_
        refine AllReadyH.cons (takeL rfl) (fun K hK => ?_) AllReadyH.nil
        refine step_append_lies _ (by rfl) _ _ _ (by rfl) B0 31 i0 _ 2 16 Try.underlying23 hi hz0 hz1 hz2 rfl (by decide) _ 0 (flatE eDot ([] : List Dot2)) (by rfl) ((World.ownsRow.alloc hown2 _).drew) ⟨w2.heap.size, 0, none⟩ 1 1 [.int .i64 p, .int .i64 q] (by rfl) (by rfl) (World.news_of_block (cs := #[.int .i64 p, .int .i64 q]) (t := 31) (fr := (0, 0)) (heap_alloc_new w2 _)) (by simp [Value.oneCell']) (by decide) (by unfold maxLen; omega) (by omega) (by simp; omega) (w2.heap.size + 1) (by simp) ?_
        intro gg cap2 w3 hown3 hgrow _ _
        have HB3 : Hid (Below B0 w2 w3) := (bDrew ((Below.refl B0 w2).alloc hsz2 _)).grown hgrow (by simp; omega) (fun kk h => (World.ownsRow.lt hown2 kk h).1)
        have hJ3 := Lib.hid (hJ2.out.grow HB3.out HLT.out)
        have cg3 : w3.cell? ⟨g, 1, none⟩ = some v := hJ3.out.kg.cell 1
        have fg3 : w3.frozen? ⟨g, 1, none⟩ = false := hJ3.out.kg.free 1
        refine hK.out _ _ ⟨by rw [hgrow.cell_far _ (by simp; omega) (Ne.symm hneb)]; exact cell_al (cell_dr e0), by rw [hgrow.cell_far _ (by simp; omega) (Ne.symm hneb)]; exact cell_al (cell_dr e1)⟩ (fun hHeld => ?_)
        clear hK K
        refine wpAnyH_take (i := 8) (v := ?_) (takeL rfl) (by kernel_rfl) (by kernel_rfl) (by kernel_rfl) (fun _ _ _ h => h) (Or.inl ⟨by rfl, ?_⟩) (by assumption) ?_
        rotate_left
        · (intro w hSw; (try dsimp only at hSw); first | (go_simp; done) | (go_simp; with_reducible rfl))
        try simp only [Act.put, List.setIfInBounds_toArray, List.set_cons_zero, List.set_cons_succ]
        refine wpAnyH_ready (rs := [9]) (by kernel_rfl) (by simp) ?_
        refine AllReadyH.cons (takeL rfl) (fun K hK => ?_) AllReadyH.nil
        go_simp
        refine hK.out _ _ ⟨by rw [World.cell?_setCell_far _ _ _ _ (by simp; omega)]; exact hHeld.1, by rw [World.cell?_setCell_far _ _ _ _ (by simp; omega)]; exact hHeld.2⟩ (fun hHeld => ?_)
        clear hK K
        refine wpAnyH_done (by kernel_rfl) ?_ _
        refine NoPanic.normal ?_
        obtain ⟨w4, hw4⟩ := nm (w3.setCell ⟨g, 1, none⟩ (.slice (some ⟨gg, 0, none⟩) 1 cap2))
        have hJ4 : Hid (JSt w B0 x x r g #[.slice ab nb kb, .slice ac nc kc] #[.slice ab nb kb, .slice ac nc kc] #[.slice none 0 0, .slice (some ⟨gg, 0, none⟩) 1 cap2] w4) := by rw [hw4.out]; exact hJ3.out.setG HWG.out HNG.out 1 _
        have hown4 : OwnE eDot 2 w4 B0 31 (.slice (some ⟨gg, 0, none⟩) 1 cap2) [((p, q) : Dot2)] := by
          rw [hw4.out]
          have h3 : OwnE eDot 2 w3 B0 31 (.slice (some ⟨gg, 0, none⟩) 1 cap2) [((p, q) : Dot2)] := hown3
          exact h3.kept (Kept.set (Kept.refl g _) 1 _) HLT.out.2.2.2.2
        first | rw [← hw4.out] | (simp only [Nat.zero_add]; rw [← hw4.out])
        clear cg cg3 fg3 hown3 hgrow hHeld hw4 hi hz0 hz1 hz2 hown2 e0 e1
        go_wp2_with fail
        go_roundw
        case rel => exact ⟨1, _, [((p, q) : Dot2)], by omega, by go_num, hJ4, hown4, rfl⟩
        case measure => simp [intOf]
    · obtain rfl : k = 1 := by omega
      obtain rfl : L = [((p, q) : Dot2)] := hL.out
      obtain ⟨a1, c1, rfl, -, -, hsl, hno, -⟩ := hown.sl encDot
      have HSL : Hid (SlP wr a1 [((p, q) : Dot2)]) := hsl.pairs
      have cg : wr.cell? ⟨g, 1, none⟩ = some (.slice a1 1 c1) := hJ.out.kg.cell 1
      clear hsl hno hown
      go_wp2_with fail
      refine (refsort_any a1 [((p, q) : Dot2)] 1 c1 (show [((p, q) : Dot2)].length = 1 from rfl) (by omega) _ HSL.out).mono ?_
      rintro e w3 ⟨a2, c2, rfl, _, hs3, hat3, hno2, hB3⟩
      rw [sortD_one] at hs3 hno2 ⊢
      have HS3 : Hid (SlP w3 a2 [((p, q) : Dot2)]) := hs3
      have HN3 : Hid (a2 = none → c2 = 0) := fun h => absurd (hno2 h) (by simp)
      have hJ3 := Lib.hid (hJ.out.grow (hB3.mono hszr) HLT.out)
      have cg3 : w3.cell? ⟨g, 1, none⟩ = some (.slice a1 1 c1) := hJ3.out.kg.cell 1
      have fg3 : w3.frozen? ⟨g, 1, none⟩ = false := hJ3.out.kg.free 1
      obtain ⟨w4, hw4⟩ := nm (w3.setCell ⟨g, 1, none⟩ (.slice a2 1 c2))
      have hJ4 : Hid (JSt w B0 x x r g #[.slice ab nb kb, .slice ac nc kc] #[.slice ab nb kb, .slice ac nc kc] #[.slice none 0 0, .slice a2 1 c2] w4) := by rw [hw4.out]; exact hJ3.out.setG HWG.out HNG.out 1 _
      have hgr : g < wr.heap.size := hJ.out.kg.lt
      have HS4 : Hid (SlP w4 a2 [((p, q) : Dot2)]) := by
        rw [hw4.out]
        exact (SlE.tri (x := g) (y := g) (z := g) HS3.out.row (fun a ha => by have := hat3 a ha; exact ⟨by omega, by omega, by omega⟩) ((Tri.refl g g g w3).set (p := ⟨g, 1, none⟩) (.inl rfl) _)).pairs
      have hd4 : Hid (∀ x ∈ cl ++ [((p, q) : Dot2)], dotP x) := by
        show ∀ x ∈ _, _
        intro y hy
        rcases List.mem_append.1 hy with h | h
        · exact hd3.out y h
        · obtain rfl := List.mem_singleton.1 h; exact hd.out
      have hjn := refjoin_any ab ac none a2 nb kb nc kc 0 0 1 c2 bs cl [] [((p, q) : Dot2)] hnb hnc (show ([] : List Dot2).length = 0 from rfl) (show [((p, q) : Dot2)].length = 1 from rfl) (by omega) (by omega) (by omega) (by omega) hkb hkc (fun _ => rfl) HN3 hd1 (show ∀ p ∈ ([] : List Dot2), dotP p from fun _ h => by cases h) hd4 w4 (S1.out.below hJ4.out.below) (S2.out.below hJ4.out.below) (SlP.nil _ _) HS4.out
      rw [show baseJ bs [] (cl ++ [((p, q) : Dot2)]) (nodesL ((bs ++ []) ++ (cl ++ [((p, q) : Dot2)]))) = RB from hRB.out.symm, show cloudJ bs [] (cl ++ [((p, q) : Dot2)]) (nodesL ((bs ++ []) ++ (cl ++ [((p, q) : Dot2)]))) = RC from hRC.out.symm] at hjn
      have HJN := Lib.hid hjn
      clear hs3 hat3 hno2 hB3 hjn
      go_upto_region 9 with fail
      rw [← hw4.out]
      clear cg cg3 fg3 hw4
      have c0 : w4.cell? ⟨x, 0, none⟩ = some (.slice ab nb kb) := hJ4.out.ka.cell 0
      have c1 : w4.cell? ⟨x, 1, none⟩ = some (.slice ac nc kc) := hJ4.out.ka.cell 1
      have g0 : w4.cell? ⟨g, 0, none⟩ = some (.slice none 0 0) := hJ4.out.kg.cell 0
      have g1 : w4.cell? ⟨g, 1, none⟩ = some (.slice a2 1 c2) := hJ4.out.kg.cell 1
      go_wp2_with fail
      refine HJN.out.mono ?_
      rintro e w5 ⟨a8, a9, n8, c8, n9, c9, rfl, hlen, ⟨hr8, hr9⟩, hno8, hno9, hat8, hat9, hB5⟩
      have HLEN := Lib.hid hlen
      have HR8 : Hid (SlP w5 a8 RB) := hr8
      have HR9 : Hid (SlP w5 a9 RC) := hr9
      have HN8 : Hid (a8 = none → c8 = 0) := hno8
      have HN9 : Hid (a9 = none → c9 = 0) := hno9
      have hr4 : r < w4.heap.size := hJ4.out.kr.lt
      have hw4s : w.heap.size ≤ w4.heap.size := hJ4.out.below.size
      have HA8 : Hid (∀ a, a8 = some a → w.heap.size ≤ a.block ∧ a.block ≠ r) := fun a ha => by have := hat8 a ha; exact ⟨by omega, by omega⟩
      have HA9 : Hid (∀ a, a9 = some a → w.heap.size ≤ a.block ∧ a.block ≠ r) := fun a ha => by have := hat9 a ha; exact ⟨by omega, by omega⟩
      have hK5 := Lib.hid (hJ4.out.kr.below hB5 hr4)
      have HB5 : Hid (Below w.heap.size w w5) := bNext hJ4.out.below hB5
      have cr0 : w5.cell? ⟨r, 0, none⟩ = some (.slice none 0 0) := hK5.out.cell 0
      have cr1 : w5.cell? ⟨r, 1, none⟩ = some (.slice none 0 0) := hK5.out.cell 1
      have fr0 : w5.frozen? ⟨r, 0, none⟩ = false := hK5.out.free 0
      have fr1 : w5.frozen? ⟨r, 1, none⟩ = false := hK5.out.free 1
      clear hlen hr8 hr9 hno8 hno9 hat8 hat9 hB5 c0 c1 g0 g1
      go_wp2_with fail
      obtain ⟨wz, hwz⟩ := nm ((w5.setCell ⟨r, 0, none⟩ (.slice a8 n8 c8)).setCell ⟨r, 1, none⟩ (.slice a9 n9 c9))
      rw [← hwz.out]
      have Kz : Blk wz r #[.slice a8 n8 c8, .slice a9 n9 c9] 25 := by rw [hwz.out]; exact (hK5.out.set 0 _).set 1 _
      have r0 : wz.cell? ⟨r, 0, none⟩ = some (.slice a8 n8 c8) := Kz.cell 0
      have r1 : wz.cell? ⟨r, 1, none⟩ = some (.slice a9 n9 c9) := Kz.cell 1
      refine bodyPost_ret (v := .agg #[.slice a8 n8 c8, .slice a9 n9 c9]) (by simp [results, Try.results51, go_sem, r0, r1]) rfl ?_
      have hTz : Tri r r r w5 wz := by rw [hwz.out]; exact ((Tri.refl r r r w5).set (p := ⟨r, 0, none⟩) (.inl rfl) _).set (p := ⟨r, 1, none⟩) (.inl rfl) _
      refine ⟨a8, a9, n8, c8, n9, c9, rfl, HLEN.out, ⟨HR8.out.tri (fun a ha => by have := HA8.out a ha; exact ⟨this.2, this.2, this.2⟩) hTz, HR9.out.tri (fun a ha => by have := HA9.out a ha; exact ⟨this.2, this.2, this.2⟩) hTz⟩, HN8.out, HN9.out, fun a ha => (HA8.out a ha).1, fun a ha => (HA9.out a ha).1, ?_⟩
      rw [hwz.out]; exact (HB5.out.setCell (p := ⟨r, 0, none⟩) HWR.out _).setCell (p := ⟨r, 1, none⟩) HWR.out _
end Go.Proofs.Ytfpjdmplepepjaa

/-! WireCheck: Wire's numbers and Check, of what has no lists. -/
namespace Go.Proofs.Ytfpjdmplepepjaa
open Go.RowKit

theorem infoNine : (Try.prog.info? 54).map (·.size) = some 9 := by kernel_rfl
set_option maxRecDepth 100000 in
set_option maxHeartbeats 8000000 in
theorem numbers_any (k f s p fl d0 d1 rc lg : Int) (w : World) :
    Calls Try.prog 20 #[.agg #[.int .i64 k, .int .i64 f, .int .i64 s, .int .i64 p, .int .i64 fl, .string ⟨#[]⟩, .slice none 0 0, .slice none 0 0, .slice none 0 0, .slice none 0 0, .slice none 0 0, .int .i64 d0, .int .i64 d1, .int .i64 rc, .int .i64 lg]] w fun e w' => e = .returned (.agg #[.int .i64 k, .int .i64 f, .int .i64 s, .int .i64 p, .int .i64 fl, .int .i64 d0, .int .i64 d1, .int .i64 rc, .int .i64 lg]) ∧ Below w.heap.size w w' := by
  go_enter Try.func20, Try.ntmps20
  go_wp2_with fail
  refine bodyPost_ret (results_cell_row rfl _ _ (w.heap.size + 1) 54 #[.int .i64 k, .int .i64 f, .int .i64 s, .int .i64 p, .int .i64 fl, .int .i64 d0, .int .i64 d1, .int .i64 rc, .int .i64 lg] (0, 0) _ rfl (blk_at (by simp)) Try.underlying54 rfl infoNine) rfl ?_
  exact ⟨rfl, bNew (bOld _) _⟩

set_option maxRecDepth 100000 in
set_option maxHeartbeats 8000000 in
theorem within_t (n l m : Int) (w : World) (h1 : l ≤ n) (h2 : n ≤ m) :
    Calls Try.prog 27 #[.int .i64 n, .int .i64 l, .int .i64 m] w fun e w' => e = .returned (.bool true) ∧ w = w' := by
  have g1 : n ≥ l := h1
  go_enter Try.func27, Try.ntmps27
  go_wp2_with fail
  go_ret
  exact ⟨rfl, rfl⟩
set_option maxRecDepth 100000 in
set_option maxHeartbeats 8000000 in
theorem within_f (n l m : Int) (w : World) (h1 : ¬ l ≤ n) :
    Calls Try.prog 27 #[.int .i64 n, .int .i64 l, .int .i64 m] w fun e w' => e = .returned (.bool false) ∧ w = w' := by
  have g1 : decide (n ≥ l) = false := decide_eq_false h1
  go_enter Try.func27, Try.ntmps27
  go_wp2_with fail
  go_ret
  exact ⟨rfl, rfl⟩
set_option maxRecDepth 100000 in
set_option maxHeartbeats 8000000 in
theorem dotin_t (n : Int) (w : World) (h1 : 1 ≤ n) (h2 : n ≤ 1099511627776) :
    Calls Try.prog 65 #[.int .i64 n] w fun e w' => e = .returned (.bool true) ∧ w = w' := by
  have g1 : n ≥ 1 := h1
  go_enter Try.func65, Try.ntmps65
  go_wp2_with fail
  go_ret
  exact ⟨rfl, rfl⟩
set_option maxRecDepth 100000 in
set_option maxHeartbeats 8000000 in
theorem dotck_t (n m : Int) (w : World) (h1 : 1 ≤ n) (h2 : n ≤ 1099511627776) (h3 : 1 ≤ m) (h4 : m ≤ 1099511627776) :
    Calls Try.prog 28 #[.agg #[.int .i64 n, .int .i64 m]] w fun e w' => e = .returned (.bool true) ∧ w' = w.alloc (.cells #[.int .i64 n, .int .i64 m] 31) := by
  have H1 : Hid (∀ w, Calls Try.prog 65 #[.int .i64 n] w fun e w' => e = .returned (.bool true) ∧ w = w') := fun w => dotin_t n w h1 h2
  have H2 : Hid (∀ w, Calls Try.prog 65 #[.int .i64 m] w fun e w' => e = .returned (.bool true) ∧ w = w') := fun w => dotin_t m w h3 h4
  go_enter Try.func28, Try.ntmps28
  go_wp2_with (go_at_call 65; first | (with_reducible (refine (H1.out _).mono ?_); rintro e w2 ⟨rfl, rfl⟩) | (with_reducible (refine (H2.out _).mono ?_); rintro e w2 ⟨rfl, rfl⟩))
  go_ret
  exact ⟨rfl, rfl⟩

set_option maxRecDepth 100000 in
set_option maxHeartbeats 8000000 in
theorem check_ok (k f s p fl d0 d1 rc lg : Int) (h : 1 ≤ k ∧ k ≤ 8 ∧ 1 ≤ f ∧ f ≤ 1099511627776 ∧ 0 ≤ s ∧ s ≤ 1099511627776 ∧ 0 ≤ p ∧ p ≤ 15 ∧ 0 ≤ fl ∧ fl ≤ 1 ∧ 0 ≤ rc ∧ rc ≤ 1099511627776 ∧ 0 ≤ lg ∧ lg ≤ 1073741824) (hd : d0 = 0 ∧ d1 = 0 ∨ (1 ≤ d0 ∧ d0 ≤ 1099511627776) ∧ 1 ≤ d1 ∧ d1 ≤ 1099511627776) (w : World) :
    Calls Try.prog 12 #[.agg #[.int .i64 k, .int .i64 f, .int .i64 s, .int .i64 p, .int .i64 fl, .string ⟨#[]⟩, .slice none 0 0, .slice none 0 0, .slice none 0 0, .slice none 0 0, .slice none 0 0, .int .i64 d0, .int .i64 d1, .int .i64 rc, .int .i64 lg]] w fun e w' => e = .returned (.int .i64 0) ∧ Below w.heap.size w w' := by
  have HK : Hid (∀ w, Calls Try.prog 27 #[.int .i64 k, .int .i64 1, .int .i64 8] w fun e w' => e = .returned (.bool true) ∧ w = w') := fun w => within_t k 1 8 w (by omega) (by omega)
  have HF : Hid (∀ w, Calls Try.prog 27 #[.int .i64 f, .int .i64 1, .int .i64 1099511627776] w fun e w' => e = .returned (.bool true) ∧ w = w') := fun w => within_t f 1 1099511627776 w (by omega) (by omega)
  have HS : Hid (∀ w, Calls Try.prog 27 #[.int .i64 s, .int .i64 0, .int .i64 1099511627776] w fun e w' => e = .returned (.bool true) ∧ w = w') := fun w => within_t s 0 1099511627776 w (by omega) (by omega)
  have HP : Hid (∀ w, Calls Try.prog 27 #[.int .i64 p, .int .i64 0, .int .i64 15] w fun e w' => e = .returned (.bool true) ∧ w = w') := fun w => within_t p 0 15 w (by omega) (by omega)
  have HL : Hid (∀ w, Calls Try.prog 27 #[.int .i64 fl, .int .i64 0, .int .i64 1] w fun e w' => e = .returned (.bool true) ∧ w = w') := fun w => within_t fl 0 1 w (by omega) (by omega)
  have HR : Hid (∀ w, Calls Try.prog 27 #[.int .i64 rc, .int .i64 0, .int .i64 1099511627776] w fun e w' => e = .returned (.bool true) ∧ w = w') := fun w => within_t rc 0 1099511627776 w (by omega) (by omega)
  have HG : Hid (∀ w, Calls Try.prog 27 #[.int .i64 lg, .int .i64 0, .int .i64 1073741824] w fun e w' => e = .returned (.bool true) ∧ w = w') := fun w => within_t lg 0 1073741824 w (by omega) (by omega)
  obtain ⟨w0, hw0⟩ := nm (w.alloc (.cells #[.int .i64 k, .int .i64 f, .int .i64 s, .int .i64 p, .int .i64 fl, .string ⟨#[]⟩, .slice none 0 0, .slice none 0 0, .slice none 0 0, .slice none 0 0, .slice none 0 0, .int .i64 d0, .int .i64 d1, .int .i64 rc, .int .i64 lg] 33))
  obtain ⟨x, hx⟩ := nm w.heap.size
  have Kx : Hid (Blk w0 x #[.int .i64 k, .int .i64 f, .int .i64 s, .int .i64 p, .int .i64 fl, .string ⟨#[]⟩, .slice none 0 0, .slice none 0 0, .slice none 0 0, .slice none 0 0, .slice none 0 0, .int .i64 d0, .int .i64 d1, .int .i64 rc, .int .i64 lg] 33) := by show Blk _ _ _ _; rw [hw0.out, hx.out]; exact Blk.new _ _ _
  have HB0 : Hid (Below w.heap.size w w0) := by rw [hw0.out]; exact bOld _
  clear h
  rcases hd with ⟨rfl, rfl⟩ | ⟨⟨g1, g2⟩, g3, g4⟩
  · have heq := fun w => eqlD 0 0 0 0 true (by simp) w
    have hgd := fun (a b : Operand) (w : World) => guardD .eql a b #[.int .i64 0, .int .i64 0] #[.int .i64 0, .int .i64 0] w
    go_enter Try.func12, Try.ntmps12
    go_upto_region 1 with fail
    rw [← hw0.out, ← hx.out]
    have c0 : w0.cell? ⟨x, 0, none⟩ = some (.int .i64 k) := Kx.out.cell 0
    have c1 : w0.cell? ⟨x, 1, none⟩ = some (.int .i64 f) := Kx.out.cell 1
    have c2 : w0.cell? ⟨x, 2, none⟩ = some (.int .i64 s) := Kx.out.cell 2
    have c3 : w0.cell? ⟨x, 3, none⟩ = some (.int .i64 p) := Kx.out.cell 3
    have c4 : w0.cell? ⟨x, 4, none⟩ = some (.int .i64 fl) := Kx.out.cell 4
    have c5 : w0.cell? ⟨x, 5, none⟩ = some (.string ⟨#[]⟩) := Kx.out.cell 5
    have c6 : w0.cell? ⟨x, 6, none⟩ = some (.slice none 0 0) := Kx.out.cell 6
    have c7 : w0.cell? ⟨x, 7, none⟩ = some (.slice none 0 0) := Kx.out.cell 7
    have c8 : w0.cell? ⟨x, 8, none⟩ = some (.slice none 0 0) := Kx.out.cell 8
    have c9 : w0.cell? ⟨x, 9, none⟩ = some (.slice none 0 0) := Kx.out.cell 9
    have c10 : w0.cell? ⟨x, 10, none⟩ = some (.slice none 0 0) := Kx.out.cell 10
    have c11 : w0.cell? ⟨x, 11, none⟩ = some (.int .i64 0) := Kx.out.cell 11
    have c12 : w0.cell? ⟨x, 12, none⟩ = some (.int .i64 0) := Kx.out.cell 12
    have c13 : w0.cell? ⟨x, 13, none⟩ = some (.int .i64 rc) := Kx.out.cell 13
    have c14 : w0.cell? ⟨x, 14, none⟩ = some (.int .i64 lg) := Kx.out.cell 14
    go_wp2_with (go_at_call 27; first | (with_reducible (refine (HK.out _).mono ?_); rintro e w2 ⟨rfl, rfl⟩) | (with_reducible (refine (HF.out _).mono ?_); rintro e w2 ⟨rfl, rfl⟩) | (with_reducible (refine (HS.out _).mono ?_); rintro e w2 ⟨rfl, rfl⟩) | (with_reducible (refine (HP.out _).mono ?_); rintro e w2 ⟨rfl, rfl⟩) | (with_reducible (refine (HL.out _).mono ?_); rintro e w2 ⟨rfl, rfl⟩) | (with_reducible (refine (HR.out _).mono ?_); rintro e w2 ⟨rfl, rfl⟩) | (with_reducible (refine (HG.out _).mono ?_); rintro e w2 ⟨rfl, rfl⟩))
    refine (bag0 _).mono ?_; rintro e w6 ⟨rfl, hB6⟩
    have K6 := Kx.out.below hB6 Kx.out.lt
    have e9 : w6.cell? ⟨x, 9, none⟩ = some (.slice none 0 0) := K6.cell 9
    have e10 : w6.cell? ⟨x, 10, none⟩ = some (.slice none 0 0) := K6.cell 10
    have HB6 := Lib.hid (bNext HB0.out hB6)
    clear hB6 K6
    go_wp2_with (first | (go_at_call 30; refine (names0 _).mono ?_; rintro e w7 ⟨rfl, rfl⟩) | (go_at_call 31; refine (views0 _).mono ?_; rintro e w8 ⟨rfl, rfl⟩))
    go_ret
    exact ⟨rfl, HB6.out⟩
  · have hne : (d0, d1) ≠ (0, 0) := by intro e; cases e; omega
    have heq := fun w => eqlD d0 d1 0 0 false (by simpa using hne) w
    have hgd := fun (a b : Operand) (w : World) => guardD .eql a b #[.int .i64 d0, .int .i64 d1] #[.int .i64 0, .int .i64 0] w
    have HD : Hid (∀ w, Calls Try.prog 28 #[.agg #[.int .i64 d0, .int .i64 d1]] w fun e w' => e = .returned (.bool true) ∧ w' = w.alloc (.cells #[.int .i64 d0, .int .i64 d1] 31)) := fun w => dotck_t d0 d1 w g1 g2 g3 g4
    clear hne
    go_enter Try.func12, Try.ntmps12
    go_upto_region 1 with fail
    rw [← hw0.out, ← hx.out]
    have c0 : w0.cell? ⟨x, 0, none⟩ = some (.int .i64 k) := Kx.out.cell 0
    have c1 : w0.cell? ⟨x, 1, none⟩ = some (.int .i64 f) := Kx.out.cell 1
    have c2 : w0.cell? ⟨x, 2, none⟩ = some (.int .i64 s) := Kx.out.cell 2
    have c3 : w0.cell? ⟨x, 3, none⟩ = some (.int .i64 p) := Kx.out.cell 3
    have c4 : w0.cell? ⟨x, 4, none⟩ = some (.int .i64 fl) := Kx.out.cell 4
    have c5 : w0.cell? ⟨x, 5, none⟩ = some (.string ⟨#[]⟩) := Kx.out.cell 5
    have c6 : w0.cell? ⟨x, 6, none⟩ = some (.slice none 0 0) := Kx.out.cell 6
    have c7 : w0.cell? ⟨x, 7, none⟩ = some (.slice none 0 0) := Kx.out.cell 7
    have c8 : w0.cell? ⟨x, 8, none⟩ = some (.slice none 0 0) := Kx.out.cell 8
    have c9 : w0.cell? ⟨x, 9, none⟩ = some (.slice none 0 0) := Kx.out.cell 9
    have c10 : w0.cell? ⟨x, 10, none⟩ = some (.slice none 0 0) := Kx.out.cell 10
    have c11 : w0.cell? ⟨x, 11, none⟩ = some (.int .i64 d0) := Kx.out.cell 11
    have c12 : w0.cell? ⟨x, 12, none⟩ = some (.int .i64 d1) := Kx.out.cell 12
    have c13 : w0.cell? ⟨x, 13, none⟩ = some (.int .i64 rc) := Kx.out.cell 13
    have c14 : w0.cell? ⟨x, 14, none⟩ = some (.int .i64 lg) := Kx.out.cell 14
    go_upto_region 3 with (go_at_call 28; with_reducible (refine (HD.out _).mono ?_); rintro e wd ⟨rfl, rfl⟩)
    obtain ⟨w1, hw1⟩ := nm (w0.alloc (.cells #[.int .i64 d0, .int .i64 d1] 31))
    have K1 : Hid (Blk w1 x #[.int .i64 k, .int .i64 f, .int .i64 s, .int .i64 p, .int .i64 fl, .string ⟨#[]⟩, .slice none 0 0, .slice none 0 0, .slice none 0 0, .slice none 0 0, .slice none 0 0, .int .i64 d0, .int .i64 d1, .int .i64 rc, .int .i64 lg] 33) := by show Blk _ _ _ _; rw [hw1.out]; exact Kx.out.alloc _
    have HB1 : Hid (Below w.heap.size w w1) := by rw [hw1.out]; exact bNew HB0.out _
    rw [← hw1.out]
    have m0 : w1.cell? ⟨x, 0, none⟩ = some (.int .i64 k) := K1.out.cell 0
    have m1 : w1.cell? ⟨x, 1, none⟩ = some (.int .i64 f) := K1.out.cell 1
    have m2 : w1.cell? ⟨x, 2, none⟩ = some (.int .i64 s) := K1.out.cell 2
    have m3 : w1.cell? ⟨x, 3, none⟩ = some (.int .i64 p) := K1.out.cell 3
    have m4 : w1.cell? ⟨x, 4, none⟩ = some (.int .i64 fl) := K1.out.cell 4
    have m5 : w1.cell? ⟨x, 5, none⟩ = some (.string ⟨#[]⟩) := K1.out.cell 5
    have m6 : w1.cell? ⟨x, 6, none⟩ = some (.slice none 0 0) := K1.out.cell 6
    have m7 : w1.cell? ⟨x, 7, none⟩ = some (.slice none 0 0) := K1.out.cell 7
    have m8 : w1.cell? ⟨x, 8, none⟩ = some (.slice none 0 0) := K1.out.cell 8
    have m9 : w1.cell? ⟨x, 9, none⟩ = some (.slice none 0 0) := K1.out.cell 9
    have m10 : w1.cell? ⟨x, 10, none⟩ = some (.slice none 0 0) := K1.out.cell 10
    have m11 : w1.cell? ⟨x, 11, none⟩ = some (.int .i64 d0) := K1.out.cell 11
    have m12 : w1.cell? ⟨x, 12, none⟩ = some (.int .i64 d1) := K1.out.cell 12
    have m13 : w1.cell? ⟨x, 13, none⟩ = some (.int .i64 rc) := K1.out.cell 13
    have m14 : w1.cell? ⟨x, 14, none⟩ = some (.int .i64 lg) := K1.out.cell 14
    go_wp2_with (go_at_call 27; first | (with_reducible (refine (HK.out _).mono ?_); rintro e w2 ⟨rfl, rfl⟩) | (with_reducible (refine (HF.out _).mono ?_); rintro e w2 ⟨rfl, rfl⟩) | (with_reducible (refine (HS.out _).mono ?_); rintro e w2 ⟨rfl, rfl⟩) | (with_reducible (refine (HP.out _).mono ?_); rintro e w2 ⟨rfl, rfl⟩) | (with_reducible (refine (HL.out _).mono ?_); rintro e w2 ⟨rfl, rfl⟩) | (with_reducible (refine (HR.out _).mono ?_); rintro e w2 ⟨rfl, rfl⟩) | (with_reducible (refine (HG.out _).mono ?_); rintro e w2 ⟨rfl, rfl⟩))
    refine (bag0 _).mono ?_; rintro e w6 ⟨rfl, hB6⟩
    have K6 := K1.out.below hB6 K1.out.lt
    have e9 : w6.cell? ⟨x, 9, none⟩ = some (.slice none 0 0) := K6.cell 9
    have e10 : w6.cell? ⟨x, 10, none⟩ = some (.slice none 0 0) := K6.cell 10
    have HB6 := Lib.hid (bNext HB1.out hB6)
    clear hB6 K6
    go_wp2_with (first | (go_at_call 30; refine (names0 _).mono ?_; rintro e w7 ⟨rfl, rfl⟩) | (go_at_call 31; refine (views0 _).mono ?_; rintro e w8 ⟨rfl, rfl⟩))
    go_ret
    exact ⟨rfl, HB6.out⟩

set_option maxRecDepth 100000 in
set_option maxHeartbeats 8000000 in
theorem check_zero (w : World) :
    Calls Try.prog 12 #[.agg #[.int .i64 0, .int .i64 0, .int .i64 0, .int .i64 0, .int .i64 0, .string ⟨#[]⟩, .slice none 0 0, .slice none 0 0, .slice none 0 0, .slice none 0 0, .slice none 0 0, .int .i64 0, .int .i64 0, .int .i64 0, .int .i64 0]] w fun e w' => e = .returned (.int .i64 1) ∧ Below w.heap.size w w' := by
  have heq := fun w => eqlD 0 0 0 0 true (by simp) w
  have hgd := fun (a b : Operand) (w : World) => guardD .eql a b #[.int .i64 0, .int .i64 0] #[.int .i64 0, .int .i64 0] w
  have HK : Hid (∀ w, Calls Try.prog 27 #[.int .i64 0, .int .i64 1, .int .i64 8] w fun e w' => e = .returned (.bool false) ∧ w = w') := fun w => within_f 0 1 8 w (by decide)
  go_enter Try.func12, Try.ntmps12
  go_wp2_with (go_at_call 27; with_reducible (refine (HK.out _).mono ?_); rintro e w2 ⟨rfl, rfl⟩)
  go_ret
  exact ⟨rfl, bOld _⟩
end Go.Proofs.Ytfpjdmplepepjaa

/-! WireBytes: Wire's Bytes, of what has no lists. -/
namespace Go.Proofs.Ytfpjdmplepepjaa
open Go.RowKit

/-- What is written of numbers alone. -/
def wireL (zs : List Int) : List UInt8 := numsL zs ++ [0, 0, 0, 0, 0, 0]
theorem SlAt.ofBlk {w : World} {b : Nat} {t : TypeId} {zs : List Int} (h : Blk w b (zs.map (Value.int .i64)).toArray t) : SlAt w (some ⟨b, 0, none⟩) (zs.map (Value.int .i64)) := by
  intro k _
  refine ⟨b, 0, rfl, h.lt, fun j _ => ?_⟩
  rw [h.cell, Nat.zero_add]
  simp
set_option maxRecDepth 100000 in
set_option maxHeartbeats 8000000 in
theorem bytes_ok (k f s p fl d0 d1 rc lg : Int) (h : 1 ≤ k ∧ k ≤ 8 ∧ 1 ≤ f ∧ f ≤ 1099511627776 ∧ 0 ≤ s ∧ s ≤ 1099511627776 ∧ 0 ≤ p ∧ p ≤ 15 ∧ 0 ≤ fl ∧ fl ≤ 1 ∧ 0 ≤ rc ∧ rc ≤ 1099511627776 ∧ 0 ≤ lg ∧ lg ≤ 1073741824) (hd : d0 = 0 ∧ d1 = 0 ∨ (1 ≤ d0 ∧ d0 ≤ 1099511627776) ∧ 1 ≤ d1 ∧ d1 ≤ 1099511627776) (w : World) :
    Calls Try.prog 10 #[.agg #[.int .i64 k, .int .i64 f, .int .i64 s, .int .i64 p, .int .i64 fl, .string ⟨#[]⟩, .slice none 0 0, .slice none 0 0, .slice none 0 0, .slice none 0 0, .slice none 0 0, .int .i64 d0, .int .i64 d1, .int .i64 rc, .int .i64 lg]] w fun e w' => e = .returned (.tuple #[.string (ofL (wireL [k, f, s, p, fl, d0, d1, rc, lg])), .int .i64 0]) ∧ Below w.heap.size w w' := by
  obtain ⟨w0, hw0⟩ := nm (w.alloc (.cells #[.int .i64 k, .int .i64 f, .int .i64 s, .int .i64 p, .int .i64 fl, .string ⟨#[]⟩, .slice none 0 0, .slice none 0 0, .slice none 0 0, .slice none 0 0, .slice none 0 0, .int .i64 d0, .int .i64 d1, .int .i64 rc, .int .i64 lg] 33))
  obtain ⟨x, hx⟩ := nm w.heap.size
  have Kx : Hid (Blk w0 x #[.int .i64 k, .int .i64 f, .int .i64 s, .int .i64 p, .int .i64 fl, .string ⟨#[]⟩, .slice none 0 0, .slice none 0 0, .slice none 0 0, .slice none 0 0, .slice none 0 0, .int .i64 d0, .int .i64 d1, .int .i64 rc, .int .i64 lg] 33) := by show Blk _ _ _ _; rw [hw0.out, hx.out]; exact Blk.new _ _ _
  have HB0 : Hid (Below w.heap.size w w0) := by rw [hw0.out]; exact bOld _
  have HCK := Lib.hid (check_ok k f s p fl d0 d1 rc lg h hd w0)
  have hz : ∀ z ∈ ([k, f, s, p, fl, d0, d1, rc, lg] : List Int), z ≤ 9223372036854775807 := by
    intro z hz
    simp only [List.mem_cons, List.not_mem_nil, or_false] at hz
    rcases hz with rfl | rfl | rfl | rfl | rfl | rfl | rfl | rfl | rfl <;> omega
  have HZ := Lib.hid hz
  obtain ⟨zs, hzs⟩ := nm ([k, f, s, p, fl, d0, d1, rc, lg] : List Int)
  have hzl : Hid (zs.length = 9) := by show _ = _; rw [hzs.out]; rfl
  rw [← hzs.out]
  rw [← hzs.out] at HZ
  clear h hd hz
  go_enter Try.func10, Try.ntmps10
  go_upto_region 1 with fail
  rw [← hw0.out, ← hx.out]
  have c0 : w0.cell? ⟨x, 0, none⟩ = some (.int .i64 k) := Kx.out.cell 0
  have c1 : w0.cell? ⟨x, 1, none⟩ = some (.int .i64 f) := Kx.out.cell 1
  have c2 : w0.cell? ⟨x, 2, none⟩ = some (.int .i64 s) := Kx.out.cell 2
  have c3 : w0.cell? ⟨x, 3, none⟩ = some (.int .i64 p) := Kx.out.cell 3
  have c4 : w0.cell? ⟨x, 4, none⟩ = some (.int .i64 fl) := Kx.out.cell 4
  have c5 : w0.cell? ⟨x, 5, none⟩ = some (.string ⟨#[]⟩) := Kx.out.cell 5
  have c6 : w0.cell? ⟨x, 6, none⟩ = some (.slice none 0 0) := Kx.out.cell 6
  have c7 : w0.cell? ⟨x, 7, none⟩ = some (.slice none 0 0) := Kx.out.cell 7
  have c8 : w0.cell? ⟨x, 8, none⟩ = some (.slice none 0 0) := Kx.out.cell 8
  have c9 : w0.cell? ⟨x, 9, none⟩ = some (.slice none 0 0) := Kx.out.cell 9
  have c10 : w0.cell? ⟨x, 10, none⟩ = some (.slice none 0 0) := Kx.out.cell 10
  have c11 : w0.cell? ⟨x, 11, none⟩ = some (.int .i64 d0) := Kx.out.cell 11
  have c12 : w0.cell? ⟨x, 12, none⟩ = some (.int .i64 d1) := Kx.out.cell 12
  have c13 : w0.cell? ⟨x, 13, none⟩ = some (.int .i64 rc) := Kx.out.cell 13
  have c14 : w0.cell? ⟨x, 14, none⟩ = some (.int .i64 lg) := Kx.out.cell 14
  go_wp2_with fail
  refine HCK.out.mono ?_; rintro e w1 ⟨rfl, hB1⟩
  replace Kx := Lib.hid (Kx.out.below hB1 Kx.out.lt)
  have HB1 := Lib.hid (bNext HB0.out hB1)
  clear hB1 c0 c1 c2 c3 c4 c5 c6 c7 c8 c9 c10 c11 c12 c13 c14
  have c0 : w1.cell? ⟨x, 0, none⟩ = some (.int .i64 k) := Kx.out.cell 0
  have c1 : w1.cell? ⟨x, 1, none⟩ = some (.int .i64 f) := Kx.out.cell 1
  have c2 : w1.cell? ⟨x, 2, none⟩ = some (.int .i64 s) := Kx.out.cell 2
  have c3 : w1.cell? ⟨x, 3, none⟩ = some (.int .i64 p) := Kx.out.cell 3
  have c4 : w1.cell? ⟨x, 4, none⟩ = some (.int .i64 fl) := Kx.out.cell 4
  have c5 : w1.cell? ⟨x, 5, none⟩ = some (.string ⟨#[]⟩) := Kx.out.cell 5
  have c6 : w1.cell? ⟨x, 6, none⟩ = some (.slice none 0 0) := Kx.out.cell 6
  have c7 : w1.cell? ⟨x, 7, none⟩ = some (.slice none 0 0) := Kx.out.cell 7
  have c8 : w1.cell? ⟨x, 8, none⟩ = some (.slice none 0 0) := Kx.out.cell 8
  have c9 : w1.cell? ⟨x, 9, none⟩ = some (.slice none 0 0) := Kx.out.cell 9
  have c10 : w1.cell? ⟨x, 10, none⟩ = some (.slice none 0 0) := Kx.out.cell 10
  have c11 : w1.cell? ⟨x, 11, none⟩ = some (.int .i64 d0) := Kx.out.cell 11
  have c12 : w1.cell? ⟨x, 12, none⟩ = some (.int .i64 d1) := Kx.out.cell 12
  have c13 : w1.cell? ⟨x, 13, none⟩ = some (.int .i64 rc) := Kx.out.cell 13
  have c14 : w1.cell? ⟨x, 14, none⟩ = some (.int .i64 lg) := Kx.out.cell 14
  go_wp2_with fail
  refine (numbers_any k f s p fl d0 d1 rc lg _).mono ?_; rintro e w2 ⟨rfl, hB2⟩
  obtain ⟨y, hy⟩ := nm w2.heap.size
  obtain ⟨w3, hw3⟩ := nm (w2.alloc (.cells #[.int .i64 k, .int .i64 f, .int .i64 s, .int .i64 p, .int .i64 fl, .int .i64 d0, .int .i64 d1, .int .i64 rc, .int .i64 lg] 54))
  replace Kx : Hid (Blk w3 x #[.int .i64 k, .int .i64 f, .int .i64 s, .int .i64 p, .int .i64 fl, .string ⟨#[]⟩, .slice none 0 0, .slice none 0 0, .slice none 0 0, .slice none 0 0, .slice none 0 0, .int .i64 d0, .int .i64 d1, .int .i64 rc, .int .i64 lg] 33) := by show Blk _ _ _ _; rw [hw3.out]; exact (Kx.out.below hB2 Kx.out.lt).alloc _
  have Ky : Hid (Blk w3 y #[.int .i64 k, .int .i64 f, .int .i64 s, .int .i64 p, .int .i64 fl, .int .i64 d0, .int .i64 d1, .int .i64 rc, .int .i64 lg] 54) := by show Blk _ _ _ _; rw [hw3.out, hy.out]; exact Blk.new _ _ _
  have HB3 : Hid (Below w.heap.size w w3) := by show Below _ _ _; rw [hw3.out]; exact bNew (bNext HB1.out hB2) _
  clear hB2 c0 c1 c2 c3 c4 c5 c6 c7 c8 c9 c10 c11 c12 c13 c14
  go_upto_region 4 with fail
  rw [← hw3.out, ← hy.out]
  have c5 : w3.cell? ⟨x, 5, none⟩ = some (.string ⟨#[]⟩) := Kx.out.cell 5
  have c6 : w3.cell? ⟨x, 6, none⟩ = some (.slice none 0 0) := Kx.out.cell 6
  have c7 : w3.cell? ⟨x, 7, none⟩ = some (.slice none 0 0) := Kx.out.cell 7
  have c8 : w3.cell? ⟨x, 8, none⟩ = some (.slice none 0 0) := Kx.out.cell 8
  have c9 : w3.cell? ⟨x, 9, none⟩ = some (.slice none 0 0) := Kx.out.cell 9
  have c10 : w3.cell? ⟨x, 10, none⟩ = some (.slice none 0 0) := Kx.out.cell 10
  have hlx : x < w3.heap.size := Kx.out.lt
  have HKEEP : Hid (∀ wa : World, Below w3.drew.heap.size w3.drew wa → wa.cell? ⟨x, 5, none⟩ = some (.string ⟨#[]⟩) ∧ wa.cell? ⟨x, 6, none⟩ = some (.slice none 0 0) ∧ wa.cell? ⟨x, 7, none⟩ = some (.slice none 0 0) ∧ wa.cell? ⟨x, 8, none⟩ = some (.slice none 0 0) ∧ wa.cell? ⟨x, 9, none⟩ = some (.slice none 0 0) ∧ wa.cell? ⟨x, 10, none⟩ = some (.slice none 0 0)) := by
    show ∀ wa : World, _
    intro wa h
    exact ⟨(h.cell (p := ⟨x, 5, none⟩) hlx).trans c5, (h.cell (p := ⟨x, 6, none⟩) hlx).trans c6, (h.cell (p := ⟨x, 7, none⟩) hlx).trans c7, (h.cell (p := ⟨x, 8, none⟩) hlx).trans c8, (h.cell (p := ⟨x, 9, none⟩) hlx).trans c9, (h.cell (p := ⟨x, 10, none⟩) hlx).trans c10⟩
  have hsl : SlAt w3.drew (some ⟨y, 0, none⟩) (zs.map (Value.int .i64)) := by rw [hzs.out]; exact SlAt.ofBlk (w := w3.drew) Ky.out
  obtain ⟨a1, ha1⟩ := nm (ofL (numsL zs))
  obtain ⟨z1, hz1⟩ := nm (ofL [0])
  obtain ⟨z3, hz3⟩ := nm (ofL [0, 0, 0])
  have HN : Hid (Calls Try.prog 21 #[.slice (some ⟨y, 0, none⟩) 9 9] w3.drew fun e w' => e = .returned (.string a1) ∧ Below w3.drew.heap.size w3.drew w') := by
    show Calls _ _ _ _ _
    rw [ha1.out]
    exact nums_any (some ⟨y, 0, none⟩) 9 9 zs hzl.out (by decide) HZ.out w3.drew hsl
  have HT : Hid (∀ w, Calls Try.prog 22 #[.string ⟨#[]⟩] w fun e w' => e = .returned (.string z1) ∧ Below w.heap.size w w') := by
    intro w
    have := text_any ⟨#[]⟩ w (by decide)
    rw [show ofL (textL (bl ⟨#[]⟩)) = z1 from by rw [hz1.out]; unfold textL; rw [show (bl ⟨#[]⟩).length = 0 from rfl, num0]; rfl] at this
    exact this
  have HG : Hid (∀ w, Calls Try.prog 23 #[.agg #[.slice none 0 0, .slice none 0 0, .slice none 0 0]] w fun e w' => e = .returned (.string z3) ∧ Below w.heap.size w w') := by intro w; rw [hz3.out]; exact bagb0 w
  have HM : Hid (∀ w, Calls Try.prog 24 #[.slice none 0 0] w fun e w' => e = .returned (.string z1) ∧ Below w.heap.size w w') := by intro w; rw [hz1.out]; exact namesb0 w
  have HV : Hid (∀ w, Calls Try.prog 25 #[.slice none 0 0] w fun e w' => e = .returned (.string z1) ∧ Below w.heap.size w w') := by intro w; rw [hz1.out]; exact viewb0 w
  have l1 : a1.size ≤ 100 := by
    rw [ha1.out, ofL_size]
    unfold numsL
    rw [List.length_append, hzl.out]
    have g1 := Pl.num_length_le 9 (by decide)
    have g2 := intsL_le zs HZ.out
    rw [hzl.out] at g2
    omega
  have m1 : z1.size = 1 := by rw [hz1.out, ofL_size]; rfl
  have m3 : z3.size = 3 := by rw [hz3.out, ofL_size]; rfl
  have n2 : (a1 ++ z1).size = a1.size + 1 := by rw [ByteArray.size_append, m1]
  have n3 : (a1 ++ z1 ++ z3).size = a1.size + 4 := by rw [ByteArray.size_append, n2, m3]
  have n4 : (a1 ++ z1 ++ z3 ++ z1).size = a1.size + 5 := by rw [ByteArray.size_append, n3, m1]
  have n5 : (a1 ++ z1 ++ z3 ++ z1 ++ z1).size = a1.size + 6 := by rw [ByteArray.size_append, n4, m1]
  have k2 := fun w : World => run_string_add_sum (P := Try.prog) w a1 z1 (by omega)
  have k3 := fun w : World => run_string_add_sum (P := Try.prog) w (a1 ++ z1) z3 (by omega)
  have k4 := fun w : World => run_string_add_sum (P := Try.prog) w (a1 ++ z1 ++ z3) z1 (by omega)
  have k5 := fun w : World => run_string_add_sum (P := Try.prog) w (a1 ++ z1 ++ z3 ++ z1) z1 (by omega)
  have HF : Hid (a1 ++ z1 ++ z3 ++ z1 ++ z1 = ofL (wireL zs)) := by
    show _ = _
    rw [ha1.out, hz1.out, hz3.out, ofL_append, ofL_append, ofL_append, ofL_append]
    unfold wireL
    simp only [List.append_assoc]; rfl
  have HS5 : Hid ((a1 ++ z1 ++ z3 ++ z1 ++ z1).size ≤ 200) := by show _ ≤ _; omega
  clear n2 n3 n4 n5 m1 m3 l1 hsl
  go_region_held3 (fun w' => w'.cell? ⟨x, 5, none⟩ = some (.string ⟨#[]⟩) ∧ w'.cell? ⟨x, 6, none⟩ = some (.slice none 0 0) ∧ w'.cell? ⟨x, 7, none⟩ = some (.slice none 0 0) ∧ w'.cell? ⟨x, 8, none⟩ = some (.slice none 0 0) ∧ w'.cell? ⟨x, 9, none⟩ = some (.slice none 0 0) ∧ w'.cell? ⟨x, 10, none⟩ = some (.slice none 0 0))
    (first
      | exact HKEEP.out _ (bNext (bNext (bNext (bNext hb1 hb2) hb3) hb4) hb5)
      | exact HKEEP.out _ (bNext (bNext (bNext hb1 hb2) hb3) hb4)
      | exact HKEEP.out _ (bNext (bNext hb1 hb2) hb3)
      | exact HKEEP.out _ (bNext hb1 hb2)
      | exact HKEEP.out _ hb1
      | exact ⟨cell_dr c5, cell_dr c6, cell_dr c7, cell_dr c8, cell_dr c9, cell_dr c10⟩
      | exact ⟨c5, c6, c7, c8, c9, c10⟩)
    (first
      | (go_at_call 21; refine HN.out.mono ?_; rintro e v1 ⟨rfl, hb1⟩)
      | (go_at_call 22; with_reducible (refine (HT.out _).mono ?_); rintro e v2 ⟨rfl, hb2⟩)
      | (go_at_call 23; with_reducible (refine (HG.out _).mono ?_); rintro e v3 ⟨rfl, hb3⟩)
      | (go_at_call 24; with_reducible (refine (HM.out _).mono ?_); rintro e v4 ⟨rfl, hb4⟩)
      | (go_at_call 25; with_reducible (refine (HV.out _).mono ?_); rintro e v5 ⟨rfl, hb5⟩))
  have HBF := Lib.hid (bNext (bDrew HB3.out) (bNext (bNext (bNext (bNext hb1 hb2) hb3) hb4) hb5))
  obtain ⟨R, hR⟩ := nm (a1 ++ z1 ++ z3 ++ z1 ++ z1)
  rw [← hR.out] at HF HS5
  rw [← hR.out]
  have hRs : R.size ≤ 200 := HS5.out
  clear hb1 hb2 hb3 hb4 hb5 k2 k3 k4 k5 c5 c6 c7 c8 c9 c10
  go_wp2_with fail
  refine bodyPost_ret (v := .tuple #[.string R, .int .i64 0]) (by simp [results, Try.results10, go_sem]) rfl ?_
  exact ⟨by rw [← HF.out], HBF.out⟩
end Go.Proofs.Ytfpjdmplepepjaa

