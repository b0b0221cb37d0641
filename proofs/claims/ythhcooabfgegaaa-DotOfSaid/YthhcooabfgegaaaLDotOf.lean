/- DotOf: for every row of names the law returns true. -/
import Derived.Test.YthhcooabfgegaaaDotAwake
import Derived.Test.YthhcooabfgegaaaDotRef
import Derived.Test.YthhcooabfgegaaaDotOf
import Derived.Test.YthhcooabfgegaaaPairAppend
import Derived.Test.YthhcooabfgegaaaBytes
import Derived.Test.YthhcooabfgegaaaLaw
import Derived.Deep.CutBlock
import Derived.Deep.DeepCutAuto
import Derived.Outline
import Derived.Deep.RegionHeld3
import Derived.Laws.Pointers
namespace Go.Proofs.Ythhcooabfgegaaa
open Go.RowKit Go.Shelf Go.Lib Go.Sort

theorem asc_filter {l : List (Int × Int)} (h : Asc l) (p : Int × Int → Bool) : Asc (l.filter p) := List.Pairwise.filter p h
theorem ofD_sort (M : List (Int × Int)) (z : Int) : sortD (ofD M z) = ofD (sortD M) z := by
  refine asc_unique (asc_sortD _) (asc_filter (asc_sortD M) _) fun x => ?_
  rw [mem_sortD, ofD, ofD, List.mem_filter, List.mem_filter, mem_sortD]
/-- How many are of a node below z. -/
def cntD (l : List (Int × Int)) (z : Int) : Nat := (l.filter fun p => decide (p.1 < z)).length
theorem cntD_succ (z : Int) : ∀ l : List (Int × Int), cntD l z + (ofD l z).length = cntD l (z + 1)
  | [] => rfl
  | a :: l => by
    have ih := cntD_succ z l
    unfold cntD ofD at *
    simp only [List.filter_cons]
    by_cases h1 : a.1 < z
    · have h2 : ¬ a.1 = z := by omega
      have h3 : a.1 < z + 1 := by omega
      simp only [h1, h2, h3, decide_true, decide_false, if_true, Bool.false_eq_true, if_false, List.length_cons]
      omega
    · by_cases h2 : a.1 = z
      · have h3 : a.1 < z + 1 := by omega
        simp only [h2] at h1 h3 ⊢
        simp only [h1, h3, decide_true, decide_false, if_true, Bool.false_eq_true, if_false, List.length_cons]
        omega
      · have h3 : ¬ a.1 < z + 1 := by omega
        simp only [h1, h2, h3, decide_false, Bool.false_eq_true, if_false]
        omega
theorem cntD_le (l : List (Int × Int)) (z : Int) : cntD l z ≤ l.length := List.length_filter_le _ _
theorem cntD_all {l : List (Int × Int)} {z : Int} (h : ∀ p ∈ l, p.1 < z) : cntD l z = l.length := by
  unfold cntD
  rw [List.filter_eq_self.2 fun p hp => by simpa using h p hp]
theorem cntD_none {l : List (Int × Int)} {z : Int} (h : ∀ p ∈ l, ¬ p.1 < z) : cntD l z = 0 := by
  unfold cntD
  rw [List.filter_eq_nil_iff.2 fun p hp => by simpa using h p hp]; rfl
theorem segD (z : Int) : ∀ {l : List (Int × Int)}, Asc l → ∀ {t : Nat} {p : Int × Int}, (ofD l z)[t]? = some p → l[cntD l z + t]? = some p
  | [], _, t, p, h => by simp [ofD] at h
  | a :: l, ha, t, p, h => by
    have ha' := List.pairwise_cons.1 ha
    by_cases h1 : a.1 < z
    · have h2 : ¬ a.1 = z := by omega
      have e1 : ofD (a :: l) z = ofD l z := by simp only [ofD, List.filter_cons, h2, decide_false, Bool.false_eq_true, if_false]
      have e2 : cntD (a :: l) z = cntD l z + 1 := by simp only [cntD, List.filter_cons, h1, decide_true, if_true, List.length_cons]
      rw [e1] at h
      have := segD z ha'.2 h
      rw [e2, show cntD l z + 1 + t = (cntD l z + t) + 1 from by omega, List.getElem?_cons_succ]
      exact this
    · have hall : ∀ q ∈ a :: l, ¬ q.1 < z := by
        intro q hq
        rcases List.mem_cons.1 hq with rfl | hq
        · exact h1
        · have := ha'.1 q hq
          unfold ltP at this; omega
      rw [cntD_none hall, Nat.zero_add]
      by_cases h2 : a.1 = z
      · have e1 : ofD (a :: l) z = a :: ofD l z := by simp only [ofD, List.filter_cons, h2, decide_true, if_true]
        rw [e1] at h
        cases t with
        | zero => simpa using h
        | succ t =>
          rw [List.getElem?_cons_succ] at h ⊢
          have := segD z ha'.2 h
          rwa [cntD_none fun q hq => hall q (by simp [hq]), Nat.zero_add] at this
      · exfalso
        have e1 : ofD (a :: l) z = [] := by
          refine List.filter_eq_nil_iff.2 fun q hq => ?_
          have : ¬ q.1 = z := by
            rcases List.mem_cons.1 hq with rfl | hq
            · exact h2
            · have := ha'.1 q hq
              unfold ltP at this; omega
          simpa using this
        rw [e1] at h; simp at h

/-- A name of one of the nodes from 0 to 7. -/
def and7 (p : Int × Int) : Int × Int := (bits .and .i64 p.1 7, p.2)
theorem and7_le (p : Int × Int) : 0 ≤ (and7 p).1 ∧ (and7 p).1 < 8 := by
  obtain ⟨K, h1, h2⟩ := and_mask p.1 7 (by decide)
  unfold and7
  simp only
  rw [show ((7 : Nat) : Int) = 7 from rfl] at h2
  omega

theorem sort_at (ao : Option Addr) (ps qs : List (Int × Int)) (n m cap : Nat) (hn : ps.length = n) (hq : Hid (sortD ps = qs)) (hm' : Hid (qs.length = m)) (w : World) (hs : SlP w ao ps) (hm : n ≤ 1000000) :
    Calls Try.prog 12 #[.slice ao n cap] w fun e w' => ∃ ao' cap', e = .returned (.slice ao' m cap') ∧ m ≤ cap' ∧ SlP w' ao' qs ∧ (ao' = none → m = 0) ∧ Below w.heap.size w w' := by
  refine (sort_any ao ps n cap hn w hs (by omega) (by rintro rfl; rw [← hn]; exact hs.none_len)).mono ?_
  rintro e w' ⟨a, c, rfl, h1, h2, _, h3, h4⟩
  rw [hq.out, hm'.out] at *
  exact ⟨a, c, rfl, h1, h2, h3, h4⟩
theorem of_at (ao : Option Addr) (ps qs : List (Int × Int)) (n m cap : Nat) (hn : Hid (ps.length = n)) (hcap : n ≤ cap) (z : Int) (hq : Hid (ofD ps z = qs)) (hm' : Hid (qs.length = m)) (w : World) (hs : SlP w ao ps) (hm : n ≤ 1000000) :
    Calls Try.prog 16 #[.slice ao n cap, .int .i64 z] w fun e w' => ∃ ao' cap', e = .returned (.slice ao' m cap') ∧ m ≤ cap' ∧ SlP w' ao' qs ∧ Below w.heap.size w w' := by
  refine (of_any ao ps n cap hn.out hcap z w hs (by omega)).mono ?_
  rintro e w' ⟨a, c, rfl, h1, h2, _, h4⟩
  rw [hq.out, hm'.out] at *
  exact ⟨a, c, rfl, h1, h2, h4⟩

set_option maxRecDepth 100000 in
set_option maxHeartbeats 4000000 in
theorem dotOf_walk (ao : Option Addr) (l : List (Int × Int)) (n cap : Nat) (hn : l.length = n) (hm : n ≤ 9223372036854775807) (w : World) (hs : SlP w ao l) :
    Calls Try.prog 5 #[.slice ao n cap] w fun e w' => e = .returned (.bool true) ∧ Below w.heap.size w w' := by
  obtain ⟨i0, hi, hz0, hz1, hz2⟩ := info_parts infoD
  have HS := Lib.hid hs
  have HN := Lib.hid hn
  obtain ⟨M, hM⟩ := nm ((l.take 30).map and7)
  obtain ⟨N, hN⟩ := nm M.length
  have hNl : N = min 30 n := by rw [hN.out, hM.out, List.length_map, List.length_take, hn]
  have HNL := Lib.hid hNl
  have hN30 : N ≤ 30 := by omega
  clear hs hn hNl
  go_enter Try.func5, Try.ntmps5
  go_wp2_with fail
  refine (awake_any _).mono ?_; rintro e w1 ⟨rfl, hB0⟩
  have HB0 := Lib.hid hB0
  clear hB0
  go_upto_block 0 with fail
  go_cut [4] (fun v wx => OwnP wx w1.heap.size 23 v M ∧ Below w1.heap.size w1 wx)
  case first =>
    go_wp2_with fail
    go_loopw [4, 5] (fun v i wr => ∃ k : Nat, k ≤ n ∧ k ≤ 30 ∧ i = .int .i64 (k : Int) ∧ OwnP wr w1.heap.size 23 v ((l.take k).map and7) ∧ Below w1.heap.size w1 wr) (fun _ i _ => 30 - (intOf i).toNat)
    case atStart => exact ⟨0, by omega, by omega, rfl, OwnP.nil _ _ _, Below.refl _ _⟩
    case round =>
      obtain ⟨k, hk, hk30, rfl, hown, hB⟩ := hrel
      by_cases hlt : k < n ∧ k < 30
      · obtain ⟨hlt, hlt30⟩ := hlt
        obtain ⟨b, off, u, v, rfl, hbl, c0, c1, hpk⟩ := HS.out.get k (by rw [HN.out]; exact hlt)
        have hB2 := bNext HB0.out hB
        have d0 : wr.cell? ⟨b, off + k * 2, none⟩ = some (.int .i64 u) := (hB2.cell (p := ⟨b, off + k * 2, none⟩) hbl).trans c0
        have d1 : wr.cell? ⟨b, off + k * 2 + 1, none⟩ = some (.int .i64 v) := (hB2.cell (p := ⟨b, off + k * 2 + 1, none⟩) hbl).trans c1
        clear c0 c1 hB2
        obtain ⟨z, hz⟩ := nm (bits .and .i64 u 7)
        have hN2 : Hid ((l.take (k + 1)).map and7 = (l.take k).map and7 ++ [(z, v)]) := by
          show _ = _
          rw [take_snocP hpk.out, List.map_append, hz.out]; rfl
        obtain ⟨L, hL⟩ := nm ((l.take k).map and7)
        have hLl : L.length ≤ k := by rw [hL.out, List.length_map, List.length_take]; omega
        rw [← hL.out] at hown hN2
        have hz1' : bits .and .i64 u 7 = z := hz.out.symm
        go_wp2_with fail
        have hks := hB.size
        have hne : ∀ kk, kk < w1.heap.size → Value.ownBlock _ ≠ some kk := fun kk hk e => absurd (World.ownsRow.lt hown kk e).1 (Nat.not_le.2 hk)
        have hneb := hne b (Nat.lt_of_lt_of_le hbl HB0.out.size)
        have hblr : b < wr.heap.size := by have := HB0.out.size; omega
        have hki0 : (0 : Int) ≤ (k : Int) := by omega
        have hki1 : (k : Int) < (n : Int) := by omega
        go_region_held3 (fun w' => w'.cell? ⟨b, off + k * 2, none⟩ = some (.int .i64 u) ∧ w'.cell? ⟨b, off + k * 2 + 1, none⟩ = some (.int .i64 v))
          (first
            | go_keep
            | (go_split_ands
               refine ⟨?_, ?_⟩
               · (rw [hgrow.cell_far _ (by simp; omega) (Ne.symm hneb)]; assumption)
               · (rw [hgrow.cell_far _ (by simp; omega) (Ne.symm hneb)]; assumption)))
          ((refine step_append_lies _ (by rfl) _ _ _ (by rfl) w1.heap.size 23 i0 _ 2 16 Try.underlying27 hi hz0 hz1 hz2 rfl (by decide) _ L.length (flatD L) (by rfl) ((World.ownsRow.alloc hown _).drew)
              ⟨wr.heap.size, 0, none⟩ 1 1 [.int .i64 z, .int .i64 v] (by rfl) (by rfl) (World.news_of_block (cs := #[.int .i64 z, .int .i64 v]) (t := 23) (fr := (0, 0)) (heap_alloc_new wr _)) (by simp [Value.oneCell'])
              (by decide) (by unfold maxLen; omega) (by omega) (by simp; omega) (wr.heap.size + 1) (by simp) ?_; intro gg cap2 w2 hown2 hgrow hat hlt2))
        have hB2 : Below w1.heap.size w1 w2 := (below_drewN (bNew hB _) 1).grown hgrow (by simp; omega) (fun kk h => (World.ownsRow.lt hown kk h).1)
        replace hown2 : OwnP w2 w1.heap.size 23 (.slice (some ⟨gg, 0, none⟩) (L.length + 1) cap2) ((l.take (k + 1)).map and7) := by
          rw [hN2.out]
          show w2.ownsRow _ _ _ _ _ _
          rw [List.length_append, flatD_append]
          exact hown2
        clear hown hgrow hB d0 d1 hz1' hne hneb
        go_wp2_with fail
        go_roundw
        case rel => exact ⟨k + 1, by omega, by omega, by go_num, hown2, hB2⟩
        case measure => simp [intOf]; omega
      · have e : (l.take k).map and7 = M := by
          rw [hM.out]
          rcases Nat.lt_or_ge k 30 with h | h
          · rw [List.take_of_length_le (by rw [HN.out]; omega), List.take_of_length_le (by rw [HN.out]; omega)]
          · rw [show k = 30 from by omega]
        rw [e] at hown
        clear e
        go_wp2_with fail
        all_goals
          go_meet
          exact ⟨hown, hB⟩
  obtain ⟨hown, hB⟩ := hcut
  obtain ⟨am, cm, rfl, hcm, hcmm, hslm, _⟩ := hown.sl
  rw [← hN.out] at hcm ⊢
  obtain ⟨S, hS⟩ := nm (sortD M)
  obtain ⟨K, hK⟩ := nm S.length
  have hKN : K ≤ N := by rw [hK.out, hS.out, hN.out]; exact sortD_length M
  have HA : Hid (Asc S) := by show Asc S; rw [hS.out]; exact asc_sortD M
  have hM7 : ∀ p ∈ M, 0 ≤ p.1 ∧ p.1 < 8 := by
    intro p hp
    rw [hM.out] at hp
    obtain ⟨q, _, rfl⟩ := List.mem_map.1 hp
    exact and7_le q
  have hS7 : ∀ p ∈ S, 0 ≤ p.1 ∧ p.1 < 8 := by
    intro p hp
    rw [hS.out, mem_sortD] at hp
    exact hM7 p hp
  have HM7 := Lib.hid hM7
  have HS7 := Lib.hid hS7
  have HSM := Lib.hid hslm
  have hB1 := bNext HB0.out hB
  have HB1 := Lib.hid hB1
  clear hM7 hS7 hown hslm hB hB1 HB0
  go_wp2_with fail
  refine (sort_at am M S N K cm hN.out.symm (hidSymm hS) (hidSymm hK) _ HSM.out (by omega)).mono ?_; rintro e w2 ⟨aS, cS, rfl, hcS, hslS, _, hB⟩
  have HSS := Lib.hid hslS
  have HMS := Lib.hid (HSM.out.below hB)
  have HB2 := Lib.hid (bNext HB1.out hB)
  clear hslS hB HSM HB1
  go_wp2_with fail
  go_loopw [7, 8, 9] (fun a b c wr => ∃ z : Nat, z ≤ 8 ∧ c = .int .i64 (z : Int) ∧ a = .int .i64 (cntD M (z : Int) : Int) ∧ b = .int .i64 (cntD S (z : Int) : Int) ∧ Below w2.heap.size w2 wr) (fun _ _ c _ => 8 - (intOf c).toNat)
  case atStart => exact ⟨0, by omega, rfl, by rw [cntD_none (fun p hp => by have := (HM7.out p hp).1; omega)]; rfl, by rw [cntD_none (fun p hp => by have := (HS7.out p hp).1; omega)]; rfl, Below.refl _ _⟩
  case round =>
    obtain ⟨z, hz, rfl, rfl, rfl, hB⟩ := hrel
    have hcl1 := cntD_le M (z : Int)
    have hcl2 := cntD_le S (z : Int)
    rw [← hN.out] at hcl1
    rw [← hK.out] at hcl2
    by_cases hlt : z < 8
    · obtain ⟨A, hA⟩ := nm (ofD M (z : Int))
      obtain ⟨nA, hnA⟩ := nm A.length
      obtain ⟨B, hBB⟩ := nm (ofD S (z : Int))
      obtain ⟨nB, hnB⟩ := nm B.length
      have hAs : Hid (sortD A = B) := by show _ = _; rw [hA.out, hBB.out, hS.out]; exact ofD_sort M z
      have hc1 : Hid (cntD M (z : Int) + nA = cntD M ((z : Int) + 1)) := by show _ = _; rw [hnA.out, hA.out]; exact cntD_succ z M
      have hc2 : Hid (cntD S (z : Int) + nB = cntD S ((z : Int) + 1)) := by show _ = _; rw [hnB.out, hBB.out]; exact cntD_succ z S
      have hsum2 := cntD_le S ((z : Int) + 1)
      rw [← hc2.out, ← hK.out] at hsum2
      have hsum1 := cntD_le M ((z : Int) + 1)
      rw [← hc1.out, ← hN.out] at hsum1
      obtain ⟨x1, hx1⟩ := nm (cntD M (z : Int))
      obtain ⟨x2, hx2⟩ := nm (cntD S (z : Int))
      rw [← hx1.out] at hcl1 hsum1 hc1 ⊢
      rw [← hx2.out] at hcl2 hsum2 hc2 ⊢
      have HSM1 := Lib.hid (HMS.out.below hB)
      go_wp2_with fail
      refine (of_at am M A N nA cm (hidSymm hN) hcm z (hidSymm hA) (hidSymm hnA) _ HSM1.out (by omega)).mono ?_; rintro e w3 ⟨aA, cA, rfl, hcA, hslA, hB3⟩
      have HSS1 := Lib.hid ((HSS.out.below hB).below hB3)
      replace hB := bNext hB hB3
      have HSA := Lib.hid hslA
      clear hslA hB3 HSM1
      go_wp2_with fail
      refine (of_at aS S B K nB cS (hidSymm hK) hcS z (hidSymm hBB) (hidSymm hnB) _ HSS1.out (by omega)).mono ?_; rintro e w4 ⟨aB, cB, rfl, hcB, hslB, hB3⟩
      have HSA1 := Lib.hid (HSA.out.below hB3)
      have HSS2 := Lib.hid (HSS1.out.below hB3)
      have HSB := Lib.hid hslB
      replace hB := bNext hB hB3
      clear hslB hB3 HSA HSS1
      go_wp2_with fail
      refine (sort_at aA A B nA nB cA hnA.out.symm hAs (hidSymm hnB) _ HSA1.out (by omega)).mono ?_; rintro e w5 ⟨aC, cC, rfl, hcC, hslC, _, hB3⟩
      have HSB1 := Lib.hid (HSB.out.below hB3)
      have HSS3 := Lib.hid (HSS2.out.below hB3)
      have HSC := Lib.hid hslC
      replace hB := bNext hB hB3
      clear hslC hB3 HSB HSS2 HSA1
      go_wp2_with fail
      refine (same_any aC aB cC cB nB nB B B (hidSymm hnB) (hidSymm hnB) _ (by omega) HSC.out HSB1.out true (by show _ = _; exact (decide_eq_true rfl).symm)).mono ?_; rintro e w6 ⟨rfl, q6, rfl⟩
      have HSB2 : Hid (SlP (w5.drewN q6) aB B) := HSB1.out
      have HSS4 : Hid (SlP (w5.drewN q6) aS S) := HSS3.out
      have hB6 := below_drewN hB q6
      obtain ⟨w7, hw7⟩ := nm (w5.drewN q6)
      rw [← hw7.out] at HSB2 HSS4 hB6 ⊢
      clear hB HSB1 HSS3 HSC hw7
      go_wp2_with fail
      go_loopw [13] (fun i wr => ∃ t q : Nat, t ≤ nB ∧ i = .int .i64 (t : Int) ∧ wr = w7.drewN q) (fun i _ => nB - (intOf i).toNat)
      case atStart => exact ⟨0, 0, by omega, rfl, rfl⟩
      case round =>
        obtain ⟨t, q, ht, rfl, rfl⟩ := hrel
        by_cases hlt2 : t < nB
        · obtain ⟨b, off, u, v, rfl, hbl, d0, d1, hpk⟩ := HSB2.out.get t (by rw [← hnB.out]; exact hlt2)
          have hsg : S[x2 + t]? = some (u, v) := by rw [hx2.out]; exact segD z HA.out (by rw [← hBB.out]; exact hpk.out)
          obtain ⟨b2, off2, u2, v2, rfl, hbl2, d2, d3, hpk2⟩ := HSS4.out.get (x2 + t) (by rw [← hK.out]; omega)
          obtain ⟨rfl, rfl⟩ : u2 = u ∧ v2 = v := by have := hpk2.out; rw [hsg] at this; simpa using this.symm
          have huz : u2 = (z : Int) := by
            have h1 := List.mem_of_getElem? hpk.out
            rw [hBB.out, ofD, List.mem_filter] at h1
            simpa using h1.2
          subst huz
          have hgd := fun (a b : Operand) (w : World) => guardD .neq a b #[.int .i64 (z : Int), .int .i64 v2] #[.int .i64 (z : Int), .int .i64 v2] w
          have heq := fun w => neqD (z : Int) v2 (z : Int) v2 true (by simp) w
          have hw1 : IntKind.i64.wrap ((x2 : Int) + (t : Int)) = ((x2 + t : Nat) : Int) := by rw [IntWalk.i64_in _ (by omega)]; omega
          have hw2 : x2 + t < K := by omega
          have hzz : ((z : Int) != (z : Int)) = false := by simp
          clear hsg hpk2
          go_wp2_with fail
          go_quiet (fail)
          clear hgd heq hw1
          go_wp2_with fail
          go_roundw
          case rel => exact ⟨t + 1, q + nq, by omega, by go_num, rfl⟩
          case measure => simp [intOf]; omega
        · obtain rfl : t = nB := by omega
          go_wp2_with fail
          go_roundw
          case rel => exact ⟨z + 1, by omega, by go_num, by rw [show ((z + 1 : Nat) : Int) = (z : Int) + 1 from rfl, ← hc1.out]; go_num, by rw [show ((z + 1 : Nat) : Int) = (z : Int) + 1 from rfl, ← hc2.out]; go_num, below_drewN hB6 q⟩
          case measure => simp [intOf]; omega
    · obtain rfl : z = 8 := by omega
      have e1 : cntD M ((8 : Nat) : Int) = N := (cntD_all (z := ((8 : Nat) : Int)) fun p hp => (HM7.out p hp).2).trans hN.out.symm
      have e2 : cntD S ((8 : Nat) : Int) = K := (cntD_all (z := ((8 : Nat) : Int)) fun p hp => (HS7.out p hp).2).trans hK.out.symm
      rw [e1, e2]
      have he1 : ((N : Int) == (N : Int)) = true := by simp
      have he2 : ((K : Int) == (K : Int)) = true := by simp
      have hno : ofD M 8 = [] := List.filter_eq_nil_iff.2 fun p hp => by
        have := (HM7.out p hp).2
        simp; omega
      have HNO := Lib.hid hno
      have HSM1 := Lib.hid (HMS.out.below hB)
      clear e1 e2 hno
      go_wp2_with fail
      refine (of_at am M [] N 0 cm (hidSymm hN) hcm 8 HNO rfl _ HSM1.out (by omega)).mono ?_; rintro e w3 ⟨aA, cA, rfl, hcA, hslA, hB3⟩
      go_wp2_with fail
      go_ret
      exact ⟨rfl, bNext HB2.out (bNext hB hB3)⟩
namespace LDotOf
open Go.ChangeShapes Go.WideShapes Go.ChangeAt
open Go.ChangeMaps (open_string shut_string)

set_option maxRecDepth 100000 in
theorem contract (H : Type) (enc : TypeId × Value → H) (W : World) (base : Nat) (args : Array Value) (ds gs : List (DataW H)) (before : List MemPlace)
    (hval : ∀ (j : Nat) t v, Try.f5.params[j]? = some t → args[j]? = some v → Value.okWide Try.prog W .any base t v)
    (hW : DataW.Whole enc Try.prog Try.f5.params.toList Rows.dotOfSpec.vars false W args.toList ds gs before)
    (_hsz : (DataW.weightsEach Try.prog (Try.f5.params.toList ++ (OpenSpec.ofChange Rows.dotOfSpec).bare.plain.varTypes Try.prog) (ds ++ gs)).all (fun x => decide (x ≤ reachBytes)) = true) :
    Calls Try.prog 5 args W fun e W' => ∃ v, e = .returned v ∧ Rows.dotOfSpec.post enc Try.prog Try.f5 false true false false W args v W' := by
  have hW' := hW
  obtain ⟨p, q, hA0, hV, rfl, hfz, hnd⟩ := hW
  have hA : DataW.TrodAll enc Try.prog W 0 (fun _ => true) true Try.f5.params.toList args.toList ds p := hA0
  rw [Try.params5] at hA hval
  obtain ⟨v0, vs0, d0, ds0, p0, q0, hargs, rfl, rfl, h0, r0⟩ := trodAll_cons hA
  obtain ⟨rfl, rfl, rfl⟩ := trodAll_nil r0
  obtain rfl : args = #[v0] := by cases args; simp_all
  obtain ⟨rfl, rfl⟩ := trodVars_none hV
  obtain ⟨ao0, len0, cap0, l0, rfl, hl0, hlc0, hcm0, hat0, hbd0⟩ := open_pairs Try.underlying27 Try.underlying23 (show Try.prog.cellsOf 23 = 2 by kernel_rfl) ⟨rfl, rfl⟩ ⟨rfl, rfl⟩ Try.underlying3 (show Try.prog.cellsOf 3 = 1 by kernel_rfl) h0 (okWide_slice Try.underlying27 (hval 0 27 v0 rfl rfl))
  clear hA0
  refine (dotOf_walk ao0 l0 len0 cap0 hl0 (by unfold maxLen at hcm0; omega) W hat0).mono fun e W' ⟨he, hb⟩ => ?_
  subst he
  exact ⟨_, rfl, law_post laidOut Try.underlying4 rfl (by kernel_rfl) rfl rfl rfl rfl hW' hb⟩

theorem reads (os : Os) {H : Type} (enc : TypeId × Value → H) : ∃ places, DataW.whole enc Try.prog ((World.holding Try.prog os ⟨#[], #[], []⟩).forCall (fun _ _ => 0) ⟨#[], #[.slice none 0 0], []⟩).memory Try.f5.params.toList Rows.dotOfSpec.vars false (#[.slice none 0 0] : Array Value).toList 8 = some ([.nil], [], places) :=
  ⟨[], by kernel_rfl⟩
theorem laid_met (os : Os) : laidMet Try.prog Rows.dotOfRow.laid ((World.holding Try.prog os ⟨#[], #[], []⟩).forCall (fun _ _ => 0) ⟨#[], #[.slice none 0 0], []⟩).memory :=
  laidMet_of_run' 8 (by kernel_rfl) (by kernel_rfl)

set_option maxRecDepth 100000 in
theorem lifted (os : Os) (started : os.Started) (H : Type) (enc : TypeId × Value → H) (F : Stop.Interp) :
    ReturnsInHanded {} Try.checked os 5 .any ((OpenSpec.ofChange Rows.dotOfSpec).preRow enc Try.prog Try.f5 Rows.dotOfRow.domain false Rows.dotOfRow.laid) (((OpenSpec.ofChange Rows.dotOfSpec).at F).post enc Try.prog Try.f5 false true false false) := by
  obtain ⟨places, hx⟩ := reads os enc
  refine returnsInHanded_of_row (C := Try.checked) (s := OpenSpec.ofChange Rows.dotOfSpec) own started (by kernel_rfl) Try.func5
    (witness_row_at (enc := enc) (C := Try.checked) false (World.holding Try.prog os ⟨#[], #[], []⟩) #[.slice none 0 0] rfl (by kernel_rfl) (by kernel_rfl) (by kernel_rfl)
      (OpenSpec.preRow_of_cond 8 hx (by kernel_rfl) (fun k hk => by cases hk) (by kernel_rfl) (laid_met os))) ?_
  intro W base args ds gs before hval hW _ _ hsz hL _ _
  exact contract H enc W base args ds gs before hval hW hsz

theorem said : Rows.DotOfSaid :=
  OpenClaim.holds_of_cond 5 Try.f5 rfl rfl rfl rfl rfl rfl rfl ⟨rfl, rfl, rfl, rfl, rfl⟩ rfl rfl rfl rfl rfl (by kernel_rfl) Try.func5 (by kernel_rfl)
    (of_decide_eq_true (by kernel_rfl)) (by unfold Func.isWrapper; first | (rw [if_pos (by decide +kernel)]; kernel_rfl) | (rw [if_neg (by decide +kernel)]; exact ⟨rfl, rfl⟩))
    (fun os started H enc _ F => by rw [OpenClaim.pre_eq_preRow]; exact lifted os started H enc F)
end LDotOf
end Go.Proofs.Ythhcooabfgegaaa
