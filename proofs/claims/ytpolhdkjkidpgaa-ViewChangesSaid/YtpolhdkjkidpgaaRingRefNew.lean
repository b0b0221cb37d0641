/- The document's ring of nodes. -/
import Derived.Test.YtpolhdkjkidpgaaRingRef
import Derived.Deep.CutBlock
import Derived.Deep.DeepCutAuto
import Derived.BigQuiet
import Derived.Deep.QuietTactic
import Derived.StillTailTactics
import Derived.IntWalk
import Derived.Outline
namespace Go.Proofs.Ytpolhdkjkidpgaa
open Go.RowKit Go.Shelf Go.Lib Go.Sort

theorem filter_low {l : List (Int × Int)} (ha : Asc l) {x : Int × Int} : l.filter (fun y => decide (ltP y x)) = l.take (lowD l x) := by
  induction l with
  | nil => rfl
  | cons a l ih =>
    have ha' := List.pairwise_cons.1 ha
    by_cases h : ltP a x
    · simp only [lowD, List.filter_cons, h, decide_true, if_true, List.length_cons, List.take_succ_cons]
      show a :: _ = a :: List.take (lowD l x) l
      rw [ih ha'.2]
    · have e : l.filter (fun y => decide (ltP y x)) = [] := List.filter_eq_nil_iff.2 fun y hy => by
        simpa using fun hl => h (ltP_trans (ha'.1 y hy) hl)
      simp only [lowD, List.filter_cons, h, decide_false, Bool.false_eq_true, if_false, e, List.length_nil, List.take_zero]
theorem filter_high {l : List (Int × Int)} (ha : Asc l) {x : Int × Int} : l.filter (fun y => !decide (ltP y x)) = l.drop (lowD l x) := by
  induction l with
  | nil => rfl
  | cons a l ih =>
    have ha' := List.pairwise_cons.1 ha
    by_cases h : ltP a x
    · simp only [lowD, List.filter_cons, h, decide_true, Bool.not_true, Bool.false_eq_true, if_false, if_true, List.length_cons, List.drop_succ_cons]
      show _ = List.drop (lowD l x) l
      rw [ih ha'.2]
    · have e : l.filter (fun y => decide (ltP y x)) = [] := List.filter_eq_nil_iff.2 fun y hy => by
        simpa using fun hl => h (ltP_trans (ha'.1 y hy) hl)
      have e2 : l.filter (fun y => !decide (ltP y x)) = l := List.filter_eq_self.2 fun y hy => by
        simpa using fun hl => h (ltP_trans (ha'.1 y hy) hl)
      simp only [lowD, List.filter_cons, h, decide_false, Bool.false_eq_true, if_false, e, e2, List.length_nil, List.drop_zero, Bool.not_false, if_true]
theorem asc_mono {ps : List (Int × Int)} (ha : Asc ps) {i j : Nat} (hij : i < j) (hj : j < ps.length) : ltP ps[i]! ps[j]! := by
  have := List.pairwise_iff_getElem.1 ha i j (by omega) hj hij
  rwa [getElem!_pos ps i (by omega), getElem!_pos ps j hj]

/-- The place at which the document's ring stops, and whether the spot is there. -/
theorem mem_at {S : List (Int × Int)} (ha : Asc S) {x : Int × Int} : x ∈ S ↔ lowD S x < S.length ∧ S[lowD S x]! = x := by
  have hcut := filter_low ha (x := x)
  have hcut2 := filter_high ha (x := x)
  constructor
  · intro h
    obtain ⟨i, hi, he⟩ := List.mem_iff_getElem.1 h
    have e1 : ∀ j, j < S.length → (j < lowD S x ↔ ltP S[j]! x) := by
      intro j hj
      rw [getElem!_pos S j hj]
      constructor
      · intro h1
        have : S[j] ∈ S.take (lowD S x) := List.mem_take_iff_getElem.2 ⟨j, by omega, rfl⟩
        rw [← hcut, List.mem_filter] at this
        simpa using this.2
      · intro h1
        rcases Nat.lt_or_ge j (lowD S x) with h2 | h2
        · exact h2
        · exfalso
          have : S[j] ∈ S.drop (lowD S x) := List.mem_drop_iff_getElem.2 ⟨j - lowD S x, by omega, by congr 1; omega⟩
          rw [← hcut2, List.mem_filter] at this
          have h3 := this.2
          simp [h1] at h3
    have hi2 : ¬ i < lowD S x := fun h1 => by
      have := (e1 i hi).1 h1
      rw [getElem!_pos S i hi, he] at this
      exact ltP_irrefl _ this
    have hq : lowD S x < S.length := by omega
    refine ⟨hq, ?_⟩
    rcases Nat.lt_or_ge (lowD S x) i with h1 | h1
    · exfalso
      have h2 := asc_mono ha h1 hi
      rw [getElem!_pos S i hi, he] at h2
      have := (e1 _ hq).2 h2
      omega
    · have : lowD S x = i := by omega
      rw [this, getElem!_pos S i hi, he]
  · rintro ⟨h1, h2⟩
    rw [← h2, getElem!_pos S _ h1]
    exact List.getElem_mem _


set_option maxRecDepth 100000 in
set_option maxHeartbeats 8000000 in
theorem refnew_any (ai : Option Addr) (ids : List Int) (n ci : Nat) (hn : Hid (ids.length = n)) (hm : n ≤ 1000) (L : List (Int × Int)) (K : Nat) (hL : Hid (ringL ids = L)) (hK : Hid (L.length = K)) (w : World) (hs : SlAt w ai (ids.map (Value.int .i64))) :
    Calls Try.prog 31 #[.slice ai n ci] w fun e w' => ∃ ao cap, e = .returned (.slice ao K cap) ∧ SlP w' ao L ∧ Below w.heap.size w w' := by
  have HS := Lib.hid hs
  clear hs
  go_enter Try.func31, Try.ntmps31
  go_wp2_with fail
  go_loopw [3, 4] (fun v i wr => ∃ k : Nat, k ≤ n ∧ i = .int .i64 (k : Int) ∧ OwnP wr w.heap.size 66 v (((ids.take k).flatMap spotsL).foldl insD []) ∧ Below w.heap.size w wr) (fun _ i _ => n - (intOf i).toNat)
  case atStart => exact ⟨0, by omega, rfl, OwnP.nil _ _ _, Below.refl _ _⟩
  case round =>
    obtain ⟨k, hk, rfl, hown, hB⟩ := hrel
    by_cases hlt : k < n
    · obtain ⟨b, off, rfl, hbl, c0⟩ := SlAt.int' HS.out k (by rw [hn.out]; exact hlt)
      obtain ⟨z, hz⟩ := nm (ids[k]'(by rw [hn.out]; exact hlt))
      rw [← hz.out] at c0
      have d0 : wr.cell? ⟨b, off + k, none⟩ = some (.int .i64 z) := (hB.cell (p := ⟨b, off + k, none⟩) hbl).trans c0
      have HN2 : Hid (((ids.take (k + 1)).flatMap spotsL).foldl insD [] = (spotsL z).foldl insD (((ids.take k).flatMap spotsL).foldl insD [])) := by
        show _ = _
        rw [List.take_succ_eq_append_getElem (by rw [hn.out]; exact hlt), List.flatMap_append, ← hz.out, List.foldl_append]
        simp
      obtain ⟨Q, hQ⟩ := nm (((ids.take k).flatMap spotsL).foldl insD [])
      have hQl : Q.length ≤ 4 * k := by
        rw [hQ.out]
        have h1 := foldl_insD_length ((ids.take k).flatMap spotsL) []
        rw [spotsL_length, List.length_take] at h1
        simp only [List.length_nil] at h1
        omega
      have hQa : Asc Q := by rw [hQ.out]; exact (foldl_insD _ _ List.Pairwise.nil).1
      rw [← hQ.out] at hown HN2
      have HQA := Lib.hid hQa
      have HOWN := Lib.hid hown
      clear c0 hQa hown
      go_wp2_with fail
      refine (refspots_any z _).mono ?_; rintro e w2 ⟨ao, cp, rfl, hno, hsl, hB2⟩
      have hown2 := HOWN.out.below hB2
      have HB3 := Lib.hid (bNext hB hB2)
      obtain ⟨Z, hZ⟩ := nm (spotsL z)
      rw [← hZ.out] at hsl HN2
      have hZl : Hid (Z.length = 4) := by show _ = _; rw [hZ.out]; rfl
      have HSL := Lib.hid hsl
      have hws := HB3.out.size
      clear d0 hB hB2 hsl hno HOWN
      go_wp2_with fail
      go_loopw [3, 6] (fun v j wx => ∃ t : Nat, t ≤ 4 ∧ j = .int .i64 (t : Int) ∧ OwnP wx w.heap.size 66 v ((Z.take t).foldl insD Q) ∧ Below w2.heap.size w2 wx) (fun _ j _ => 4 - (intOf j).toNat)
      case atStart => exact ⟨0, by omega, rfl, hown2, Below.refl _ _⟩
      case round =>
        clear hown2
        obtain ⟨t, ht, rfl, hown, hB⟩ := hrel
        by_cases hlt2 : t < 4
        · obtain ⟨bz, oz, u, x, rfl, hbz, c0, c1, hpt⟩ := HSL.out.get t (by rw [hZl.out]; exact hlt2)
          have d0 : wr.cell? ⟨bz, oz + t * 2, none⟩ = some (.int .i64 u) := (hB.cell (p := ⟨bz, oz + t * 2, none⟩) hbz).trans c0
          have d1 : wr.cell? ⟨bz, oz + t * 2 + 1, none⟩ = some (.int .i64 x) := (hB.cell (p := ⟨bz, oz + t * 2 + 1, none⟩) hbz).trans c1
          have HT : Hid ((Z.take (t + 1)).foldl insD Q = insD ((Z.take t).foldl insD Q) (u, x)) := by
            show _ = _
            rw [take_snocP hpt.out, List.foldl_append]; rfl
          obtain ⟨S, hS⟩ := nm ((Z.take t).foldl insD Q)
          have hSl : S.length ≤ 4 * k + 4 := by
            rw [hS.out]
            have h1 := foldl_insD_length (Z.take t) Q
            rw [List.length_take] at h1
            omega
          have hSa : Asc S := by rw [hS.out]; exact (foldl_insD _ _ HQA.out).1
          have HA := Lib.hid hSa
          rw [← hS.out] at hown HT
          clear hSa
          obtain ⟨a3, cap3, rfl, hc3, hcm3, hsl3, hab3⟩ := hown.sl
          have HSL3 := Lib.hid hsl3
          obtain ⟨N, hN⟩ := nm S.length
          have HOWN : Hid (OwnP wr w.heap.size 66 (.slice a3 N cap3) S) := by show OwnP _ _ _ _ _; rw [hN.out]; exact hown
          have hql := lowD_le S (u, x)
          obtain ⟨q, hq⟩ := nm (lowD S (u, x))
          have hmem := mem_at HA.out (x := (u, x))
          rw [← hq.out, ← hN.out] at hql hmem
          rw [← hN.out] at hSl hc3 ⊢
          have HM := Lib.hid hmem
          have hB0 := hB.size
          have HB := Lib.hid hB
          clear hown hsl3 hab3 hmem hB c0 c1
          go_upto_block 4 with fail
          go_cut [7] (fun s7 wx => s7 = .int .i64 (q : Int) ∧ ∃ nq, wx = wr.drewN nq)
          case first =>
            go_wp2_with fail
            go_loopw [7] (fun s7 wx => ∃ (r nq : Nat), r ≤ N ∧ s7 = .int .i64 (r : Int) ∧ wx = wr.drewN nq ∧ Hid (∀ j, r ≤ j → j < N → ¬ ltP S[j]! (u, x))) (fun s7 _ => (intOf s7).toNat)
            case atStart => exact ⟨N, 0, by omega, rfl, rfl, by show ∀ j, _; intro j h1 h2; omega⟩
            case round =>
              obtain ⟨r, nq, hr, rfl, rfl, hI⟩ := hrel
              have hfin : (∀ j, j < r → ltP S[j]! (u, x)) → r = q := by
                intro h
                rw [hq.out]
                exact lowD_of S (u, x) r (by rw [← hN.out]; exact hr) h fun i hi hl2 => hI.out i hi (by rw [hN.out]; exact hl2)
              have FIN := Lib.hid hfin
              clear hfin
              by_cases hr0 : r = 0
              · subst hr0
                have E := Lib.hid (FIN.out (fun j hj => absurd hj (Nat.not_lt_zero _)))
                go_wp2_with fail
                go_quiet (fail)
                go_wp2_with fail
                go_meet
                exact ⟨by rw [← E.out]; try rfl, _, by rw [World.drewN_drewN]⟩
              · obtain ⟨g, og, x1, x2, rfl, hgl, e0, e1, hpj⟩ := HSL3.out.get (r - 1) (by rw [← hN.out]; omega)
                have hw1 : IntKind.i64.wrap ((r : Int) - 1) = ((r - 1 : Nat) : Int) := by rw [IntWalk.i64_in _ (by omega)]; omega
                have hw2 : r - 1 < N := by omega
                have hrp : 0 < r := by omega
                have hrd : decide (0 < r) = true := decide_eq_true hrp
                obtain ⟨g1, g2⟩ := get_of hpj.out
                by_cases hcmp : ltP (x1, x2) (u, x)
                · have e := FIN.out (fun j hj => by
                    rcases Nat.lt_or_ge j (r - 1) with h2 | h2
                    · have := asc_mono HA.out h2 g1
                      rw [g2] at this
                      exact ltP_trans this hcmp
                    · obtain rfl : j = r - 1 := by omega
                      rw [g2]; exact hcmp)
                  have E := Lib.hid e
                  clear g1 g2 hI FIN e
                  rcases hcmp with h | ⟨h, h2⟩
                  · simp only at h
                    have t1 : decide (u < x1) = false := decide_eq_false (by omega)
                    have t2 : (x1 == u) = false := by simp; omega
                    go_wp2_with fail
                    go_quiet (fail)
                    go_wp2_with fail
                    go_meet
                    exact ⟨by rw [← E.out]; try rfl, _, by rw [World.drewN_drewN]⟩
                  · simp only at h h2
                    subst h
                    have t1 : decide (x1 < x1) = false := by simp
                    have t2 : (x1 == x1) = true := by simp
                    have t3 : decide (x ≤ x2) = false := decide_eq_false (by omega)
                    go_wp2_with fail
                    go_quiet (fail)
                    go_wp2_with fail
                    go_meet
                    exact ⟨by rw [← E.out]; try rfl, _, by rw [World.drewN_drewN]⟩
                · have HI : Hid (∀ j, r - 1 ≤ j → j < N → ¬ ltP S[j]! (u, x)) := by
                    show ∀ j, _
                    intro j h1 h2
                    rcases Nat.lt_or_ge j r with h3 | h3
                    · obtain rfl : j = r - 1 := by omega
                      rw [g2]; exact hcmp
                    · exact hI.out j h3 h2
                  clear g1 g2 hI FIN
                  have hc2 : u < x1 ∨ (x1 = u ∧ x ≤ x2) := by
                    unfold ltP at hcmp
                    simp only at hcmp
                    omega
                  clear hcmp
                  rcases hc2 with h | ⟨h, h2⟩
                  · have t1 : decide (u < x1) = true := decide_eq_true h
                    go_wp2_with fail
                    go_quiet (fail)
                    go_wp2_with fail
                    go_roundw
                    case rel => exact ⟨r - 1, _, by omega, by go_num, rfl, HI⟩
                    case measure => simp [intOf]; omega
                  · subst h
                    have t1 : decide (x1 < x1) = false := by simp
                    have t2 : (x1 == x1) = true := by simp
                    have t3 : decide (x ≤ x2) = true := decide_eq_true h2
                    go_wp2_with fail
                    go_quiet (fail)
                    go_wp2_with fail
                    go_roundw
                    case rel => exact ⟨r - 1, _, by omega, by go_num, rfl, HI⟩
                    case measure => simp [intOf]; omega
          obtain ⟨rfl, nq, rfl⟩ := hcut
          clear HSL3
          have HOW : Hid (OwnP (wr.drewN nq) w.heap.size 66 (.slice a3 N cap3) S) := HOWN.out
          have HSW : Hid (SlP (wr.drewN nq) a3 S) := by
            obtain ⟨_, _, h1, _, _, h2, _⟩ := HOWN.out.sl
            cases h1
            exact h2
          have HDD : Hid (∀ w9 : World, Below (wr.drewN nq).heap.size (wr.drewN nq) w9 → w9.cell? ⟨bz, oz + t * 2, none⟩ = some (.int .i64 u) ∧ w9.cell? ⟨bz, oz + t * 2 + 1, none⟩ = some (.int .i64 x)) := by
            have h1 : bz < (wr.drewN nq).heap.size := Nat.lt_of_lt_of_le hbz hB0
            exact fun w9 h => ⟨(h.cell (p := ⟨bz, oz + t * 2, none⟩) h1).trans d0, (h.cell (p := ⟨bz, oz + t * 2 + 1, none⟩) h1).trans d1⟩
          have HBY : Hid (Below w2.heap.size w2 (wr.drewN nq)) := below_drewN HB.out nq
          obtain ⟨wa, hwa⟩ := nm (wr.drewN nq)
          rw [← hwa.out] at HOW HSW HDD HBY
          rw [← hwa.out]
          obtain ⟨d0, d1⟩ := HDD.out wa (Below.refl _ _)
          by_cases hin : q < N ∧ S[q]! = (u, x)
          · have hmm := HM.out.2 hin
            have HINS : Hid (insD S (u, x) = S) := by show _ = _; unfold insD; rw [if_pos hmm]
            obtain ⟨hqN, hSq⟩ := hin
            obtain ⟨g, og, y1, y2, rfl, hgl, e0, e1, hpj⟩ := HSW.out.get q (by rw [← hN.out]; exact hqN)
            have hpq := (get_of hpj.out).2.symm.trans hSq
            obtain ⟨rfl, rfl⟩ : y1 = u ∧ y2 = x := by injection hpq with h1 h2; exact ⟨h1, h2⟩
            have heq := fun w => eqlD y1 y2 y1 y2 true (by simp) w
            have hgd := fun (a b : Operand) (w : World) => guardD .eql a b #[.int .i64 y1, .int .i64 y2] #[.int .i64 y1, .int .i64 y2] w
            have hqd : decide (q < N) = true := decide_eq_true hqN
            clear hmm hSq hpq HM d0 d1
            obtain ⟨d0, d1⟩ := HDD.out wa (Below.refl _ _)
            go_wp2_with fail
            go_quiet (fail)
            go_wp2_with fail
            have hown3 : OwnP (wa.drewN nq) w.heap.size 66 (.slice (some ⟨g, og, none⟩) N cap3) ((Z.take (t + 1)).foldl insD Q) := by rw [HT.out, HINS.out]; exact HOW.out
            go_roundw
            case rel => exact ⟨t + 1, by omega, by go_num, hown3, below_drewN HBY.out _⟩
            case measure => simp [intOf]; omega
          · have hnin : ¬ (u, x) ∈ S := fun h => hin (HM.out.1 h)
            have hins : insD S (u, x) = S.take q ++ (u, x) :: S.drop q := by
              unfold insD
              rw [if_neg hnin, filter_low HA.out, filter_high HA.out, ← hq.out]
            have HINS := Lib.hid hins
            have HIN := Lib.hid hin
            clear hins hnin HM hin
            go_upto_region 12 with fail
            go_cut [88] (fun c wx => c = .bool false ∧ ∃ nq, wx = wa.drewN nq)
            case first =>
              by_cases hqN : q < N
              · obtain ⟨g, og, y1, y2, rfl, hgl, e0, e1, hpj⟩ := HSW.out.get q (by rw [← hN.out]; exact hqN)
                have hqd : decide (q < N) = true := decide_eq_true hqN
                have hne : decide ((y1, y2) = (u, x)) = false := decide_eq_false fun e => HIN.out ⟨hqN, (get_of hpj.out).2.trans e⟩
                have heq := fun w => eqlD y1 y2 u x false hne w
                have hgd := fun (a b : Operand) (w : World) => guardD .eql a b #[.int .i64 y1, .int .i64 y2] #[.int .i64 u, .int .i64 x] w
                clear hne
                go_quiet (fail)
                go_wp2_with fail
                go_meet
                exact ⟨rfl, _, rfl⟩
              · have hqd : decide (q < N) = false := decide_eq_false hqN
                go_quiet (fail)
                go_wp2_with fail
                go_meet
                exact ⟨rfl, _, rfl⟩
            obtain ⟨rfl, nq, rfl⟩ := hcut
            have HOC : Hid (OwnP (wa.drewN nq) w.heap.size 66 (.slice a3 N cap3) S) := HOW.out
            have HSX : Hid (SlP (wa.drewN nq) a3 S) := HSW.out
            have HBC : Hid (Below w2.heap.size w2 (wa.drewN nq)) := below_drewN HBY.out nq
            have DF : Hid (∀ w9 : World, Below (wa.drewN nq).heap.size (wa.drewN nq) w9 → w9.cell? ⟨bz, oz + t * 2, none⟩ = some (.int .i64 u) ∧ w9.cell? ⟨bz, oz + t * 2 + 1, none⟩ = some (.int .i64 x)) :=
              fun w9 h => HDD.out w9 ⟨h.os, h.tape, h.output, h.size, h.block⟩
            obtain ⟨wc, hwc⟩ := nm (wa.drewN nq)
            rw [← hwc.out] at HOC HSX HBC DF
            rw [← hwc.out]
            have HNIL : OwnP wc wc.heap.size 66 (.slice none 0 0) [] := OwnP.nil _ _ _
            have hwy : w.heap.size ≤ wc.heap.size := Nat.le_trans hws HBC.out.size
            have HT1 : Hid ((S.take q).length = q) := by show _ = _; rw [List.length_take, ← hN.out]; omega
            have HT2 : Hid ((S.drop q).length = N - q) := by show _ = _; rw [List.length_drop, ← hN.out]
            clear HOW HSW HBY HDD d0 d1 hwc hwa
            obtain ⟨LT, hLT⟩ := nm (S.take q)
            obtain ⟨LD, hLD⟩ := nm (S.drop q)
            rw [← hLT.out, ← hLD.out] at HINS
            rw [← hLT.out] at HT1
            rw [← hLD.out] at HT2
            rcases HOC.out.2 with ⟨hv, hz0⟩ | ⟨g, cap', cur, hv, hgb, hgh, _⟩
            · cases hv
              obtain rfl : q = 0 := by omega
              have E1 := Lib.hid (List.length_eq_zero_iff.1 HT1.out : LT = [])
              have E2 := Lib.hid (List.length_eq_zero_iff.1 (by rw [HT2.out]) : LD = [])
              clear HSX
              go_wp2_with (at_builtin; refine app_pairs rfl (.tmp 89) (.tmp 92) rfl wc.heap.size _ [] rfl HNIL none 0 0 LT rfl HT1.out (fun _ => rfl) (by rw [E1.out]; exact SlP.nil _ _) (by simp; try omega) (Nat.le_refl _) ?_)
              intro v1 w3 hown1 hg1
              have hB1 := own_grown HNIL (Below.refl _ _) (Nat.le_refl _) hg1
              obtain ⟨d0, d1⟩ := DF.out _ hB1
              replace hown1 : OwnP w3 wc.heap.size 66 v1 LT := by simpa using hown1
              clear hg1
              go_wp2_with (at_builtin; refine app_pairs rfl (.tmp 94) (.tmp 99) rfl wc.heap.size _ LT rfl (hown1.alloc _) (some ⟨w3.heap.size, 0, none⟩) 1 1 [(u, x)] rfl rfl (fun h => by cases h) (SlP.ofBlk (Blk.new w3 _ _)) (by rw [HT1.out]; omega) (Nat.le_trans hB1.size (by simp)) ?_)
              intro v2 w4 hown2 hg2
              have hB2 := own_grown (hown1.alloc _) (bNew hB1 _) (Nat.le_refl _) hg2
              clear d0 d1 hown1 hg2 hB1
              go_wp2_with (at_builtin; refine app_pairs rfl (.tmp 101) (.tmp 104) rfl wc.heap.size _ (LT ++ [(u, x)]) rfl hown2 none 0 0 LD rfl (by rw [HT2.out]) (fun _ => rfl) (by rw [E2.out]; exact SlP.nil _ _) (by rw [List.length_append, HT1.out]; simp; try omega) hB2.size ?_)
              intro v3 w5 hown3 hg3
              have hB3 := own_grown hown2 hB2 (Nat.le_refl _) hg3
              have hfin : OwnP w5 w.heap.size 66 v3 ((Z.take (t + 1)).foldl insD Q) := by
                rw [HT.out, HINS.out]
                have := hown3.base hwy
                simpa using this
              have hB4 := bNext HBC.out hB3
              clear hown2 hown3 hg3 hB2 hB3
              go_wp2_with fail
              go_roundw
              case rel => exact ⟨t + 1, by omega, by go_num, hfin, hB4⟩
              case measure => simp [intOf]; omega
            · obtain ⟨rfl, rfl⟩ : a3 = some ⟨g, 0, none⟩ ∧ cap3 = cap' := by injection hv with e1 e2 e3; exact ⟨e1, e3⟩
              clear hv hgh
              have HST1 : SlP wc (some ⟨g, 0, none⟩) LT := by rw [hLT.out]; exact HSX.out.take q
              by_cases hqc : q < cap3
              · skip
                go_wp2_with (at_builtin; refine app_pairs rfl (.tmp 89) (.tmp 92) rfl wc.heap.size _ [] rfl HNIL (some ⟨g, 0, none⟩) q cap3 LT rfl HT1.out (fun h => by cases h) HST1 (by simp; try omega) (Nat.le_refl _) ?_)
                intro v1 w3 hown1 hg1
                have hB1 := own_grown HNIL (Below.refl _ _) (Nat.le_refl _) hg1
                obtain ⟨d0, d1⟩ := DF.out _ hB1
                replace hown1 : OwnP w3 wc.heap.size 66 v1 LT := by simpa using hown1
                clear hg1
                go_wp2_with (at_builtin; refine app_pairs rfl (.tmp 94) (.tmp 99) rfl wc.heap.size _ LT rfl (hown1.alloc _) (some ⟨w3.heap.size, 0, none⟩) 1 1 [(u, x)] rfl rfl (fun h => by cases h) (SlP.ofBlk (Blk.new w3 _ _)) (by rw [HT1.out]; omega) (Nat.le_trans hB1.size (by simp)) ?_)
                intro v2 w4 hown2 hg2
                have hB2 := own_grown (hown1.alloc _) (bNew hB1 _) (Nat.le_refl _) hg2
                have HSD : SlP w4 (some ⟨g, q * 2, none⟩) LD := by
                  rw [hLD.out]
                  have := (HSX.out.below hB2).drop q
                  rwa [Nat.zero_add] at this
                clear d0 d1 hown1 hg2 hB1
                go_wp2_with (at_builtin; refine app_pairs rfl (.tmp 101) (.tmp 104) rfl wc.heap.size _ (LT ++ [(u, x)]) rfl hown2 (some ⟨g, q * 2, none⟩) (N - q) (cap3 - q) LD rfl HT2.out (fun h => by cases h) HSD (by rw [List.length_append, HT1.out]; simp; try omega) hB2.size ?_)
                intro v3 w5 hown3 hg3
                have hB3 := own_grown hown2 hB2 (Nat.le_refl _) hg3
                have hfin : OwnP w5 w.heap.size 66 v3 ((Z.take (t + 1)).foldl insD Q) := by
                  rw [HT.out, HINS.out]
                  have := hown3.base hwy
                  simpa using this
                have hB4 := bNext HBC.out hB3
                clear hown2 hown3 hg3 hB2 hB3
                go_wp2_with fail
                go_roundw
                case rel => exact ⟨t + 1, by omega, by go_num, hfin, hB4⟩
                case measure => simp [intOf]; omega
              · obtain rfl : q = cap3 := by omega
                go_wp2_with (at_builtin; refine app_pairs rfl (.tmp 89) (.tmp 92) rfl wc.heap.size _ [] rfl HNIL (some ⟨g, 0, none⟩) q q LT rfl HT1.out (fun h => by cases h) HST1 (by simp; try omega) (Nat.le_refl _) ?_)
                intro v1 w3 hown1 hg1
                have hB1 := own_grown HNIL (Below.refl _ _) (Nat.le_refl _) hg1
                obtain ⟨d0, d1⟩ := DF.out _ hB1
                replace hown1 : OwnP w3 wc.heap.size 66 v1 LT := by simpa using hown1
                clear hg1
                go_wp2_with (at_builtin; refine app_pairs rfl (.tmp 94) (.tmp 99) rfl wc.heap.size _ LT rfl (hown1.alloc _) (some ⟨w3.heap.size, 0, none⟩) 1 1 [(u, x)] rfl rfl (fun h => by cases h) (SlP.ofBlk (Blk.new w3 _ _)) (by rw [HT1.out]; omega) (Nat.le_trans hB1.size (by simp)) ?_)
                intro v2 w4 hown2 hg2
                have hB2 := own_grown (hown1.alloc _) (bNew hB1 _) (Nat.le_refl _) hg2
                clear d0 d1 hown1 hg2 hB1
                go_wp2_with (at_builtin; refine app_pairs rfl (.tmp 101) (.tmp 104) rfl wc.heap.size _ (LT ++ [(u, x)]) rfl hown2 (some ⟨g, 0, none⟩) 0 0 LD rfl (by rw [HT2.out]; omega) (fun h => by cases h) (by rw [show LD = [] from List.length_eq_zero_iff.1 (by rw [HT2.out]; omega)]; exact SlP.nil _ _) (by rw [List.length_append, HT1.out]; simp; try omega) hB2.size ?_)
                intro v3 w5 hown3 hg3
                have hB3 := own_grown hown2 hB2 (Nat.le_refl _) hg3
                have hfin : OwnP w5 w.heap.size 66 v3 ((Z.take (t + 1)).foldl insD Q) := by
                  rw [HT.out, HINS.out]
                  have := hown3.base hwy
                  simpa using this
                have hB4 := bNext HBC.out hB3
                clear hown2 hown3 hg3 hB2 hB3
                go_wp2_with fail
                go_roundw
                case rel => exact ⟨t + 1, by omega, by go_num, hfin, hB4⟩
                case measure => simp [intOf]; omega
        · obtain rfl : t = 4 := by omega
          rw [List.take_of_length_le (by rw [hZl.out]; exact Nat.le_refl _), ← HN2.out] at hown
          have hB4 := bNext HB3.out hB
          clear hB
          go_wp2_with fail
          go_roundw
          case rel => exact ⟨k + 1, by omega, by go_num, hown, hB4⟩
          case measure => simp [intOf]; omega
    · obtain rfl : k = n := by omega
      rw [List.take_of_length_le (by rw [hn.out]; exact Nat.le_refl _)] at hown
      obtain ⟨Q, hQ⟩ := nm ((ids.flatMap spotsL).foldl insD [])
      have hQL : Q = L := by rw [hQ.out]; exact hL.out
      rw [← hQ.out] at hown
      subst hQL
      obtain ⟨a3, cap3, rfl, hc3, hcm3, hsl3, hab3⟩ := hown.sl
      rw [hK.out]
      go_wp2_with fail
      go_ret
      exact ⟨a3, cap3, rfl, hsl3, hB⟩
end Go.Proofs.Ytpolhdkjkidpgaa
