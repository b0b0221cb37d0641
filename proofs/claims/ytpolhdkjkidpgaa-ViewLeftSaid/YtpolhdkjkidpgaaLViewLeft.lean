/- ViewLeft: for any two rows of peers and any two numbers the law returns true. -/
import Derived.Test.YtpolhdkjkidpgaaViewAwake
import Derived.Test.YtpolhdkjkidpgaaViewSmall
import Derived.Test.YtpolhdkjkidpgaaViewFind
namespace Go.Proofs.Ytpolhdkjkidpgaa
open Go.RowKit Go.Shelf Go.Lib Go.Sort

/-- Find, where the answer is known. -/
theorem find_is {A : List P3} (hl : A.length ≤ 1000) {id x y z : Int} (hf : fnd A id = some (x, y, z)) {v : Value} {w : World} (hv : Vw w v A) :
    Calls Try.prog 19 #[v, .int .i64 id] w fun e w' => e = .returned (.tuple #[.agg #[.int .i64 x, .int .i64 y, .int .i64 z], .bool true]) ∧ Below w.heap.size w w' := by
  refine (find_any A hl id v w hv).mono ?_
  rintro e w' ⟨hB, ⟨h1, _⟩ | ⟨x', y', z', h1, h2⟩⟩
  · have := h1.out; rw [hf] at this; cases this
  · have := h1.out
    rw [hf] at this
    cases this
    exact ⟨h2, hB⟩
theorem okP_leav {p : P3} (h : okP p) : okP (leavP p) := by unfold okP leavP at *; simp only; omega
theorem Vsm.leav {A : List P3} (ha : Vsm A) (id : Int) : Vsm (chgL leavP id A) := ⟨chgL_sort leavP id leavP_fst ha.sort, chgL_all ha.all fun _ _ h => okP_leav h⟩
theorem vj_comm {A B : List P3} (ha : Vsm A) (hb : Vsm B) : vjoin A B = vjoin B A := by
  rw [ha.vjoin_is hb, hb.vjoin_is ha, joinL_comm ha.sort hb.sort]
/-- One who has left. -/
def LeftIn (L : List P3) (id : Int) : Prop := ∃ y, fnd L id = some (id, y, 2)
theorem left_leav {A : List P3} {id : Int} (h : (fnd A id).isSome = true) : LeftIn (chgL leavP id A) id := by
  obtain ⟨⟨x, y, z⟩, hp⟩ := Option.isSome_iff_exists.1 h
  obtain rfl : x = id := (fnd_some hp).2
  exact ⟨y, by rw [fnd_chgL leavP _ leavP_fst, if_pos rfl, hp]; rfl⟩
theorem some_with {A : List P3} (ha : Vsm A) {p : P3} (hp : okP p) : (fnd (vwith A p) p.1).isSome = true := by
  rw [vw_is (by have := ha.len; omega) (okP_may hp), fnd_putL ha.sort, if_pos rfl]; rfl
theorem left_join {A B : List P3} (ha : Vsm A) (hb : Vsm B) {id : Int} (h : LeftIn A id) : LeftIn (vjoin A B) id := by
  obtain ⟨y, hy⟩ := h
  unfold LeftIn
  rw [ha.vjoin_is hb, fnd_join ha.sort hb.sort, hy]
  cases hq : fnd B id with
  | none => exact ⟨y, rfl⟩
  | some q =>
    obtain ⟨q0, q1, q2⟩ := q
    obtain rfl : q0 = id := (fnd_some hq).2
    show ∃ y', some (laterP (q0, y, 2) (q0, q1, q2)) = _
    unfold laterP
    by_cases hlt : ageLt (q0, y, 2) (q0, q1, q2)
    · rw [if_pos hlt]
      have h2 : q2 = 2 := by
        unfold ageLt leftI at hlt
        simp only at hlt
        by_cases h : q2 = 2
        · exact h
        · rw [if_neg h] at hlt; simp at hlt
      exact ⟨q1, by rw [h2]⟩
    · rw [if_neg hlt]; exact ⟨y, rfl⟩
theorem left_chg {A : List P3} {id : Int} (f : P3 → P3) (hf : ∀ p, (f p).1 = p.1) (h2 : ∀ x y, f (x, y, 2) = (x, y, 2)) (h : LeftIn A id) : LeftIn (chgL f id A) id := by
  obtain ⟨y, hy⟩ := h
  exact ⟨y, by rw [fnd_chgL f id hf, if_pos rfl, hy]; exact congrArg some (h2 id y)⟩
theorem left_mem {A : List P3} (ha : SortT A) {id : Int} (h : LeftIn A id) : ∀ z ∈ memL A, z ≠ id := by
  obtain ⟨y, hy⟩ := h
  intro z hz e
  unfold memL idsL at hz
  obtain ⟨p, hp, rfl⟩ := List.mem_map.1 hz
  obtain ⟨hm, hq⟩ := List.mem_filter.1 hp
  have h1 := fnd_mem ha hm
  rw [e, hy] at h1
  obtain rfl := Option.some.inj h1
  simp at hq
/-- A view's value, and who has left it. -/
def LVw (id : Int) (w : World) (v : Value) : Prop := ∃ L y, Vw w v L ∧ Vok L ∧ fnd L id = some (id, y, 2)
theorem LVw.below {id : Int} {w w' : World} {v : Value} (h : LVw id w v) (hb : Below w.heap.size w w') : LVw id w' v := by
  obtain ⟨L, y, h1, h2, h3⟩ := h
  exact ⟨L, y, h1.below hb, h2, h3⟩
theorem LVw.mk {id : Int} {w : World} {v : Value} {L : List P3} (h1 : Vw w v L) (h2 : Vok L) (h3 : LeftIn L id) : LVw id w v := by
  obtain ⟨y, hy⟩ := h3
  exact ⟨L, y, h1, h2, hy⟩

set_option maxRecDepth 100000 in
set_option maxHeartbeats 8000000 in
theorem viewLeft_walk (a0 a1 : Option Addr) (A B : List P3) (n0 n1 c0 c1 : Nat) (h0 : A.length = n0) (h1 : B.length = n1) (q0 q1 : Int) (w : World) (s0 : SlT w a0 A) (s1 : SlT w a1 B) :
    Calls Try.prog 6 #[.slice a0 n0 c0, .slice a1 n1 c1, .agg #[.int .i64 q0, .int .i64 q1]] w fun e w' => e = .returned (.bool true) ∧ Below w.heap.size w w' := by
  obtain ⟨M, hM⟩ := nm (madeL (A.take 12))
  obtain ⟨M2, hM2⟩ := nm (madeL (B.take 12))
  have m0 : Hid (Vsm M) := by show Vsm M; rw [hM.out]; exact madeL_sm _
  have m2 : Hid (Vsm M2) := by show Vsm M2; rw [hM2.out]; exact madeL_sm _
  obtain ⟨i, hi⟩ := nm (bits .and .i64 q0 7)
  obtain ⟨i0, i7⟩ : 0 ≤ i ∧ i < 8 := by rw [hi.out, and7_is]; omega
  have ei : bits .and .i64 q0 7 = i := hi.out.symm
  have wi : IntKind.i64.wrap (1 + i) = 1 + i := by rw [IntKind.wrap_i64]; omega
  obtain ⟨u, hu⟩ := nm (bits .and .i64 q1 1073741823)
  have eu : bits .and .i64 q1 1073741823 = u := hu.out.symm
  have okp : Hid (okP (1 + i, 0, 0)) := by show okP _; unfold okP; simp only; omega
  have oku : Hid (okP (1 + i, u, 0)) := by
    show okP _
    have : 0 ≤ u ∧ u < 1073741824 := by rw [hu.out, and30_is]; omega
    unfold okP; simp only; omega
  obtain ⟨X0, hX0⟩ := nm (vwith M (1 + i, 0, 0))
  have x0 : Hid (Vsm X0) := by show Vsm X0; rw [hX0.out]; exact m0.out.vwith okp.out
  obtain ⟨X, hX⟩ := nm (chgL leavP (1 + i) X0)
  have x : Hid (Vsm X) := by show Vsm X; rw [hX.out]; exact x0.out.leav _
  have lx : Hid (LeftIn X (1 + i)) := by show LeftIn _ _; rw [hX.out]; refine left_leav ?_; rw [hX0.out]; exact some_with m0.out okp.out
  obtain ⟨Y, hY⟩ := nm (vwith M2 (1 + i, u, 0))
  have y : Hid (Vsm Y) := by show Vsm Y; rw [hY.out]; exact m2.out.vwith oku.out
  obtain ⟨J, hJ⟩ := nm (vjoin X Y)
  have j : Hid (Vsm J) := by show Vsm J; rw [hJ.out]; exact x.out.vjoin y.out
  have lj : Hid (LeftIn J (1 + i)) := by show LeftIn _ _; rw [hJ.out]; exact left_join x.out y.out lx.out
  have hJ2 : Hid (vjoin Y X = J) := by show _ = _; rw [hJ.out]; exact vj_comm y.out x.out
  obtain ⟨P, hP⟩ := nm (chgL suspP (1 + i) J)
  have np : Hid (Vok P) := by show Vok P; rw [hP.out]; exact j.out.ok.chg suspP_fst (fun _ => suspP_may) _
  have lp : Hid (LeftIn P (1 + i)) := by show LeftIn _ _; rw [hP.out]; exact left_chg suspP suspP_fst (fun _ _ => rfl) lj.out
  obtain ⟨R, hR⟩ := nm (chgL refuP (1 + i) P)
  have nr : Hid (Vok R) := by show Vok R; rw [hR.out]; exact np.out.chg refuP_fst (fun _ => refuP_may) _
  have lr : Hid (LeftIn R (1 + i)) := by show LeftIn _ _; rw [hR.out]; exact left_chg refuP refuP_fst (fun _ _ => rfl) lp.out
  obtain ⟨bq, hbq⟩ := nm w.heap.size
  obtain ⟨wb, hwb⟩ := nm (w.alloc (.cells #[.int .i64 q0, .int .i64 q1] 36))
  have HK : Hid (Blk wb bq #[.int .i64 q0, .int .i64 q1] 36) := by show Blk _ _ _ _; rw [hwb.out, hbq.out]; exact Blk.new _ _ _
  have HB0 : Hid (Below w.heap.size w wb) := by rw [hwb.out]; exact bOld _
  have S0 := Lib.hid (s0.below HB0.out)
  have S1 := Lib.hid (s1.below HB0.out)
  clear s0 s1
  go_enter Try.func6, Try.ntmps6
  go_upto_region 1 with fail
  rw [← hwb.out, ← hbq.out]
  go_wp2_with fail
  refine (awake_any _).mono ?_; rintro e w1 ⟨rfl, hB⟩
  replace HK := Lib.hid (Blk.below HK.out hB HK.out.lt)
  replace S0 := Lib.hid (S0.out.below hB)
  replace S1 := Lib.hid (S1.out.below hB)
  have HB := Lib.hid (bNext HB0.out hB)
  clear hB
  have d0 : w1.cell? ⟨bq, 0, none⟩ = some (.int .i64 q0) := HK.out.cell 0
  go_wp2_with fail
  refine (made_any A n0 c0 h0 a0 _ S0.out).mono ?_; rintro e w2 ⟨vm, rfl, hv, hB⟩
  replace HK := Lib.hid (Blk.below HK.out hB HK.out.lt)
  replace S0 := Lib.hid (S0.out.below hB)
  replace S1 := Lib.hid (S1.out.below hB)
  replace HB := Lib.hid (bNext HB.out hB)
  have HM := Lib.hid (hv.eq (hM.out.symm))
  clear hB hv
  clear S0
  clear d0
  go_wp2_with fail
  refine (with_any M m0.out.ok (1 + i) 0 0 vm _ HM.out).mono ?_; rintro e w3 ⟨vx0, rfl, hv, hB⟩
  replace HK := Lib.hid (Blk.below HK.out hB HK.out.lt)
  replace S1 := Lib.hid (S1.out.below hB)
  replace HM := Lib.hid (HM.out.below hB)
  replace HB := Lib.hid (bNext HB.out hB)
  have HX0 := Lib.hid (hv.eq (hX0.out.symm))
  clear hB hv
  clear HM
  go_wp2_with fail
  refine (leave_any X0 x0.out.ok (1 + i) vx0 _ HX0.out).mono ?_; rintro e w4 ⟨vx, rfl, hv, hB⟩
  replace HK := Lib.hid (Blk.below HK.out hB HK.out.lt)
  replace S1 := Lib.hid (S1.out.below hB)
  replace HX0 := Lib.hid (HX0.out.below hB)
  replace HB := Lib.hid (bNext HB.out hB)
  have HX := Lib.hid (hv.eq (hX.out.symm))
  clear hB hv
  clear HX0
  have d1 : w4.cell? ⟨bq, 1, none⟩ = some (.int .i64 q1) := HK.out.cell 1
  have hlq : bq < w4.heap.size := HK.out.lt
  have HKEEP : Hid (∀ wa : World, Below w4.drew.heap.size w4.drew wa → wa.cell? ⟨bq, 1, none⟩ = some (.int .i64 q1)) := by show ∀ wa : World, _; intro wa hBa; exact (hBa.cell (p := ⟨bq, 1, none⟩) hlq).trans d1
  have hmade := Lib.hid (made_any B n1 c1 h1 a1 w4.drew S1.out)
  go_wp2_with fail
  go_region_held3 (fun w' => w'.cell? ⟨bq, 1, none⟩ = some (.int .i64 q1))
    (first
      | exact HKEEP.out _ (bNext hB5 hB6)
      | exact HKEEP.out _ hB5
      | exact cell_dr d1
      | exact d1)
    (first
      | (go_at_call 10; refine hmade.out.mono ?_; rintro e wm ⟨v5, rfl, hv5, hB5⟩; rw [← hM2.out] at hv5)
      | (go_at_call 15; refine (with_any M2 m2.out.ok (1 + i) u 0 v5 _ hv5).mono ?_; rintro e wy ⟨vy, rfl, hvy, hB6⟩; rw [← hY.out] at hvy))
  have hBy : Below w4.heap.size w4 wy := bNext (bNext (bDrew (Below.refl _ _)) hB5) hB6
  replace HX := Lib.hid (HX.out.below hBy)
  replace HB := Lib.hid (bNext HB.out hBy)
  have HY := Lib.hid hvy
  clear hv5 hB5 hvy hB6 hBy HKEEP d1 hmade hlq S1 HK
  go_wp2_with fail
  refine (join_ok x.out.ok y.out.ok HX.out HY.out).mono ?_; rintro e w5 ⟨v0, rfl, hv, hB⟩
  replace HX := Lib.hid (HX.out.below hB)
  replace HY := Lib.hid (HY.out.below hB)
  replace HB := Lib.hid (bNext HB.out hB)
  have H0 := Lib.hid (hv.eq (hJ.out.symm))
  clear hB hv
  go_wp2_with fail
  refine (join_ok y.out.ok x.out.ok HY.out HX.out).mono ?_; rintro e w6 ⟨v1, rfl, hv, hB⟩
  replace HX := Lib.hid (HX.out.below hB)
  replace HY := Lib.hid (HY.out.below hB)
  replace H0 := Lib.hid (H0.out.below hB)
  replace HB := Lib.hid (bNext HB.out hB)
  have H1 := Lib.hid (hv.eq (hJ2.out))
  clear hB hv
  go_wp2_with fail
  refine (join_ok x.out.ok y.out.ok HX.out HY.out).mono ?_; rintro e w7 ⟨v3, rfl, hv, hB⟩
  replace HX := Lib.hid (HX.out.below hB)
  replace HY := Lib.hid (HY.out.below hB)
  replace H0 := Lib.hid (H0.out.below hB)
  replace H1 := Lib.hid (H1.out.below hB)
  replace HB := Lib.hid (bNext HB.out hB)
  have H3 := Lib.hid (hv.eq (hJ.out.symm))
  clear hB hv
  go_wp2_with fail
  refine (suspect_any J j.out.ok (1 + i) v3 _ H3.out).mono ?_; rintro e w8 ⟨vp, rfl, hv, hB⟩
  replace HX := Lib.hid (HX.out.below hB)
  replace HY := Lib.hid (HY.out.below hB)
  replace H0 := Lib.hid (H0.out.below hB)
  replace H1 := Lib.hid (H1.out.below hB)
  replace H3 := Lib.hid (H3.out.below hB)
  replace HB := Lib.hid (bNext HB.out hB)
  have HP := Lib.hid (hv.eq (hP.out.symm))
  clear hB hv
  clear H3
  go_wp2_with fail
  refine (refute_any P np.out (1 + i) vp _ HP.out).mono ?_; rintro e w9 ⟨v2, rfl, hv, hB⟩
  replace HX := Lib.hid (HX.out.below hB)
  replace HY := Lib.hid (HY.out.below hB)
  replace H0 := Lib.hid (H0.out.below hB)
  replace H1 := Lib.hid (H1.out.below hB)
  replace HP := Lib.hid (HP.out.below hB)
  replace HB := Lib.hid (bNext HB.out hB)
  have H2 := Lib.hid (hv.eq (hR.out.symm))
  clear hB hv
  clear HP
  obtain ⟨p0, k0, rfl, _, _, _⟩ := H0.out
  obtain ⟨p1, k1, rfl, _, _, _⟩ := H1.out
  obtain ⟨p2, k2, rfl, _, _, _⟩ := H2.out
  go_upto_region 6 with fail
  obtain ⟨bl, hbl⟩ := nm w9.heap.size
  obtain ⟨wl, hwl⟩ := nm (w9.alloc (.cells #[(.slice p0 J.length k0), (.slice p1 J.length k1), (.slice p2 R.length k2)] 37))
  have HL : Hid (Blk wl bl #[(.slice p0 J.length k0), (.slice p1 J.length k1), (.slice p2 R.length k2)] 37) := by show Blk _ _ _ _; rw [hwl.out, hbl.out]; exact Blk.new _ _ _
  have hBl : Below w9.heap.size w9 wl := by rw [hwl.out]; exact bOld _
  have LH0 : Hid (LVw (1 + i) wl (.slice p0 J.length k0)) := LVw.mk (H0.out.below hBl) j.out.ok lj.out
  have LH1 : Hid (LVw (1 + i) wl (.slice p1 J.length k1)) := LVw.mk (H1.out.below hBl) j.out.ok lj.out
  have LH2 : Hid (LVw (1 + i) wl (.slice p2 R.length k2)) := LVw.mk (H2.out.below hBl) nr.out lr.out
  replace HB := Lib.hid (bNext HB.out hBl)
  rw [← hwl.out, ← hbl.out]
  clear hBl H0 H1 H2 HX HY
  clear ei eu wi
  go_wp2_with fail
  go_loopw [12] (fun k wr => (k = .int .i64 0 ∨ k = .int .i64 1 ∨ k = .int .i64 2 ∨ k = .int .i64 3) ∧ Below wl.heap.size wl wr) (fun k _ => 3 - (intOf k).toNat)
  case atStart => exact ⟨.inl rfl, Below.refl _ _⟩
  case round =>
    obtain ⟨hk, hB⟩ := hrel
    have HK := Lib.hid (Blk.below HL.out hB HL.out.lt)
    rcases hk with rfl | rfl | rfl | rfl
    · obtain ⟨L, z, hv, ok, hf⟩ := LH0.out.below hB
      have dv : wr.cell? ⟨bl, 0, none⟩ = some (.slice p0 J.length k0) := HK.out.cell 0
      have ok := Lib.hid ok
      have hf := Lib.hid hf
      have HV := Lib.hid hv
      have HB2 := Lib.hid hB
      clear hv hB
      go_wp2_with fail
      refine (find_is (by have := ok.out.len; omega) hf.out HV.out).mono ?_; rintro e wf ⟨rfl, hBf⟩
      obtain ⟨wg, hwg⟩ := nm (wf.alloc (.cells #[.int .i64 (1 + i), .int .i64 z, .int .i64 2] 32))
      have hBg : Below wf.heap.size wf wg := by rw [hwg.out]; exact bOld _
      have hbg : Blk wg wf.heap.size #[.int .i64 (1 + i), .int .i64 z, .int .i64 2] 32 := by rw [hwg.out]; exact Blk.new _ _ _
      have g2 : wg.cell? ⟨wf.heap.size, 2, none⟩ = some (.int .i64 2) := hbg.cell 2
      replace HK := Lib.hid (Blk.below (Blk.below HK.out hBf HK.out.lt) hBg (Nat.lt_of_lt_of_le HK.out.lt hBf.size))
      have dw : wg.cell? ⟨bl, 0, none⟩ = some (.slice p0 J.length k0) := HK.out.cell 0
      replace HV := Lib.hid ((HV.out.below hBf).below hBg)
      replace HB2 := Lib.hid (bNext (bNext HB2.out hBf) hBg)
      clear hBf hBg hbg dv
      go_upto_region 10 with fail
      rw [← hwg.out]
      go_wp2_with fail
      refine (members_any L (by have := ok.out.len; omega) (.slice p0 J.length k0) wg HV.out).mono ?_; rintro e wm ⟨vz, rfl, hvz, hBm⟩
      obtain ⟨az, cz, rfl, hcz, _, hz⟩ := hvz
      have HZ := Lib.hid hz
      have hne := Lib.hid (left_mem ok.out.sort ⟨z, hf.out⟩)
      obtain ⟨Z, hZ⟩ := nm (memL L)
      rw [← hZ.out] at HZ hne hcz ⊢
      obtain ⟨nz, hnz⟩ := nm Z.length
      have hz64 : nz ≤ 64 := by rw [hnz.out, hZ.out]; exact Nat.le_trans (idsL_length _ _) ok.out.len
      rw [← hnz.out] at hcz ⊢
      have HB3 := Lib.hid (bNext HB2.out hBm)
      clear hBm hz g2 dw
      go_wp2_with fail
      go_loopw [16] (fun t wx => ∃ s : Nat, s ≤ nz ∧ t = .int .i64 (s : Int) ∧ wx = wm) (fun t _ => nz - (intOf t).toNat)
      case atStart => exact ⟨0, by omega, rfl, rfl⟩
      case round =>
        obtain ⟨s, hs, rfl, rfl⟩ := hrel
        by_cases hlt : s < nz
        · obtain ⟨b, off, rfl, hbl, dz⟩ := SlAt.intV HZ.out s (by rw [← hnz.out]; exact hlt)
          obtain ⟨zz, hzz⟩ := nm (Z[s]'(by rw [← hnz.out]; exact hlt))
          have hzne : zz ≠ 1 + i := by rw [hzz.out]; exact hne.out _ (List.getElem_mem _)
          have hzb : (zz == 1 + i) = false := by simpa using hzne
          rw [← hzz.out] at dz
          go_wp2_with fail
          go_roundw
          case rel => exact ⟨s + 1, by omega, by go_num, trivial⟩
          case measure => simp [intOf]; omega
        · obtain rfl : s = nz := by omega
          go_wp2_with fail
          go_roundw
          case rel => exact ⟨by simp, HB3.out⟩
          case measure => simp [intOf]
    · obtain ⟨L, z, hv, ok, hf⟩ := LH1.out.below hB
      have dv : wr.cell? ⟨bl, 1, none⟩ = some (.slice p1 J.length k1) := HK.out.cell 1
      have ok := Lib.hid ok
      have hf := Lib.hid hf
      have HV := Lib.hid hv
      have HB2 := Lib.hid hB
      clear hv hB
      go_wp2_with fail
      refine (find_is (by have := ok.out.len; omega) hf.out HV.out).mono ?_; rintro e wf ⟨rfl, hBf⟩
      obtain ⟨wg, hwg⟩ := nm (wf.alloc (.cells #[.int .i64 (1 + i), .int .i64 z, .int .i64 2] 32))
      have hBg : Below wf.heap.size wf wg := by rw [hwg.out]; exact bOld _
      have hbg : Blk wg wf.heap.size #[.int .i64 (1 + i), .int .i64 z, .int .i64 2] 32 := by rw [hwg.out]; exact Blk.new _ _ _
      have g2 : wg.cell? ⟨wf.heap.size, 2, none⟩ = some (.int .i64 2) := hbg.cell 2
      replace HK := Lib.hid (Blk.below (Blk.below HK.out hBf HK.out.lt) hBg (Nat.lt_of_lt_of_le HK.out.lt hBf.size))
      have dw : wg.cell? ⟨bl, 1, none⟩ = some (.slice p1 J.length k1) := HK.out.cell 1
      replace HV := Lib.hid ((HV.out.below hBf).below hBg)
      replace HB2 := Lib.hid (bNext (bNext HB2.out hBf) hBg)
      clear hBf hBg hbg dv
      go_upto_region 10 with fail
      rw [← hwg.out]
      go_wp2_with fail
      refine (members_any L (by have := ok.out.len; omega) (.slice p1 J.length k1) wg HV.out).mono ?_; rintro e wm ⟨vz, rfl, hvz, hBm⟩
      obtain ⟨az, cz, rfl, hcz, _, hz⟩ := hvz
      have HZ := Lib.hid hz
      have hne := Lib.hid (left_mem ok.out.sort ⟨z, hf.out⟩)
      obtain ⟨Z, hZ⟩ := nm (memL L)
      rw [← hZ.out] at HZ hne hcz ⊢
      obtain ⟨nz, hnz⟩ := nm Z.length
      have hz64 : nz ≤ 64 := by rw [hnz.out, hZ.out]; exact Nat.le_trans (idsL_length _ _) ok.out.len
      rw [← hnz.out] at hcz ⊢
      have HB3 := Lib.hid (bNext HB2.out hBm)
      clear hBm hz g2 dw
      go_wp2_with fail
      go_loopw [16] (fun t wx => ∃ s : Nat, s ≤ nz ∧ t = .int .i64 (s : Int) ∧ wx = wm) (fun t _ => nz - (intOf t).toNat)
      case atStart => exact ⟨0, by omega, rfl, rfl⟩
      case round =>
        obtain ⟨s, hs, rfl, rfl⟩ := hrel
        by_cases hlt : s < nz
        · obtain ⟨b, off, rfl, hbl, dz⟩ := SlAt.intV HZ.out s (by rw [← hnz.out]; exact hlt)
          obtain ⟨zz, hzz⟩ := nm (Z[s]'(by rw [← hnz.out]; exact hlt))
          have hzne : zz ≠ 1 + i := by rw [hzz.out]; exact hne.out _ (List.getElem_mem _)
          have hzb : (zz == 1 + i) = false := by simpa using hzne
          rw [← hzz.out] at dz
          go_wp2_with fail
          go_roundw
          case rel => exact ⟨s + 1, by omega, by go_num, trivial⟩
          case measure => simp [intOf]; omega
        · obtain rfl : s = nz := by omega
          go_wp2_with fail
          go_roundw
          case rel => exact ⟨by simp, HB3.out⟩
          case measure => simp [intOf]
    · obtain ⟨L, z, hv, ok, hf⟩ := LH2.out.below hB
      have dv : wr.cell? ⟨bl, 2, none⟩ = some (.slice p2 R.length k2) := HK.out.cell 2
      have ok := Lib.hid ok
      have hf := Lib.hid hf
      have HV := Lib.hid hv
      have HB2 := Lib.hid hB
      clear hv hB
      go_wp2_with fail
      refine (find_is (by have := ok.out.len; omega) hf.out HV.out).mono ?_; rintro e wf ⟨rfl, hBf⟩
      obtain ⟨wg, hwg⟩ := nm (wf.alloc (.cells #[.int .i64 (1 + i), .int .i64 z, .int .i64 2] 32))
      have hBg : Below wf.heap.size wf wg := by rw [hwg.out]; exact bOld _
      have hbg : Blk wg wf.heap.size #[.int .i64 (1 + i), .int .i64 z, .int .i64 2] 32 := by rw [hwg.out]; exact Blk.new _ _ _
      have g2 : wg.cell? ⟨wf.heap.size, 2, none⟩ = some (.int .i64 2) := hbg.cell 2
      replace HK := Lib.hid (Blk.below (Blk.below HK.out hBf HK.out.lt) hBg (Nat.lt_of_lt_of_le HK.out.lt hBf.size))
      have dw : wg.cell? ⟨bl, 2, none⟩ = some (.slice p2 R.length k2) := HK.out.cell 2
      replace HV := Lib.hid ((HV.out.below hBf).below hBg)
      replace HB2 := Lib.hid (bNext (bNext HB2.out hBf) hBg)
      clear hBf hBg hbg dv
      go_upto_region 10 with fail
      rw [← hwg.out]
      go_wp2_with fail
      refine (members_any L (by have := ok.out.len; omega) (.slice p2 R.length k2) wg HV.out).mono ?_; rintro e wm ⟨vz, rfl, hvz, hBm⟩
      obtain ⟨az, cz, rfl, hcz, _, hz⟩ := hvz
      have HZ := Lib.hid hz
      have hne := Lib.hid (left_mem ok.out.sort ⟨z, hf.out⟩)
      obtain ⟨Z, hZ⟩ := nm (memL L)
      rw [← hZ.out] at HZ hne hcz ⊢
      obtain ⟨nz, hnz⟩ := nm Z.length
      have hz64 : nz ≤ 64 := by rw [hnz.out, hZ.out]; exact Nat.le_trans (idsL_length _ _) ok.out.len
      rw [← hnz.out] at hcz ⊢
      have HB3 := Lib.hid (bNext HB2.out hBm)
      clear hBm hz g2 dw
      go_wp2_with fail
      go_loopw [16] (fun t wx => ∃ s : Nat, s ≤ nz ∧ t = .int .i64 (s : Int) ∧ wx = wm) (fun t _ => nz - (intOf t).toNat)
      case atStart => exact ⟨0, by omega, rfl, rfl⟩
      case round =>
        obtain ⟨s, hs, rfl, rfl⟩ := hrel
        by_cases hlt : s < nz
        · obtain ⟨b, off, rfl, hbl, dz⟩ := SlAt.intV HZ.out s (by rw [← hnz.out]; exact hlt)
          obtain ⟨zz, hzz⟩ := nm (Z[s]'(by rw [← hnz.out]; exact hlt))
          have hzne : zz ≠ 1 + i := by rw [hzz.out]; exact hne.out _ (List.getElem_mem _)
          have hzb : (zz == 1 + i) = false := by simpa using hzne
          rw [← hzz.out] at dz
          go_wp2_with fail
          go_roundw
          case rel => exact ⟨s + 1, by omega, by go_num, trivial⟩
          case measure => simp [intOf]; omega
        · obtain rfl : s = nz := by omega
          go_wp2_with fail
          go_roundw
          case rel => exact ⟨by simp, HB3.out⟩
          case measure => simp [intOf]
    · have HB2 := Lib.hid hB
      clear hB
      go_wp2_with fail
      go_ret
      exact ⟨rfl, bNext HB.out HB2.out⟩

namespace LViewLeft
open Go.ChangeShapes Go.WideShapes Go.ChangeAt
open Go.ChangeMaps (open_string shut_string)

set_option maxRecDepth 100000 in
theorem contract (H : Type) (enc : TypeId × Value → H) (W : World) (base : Nat) (args : Array Value) (ds gs : List (DataW H)) (before : List MemPlace)
    (hval : ∀ (j : Nat) t v, Try.f6.params[j]? = some t → args[j]? = some v → Value.okWide Try.prog W .any base t v)
    (hW : DataW.Whole enc Try.prog Try.f6.params.toList Rows.viewLeftSpec.vars false W args.toList ds gs before)
    (_hsz : (DataW.weightsEach Try.prog (Try.f6.params.toList ++ (OpenSpec.ofChange Rows.viewLeftSpec).bare.plain.varTypes Try.prog) (ds ++ gs)).all (fun x => decide (x ≤ reachBytes)) = true) :
    Calls Try.prog 6 args W fun e W' => ∃ v, e = .returned v ∧ Rows.viewLeftSpec.post enc Try.prog Try.f6 false true false false W args v W' := by
  have hW' := hW
  obtain ⟨p, q, hA0, hV, rfl, hfz, hnd⟩ := hW
  have hA : DataW.TrodAll enc Try.prog W 0 (fun _ => true) true Try.f6.params.toList args.toList ds p := hA0
  rw [Try.params6] at hA hval
  obtain ⟨v0, vs0, d0, ds0, p0, q0, hargs, rfl, rfl, h0, r0⟩ := trodAll_cons hA
  obtain ⟨v1, vs1, d1, ds1, p1, q1, rfl, rfl, rfl, h1, r1⟩ := trodAll_cons r0
  obtain ⟨v2, vs2, d2, ds2, p2, q2, rfl, rfl, rfl, h2, r2⟩ := trodAll_cons r1
  obtain ⟨rfl, rfl, rfl⟩ := trodAll_nil r2
  obtain rfl : args = #[v0, v1, v2] := by cases args; simp_all
  obtain ⟨rfl, rfl⟩ := trodVars_none hV
  obtain ⟨ao0, len0, cap0, l0, rfl, hl0, hlc0, hcm0, hat0⟩ := open_trips Try.underlying22 Try.underlying32 (show Try.prog.cellsOf 32 = 3 by kernel_rfl) ⟨rfl, rfl⟩ ⟨rfl, rfl⟩ ⟨rfl, rfl⟩ Try.underlying3 (show Try.prog.cellsOf 3 = 1 by kernel_rfl) h0 (okWide_slice Try.underlying22 (hval 0 22 v0 rfl rfl))
  obtain ⟨ao1, len1, cap1, l1, rfl, hl1, hlc1, hcm1, hat1⟩ := open_trips Try.underlying22 Try.underlying32 (show Try.prog.cellsOf 32 = 3 by kernel_rfl) ⟨rfl, rfl⟩ ⟨rfl, rfl⟩ ⟨rfl, rfl⟩ Try.underlying3 (show Try.prog.cellsOf 3 = 1 by kernel_rfl) h1 (okWide_slice Try.underlying22 (hval 1 22 v1 rfl rfl))
  obtain ⟨q0, q1, rfl, wq0, wq1⟩ := open_two Try.underlying36 Try.underlying3 (show Try.prog.cellsOf 36 = 2 by kernel_rfl) (show Try.prog.cellsOf 3 = 1 by kernel_rfl) (hval 2 36 v2 rfl rfl) h2
  clear hA0
  refine (viewLeft_walk ao0 ao1 l0 l1 len0 len1 cap0 cap1 hl0 hl1 q0 q1 W hat0 hat1).mono fun e W' ⟨he, hb⟩ => ?_
  subst he
  exact ⟨_, rfl, law_post laidOut Try.underlying4 rfl (by kernel_rfl) rfl rfl rfl rfl hW' hb⟩

theorem reads (os : Os) {H : Type} (enc : TypeId × Value → H) : ∃ places, DataW.whole enc Try.prog ((World.holding Try.prog os ⟨#[], #[], []⟩).forCall (fun _ _ => 0) ⟨#[], #[.slice none 0 0, .slice none 0 0, .agg #[.int .i64 0, .int .i64 0]], []⟩).memory Try.f6.params.toList Rows.viewLeftSpec.vars false (#[.slice none 0 0, .slice none 0 0, .agg #[.int .i64 0, .int .i64 0]] : Array Value).toList 8 = some ([.nil, .nil, .agg [.lit (.int .i64 0), .lit (.int .i64 0)]], [], places) :=
  ⟨[], by kernel_rfl⟩
theorem laid_met (os : Os) : laidMet Try.prog Rows.viewLeftRow.laid ((World.holding Try.prog os ⟨#[], #[], []⟩).forCall (fun _ _ => 0) ⟨#[], #[.slice none 0 0, .slice none 0 0, .agg #[.int .i64 0, .int .i64 0]], []⟩).memory :=
  laidMet_of_run' 8 (by kernel_rfl) (by kernel_rfl)

set_option maxRecDepth 100000 in
theorem lifted (os : Os) (started : os.Started) (H : Type) (enc : TypeId × Value → H) (F : Stop.Interp) :
    ReturnsInHanded {} Try.checked os 6 .any ((OpenSpec.ofChange Rows.viewLeftSpec).preRow enc Try.prog Try.f6 Rows.viewLeftRow.domain false Rows.viewLeftRow.laid) (((OpenSpec.ofChange Rows.viewLeftSpec).at F).post enc Try.prog Try.f6 false true false false) := by
  obtain ⟨places, hx⟩ := reads os enc
  refine returnsInHanded_of_row (C := Try.checked) (s := OpenSpec.ofChange Rows.viewLeftSpec) own started (by kernel_rfl) Try.func6
    (witness_row_at (enc := enc) (C := Try.checked) false (World.holding Try.prog os ⟨#[], #[], []⟩) #[.slice none 0 0, .slice none 0 0, .agg #[.int .i64 0, .int .i64 0]] rfl (by kernel_rfl) (by kernel_rfl) (by kernel_rfl)
      (OpenSpec.preRow_of_cond 8 hx (by kernel_rfl) (fun k hk => by cases hk) (by kernel_rfl) (laid_met os))) ?_
  intro W base args ds gs before hval hW _ _ hsz hL _ _
  exact contract H enc W base args ds gs before hval hW hsz

theorem said : Rows.ViewLeftSaid :=
  OpenClaim.holds_of_cond 6 Try.f6 rfl rfl rfl rfl rfl rfl rfl ⟨rfl, rfl, rfl, rfl, rfl⟩ rfl rfl rfl rfl rfl (by kernel_rfl) Try.func6 (by kernel_rfl)
    (of_decide_eq_true (by kernel_rfl)) (by unfold Func.isWrapper; first | (rw [if_pos (by decide +kernel)]; kernel_rfl) | (rw [if_neg (by decide +kernel)]; exact ⟨rfl, rfl⟩))
    (fun os started H enc _ F => by rw [OpenClaim.pre_eq_preRow]; exact lifted os started H enc F)
end LViewLeft
end Go.Proofs.Ytpolhdkjkidpgaa
