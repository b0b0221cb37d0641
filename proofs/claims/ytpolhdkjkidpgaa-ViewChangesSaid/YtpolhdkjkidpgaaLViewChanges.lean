/- ViewChanges: for any row of peers, any peer, and either kind of it the law returns true. -/
import Derived.Test.YtpolhdkjkidpgaaViewAwake
import Derived.Test.YtpolhdkjkidpgaaViewSmall
import Derived.Test.YtpolhdkjkidpgaaViewRefD
import Derived.Test.YtpolhdkjkidpgaaRingSame
import Derived.Test.YtpolhdkjkidpgaaRingRefNew
import Derived.Test.YtpolhdkjkidpgaaSpotSame
import Derived.Deep.RegionHeld3
import Derived.Deep.CutBlock
import Derived.Deep.DeepCutAuto
namespace Go.Proofs.Ytpolhdkjkidpgaa
open Go.RowKit Go.Shelf Go.Lib Go.Sort

theorem same_b {A B : List P3} (hl : A.length ≤ 1000) (he : A = B) {va vb : Value} {w : World} (ha : Vw w va A) (hb : Vw w vb B) :
    Calls Try.prog 12 #[va, vb] w fun e w' => e = .returned (.bool true) ∧ Below w.heap.size w w' :=
  (same_yes A B hl he va vb w ha hb).mono fun _ _ ⟨h1, q, h2⟩ => ⟨h1, h2 ▸ bDrewN (Below.refl _ _) q⟩
theorem sameI_b {zs : List Int} (hl : zs.length ≤ 1000) {va vb : Value} {w : World} (ha : Vi w va zs) (hb : Vi w vb zs) :
    Calls Try.prog 25 #[va, vb] w fun e w' => e = .returned (.bool true) ∧ Below w.heap.size w w' := by
  obtain ⟨a1, c1, rfl, _, _, h1⟩ := ha
  obtain ⟨a2, c2, rfl, _, _, h2⟩ := hb
  refine (sameI_any a1 a2 c1 c2 zs zs w (by omega) h1 h2).mono ?_
  rintro e w' ⟨rfl, n, rfl⟩
  exact ⟨by simp, bDrewN (Below.refl _ _) n⟩
/-- A value that is a ring. -/
def Vr (w : World) (v : Value) (L : List (Int × Int)) : Prop := ∃ ao cap, v = .slice ao L.length cap ∧ SlP w ao L
theorem Vr.below {w w' : World} {v : Value} {L : List (Int × Int)} (h : Vr w v L) (hb : Below w.heap.size w w') : Vr w' v L := by
  obtain ⟨ao, cap, h1, h2⟩ := h
  exact ⟨ao, cap, h1, h2.below hb⟩
theorem new_v {zs : List Int} (hl : zs.length ≤ 1000) {v : Value} {w : World} (hv : Vi w v zs) :
    Calls Try.prog 55 #[v] w fun e w' => ∃ v', e = .returned v' ∧ Vr w' v' (ringL zs) ∧ Below w.heap.size w w' := by
  obtain ⟨ao, cap, rfl, _, _, h⟩ := hv
  refine (new_any ao zs zs.length cap rfl hl (ringL zs) (ringL zs).length rfl rfl w h).mono ?_
  rintro e w' ⟨a', c', rfl, h1, h2⟩
  exact ⟨_, rfl, ⟨a', c', rfl, h1⟩, h2⟩
theorem refnew_v {zs : List Int} (hl : zs.length ≤ 1000) {v : Value} {w : World} (hv : Vi w v zs) :
    Calls Try.prog 31 #[v] w fun e w' => ∃ v', e = .returned v' ∧ Vr w' v' (ringL zs) ∧ Below w.heap.size w w' := by
  obtain ⟨ao, cap, rfl, _, _, h⟩ := hv
  refine (refnew_any ao zs zs.length cap rfl hl (ringL zs) (ringL zs).length rfl rfl w h).mono ?_
  rintro e w' ⟨a', c', rfl, h1, h2⟩
  exact ⟨_, rfl, ⟨a', c', rfl, h1⟩, h2⟩
theorem sameR_b {L : List (Int × Int)} (hl : L.length ≤ 1000000) {va vb : Value} {w : World} (ha : Vr w va L) (hb : Vr w vb L) :
    Calls Try.prog 29 #[va, vb] w fun e w' => e = .returned (.bool true) ∧ Below w.heap.size w w' := by
  obtain ⟨a1, c1, rfl, h1⟩ := ha
  obtain ⟨a2, c2, rfl, h2⟩ := hb
  refine (same_any a1 a2 c1 c2 L.length L.length L L rfl rfl w (by omega) h1 h2 true (by show _ = _; exact (decide_eq_true rfl).symm)).mono ?_
  rintro e w' ⟨rfl, n, rfl⟩
  exact ⟨rfl, bDrewN (Below.refl _ _) n⟩
set_option maxRecDepth 100000 in
theorem ring_v {A : List P3} (hl : A.length ≤ 100) {v : Value} {w : World} (hv : Vw w v A) :
    Calls Try.prog 30 #[v] w fun e w' => ∃ v', e = .returned v' ∧ Vr w' v' (ringL (memL A)) ∧ Below w.heap.size w w' := by
  have HM := Lib.hid (members_any A (by omega) v w hv)
  have hml : (memL A).length ≤ 1000 := by have := idsL_length (fun p : P3 => p.2.2 != 2) A; unfold memL; omega
  clear hv
  go_enter Try.func30, Try.ntmps30
  go_wp2_with fail
  refine HM.out.mono ?_; rintro e w1 ⟨v1, rfl, hv1, hB1⟩
  have HN := Lib.hid (new_v hml hv1)
  have HB1 := Lib.hid hB1
  clear hv1 hB1
  go_wp2_with fail
  refine HN.out.mono ?_; rintro e w2 ⟨v2, rfl, hv2, hB2⟩
  have HV := Lib.hid hv2
  have HB2 := Lib.hid (bNext HB1.out hB2)
  clear hv2 hB2
  go_wp2_with fail
  go_ret
  exact ⟨v2, rfl, HV.out, HB2.out⟩
/-- One cell of a slice that lies elsewhere is turned. -/
theorem Vw.set {w : World} {v : Value} {L : List P3} {b i : Nat} {u : Value} (h : Vw w v L) (hn : Nb (b + 1) v) : Vw (w.setCell ⟨b, i, none⟩ u) v L := by
  obtain ⟨ao, cap, rfl, h2, h3, h4⟩ := h
  refine ⟨ao, cap, rfl, h2, h3, fun k hk => ?_⟩
  obtain ⟨g, off, e, hg, hj⟩ := h4 k hk
  have hgb := hn ao _ _ rfl _ e
  simp only at hgb
  refine ⟨g, off, e, by simpa [World.setCell] using hg, fun j p hp => ?_⟩
  obtain ⟨c0, c1, c2⟩ := hj j p hp
  have hh : (w.setCell ⟨b, i, none⟩ u).heap[g]? = w.heap[g]? := Below.heap_setCell _ _ _ _ (by simp only; omega)
  refine ⟨?_, ?_, ?_⟩
  · rw [← c0]; simp only [World.cell?, hh]
  · rw [← c1]; simp only [World.cell?, hh]
  · rw [← c2]; simp only [World.cell?, hh]
/-- What Find tells. -/
theorem find_eq {A : List P3} (hl : A.length ≤ 1000) {id f0 f1 f2 : Int} {fb : Bool} (hf : (fnd A id).getD (0, 0, 0) = (f0, f1, f2)) (hb : (fnd A id).isSome = fb) {v : Value} {w : World} (hv : Vw w v A) :
    Calls Try.prog 19 #[v, .int .i64 id] w fun e w' => e = .returned (.tuple #[.agg #[.int .i64 f0, .int .i64 f1, .int .i64 f2], .bool fb]) ∧ Below w.heap.size w w' := by
  refine (find_any A hl id v w hv).mono ?_
  rintro e w' ⟨hB, ⟨h1, h2⟩ | ⟨x', y', z', h1, h2⟩⟩
  · rw [h1.out] at hf hb; subst hb; cases hf; exact ⟨h2, hB⟩
  · rw [h1.out] at hf hb; subst hb; cases hf; exact ⟨h2, hB⟩
theorem reffind_eq {A : List P3} (hl : A.length ≤ 1000) {id f0 f1 f2 : Int} {fb : Bool} (hf : (fnd A id).getD (0, 0, 0) = (f0, f1, f2)) (hb : (fnd A id).isSome = fb) {v : Value} {w : World} (hv : Vw w v A) :
    Calls Try.prog 32 #[v, .int .i64 id] w fun e w' => e = .returned (.tuple #[.agg #[.int .i64 f0, .int .i64 f1, .int .i64 f2], .bool fb]) ∧ Below w.heap.size w w' := by
  refine (reffind_any A hl id v w hv).mono ?_
  rintro e w' ⟨hB, ⟨h1, h2⟩ | ⟨x', y', z', h1, h2⟩⟩
  · rw [h1.out] at hf hb; subst hb; cases hf; exact ⟨h2, hB⟩
  · rw [h1.out] at hf hb; subst hb; cases hf; exact ⟨h2, hB⟩

set_option maxRecDepth 100000 in
set_option maxHeartbeats 16000000 in
theorem viewChanges_walk (a0 : Option Addr) (A : List P3) (n0 c0 : Nat) (h0 : A.length = n0) (x y z : Int) (own : Bool) (w : World) (s0 : SlT w a0 A) :
    Calls Try.prog 8 #[.slice a0 n0 c0, .agg #[.int .i64 x, .int .i64 y, .int .i64 z], .bool own] w fun e w' => e = .returned (.bool true) ∧ Below w.heap.size w w' := by
  obtain ⟨M, hM⟩ := nm (madeL (A.take 12))
  have m : Hid (Vsm M) := by show Vsm M; rw [hM.out]; exact madeL_sm _
  have ml : Hid (M.length ≤ 8) := m.out.len
  obtain ⟨i, hi⟩ := nm (bits .and .i64 x 7)
  obtain ⟨i0, i7⟩ : 0 ≤ i ∧ i < 8 := by rw [hi.out, and7_is]; omega
  have ei : bits .and .i64 x 7 = i := hi.out.symm
  have wi : IntKind.i64.wrap (1 + i) = 1 + i := by rw [IntKind.wrap_i64]; omega
  obtain ⟨u, hu⟩ := nm (bits .and .i64 y 15)
  have eu : bits .and .i64 y 15 = u := hu.out.symm
  obtain ⟨t, ht⟩ := nm (bits .and .i64 z 1)
  have et : bits .and .i64 z 1 = t := ht.out.symm
  have S0 := Lib.hid s0
  obtain ⟨bp, hbp⟩ := nm w.heap.size
  obtain ⟨wb, hwb⟩ := nm (w.alloc (.cells #[.int .i64 x, .int .i64 y, .int .i64 z] 32))
  have HK : Hid (Blk wb bp #[.int .i64 x, .int .i64 y, .int .i64 z] 32) := by show Blk _ _ _ _; rw [hwb.out, hbp.out]; exact Blk.new _ _ _
  have HB0 : Hid (Below w.heap.size w wb) := by rw [hwb.out]; exact bOld _
  have hsb : Hid (bp + 1 ≤ wb.heap.size) := HK.out.lt
  have hbw : Hid (w.heap.size ≤ bp) := by show _ ≤ _; rw [hbp.out]; exact Nat.le_refl _
  replace S0 := Lib.hid (S0.out.below HB0.out)
  clear s0
  go_enter Try.func8, Try.ntmps8
  go_upto_region 1 with fail
  rw [← hwb.out, ← hbp.out]
  go_wp2_with fail
  refine (awake_any _).mono ?_; rintro e w1 ⟨rfl, hB⟩
  replace HK := Lib.hid (Blk.below HK.out hB HK.out.lt)
  replace S0 := Lib.hid (S0.out.below hB)
  have HB := Lib.hid (bNext HB0.out hB)
  clear hB
  replace hsb : Hid (bp + 1 ≤ w1.heap.size) := HK.out.lt
  go_wp2_with fail
  refine (made_nb A n0 c0 h0 a0 _ S0.out).mono ?_; rintro e w2 ⟨vm, rfl, hv, hB, hnb⟩
  replace HK := Lib.hid (Blk.below HK.out hB HK.out.lt)
  have HNB : Hid (Nb (bp + 1) vm) := hnb.le hsb.out
  clear hnb
  replace S0 := Lib.hid (S0.out.below hB)
  replace HB := Lib.hid (bNext HB.out hB)
  have HM := Lib.hid (hv.eq hM.out.symm)
  clear hB hv
  clear S0
  have q0 : w2.cell? ⟨bp, 0, none⟩ = some (.int .i64 x) := HK.out.cell 0
  have q1 : w2.cell? ⟨bp, 1, none⟩ = some (.int .i64 y) := HK.out.cell 1
  have q2 : w2.cell? ⟨bp, 2, none⟩ = some (.int .i64 z) := HK.out.cell 2
  have g0 : w2.frozen? ⟨bp, 0, none⟩ = false := HK.out.free 0
  have g1 : w2.frozen? ⟨bp, 1, none⟩ = false := HK.out.free 1
  have g2 : w2.frozen? ⟨bp, 2, none⟩ = false := HK.out.free 2
  go_upto_if 23 with fail
  go_cut [] (fun wx => ∃ p0 p1 p2 : Int, Blk wx bp #[.int .i64 p0, .int .i64 p1, .int .i64 p2] 32 ∧ Vw wx vm M ∧ Below w.heap.size w wx)
  case first =>
    cases own
    · go_wp2_with fail
      go_meet
      exact ⟨x, y, z, HK.out, HM.out, HB.out⟩
    · go_wp2_with fail
      go_meet
      exact ⟨1 + i, u, t, ((HK.out.set 0 _).set 1 _).set 2 _, ((HM.out.set HNB.out).set HNB.out).set HNB.out, ((HB.out.setCell (p := ⟨bp, 0, none⟩) hbw.out _).setCell (p := ⟨bp, 1, none⟩) hbw.out _).setCell (p := ⟨bp, 2, none⟩) hbw.out _⟩
  obtain ⟨p0, p1, p2, hk, hm, hb⟩ := hcut
  obtain ⟨F, hF⟩ := nm ((fnd M p0).getD (0, 0, 0))
  obtain ⟨f0, f1, f2⟩ := F
  obtain ⟨fb, hfb⟩ := nm (fnd M p0).isSome
  replace HK := Lib.hid hk
  replace HM := Lib.hid hm
  replace HB := Lib.hid hb
  clear hk hm hb HNB hsb hbw q0 q1 q2 g0 g1 g2
  have q0 : wc.cell? ⟨bp, 0, none⟩ = some (.int .i64 p0) := HK.out.cell 0
  have q1 : wc.cell? ⟨bp, 1, none⟩ = some (.int .i64 p1) := HK.out.cell 1
  have q2 : wc.cell? ⟨bp, 2, none⟩ = some (.int .i64 p2) := HK.out.cell 2
  have hlq : bp < wc.heap.size := HK.out.lt
  have HMd : Hid (Vw wc.drew vm M) := HM.out
  have HKEEP : Hid (∀ wa : World, Below wc.drew.heap.size wc.drew wa → wa.cell? ⟨bp, 0, none⟩ = some (.int .i64 p0) ∧ wa.cell? ⟨bp, 1, none⟩ = some (.int .i64 p1) ∧ wa.cell? ⟨bp, 2, none⟩ = some (.int .i64 p2)) := by show ∀ wa : World, _; intro wa hBa; exact ⟨(hBa.cell (p := ⟨bp, 0, none⟩) hlq).trans q0, (hBa.cell (p := ⟨bp, 1, none⟩) hlq).trans q1, (hBa.cell (p := ⟨bp, 2, none⟩) hlq).trans q2⟩
  have HBR : Hid (Below wc.heap.size wc wc.drew) := bDrew (Below.refl _ _)
  go_wp2_with fail
  go_cut [9] (fun vv wx => vv = .bool true ∧ Below wc.heap.size wc wx)
  case first =>
    go_region_held3 (fun w' => w'.cell? ⟨bp, 0, none⟩ = some (.int .i64 p0) ∧ w'.cell? ⟨bp, 1, none⟩ = some (.int .i64 p1) ∧ w'.cell? ⟨bp, 2, none⟩ = some (.int .i64 p2))
      (first
        | exact HKEEP.out _ (bNext (bNext hBA hBC) hBS)
        | exact HKEEP.out _ (bNext (bNext hBC hBA) hBS)
        | exact HKEEP.out _ (bNext hBA hBC)
        | exact HKEEP.out _ (bNext hBC hBA)
        | exact HKEEP.out _ hBA
        | exact HKEEP.out _ hBC
        | exact ⟨cell_dr q0, cell_dr q1, cell_dr q2⟩
        | exact ⟨q0, q1, q2⟩)
      (first
        | (go_at_call 15; first | (refine (with_any M m.out.ok p0 p1 p2 vm _ HMd.out).mono ?_; rintro e wA ⟨vA, rfl, hvA, hBA⟩) | (refine (with_any M m.out.ok p0 p1 p2 vm _ (HMd.out.below hBC)).mono ?_; rintro e wA ⟨vA, rfl, hvA, hBA⟩))
        | (go_at_call 21; first | (refine (refwith_any M m.out.ok p0 p1 p2 vm _ HMd.out).mono ?_; rintro e wC ⟨vC, rfl, hvC, hBC⟩) | (refine (refwith_any M m.out.ok p0 p1 p2 vm _ (HMd.out.below hBA)).mono ?_; rintro e wC ⟨vC, rfl, hvC, hBC⟩))
        | (go_at_call 12; first | (refine (same_b (by have := (m.out.ok.with (p0, p1, p2)).len; omega) rfl (hvA.below hBC) hvC).mono ?_; rintro e wS ⟨rfl, hBS⟩) | (refine (same_b (by have := (m.out.ok.with (p0, p1, p2)).len; omega) rfl hvA (hvC.below hBA)).mono ?_; rintro e wS ⟨rfl, hBS⟩)))
    all_goals (go_wp2_with fail; go_meet; first | exact ⟨rfl, bNext (bNext (bNext HBR.out hBA) hBC) hBS⟩ | exact ⟨rfl, bNext (bNext (bNext HBR.out hBC) hBA) hBS⟩)
  obtain ⟨rfl, hB⟩ := hcut
  replace HM := Lib.hid (HM.out.below hB)
  replace HK := Lib.hid (Blk.below HK.out hB HK.out.lt)
  replace HB := Lib.hid (bNext HB.out hB)
  clear hB HKEEP HMd HBR hlq q0 q1 q2
  have q0 : wc.cell? ⟨bp, 0, none⟩ = some (.int .i64 p0) := HK.out.cell 0
  have hlq : bp < wc.heap.size := HK.out.lt
  have HMd : Hid (Vw wc.drew vm M) := HM.out
  have HKEEP : Hid (∀ wa : World, Below wc.drew.heap.size wc.drew wa → wa.cell? ⟨bp, 0, none⟩ = some (.int .i64 p0)) := by show ∀ wa : World, _; intro wa hBa; exact (hBa.cell (p := ⟨bp, 0, none⟩) hlq).trans q0
  have HBR : Hid (Below wc.heap.size wc wc.drew) := bDrew (Below.refl _ _)
  go_wp2_with fail
  go_cut [10] (fun vv wx => vv = .bool true ∧ Below wc.heap.size wc wx)
  case first =>
    go_region_held3 (fun w' => w'.cell? ⟨bp, 0, none⟩ = some (.int .i64 p0))
      (first
        | exact HKEEP.out _ (bNext (bNext hBA hBC) hBS)
        | exact HKEEP.out _ (bNext (bNext hBC hBA) hBS)
        | exact HKEEP.out _ (bNext hBA hBC)
        | exact HKEEP.out _ (bNext hBC hBA)
        | exact HKEEP.out _ hBA
        | exact HKEEP.out _ hBC
        | exact cell_dr q0
        | exact q0)
      (first
        | (go_at_call 16; first | (refine (suspect_any M m.out.ok p0 vm _ HMd.out).mono ?_; rintro e wA ⟨vA, rfl, hvA, hBA⟩) | (refine (suspect_any M m.out.ok p0 vm _ (HMd.out.below hBC)).mono ?_; rintro e wA ⟨vA, rfl, hvA, hBA⟩))
        | (go_at_call 22; first | (refine (refsuspect_any M m.out.ok p0 vm _ HMd.out).mono ?_; rintro e wC ⟨vC, rfl, hvC, hBC⟩) | (refine (refsuspect_any M m.out.ok p0 vm _ (HMd.out.below hBA)).mono ?_; rintro e wC ⟨vC, rfl, hvC, hBC⟩))
        | (go_at_call 12; first | (refine (same_b (by rw [chgL_length]; have := ml.out; omega) rfl (hvA.below hBC) hvC).mono ?_; rintro e wS ⟨rfl, hBS⟩) | (refine (same_b (by rw [chgL_length]; have := ml.out; omega) rfl hvA (hvC.below hBA)).mono ?_; rintro e wS ⟨rfl, hBS⟩)))
    all_goals (go_wp2_with fail; go_meet; first | exact ⟨rfl, bNext (bNext (bNext HBR.out hBA) hBC) hBS⟩ | exact ⟨rfl, bNext (bNext (bNext HBR.out hBC) hBA) hBS⟩)
  obtain ⟨rfl, hB⟩ := hcut
  replace HM := Lib.hid (HM.out.below hB)
  replace HK := Lib.hid (Blk.below HK.out hB HK.out.lt)
  replace HB := Lib.hid (bNext HB.out hB)
  clear hB HKEEP HMd HBR hlq q0
  have q0 : wc.cell? ⟨bp, 0, none⟩ = some (.int .i64 p0) := HK.out.cell 0
  have hlq : bp < wc.heap.size := HK.out.lt
  have HMd : Hid (Vw wc.drew vm M) := HM.out
  have HKEEP : Hid (∀ wa : World, Below wc.drew.heap.size wc.drew wa → wa.cell? ⟨bp, 0, none⟩ = some (.int .i64 p0)) := by show ∀ wa : World, _; intro wa hBa; exact (hBa.cell (p := ⟨bp, 0, none⟩) hlq).trans q0
  have HBR : Hid (Below wc.heap.size wc wc.drew) := bDrew (Below.refl _ _)
  go_wp2_with fail
  go_cut [11] (fun vv wx => vv = .bool true ∧ Below wc.heap.size wc wx)
  case first =>
    go_region_held3 (fun w' => w'.cell? ⟨bp, 0, none⟩ = some (.int .i64 p0))
      (first
        | exact HKEEP.out _ (bNext (bNext hBA hBC) hBS)
        | exact HKEEP.out _ (bNext (bNext hBC hBA) hBS)
        | exact HKEEP.out _ (bNext hBA hBC)
        | exact HKEEP.out _ (bNext hBC hBA)
        | exact HKEEP.out _ hBA
        | exact HKEEP.out _ hBC
        | exact cell_dr q0
        | exact q0)
      (first
        | (go_at_call 17; first | (refine (refute_any M m.out.ok p0 vm _ HMd.out).mono ?_; rintro e wA ⟨vA, rfl, hvA, hBA⟩) | (refine (refute_any M m.out.ok p0 vm _ (HMd.out.below hBC)).mono ?_; rintro e wA ⟨vA, rfl, hvA, hBA⟩))
        | (go_at_call 23; first | (refine (refrefute_any M m.out.ok p0 vm _ HMd.out).mono ?_; rintro e wC ⟨vC, rfl, hvC, hBC⟩) | (refine (refrefute_any M m.out.ok p0 vm _ (HMd.out.below hBA)).mono ?_; rintro e wC ⟨vC, rfl, hvC, hBC⟩))
        | (go_at_call 12; first | (refine (same_b (by rw [chgL_length]; have := ml.out; omega) rfl (hvA.below hBC) hvC).mono ?_; rintro e wS ⟨rfl, hBS⟩) | (refine (same_b (by rw [chgL_length]; have := ml.out; omega) rfl hvA (hvC.below hBA)).mono ?_; rintro e wS ⟨rfl, hBS⟩)))
    all_goals (go_wp2_with fail; go_meet; first | exact ⟨rfl, bNext (bNext (bNext HBR.out hBA) hBC) hBS⟩ | exact ⟨rfl, bNext (bNext (bNext HBR.out hBC) hBA) hBS⟩)
  obtain ⟨rfl, hB⟩ := hcut
  replace HM := Lib.hid (HM.out.below hB)
  replace HK := Lib.hid (Blk.below HK.out hB HK.out.lt)
  replace HB := Lib.hid (bNext HB.out hB)
  clear hB HKEEP HMd HBR hlq q0
  have q0 : wc.cell? ⟨bp, 0, none⟩ = some (.int .i64 p0) := HK.out.cell 0
  have hlq : bp < wc.heap.size := HK.out.lt
  have HMd : Hid (Vw wc.drew vm M) := HM.out
  have HKEEP : Hid (∀ wa : World, Below wc.drew.heap.size wc.drew wa → wa.cell? ⟨bp, 0, none⟩ = some (.int .i64 p0)) := by show ∀ wa : World, _; intro wa hBa; exact (hBa.cell (p := ⟨bp, 0, none⟩) hlq).trans q0
  have HBR : Hid (Below wc.heap.size wc wc.drew) := bDrew (Below.refl _ _)
  go_wp2_with fail
  go_cut [12] (fun vv wx => vv = .bool true ∧ Below wc.heap.size wc wx)
  case first =>
    go_region_held3 (fun w' => w'.cell? ⟨bp, 0, none⟩ = some (.int .i64 p0))
      (first
        | exact HKEEP.out _ (bNext (bNext hBA hBC) hBS)
        | exact HKEEP.out _ (bNext (bNext hBC hBA) hBS)
        | exact HKEEP.out _ (bNext hBA hBC)
        | exact HKEEP.out _ (bNext hBC hBA)
        | exact HKEEP.out _ hBA
        | exact HKEEP.out _ hBC
        | exact cell_dr q0
        | exact q0)
      (first
        | (go_at_call 18; first | (refine (leave_any M m.out.ok p0 vm _ HMd.out).mono ?_; rintro e wA ⟨vA, rfl, hvA, hBA⟩) | (refine (leave_any M m.out.ok p0 vm _ (HMd.out.below hBC)).mono ?_; rintro e wA ⟨vA, rfl, hvA, hBA⟩))
        | (go_at_call 24; first | (refine (refleave_any M m.out.ok p0 vm _ HMd.out).mono ?_; rintro e wC ⟨vC, rfl, hvC, hBC⟩) | (refine (refleave_any M m.out.ok p0 vm _ (HMd.out.below hBA)).mono ?_; rintro e wC ⟨vC, rfl, hvC, hBC⟩))
        | (go_at_call 12; first | (refine (same_b (by rw [chgL_length]; have := ml.out; omega) rfl (hvA.below hBC) hvC).mono ?_; rintro e wS ⟨rfl, hBS⟩) | (refine (same_b (by rw [chgL_length]; have := ml.out; omega) rfl hvA (hvC.below hBA)).mono ?_; rintro e wS ⟨rfl, hBS⟩)))
    all_goals (go_wp2_with fail; go_meet; first | exact ⟨rfl, bNext (bNext (bNext HBR.out hBA) hBC) hBS⟩ | exact ⟨rfl, bNext (bNext (bNext HBR.out hBC) hBA) hBS⟩)
  obtain ⟨rfl, hB⟩ := hcut
  replace HM := Lib.hid (HM.out.below hB)
  replace HK := Lib.hid (Blk.below HK.out hB HK.out.lt)
  replace HB := Lib.hid (bNext HB.out hB)
  clear hB HKEEP HMd HBR hlq q0
  go_wp2_with fail
  refine (members_any M (by have := ml.out; omega) vm _ HM.out).mono ?_; rintro e w3 ⟨e1, rfl, hv, hB⟩
  replace HK := Lib.hid (Blk.below HK.out hB HK.out.lt)
  replace HM := Lib.hid (HM.out.below hB)
  replace HB := Lib.hid (bNext HB.out hB)
  have E1 := Lib.hid (hv)
  clear hB hv
  go_wp2_with fail
  refine (refmembers_any M M.length rfl (by have := ml.out; omega) vm _ HM.out).mono ?_; rintro e w4 ⟨e2, rfl, hv, hB⟩
  replace HK := Lib.hid (Blk.below HK.out hB HK.out.lt)
  replace HM := Lib.hid (HM.out.below hB)
  replace E1 := Lib.hid (E1.out.below hB)
  replace HB := Lib.hid (bNext HB.out hB)
  have E2 := Lib.hid (hv)
  clear hB hv
  go_wp2_with fail
  refine (sameI_b (by unfold memL; have := idsL_length (fun p : P3 => p.2.2 != 2) M; have := ml.out; omega) E1.out E2.out).mono ?_; rintro e w5 ⟨rfl, hB⟩
  replace HK := Lib.hid (Blk.below HK.out hB HK.out.lt)
  replace HM := Lib.hid (HM.out.below hB)
  replace E1 := Lib.hid (E1.out.below hB)
  replace E2 := Lib.hid (E2.out.below hB)
  replace HB := Lib.hid (bNext HB.out hB)
  clear hB
  clear E1 E2
  go_wp2_with fail
  refine (alive_any M (by have := ml.out; omega) vm _ HM.out).mono ?_; rintro e w6 ⟨e3, rfl, hv, hB⟩
  replace HK := Lib.hid (Blk.below HK.out hB HK.out.lt)
  replace HM := Lib.hid (HM.out.below hB)
  replace HB := Lib.hid (bNext HB.out hB)
  have E3 := Lib.hid (hv)
  clear hB hv
  go_wp2_with fail
  refine (refalive_any M M.length rfl (by have := ml.out; omega) vm _ HM.out).mono ?_; rintro e w7 ⟨e4, rfl, hv, hB⟩
  replace HK := Lib.hid (Blk.below HK.out hB HK.out.lt)
  replace HM := Lib.hid (HM.out.below hB)
  replace E3 := Lib.hid (E3.out.below hB)
  replace HB := Lib.hid (bNext HB.out hB)
  have E4 := Lib.hid (hv)
  clear hB hv
  go_wp2_with fail
  refine (sameI_b (by unfold aliL; have := idsL_length (fun p : P3 => p.2.2 == 0) M; have := ml.out; omega) E3.out E4.out).mono ?_; rintro e w8 ⟨rfl, hB⟩
  replace HK := Lib.hid (Blk.below HK.out hB HK.out.lt)
  replace HM := Lib.hid (HM.out.below hB)
  replace E3 := Lib.hid (E3.out.below hB)
  replace E4 := Lib.hid (E4.out.below hB)
  replace HB := Lib.hid (bNext HB.out hB)
  clear hB
  clear E3 E4
  go_wp2_with fail
  refine (ring_v (by have := ml.out; omega) HM.out).mono ?_; rintro e w9 ⟨r1, rfl, hv, hB⟩
  replace HK := Lib.hid (Blk.below HK.out hB HK.out.lt)
  replace HM := Lib.hid (HM.out.below hB)
  replace HB := Lib.hid (bNext HB.out hB)
  have R1 := Lib.hid (hv)
  clear hB hv
  go_wp2_with fail
  refine (refmembers_any M M.length rfl (by have := ml.out; omega) vm _ HM.out).mono ?_; rintro e w10 ⟨e5, rfl, hv, hB⟩
  replace HK := Lib.hid (Blk.below HK.out hB HK.out.lt)
  replace HM := Lib.hid (HM.out.below hB)
  replace R1 := Lib.hid (R1.out.below hB)
  replace HB := Lib.hid (bNext HB.out hB)
  have E5 := Lib.hid (hv)
  clear hB hv
  go_wp2_with fail
  refine (refnew_v (by unfold memL; have := idsL_length (fun p : P3 => p.2.2 != 2) M; have := ml.out; omega) E5.out).mono ?_; rintro e w11 ⟨r2, rfl, hv, hB⟩
  replace HK := Lib.hid (Blk.below HK.out hB HK.out.lt)
  replace HM := Lib.hid (HM.out.below hB)
  replace R1 := Lib.hid (R1.out.below hB)
  replace E5 := Lib.hid (E5.out.below hB)
  replace HB := Lib.hid (bNext HB.out hB)
  have R2 := Lib.hid (hv)
  clear hB hv
  clear E5
  go_wp2_with fail
  refine (sameR_b (by have := ringL_length (memL M); have := idsL_length (fun p : P3 => p.2.2 != 2) M; have := ml.out; unfold memL at *; omega) R1.out R2.out).mono ?_; rintro e w12 ⟨rfl, hB⟩
  replace HK := Lib.hid (Blk.below HK.out hB HK.out.lt)
  replace HM := Lib.hid (HM.out.below hB)
  replace R1 := Lib.hid (R1.out.below hB)
  replace R2 := Lib.hid (R2.out.below hB)
  replace HB := Lib.hid (bNext HB.out hB)
  clear hB
  clear R1 R2
  have q0 : w12.cell? ⟨bp, 0, none⟩ = some (.int .i64 p0) := HK.out.cell 0
  go_wp2_with fail
  refine (find_eq (by have := ml.out; omega) hF.out.symm hfb.out.symm HM.out).mono ?_; rintro e w13 ⟨rfl, hB⟩
  replace HK := Lib.hid (Blk.below HK.out hB HK.out.lt)
  replace HM := Lib.hid (HM.out.below hB)
  replace HB := Lib.hid (bNext HB.out hB)
  clear hB
  clear q0
  obtain ⟨bf, hbf⟩ := nm w13.heap.size
  obtain ⟨wf, hwf⟩ := nm (w13.alloc (.cells #[.int .i64 f0, .int .i64 f1, .int .i64 f2] 32))
  have Kf : Hid (Blk wf bf #[.int .i64 f0, .int .i64 f1, .int .i64 f2] 32) := by show Blk _ _ _ _; rw [hwf.out, hbf.out]; exact Blk.new _ _ _
  have hBn : Below w13.heap.size w13 wf := by rw [hwf.out]; exact bOld _
  replace HK := Lib.hid (Blk.below HK.out hBn HK.out.lt)
  replace HM := Lib.hid (HM.out.below hBn)
  replace HB := Lib.hid (bNext HB.out hBn)
  go_upto_region 15 with fail
  rw [← hwf.out, ← hbf.out]
  clear hBn
  have q0 : wf.cell? ⟨bp, 0, none⟩ = some (.int .i64 p0) := HK.out.cell 0
  go_wp2_with fail
  refine (reffind_eq (by have := ml.out; omega) hF.out.symm hfb.out.symm HM.out).mono ?_; rintro e w14 ⟨rfl, hB⟩
  replace HK := Lib.hid (Blk.below HK.out hB HK.out.lt)
  replace Kf := Lib.hid (Blk.below Kf.out hB Kf.out.lt)
  replace HM := Lib.hid (HM.out.below hB)
  replace HB := Lib.hid (bNext HB.out hB)
  clear hB
  clear q0
  obtain ⟨bg, hbg⟩ := nm w14.heap.size
  obtain ⟨wg, hwg⟩ := nm (w14.alloc (.cells #[.int .i64 f0, .int .i64 f1, .int .i64 f2] 32))
  have Kg : Hid (Blk wg bg #[.int .i64 f0, .int .i64 f1, .int .i64 f2] 32) := by show Blk _ _ _ _; rw [hwg.out, hbg.out]; exact Blk.new _ _ _
  have hBn : Below w14.heap.size w14 wg := by rw [hwg.out]; exact bOld _
  replace HK := Lib.hid (Blk.below HK.out hBn HK.out.lt)
  replace Kf := Lib.hid (Blk.below Kf.out hBn Kf.out.lt)
  replace HM := Lib.hid (HM.out.below hBn)
  replace HB := Lib.hid (bNext HB.out hBn)
  go_upto_region 16 with fail
  rw [← hwg.out, ← hbg.out]
  clear hBn
  have a0 : wg.cell? ⟨bf, 0, none⟩ = some (.int .i64 f0) := Kf.out.cell 0
  have b0 : wg.cell? ⟨bg, 0, none⟩ = some (.int .i64 f0) := Kg.out.cell 0
  have a1 : wg.cell? ⟨bf, 1, none⟩ = some (.int .i64 f1) := Kf.out.cell 1
  have b1 : wg.cell? ⟨bg, 1, none⟩ = some (.int .i64 f1) := Kg.out.cell 1
  have a2 : wg.cell? ⟨bf, 2, none⟩ = some (.int .i64 f2) := Kf.out.cell 2
  have b2 : wg.cell? ⟨bg, 2, none⟩ = some (.int .i64 f2) := Kg.out.cell 2
  have heq := fun w => eqlT f0 f1 f2 f0 f1 f2 true (by simp) w
  have hgd := fun (a b : Operand) (w : World) => guardT .eql a b #[.int .i64 f0, .int .i64 f1, .int .i64 f2] #[.int .i64 f0, .int .i64 f1, .int .i64 f2] w
  go_wp2_with fail
  go_ret
  exact ⟨by simp, HB.out⟩

namespace LViewChanges
open Go.ChangeShapes Go.WideShapes Go.ChangeAt
open Go.ChangeMaps (open_string shut_string)

set_option maxRecDepth 100000 in
theorem contract (H : Type) (enc : TypeId × Value → H) (W : World) (base : Nat) (args : Array Value) (ds gs : List (DataW H)) (before : List MemPlace)
    (hval : ∀ (j : Nat) t v, Try.f8.params[j]? = some t → args[j]? = some v → Value.okWide Try.prog W .any base t v)
    (hW : DataW.Whole enc Try.prog Try.f8.params.toList Rows.viewChangesSpec.vars false W args.toList ds gs before)
    (_hsz : (DataW.weightsEach Try.prog (Try.f8.params.toList ++ (OpenSpec.ofChange Rows.viewChangesSpec).bare.plain.varTypes Try.prog) (ds ++ gs)).all (fun x => decide (x ≤ reachBytes)) = true) :
    Calls Try.prog 8 args W fun e W' => ∃ v, e = .returned v ∧ Rows.viewChangesSpec.post enc Try.prog Try.f8 false true false false W args v W' := by
  have hW' := hW
  obtain ⟨p, q, hA0, hV, rfl, hfz, hnd⟩ := hW
  have hA : DataW.TrodAll enc Try.prog W 0 (fun _ => true) true Try.f8.params.toList args.toList ds p := hA0
  rw [Try.params8] at hA hval
  obtain ⟨v0, vs0, d0, ds0, p0, q0, hargs, rfl, rfl, h0, r0⟩ := trodAll_cons hA
  obtain ⟨v1, vs1, d1, ds1, p1, q1, rfl, rfl, rfl, h1, r1⟩ := trodAll_cons r0
  obtain ⟨v2, vs2, d2, ds2, p2, q2, rfl, rfl, rfl, h2, r2⟩ := trodAll_cons r1
  obtain ⟨rfl, rfl, rfl⟩ := trodAll_nil r2
  obtain rfl : args = #[v0, v1, v2] := by cases args; simp_all
  obtain ⟨rfl, rfl⟩ := trodVars_none hV
  obtain ⟨ao0, len0, cap0, l0, rfl, hl0, hlc0, hcm0, hat0⟩ := open_trips Try.underlying22 Try.underlying32 (show Try.prog.cellsOf 32 = 3 by kernel_rfl) ⟨rfl, rfl⟩ ⟨rfl, rfl⟩ ⟨rfl, rfl⟩ Try.underlying3 (show Try.prog.cellsOf 3 = 1 by kernel_rfl) h0 (okWide_slice Try.underlying22 (hval 0 22 v0 rfl rfl))
  obtain ⟨c0, c1, c2, y0, y1, y2, m1, rfl, rfl, rfl, hy0, hy1, hy2⟩ := Joins.open_agg3 Try.underlying32 (by kernel_rfl) (show Try.prog.cellsOf 32 = 3 by kernel_rfl) (hval 1 32 v1 rfl rfl) h1
  obtain ⟨z1_0, e0, _, wf1_0⟩ := DataW.trod_int Try.underlying3 hy0
  obtain ⟨z1_1, e1, _, wf1_1⟩ := DataW.trod_int Try.underlying3 hy1
  obtain ⟨z1_2, e2, _, wf1_2⟩ := DataW.trod_int Try.underlying3 hy2
  simp at e0 e1 e2
  subst e0 e1 e2
  obtain ⟨x2, rfl, rfl, rfl⟩ := open_bool Try.underlying4 (hval 2 4 v2 rfl rfl) h2
  clear hA0
  refine (viewChanges_walk ao0 l0 len0 cap0 hl0 z1_0 z1_1 z1_2 x2 W hat0).mono fun e W' ⟨he, hb⟩ => ?_
  subst he
  exact ⟨_, rfl, law_post laidOut Try.underlying4 rfl (by kernel_rfl) rfl rfl rfl rfl hW' hb⟩

theorem reads (os : Os) {H : Type} (enc : TypeId × Value → H) : ∃ places, DataW.whole enc Try.prog ((World.holding Try.prog os ⟨#[], #[], []⟩).forCall (fun _ _ => 0) ⟨#[], #[.slice none 0 0, .agg #[.int .i64 0, .int .i64 0, .int .i64 0], .bool false], []⟩).memory Try.f8.params.toList Rows.viewChangesSpec.vars false (#[.slice none 0 0, .agg #[.int .i64 0, .int .i64 0, .int .i64 0], .bool false] : Array Value).toList 8 = some ([.nil, .agg [.lit (.int .i64 0), .lit (.int .i64 0), .lit (.int .i64 0)], .lit (.bool false)], [], places) :=
  ⟨[], by kernel_rfl⟩
theorem laid_met (os : Os) : laidMet Try.prog Rows.viewChangesRow.laid ((World.holding Try.prog os ⟨#[], #[], []⟩).forCall (fun _ _ => 0) ⟨#[], #[.slice none 0 0, .agg #[.int .i64 0, .int .i64 0, .int .i64 0], .bool false], []⟩).memory :=
  laidMet_of_run' 8 (by kernel_rfl) (by kernel_rfl)

set_option maxRecDepth 100000 in
theorem lifted (os : Os) (started : os.Started) (H : Type) (enc : TypeId × Value → H) (F : Stop.Interp) :
    ReturnsInHanded {} Try.checked os 8 .any ((OpenSpec.ofChange Rows.viewChangesSpec).preRow enc Try.prog Try.f8 Rows.viewChangesRow.domain false Rows.viewChangesRow.laid) (((OpenSpec.ofChange Rows.viewChangesSpec).at F).post enc Try.prog Try.f8 false true false false) := by
  obtain ⟨places, hx⟩ := reads os enc
  refine returnsInHanded_of_row (C := Try.checked) (s := OpenSpec.ofChange Rows.viewChangesSpec) own started (by kernel_rfl) Try.func8
    (witness_row_at (enc := enc) (C := Try.checked) false (World.holding Try.prog os ⟨#[], #[], []⟩) #[.slice none 0 0, .agg #[.int .i64 0, .int .i64 0, .int .i64 0], .bool false] rfl (by kernel_rfl) (by kernel_rfl) (by kernel_rfl)
      (OpenSpec.preRow_of_cond 8 hx (by kernel_rfl) (fun k hk => by cases hk) (by kernel_rfl) (laid_met os))) ?_
  intro W base args ds gs before hval hW _ _ hsz hL _ _
  exact contract H enc W base args ds gs before hval hW hsz

theorem said : Rows.ViewChangesSaid :=
  OpenClaim.holds_of_cond 8 Try.f8 rfl rfl rfl rfl rfl rfl rfl ⟨rfl, rfl, rfl, rfl, rfl⟩ rfl rfl rfl rfl rfl (by kernel_rfl) Try.func8 (by kernel_rfl)
    (of_decide_eq_true (by kernel_rfl)) (by unfold Func.isWrapper; first | (rw [if_pos (by decide +kernel)]; kernel_rfl) | (rw [if_neg (by decide +kernel)]; exact ⟨rfl, rfl⟩))
    (fun os started H enc _ F => by rw [OpenClaim.pre_eq_preRow]; exact lifted os started H enc F)
end LViewChanges
end Go.Proofs.Ytpolhdkjkidpgaa
