/- The wheel: take. -/
import Derived.Test.YtipnfalmnoieiaaWheelDn
namespace Go.Proofs.Ytipnfalmnoieiaa
open Go.RowKit Go.Shelf Go.Lib Go.Sort Go.Maps

/-- The blocks of a wheel. -/
def PGM (p g m : Nat) (k : Nat) : Prop := k = p ∨ k = g ∨ k = m
/-- A heap with one taken out. -/
def TakeEnd (w w' : World) (p g cap m n : Nat) (clk : Int) (A : PA) (i : Nat) : Prop := ∃ A' D', Whl w' p g cap m (n - 1) clk A' D' ∧ Hp A' ∧ Idx D' A' ∧ A'.toList.Perm (outA A i).toList ∧ KeptS (PGM p g m) w w'

set_option maxRecDepth 100000 in
set_option maxHeartbeats 4000000 in
theorem take_any (p g cap m n i : Nat) (clk : Int) (A : PA) (D : DataW Unit) (hi : i < n) (hn : n ≤ 100000) (hU : Hp A) (hX : Idx D A) (hnd : (idsA A).Nodup) (hwf : WfA A) (w : World) (h : Whl w p g cap m n clk A D) :
    Calls Try.prog 22 #[.pointer (some ⟨p, 0, none⟩), .int .i64 (i : Int)] w fun e w' => e = .returned (.agg #[.int .i64 A[i]!.1, .int .i64 A[i]!.2]) ∧ TakeEnd w w' p g cap m n clk A i := by
  obtain ⟨x1, hx1⟩ := nm A[i]!.1
  obtain ⟨x2, hx2⟩ := nm A[i]!.2
  have ha : Hid (A[i]! = (x1, x2)) := by show _ = _; rw [hx1.out, hx2.out]
  have hsz : Hid (A.size = n) := h.size
  have hwx : (Lit.int .i64 x2).wf = true := by rw [hx2.out]; exact hwf.get (by rw [h.size]; exact hi)
  obtain ⟨L, hL⟩ := nm (n - 1)
  have hLn : L < n := by rw [hL.out]; omega
  obtain ⟨y1, hy1⟩ := nm A[L]!.1
  obtain ⟨y2, hy2⟩ := nm A[L]!.2
  have hy : Hid (A[L]! = (y1, y2)) := by show _ = _; rw [hy1.out, hy2.out]
  have hwy : (Lit.int .i64 y2).wf = true := by rw [hy2.out]; exact hwf.get (by rw [h.size]; omega)
  rw [← hx1.out, ← hx2.out]
  obtain ⟨br, hbr⟩ := nm w.heap.size
  obtain ⟨w1, hw1⟩ := nm ((w.alloc (.cells #[.int .i64 0, .int .i64 0] 28)).alloc (.cells #[.int .i64 x1, .int .i64 x2] 28))
  have HW1 : Hid (Whl w1 p g cap m n clk A D) := by show Whl _ _ _ _ _ _ _ _ _; rw [hw1.out]; exact h.kept (S := fun _ => False) (((KeptS.refl _ _).alloc _).alloc _) id id id
  have HK1 : Hid (KeptS (PGM p g m) w w1) := by show KeptS _ _ _; rw [hw1.out]; exact ((KeptS.refl _ _).alloc _).alloc _
  have HBr : Hid (Blk w1 br #[.int .i64 0, .int .i64 0] 28) := by show Blk _ _ _ _; rw [hw1.out, hbr.out]; exact (Blk.new _ _ _).alloc _
  have HBx : Hid (Blk w1 (br + 1) #[.int .i64 x1, .int .i64 x2] 28) := by
    show Blk _ _ _ _
    rw [hw1.out, hbr.out]
    have := Blk.new (w.alloc (.cells #[.int .i64 0, .int .i64 0] 28)) #[.int .i64 x1, .int .i64 x2] 28
    simpa using this
  have h0 : Whl (w.alloc (.cells #[.int .i64 0, .int .i64 0] 28)) p g cap m n clk A D := h.kept (S := fun _ => False) ((KeptS.refl _ _).alloc _) id id id
  obtain ⟨e0, e1, _, _⟩ := h0.row.cells i (by rw [h0.size]; exact hi)
  rw [← hx1.out] at e0
  rw [← hx2.out] at e1
  obtain ⟨l0, l1, _, _⟩ := HW1.out.row.cells L (by rw [HW1.out.size]; omega)
  rw [← hy1.out] at l0
  rw [← hy2.out] at l1
  have c0 : (w.alloc (.cells #[.int .i64 0, .int .i64 0] 28)).cell? ⟨p, 0, none⟩ = some (.slice (some ⟨g, 0, none⟩) n cap) := h0.blk.cell 0
  have c1 : w1.cell? ⟨p, 0, none⟩ = some (.slice (some ⟨g, 0, none⟩) n cap) := HW1.out.blk.cell 0
  have c2 : w1.cell? ⟨p, 1, none⟩ = some (.map (some m)) := HW1.out.blk.cell 1
  have x0 : w1.cell? ⟨br + 1, 1, none⟩ = some (.int .i64 x2) := HBx.out.cell 1
  have hi0 : (0 : Int) ≤ (i : Int) := by omega
  have hi1 : (i : Int) < (n : Int) := by omega
  have hn1 : 1 ≤ n := by omega
  have hsub : (n : Int) - 1 = (L : Int) := by rw [hL.out]; omega
  have hcap : n ≤ cap ∧ cap ≤ maxLen := by have := h.row.cap; rwa [h.size] at this
  obtain ⟨hc1, hc2⟩ := hcap
  have HND := Lib.hid hnd
  have HWF := Lib.hid hwf
  have HU := Lib.hid hU
  have HX := Lib.hid hX
  have HLT : Hid (g < br ∧ m < br ∧ p < br) := by show _ ∧ _; rw [hbr.out]; exact ⟨h.row.lt, h.map.lt, h.blk.lt⟩
  clear h h0 hU hX hnd hwf
  go_enter Try.func22, Try.ntmps22
  go_upto_region 2 with fail
  rw [← hbr.out, ← hw1.out]
  clear e0 e1 c0 hi0 hi1
  go_upto_region 3 with fail
  clear hsub
  have hkey : keyOf Try.prog 3 (.int .i64 x2) = some (IL x2) := keyOf_int_mk Try.underlying3 hwx
  refine wp_region_still_tail 6 (by kernel_rfl) (by kernel_rfl) ?_
  simp only [List.take_succ_cons, List.take_zero, List.drop_succ_cons, List.drop_zero]
  change wpStill _ _ (World.drew _) (fun a' => wpList _ _ _ _ a' (World.drew _)) _ _
  repeat still_step
  refine wpStill_nil ?_
  have hmd := HW1.out.map.drew
  clear x0 c2 l0 l1 c1
  go_upto_region 4 with (at_delete; refine wpList_delete_own _ rfl _ _ 50 3 rfl 3 keyInt Try.underlying50 _ m _ D rfl hmd _ (IL x2) rfl hkey ?_; intro w2 hm2 ht2)
  clear hmd hkey
  obtain ⟨hg1, hm1, hp1⟩ := HLT.out
  have K2 : KeptS (fun k => k = m) w1 w2 := (KeptS.refl _ w1).drew.grown ht2.grown (fun b e _ => by cases e; rfl)
  have HM2 : Hid (IMap w2 m (D.del (IL x2))) := IMap.of hm2
  have HP2 : Hid (Blk w2 p #[.slice (some ⟨g, 0, none⟩) n cap, .map (some m), .int .i64 clk] 52) := K2.blk HW1.out.blk HW1.out.pm
  have HR2 : Hid (RowG w2 g cap A) := HW1.out.row.kept (K2.block g HW1.out.row.lt HW1.out.gm)
  have HBr2 : Hid (Blk w2 br #[.int .i64 0, .int .i64 0] 28) := K2.blk HBr.out (by omega)
  have HBx2 : Hid (Blk w2 (br + 1) #[.int .i64 x1, .int .i64 x2] 28) := K2.blk HBx.out (by omega)
  have HK2 : Hid (KeptS (PGM p g m) w w2) := HK1.out.trans (K2.mono fun k _ e => .inr (.inr e))
  obtain ⟨l0, l1, _, _⟩ := HR2.out.cells L (by rw [hsz.out]; exact hLn)
  rw [hy.out] at l0 l1
  have c1 : w2.cell? ⟨p, 0, none⟩ = some (.slice (some ⟨g, 0, none⟩) n cap) := HP2.out.cell 0
  have hL0 : (0 : Int) ≤ (L : Int) := by omega
  have hL1 : (L : Int) < (n : Int) := by omega
  clear K2 hm2 ht2 hg1 hm1 hp1
  go_upto_region 5 with fail
  have HY : Hid (Blk (w2.alloc (.cells #[.int .i64 y1, .int .i64 y2] 28)) w2.heap.size #[.int .i64 y1, .int .i64 y2] 28) := Blk.new _ _ _
  have K3 : KeptS (fun _ => False) w2 (w2.alloc (.cells #[.int .i64 y1, .int .i64 y2] 28)) := (KeptS.refl _ _).alloc _
  have hwb : br + 1 < w2.heap.size := HBx2.out.lt
  obtain ⟨bl, hbl⟩ := nm w2.heap.size
  obtain ⟨w3, hw3⟩ := nm (w2.alloc (.cells #[.int .i64 y1, .int .i64 y2] 28))
  rw [← hbl.out, ← hw3.out] at HY
  rw [← hw3.out] at K3
  rw [← hbl.out] at hwb
  rw [← hbl.out, ← hw3.out]
  have c3 : w3.cell? ⟨p, 0, none⟩ = some (.slice (some ⟨g, 0, none⟩) n cap) := (K3.blk HP2.out id).cell 0
  have f3 : w3.frozen? ⟨p, 0, none⟩ = false := (K3.blk HP2.out id).free 0
  have hLc : L ≤ cap := by omega
  clear l0 l1 c1 hL0 hL1
  go_upto_region 6 with fail
  have hwl : Whl (w3.setCell ⟨p, 0, none⟩ (.slice (some ⟨g, 0, none⟩) L cap)) p g cap m L clk A.pop (D.del (IL x2)) := by
    have K4 : KeptS (fun k => k = p) w3 (w3.setCell ⟨p, 0, none⟩ (.slice (some ⟨g, 0, none⟩) L cap)) := (KeptS.refl (fun k => k = p) w3).set ⟨p, 0, none⟩ rfl _
    have r3 := HR2.out.kept (K3.block g HR2.out.lt id)
    have m3 := HM2.out.kept (K3.block m HM2.out.lt id)
    exact ⟨(K3.blk HP2.out id).set 0 _, by rw [Array.size_pop, hsz.out, hL.out], (r3.kept (K4.block g r3.lt HW1.out.pg.symm)).pop, m3.kept (K4.block m m3.lt HW1.out.pm.symm), HW1.out.pg, HW1.out.pm, HW1.out.gm⟩
  obtain ⟨hg1, hm1, hp1⟩ := HLT.out
  have hbr4 := (K3.blk HBr2.out id).setOther (a := ⟨p, 0, none⟩) (by show br ≠ p; omega) (.slice (some ⟨g, 0, none⟩) L cap)
  have hbx4 := (K3.blk HBx2.out id).setOther (a := ⟨p, 0, none⟩) (by show br + 1 ≠ p; omega) (.slice (some ⟨g, 0, none⟩) L cap)
  have hbl4 := HY.out.setOther (a := ⟨p, 0, none⟩) (by show bl ≠ p; omega) (.slice (some ⟨g, 0, none⟩) L cap)
  have hk4 : KeptS (PGM p g m) w (w3.setCell ⟨p, 0, none⟩ (.slice (some ⟨g, 0, none⟩) L cap)) := (HK2.out.trans (K3.mono fun _ _ e => e.elim)).set ⟨p, 0, none⟩ (.inl rfl) _
  obtain ⟨w4, hw4⟩ := nm (w3.setCell ⟨p, 0, none⟩ (.slice (some ⟨g, 0, none⟩) L cap))
  rw [← hw4.out] at hwl hbr4 hbx4 hbl4 hk4 ⊢
  have HWL := Lib.hid hwl
  have HBR := Lib.hid hbr4
  have HBX := Lib.hid hbx4
  have HBL := Lib.hid hbl4
  have HK4 := Lib.hid hk4
  have hNE : Hid (br ≠ g ∧ br ≠ m ∧ br + 1 ≠ g ∧ br + 1 ≠ m ∧ bl ≠ g ∧ bl ≠ m ∧ br ≠ p) := by show _ ∧ _; omega
  have hAL : Hid (A.size - 1 = L) := by show _ = _; rw [hsz.out, hL.out]
  clear hwl hbr4 hbx4 hbl4 hk4 hg1 hm1 hp1 c3 f3 K3
  by_cases hlt : i < L
  · have hltd : decide (i < L) = true := decide_eq_true hlt
    have l0 : w4.cell? ⟨bl, 0, none⟩ = some (.int .i64 y1) := HBL.out.cell 0
    have l1 : w4.cell? ⟨bl, 1, none⟩ = some (.int .i64 y2) := HBL.out.cell 1
    have hD : Maps.size (D.del (IL x2)) ≤ 1000000 := by
      have h1 := Maps.size_del HX.out.tidy (k := IL x2)
      have h2 := HX.out.room
      rw [hsz.out] at h2
      omega
    have hput := put_any p g cap m L i clk A.pop (D.del (IL x2)) y1 y2 hwy hlt (by omega) hD w4 HWL.out
    have hout : A.pop.setIfInBounds i (y1, y2) = outA A i := by unfold outA; rw [hAL.out, hy.out]
    rw [hout] at hput
    have HP := Lib.hid hput
    have HPo := outA_perm A i (by rw [hsz.out]; exact hi)
    obtain ⟨hno, _, _⟩ := idsA_out HND.out (i := i) (by rw [hsz.out]; exact hi)
    have hwo : WfA (outA A i) := fun x hx => HWF.out x (HPo.mem_iff.2 (by simp [hx]))
    have hio : Idx ((D.del (IL x2)).put (IL y2) (.lit (.int .i64 i))) (outA A i) := by
      have := HX.out.mid HND.out (i := i) (by rw [hAL.out]; exact hlt)
      rwa [ha.out, hAL.out, hy.out] at this
    have hdo : DnInv (outA A i) i := dn_set (hp_pop HU.out) i _
    have hgo : (outA A i)[i]! = (y1, y2) := by rw [outA_get A i i (by rw [hAL.out]; exact hlt), if_pos rfl, hAL.out, hy.out]
    have HNO := Lib.hid hno
    have HWO := Lib.hid hwo
    have HIO := Lib.hid hio
    have HDO := Lib.hid hdo
    have HGO := Lib.hid hgo
    clear hput hout HPo hno hwo hio hdo hgo hD
    go_wp2_with fail
    refine HP.out.mono ?_; rintro e w5 ⟨rfl, h5, k5⟩
    have HD := Lib.hid (down_any p g cap m L i clk (outA A i) _ hlt (by omega) HDO.out HIO.out HNO.out HWO.out w5 h5)
    rw [HGO.out] at HD
    have HK5 := Lib.hid k5
    clear h5 k5 l0 l1
    go_wp2_with fail
    refine HD.out.mono ?_; rintro e w6 ⟨rfl, A6, D6, k, hkL, h6, hu6, hx6, hg6, hp6, k6⟩
    have K46 : KeptS (GM g m) w4 w6 := HK5.out.trans k6
    obtain ⟨n1, n2, n3, n4, n5, n6, n7⟩ := hNE.out
    have hbl6 := K46.blk HBL.out (fun e => e.elim n5 n6)
    have l1 : w6.cell? ⟨bl, 1, none⟩ = some (.int .i64 y2) := hbl6.cell 1
    have c1 : w6.cell? ⟨p, 1, none⟩ = some (.map (some m)) := h6.blk.cell 1
    have hkey : keyOf Try.prog 3 (.int .i64 y2) = some (IL y2) := keyOf_int_mk Try.underlying3 hwy
    have hn6 : (idsA A6).Nodup := (ids_perm hp6).nodup_iff.2 HNO.out
    have hs6 : A6.size = L := h6.size
    have hlook : (Instr.lookup 50 (.map (some m)) (.int .i64 y2) false).run Try.prog w6.drew = .ok (.int .i64 (k : Int)) w6.drew := by
      obtain ⟨c, hrun, hat, _⟩ := (World.ownsMap.drew h6.map).lookup_int keyInt Try.underlying50 Try.underlying3 (Try.zeroValue3 _) hkey
      have := hx6.at_ k (by rw [hs6]; exact hkL) (.lit (.int .i64 0))
      rw [hg6] at this
      rw [this] at hat
      cases hat
      exact hrun
    have HUP := Lib.hid (up_any p g cap m L k clk A6 D6 hkL (by omega) hu6 (hx6.but (by rw [hs6]; exact hkL)) hn6 (HWO.out.perm hp6) w6.drew (h6.kept (S := fun _ => False) (KeptS.refl _ _).drew id id id))
    have HK6 : Hid (KeptS (GM g m) w4 w6.drew) := K46.drew
    have HP6 := Lib.hid hp6
    clear h6 hu6 hx6 hg6 hp6 k6 hbl6 hn6 hs6 hkey n1 n2 n3 n4 n5 n6 n7 K46
    go_wp2_with fail
    refine wp_region_still_tail 8 (by kernel_rfl) (by kernel_rfl) ?_
    simp only [List.take_succ_cons, List.take_zero, List.drop_succ_cons, List.drop_zero]
    change wpStill _ _ (World.drew _) (fun a' => wpList _ _ _ _ a' (World.drew _)) _ _
    repeat still_step
    refine wpStill_nil ?_
    clear l1 c1 hlook
    go_wp2_with fail
    refine HUP.out.mono ?_; rintro e w7 ⟨rfl, A7, D7, h7, hh7, hx7, hp7, k7⟩
    have K47 : KeptS (GM g m) w4 w7 := HK6.out.trans k7
    obtain ⟨n1, n2, n3, n4, n5, n6, n7⟩ := hNE.out
    have hbx7 := K47.blk HBX.out (fun e => e.elim n3 n4)
    have hbr7 := K47.blk HBR.out (fun e => e.elim n1 n2)
    have x0 : w7.cell? ⟨br + 1, 0, none⟩ = some (.int .i64 x1) := hbx7.cell 0
    have x1' : w7.cell? ⟨br + 1, 1, none⟩ = some (.int .i64 x2) := hbx7.cell 1
    have r0 : w7.cell? ⟨br, 0, none⟩ = some (.int .i64 0) := hbr7.cell 0
    have r1 : w7.cell? ⟨br, 1, none⟩ = some (.int .i64 0) := hbr7.cell 1
    have q0 : w7.frozen? ⟨br, 0, none⟩ = false := hbr7.free 0
    have q1 : w7.frozen? ⟨br, 1, none⟩ = false := hbr7.free 1
    have HE : Hid (TakeEnd w ((w7.setCell ⟨br, 0, none⟩ (.int .i64 x1)).setCell ⟨br, 1, none⟩ (.int .i64 x2)) p g cap m n clk A i) := by
      have KK : KeptS (fun k => k = br) w7 ((w7.setCell ⟨br, 0, none⟩ (.int .i64 x1)).setCell ⟨br, 1, none⟩ (.int .i64 x2)) := ((KeptS.refl (fun k => k = br) w7).set ⟨br, 0, none⟩ rfl _).set ⟨br, 1, none⟩ rfl _
      refine ⟨A7, D7, ?_, hh7, hx7, hp7.trans HP6.out, ?_⟩
      · rw [← hL.out]; exact h7.kept KK n7.symm n1.symm n2.symm
      · have h8 := HK4.out.trans (K47.mono fun k _ e => .inr e)
        exact (h8.setNew (by show w.heap.size ≤ br; rw [hbr.out]; exact Nat.le_refl _) _).setNew (by show w.heap.size ≤ br; rw [hbr.out]; exact Nat.le_refl _) _
    clear h7 hh7 hx7 hp7 k7 hbx7 n1 n2 n3 n4 n5 n6 n7 K47
    go_wp2_with fail
    refine bodyPost_ret (v := .agg #[.int .i64 x1, .int .i64 x2]) (by simp [results, Try.results22, go_sem, r0, r1]) rfl ?_
    exact ⟨rfl, HE.out⟩
  · have hltd : decide (i < L) = false := decide_eq_false hlt
    have hiL : L = i := by have := hL.out; omega
    have x0 : w4.cell? ⟨br + 1, 0, none⟩ = some (.int .i64 x1) := HBX.out.cell 0
    have x1' : w4.cell? ⟨br + 1, 1, none⟩ = some (.int .i64 x2) := HBX.out.cell 1
    have r0 : w4.cell? ⟨br, 0, none⟩ = some (.int .i64 0) := HBR.out.cell 0
    have r1 : w4.cell? ⟨br, 1, none⟩ = some (.int .i64 0) := HBR.out.cell 1
    have q0 : w4.frozen? ⟨br, 0, none⟩ = false := HBR.out.free 0
    have q1 : w4.frozen? ⟨br, 1, none⟩ = false := HBR.out.free 1
    have HE : Hid (TakeEnd w ((w4.setCell ⟨br, 0, none⟩ (.int .i64 x1)).setCell ⟨br, 1, none⟩ (.int .i64 x2)) p g cap m n clk A i) := by
      obtain ⟨n1, n2, n3, n4, n5, n6, n7⟩ := hNE.out
      have KK : KeptS (fun k => k = br) w4 ((w4.setCell ⟨br, 0, none⟩ (.int .i64 x1)).setCell ⟨br, 1, none⟩ (.int .i64 x2)) := ((KeptS.refl (fun k => k = br) w4).set ⟨br, 0, none⟩ rfl _).set ⟨br, 1, none⟩ rfl _
      have eo : outA A i = A.pop := by rw [← hiL, ← hAL.out]; exact outA_last A
      refine ⟨A.pop, D.del (IL x2), ?_, hp_pop HU.out, ?_, by rw [eo], ?_⟩
      · rw [← hL.out]; exact HWL.out.kept KK n7.symm n1.symm n2.symm
      · have := HX.out.last HND.out (by rw [hsz.out]; omega)
        rwa [hAL.out, hiL, ha.out, eo] at this
      · exact (HK4.out.setNew (by show w.heap.size ≤ br; rw [hbr.out]; exact Nat.le_refl _) _).setNew (by show w.heap.size ≤ br; rw [hbr.out]; exact Nat.le_refl _) _
    clear hiL
    go_wp2_with fail
    refine bodyPost_ret (v := .agg #[.int .i64 x1, .int .i64 x2]) (by simp [results, Try.results22, go_sem, r0, r1]) rfl ?_
    exact ⟨rfl, HE.out⟩
end Go.Proofs.Ytipnfalmnoieiaa
