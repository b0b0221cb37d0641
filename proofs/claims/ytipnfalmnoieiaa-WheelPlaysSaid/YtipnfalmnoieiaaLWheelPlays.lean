/- WheelPlays: for every row of calls the law returns true. -/
import Derived.Test.YtipnfalmnoieiaaWheelRefB
import Derived.Test.YtipnfalmnoieiaaAlarmSame
import Derived.Test.YtipnfalmnoieiaaRows4
import Derived.Deep.RegionHeld3
namespace Go.Proofs.Ytipnfalmnoieiaa
open Go.RowKit Go.Shelf Go.Lib Go.Sort Go.Maps

/-- A wheel and the document's, apart in memory. -/
structure Two (w wr : World) (p : Nat) (F : Nat → Prop) (p2 : Nat) (ao : Option Addr) (n cap : Nat) (L : List (Int × Int)) (clk : Int) (L2 : List (Int × Int)) (clk2 : Int) : Prop where
  wb : WB w wr p F L clk
  rw_ : RW wr p2 ao n cap L2 clk2
  base2 : w.heap.size ≤ p2
  base3 : ∀ a, ao = some a → w.heap.size ≤ a.block
  ap2 : ¬ F p2
  ap3 : ∀ a, ao = some a → ¬ F a.block
theorem Two.more {w wr w' : World} {p p2 n cap : Nat} {F : Nat → Prop} {ao : Option Addr} {L L2 : List (Int × Int)} {clk clk2 : Int} (h : Two w wr p F p2 ao n cap L clk L2 clk2) (hb : Below wr.heap.size wr w') : Two w w' p F p2 ao n cap L clk L2 clk2 :=
  ⟨h.wb.more hb, h.rw_.below hb, h.base2, h.base3, h.ap2, h.ap3⟩
theorem Two.whl {w wr w' : World} {p p2 n cap : Nat} {F F' : Nat → Prop} {ao : Option Addr} {L L2 L' : List (Int × Int)} {clk clk2 clk' : Int} (h : Two w wr p F p2 ao n cap L clk L2 clk2) (hw : WB w w' p F' L' clk') (hk : KeptS F wr w') (hF : ∀ k, F' k → F k ∨ wr.heap.size ≤ k) : Two w w' p F' p2 ao n cap L' clk' L2 clk2 := by
  refine ⟨hw, h.rw_.kept hk h.ap2 h.ap3, h.base2, h.base3, fun e => ?_, fun a ha e => ?_⟩
  · rcases hF _ e with h1 | h1
    · exact h.ap2 h1
    · have := h.rw_.blk.lt; omega
  · rcases hF _ e with h1 | h1
    · exact h.ap3 a ha h1
    · have := (h.rw_.apart a ha).2; omega
theorem Two.ref {w wr w' : World} {p p2 n cap : Nat} {F : Nat → Prop} {ao : Option Addr} {L L2 L2' : List (Int × Int)} {clk clk2 clk2' : Int} (h : Two w wr p F p2 ao n cap L clk L2 clk2) (hr : RWEnd wr w' p2 ao L2' clk2') : ∃ ao' n' cap', Two w w' p F p2 ao' n' cap' L clk L2' clk2' := by
  obtain ⟨ao', n', cap', h1, h2, h3⟩ := hr
  refine ⟨ao', n', cap', ⟨⟨h.wb.whl.kept h2 fun k h4 h5 => h.ap2 (h5 ▸ h4), h.wb.below.trans (h2.below (fun k e => by rw [e]; exact h.base2) h.wb.below.size), h.wb.base⟩, h1, h.base2, fun a ha => ?_, h.ap2, fun a ha e => ?_⟩⟩
  · rcases h3 a ha with ⟨b, hb, e⟩ | h4
    · rw [e]; exact h.base3 b hb
    · exact Nat.le_trans h.wb.below.size h4
  · rcases h3 a ha with ⟨b, hb, e2⟩ | h4
    · rw [e2] at e; exact h.ap3 b hb e
    · have := h.wb.whl.lt _ e; omega
theorem RW.toEnd {w w' : World} {p n cap : Nat} {ao : Option Addr} {L : List (Int × Int)} {clk : Int} (h : RW w p ao n cap L clk) (hb : Below w.heap.size w w') : RWEnd w w' p ao L clk :=
  ⟨ao, n, cap, h.below hb, KeptS.ofBelow hb, fun a ha => .inl ⟨a, ha, rfl⟩⟩

/-- What Set tells, and what it leaves. -/
def setC (L : List (Int × Int)) (a id : Int) : Int := if a < 0 ∨ 1125899906842624 < a then 18 else if 4096 ≤ (outL L id).length then 15 else 0
def setM (L : List (Int × Int)) (a id : Int) : List (Int × Int) := if a < 0 ∨ 1125899906842624 < a then L else if 4096 ≤ (outL L id).length then L else setL L a id
theorem wset_any (p : Nat) (F : Nat → Prop) (L : List (Int × Int)) (clk a id c : Int) (hc : Hid (setC L a id = c)) (hwf : (Lit.int .i64 id).wf = true) (w0 w : World) (h : WB w0 w p F L clk) :
    Calls Try.prog 11 #[.pointer (some ⟨p, 0, none⟩), .int .i64 a, .int .i64 id] w fun e w' => e = .returned (.int .i64 c) ∧ ∃ F', WB w0 w' p F' (setM L a id) clk ∧ KeptS F w w' ∧ ∀ k, F' k → F k ∨ w.heap.size ≤ k := by
  rw [← hc.out]
  unfold setC setM
  by_cases h1 : a < 0 ∨ 1125899906842624 < a
  · rw [if_pos h1, if_pos h1]
    exact (set_time p F L clk a id hwf h1 w h.whl).mono fun e w' ⟨e1, e2⟩ => ⟨e1, F, e2 ▸ h, e2 ▸ KeptS.refl _ _, fun k e => .inl e⟩
  · rw [if_neg h1, if_neg h1]
    have h2 := h.whl.len
    by_cases h3 : 4096 ≤ (outL L id).length
    · rw [if_pos h3, if_pos h3]
      have hni : id ∉ idsL L := fun e => by have := out_length h.whl.nodup e; omega
      rw [out_none hni] at h3
      exact (set_full p F L clk a id hwf (by omega) (by omega) hni (by omega) w h.whl).mono fun e w' ⟨e1, e2⟩ => ⟨e1, F, e2 ▸ h, e2 ▸ KeptS.refl _ _, fun k e => .inl e⟩
    · rw [if_neg h3, if_neg h3]
      refine (set_ok p F L clk a id hwf (by omega) (by omega) ?_ w h.whl).mono fun e w' ⟨e1, F', e2, e3, e4⟩ => ⟨e1, F', h.set e2 e3 e4, e3, e4⟩
      by_cases h4 : id ∈ idsL L
      · exact .inl h4
      · rw [out_none h4] at h3; exact .inr (by omega)
theorem rset_any (p n cap : Nat) (ao : Option Addr) (L : List (Int × Int)) (clk a id c : Int) (hc : Hid (setC L a id = c)) (hn : n ≤ 4096) (hasc : Asc L) (w : World) (h : RW w p ao n cap L clk) :
    Calls Try.prog 19 #[.pointer (some ⟨p, 0, none⟩), .int .i64 a, .int .i64 id] w fun e w' => e = .returned (.int .i64 c) ∧ RWEnd w w' p ao (setM L a id) clk := by
  rw [← hc.out]
  unfold setC setM
  by_cases h1 : a < 0 ∨ 1125899906842624 < a
  · rw [if_pos h1, if_pos h1]
    exact (refset_time p a id h1 w).mono fun e w' ⟨e1, e2⟩ => ⟨e1, e2 ▸ h.toEnd (Below.refl _ _)⟩
  · rw [if_neg h1, if_neg h1]
    by_cases h3 : 4096 ≤ (outL L id).length
    · rw [if_pos h3, if_pos h3]
      exact (refset_full p n cap ao L clk a id (by omega) (by omega) hn h3 w h).mono fun e w' ⟨e1, e2⟩ => ⟨e1, h.toEnd e2⟩
    · rw [if_neg h3, if_neg h3]
      exact refset_ok p n cap ao L clk a id (by omega) (by omega) hn (by omega) hasc w h

theorem due_new (p : Nat) (F : Nat → Prop) (L D R : List (Int × Int)) (clk now C : Int) (n : Nat) (hC : Hid (dueC clk now = C)) (hD : Hid (dueL L C = D)) (hR : Hid (restL L C = R)) (hn : Hid (D.length = n)) (w0 w : World) (h : WB w0 w p F L clk) :
    Calls Try.prog 13 #[.pointer (some ⟨p, 0, none⟩), .int .i64 now] w fun e w' => (∃ ao cap, e = .returned (.slice ao n cap) ∧ SlP w' ao D ∧ ∀ a, ao = some a → w.heap.size ≤ a.block) ∧ WB w0 w' p F R C ∧ KeptS F w w' := by
  refine (due_any p F L clk now C hC w h.whl).mono ?_
  rintro e w' ⟨v, rfl, h1, h2, h3⟩
  rw [hD.out] at h1
  rw [hR.out] at h2
  refine ⟨?_, h.same h2 h3, h3⟩
  obtain ⟨ao, cap, rfl, hc, _, hs, hb⟩ := h1.sl
  rw [hn.out]
  exact ⟨ao, cap, rfl, hs, hb⟩

set_option maxRecDepth 100000 in
set_option maxHeartbeats 8000000 in
theorem wheelPlays_walk (ao : Option Addr) (len cap : Nat) (A B C : Nat → Int) (D : Nat → Bool) (hcm : len ≤ maxLen) (w : World) (hat : Rows4 w ao len A B C D) :
    Calls Try.prog 7 #[.slice ao len cap] w fun e w' => e = .returned (.bool true) ∧ Below w.heap.size w w' := by
  unfold maxLen at hcm
  obtain ⟨N, hN⟩ := nm (min len 60)
  have hN60 : N ≤ 60 := by rw [hN.out]; omega
  have HAT := Lib.hid hat
  clear hat
  go_enter Try.func7, Try.ntmps7
  go_wp2_with fail
  refine (awake_any _).mono ?_; rintro e w1 ⟨rfl, hB⟩
  have HB1 := Lib.hid hB
  clear hB
  go_wp2_with fail
  refine (new_any _).mono ?_; rintro e w2 ⟨rfl, hW, hB⟩
  have H1 : Hid (WB w w2 w1.heap.size (fun k => k = w1.heap.size) [] 0) := ⟨hW, bNext HB1.out hB, fun k e => by rw [e]; exact HB1.out.size⟩
  obtain ⟨p, hp⟩ := nm w1.heap.size
  obtain ⟨F1, hF1⟩ := nm (fun k => k = w1.heap.size)
  rw [← hp.out]
  rw [← hF1.out, ← hp.out] at H1
  clear hW hB HB1
  go_upto_region 4 with fail
  have H2 : Hid (Two w (w2.alloc (.cells #[.slice none 0 0, .int .i64 0] 44)) p F1 w2.heap.size none 0 0 [] 0 [] 0) := by
    refine ⟨H1.out.more (bOld _), ⟨Blk.new _ _ _, rfl, Nat.le_refl _, Nat.zero_le _, fun _ => rfl, SlP.nil _ _, (fun a e => by cases e), fun a e => by cases e⟩, H1.out.below.size, (fun a e => by cases e), fun e => ?_, fun a e => by cases e⟩
    have := H1.out.whl.lt _ e
    omega
  obtain ⟨p2, hp2⟩ := nm w2.heap.size
  obtain ⟨w3, hw3⟩ := nm (w2.alloc (.cells #[.slice none 0 0, .int .i64 0] 44))
  rw [← hw3.out, ← hp2.out] at H2
  rw [← hw3.out, ← hp2.out]
  clear H1 hw3 hp2
  go_wp2_with fail
  go_loopw [6] (fun iv wr => ∃ (k : Nat) (F : Nat → Prop) (ao2 : Option Addr) (n2 cap2 : Nat) (L : List (Int × Int)) (clk : Int), k ≤ N ∧ iv = .int .i64 (k : Int) ∧ 0 ≤ clk ∧ clk ≤ 1125899906842624 ∧ Two w wr p F p2 ao2 n2 cap2 L clk L clk) (fun iv _ => N - (intOf iv).toNat)
  case atStart => exact ⟨0, F1, none, 0, 0, [], 0, by omega, rfl, by omega, by omega, H2.out⟩
  case round =>
    obtain ⟨k, F, ao2, n2, cap2, L, clk, hk, rfl, hc0, hc1, hT⟩ := hrel
    have HT := Lib.hid hT
    clear hT
    by_cases hlt : k < N
    · have hkl : k < len := by have := hN.out; omega
      have hk60 : k < 60 := by omega
      obtain ⟨b, off, rfl, hbl, c0, c1, c2, c3, hwf⟩ := HAT.out k hkl
      obtain ⟨sA, hsA⟩ := nm (A k)
      obtain ⟨sB, hsB⟩ := nm (B k)
      obtain ⟨sC, hsC⟩ := nm (C k)
      obtain ⟨sD, hsD⟩ := nm (D k)
      rw [← hsA.out] at c0
      rw [← hsB.out] at c1
      rw [← hsC.out] at c2 hwf
      rw [← hsD.out] at c3
      have hbw := HT.out.wb.below
      have d0 : wr.cell? ⟨b, off + k * 4, none⟩ = some (.int .i64 sA) := (hbw.cell (p := ⟨b, off + k * 4, none⟩) hbl).trans c0
      have d1 : wr.cell? ⟨b, off + k * 4 + 1, none⟩ = some (.int .i64 sB) := (hbw.cell (p := ⟨b, off + k * 4 + 1, none⟩) hbl).trans c1
      have d2 : wr.cell? ⟨b, off + k * 4 + 2, none⟩ = some (.int .i64 sC) := (hbw.cell (p := ⟨b, off + k * 4 + 2, none⟩) hbl).trans c2
      have d3 : wr.cell? ⟨b, off + k * 4 + 3, none⟩ = some (.bool sD) := (hbw.cell (p := ⟨b, off + k * 4 + 3, none⟩) hbl).trans c3
      have hn2 : n2 ≤ 4096 := by rw [← HT.out.rw_.len]; exact HT.out.wb.whl.len
      have hk0 : (0 : Int) ≤ (k : Int) := by omega
      have hk1 : (k : Int) < (len : Int) := by omega
      clear c0 c1 c2 c3 hbw
      go_upto_region 10 with fail
      have HTa := Lib.hid (HT.out.more (bOld (w := wr) (.cells #[.int .i64 sA, .int .i64 sB, .int .i64 sC, .bool sD] 46)))
      have hS : Hid (Blk (wr.alloc (.cells #[.int .i64 sA, .int .i64 sB, .int .i64 sC, .bool sD] 46)) wr.heap.size #[.int .i64 sA, .int .i64 sB, .int .i64 sC, .bool sD] 46) := Blk.new _ _ _
      obtain ⟨bs, hbs⟩ := nm wr.heap.size
      obtain ⟨wa, hwa⟩ := nm (wr.alloc (.cells #[.int .i64 sA, .int .i64 sB, .int .i64 sC, .bool sD] 46))
      rw [← hwa.out] at HTa
      rw [← hwa.out, ← hbs.out] at hS
      rw [← hwa.out, ← hbs.out]
      have s0 : wa.cell? ⟨bs, 0, none⟩ = some (.int .i64 sA) := hS.out.cell 0
      have s1 : wa.cell? ⟨bs, 1, none⟩ = some (.int .i64 sB) := hS.out.cell 1
      have s2 : wa.cell? ⟨bs, 2, none⟩ = some (.int .i64 sC) := hS.out.cell 2
      have s3 : wa.cell? ⟨bs, 3, none⟩ = some (.bool sD) := hS.out.cell 3
      have r1 : wa.cell? ⟨p2, 1, none⟩ = some (.int .i64 clk) := HTa.out.rw_.blk.cell 1
      clear d0 d1 d2 d3 hwa hbs
      go_upto_if 39 with (fail)
      go_cut [8, 9] (fun s8 s9 wx => ∃ (a id : Int) (q : Nat), s8 = .int .i64 a ∧ s9 = .int .i64 id ∧ (Lit.int .i64 id).wf = true ∧ wx = wa.drewN q)
      case first =>
        cases sD
        · go_wp2_with fail
          go_meet
          exact ⟨sB, sC, 0, rfl, rfl, hwf, rfl⟩
        · obtain ⟨T1, hT1, hT2⟩ := and_mask sB 31 (by decide)
          have hT3 : bits .and .i64 sB 31 = (T1 : Int) := hT2
          obtain ⟨T4, hT4, hT5⟩ := and_mask sC 15 (by decide)
          have hT6 : bits .and .i64 sC 15 = (T4 : Int) := hT5
          have hsum : IntKind.i64.wrap (clk + (T1 : Int)) = clk + (T1 : Int) := IntWalk.i64_in _ (by omega)
          clear hT2 hT5
          go_wp2_with fail
          go_quiet (fail)
          go_wp2_with fail
          go_meet
          exact ⟨_, (T4 : Int), _, rfl, rfl, WalkArith.wf_i64 ⟨by omega, by omega⟩, rfl⟩
      obtain ⟨a, id, q, rfl, rfl, hwid, rfl⟩ := hcut
      have HTb := Lib.hid (HTa.out.more (below_drewN (Below.refl _ _) q))
      have hSb : Hid (Blk (wa.drewN q) bs #[.int .i64 sA, .int .i64 sB, .int .i64 sC, .bool sD] 46) := hS.out
      obtain ⟨wb, hwb⟩ := nm (wa.drewN q)
      rw [← hwb.out] at HTb hSb
      rw [← hwb.out]
      have s0 : wb.cell? ⟨bs, 0, none⟩ = some (.int .i64 sA) := hSb.out.cell 0
      obtain ⟨K, hK1, hK2⟩ := and_mask sA 3 (by decide)
      have hK3 : bits .and .i64 sA 3 = (K : Int) := hK2
      clear hK2 s1 s2 s3 r1 hwb
      have hK0 : (0 : Int) ≤ (K : Int) := by omega
      go_upto_block 2 with fail
      go_cut [10] (fun s10 wx => s10 = .bool true ∧ ∃ (F' : Nat → Prop) (ao' : Option Addr) (n' cap' : Nat) (L' : List (Int × Int)) (clk' : Int), 0 ≤ clk' ∧ clk' ≤ 1125899906842624 ∧ Two w wx p F' p2 ao' n' cap' L' clk' L' clk')
      case first =>
        by_cases h2 : K = 2
        · have e2 : ((K : Int) == 2) = true := by simp; omega
          obtain ⟨bb, hbb⟩ := nm (decide (id ∈ idsL L))
          have HS := Lib.hid (stop_is p F L (outL L id) clk id bb hwid rfl (hidSymm hbb) w wb HTb.out.wb)
          clear h2 s0
          go_wp2_with fail
          refine HS.out.mono ?_; rintro e w4 ⟨rfl, hW4, hk4⟩
          have HT4 := Lib.hid (HTb.out.whl hW4 hk4 (fun k e => .inl e))
          have HR := Lib.hid (refstop_any p2 n2 cap2 ao2 L clk id bb (hidSymm hbb) HTb.out.wb.whl.nodup hn2 w4 HT4.out.rw_)
          clear hW4 hk4
          go_wp2_with fail
          refine HR.out.mono ?_; rintro e w5 ⟨rfl, hE⟩
          obtain ⟨ao', n', cap', hT5⟩ := HT4.out.ref hE
          have HT5 := Lib.hid hT5
          have ebb : (bb == bb) = true := by simp
          clear hE hT5
          go_wp2_with fail
          go_meet
          exact ⟨rfl, _, _, _, _, _, _, hc0, hc1, HT5.out⟩
        · by_cases h3 : K = 3
          · have e2 : ((K : Int) == 2) = false := by simp; omega
            have e3 : ((K : Int) == 3) = true := by simp; omega
            obtain ⟨C', hC'⟩ := nm (dueC clk a)
            have hb0 : 0 ≤ C' ∧ C' ≤ 1125899906842624 := by
              rw [hC'.out]; unfold dueC
              split <;> omega
            obtain ⟨DD, hDD⟩ := nm (dueL L C').length
            have HS := Lib.hid (due_new p F L (dueL L C') (restL L C') clk a C' DD (hidSymm hC') rfl rfl (hidSymm hDD) w wb HTb.out.wb)
            have hDD4 : DD ≤ 4096 := by
              have h1 := due_len L C'
              have h4 := HTb.out.wb.whl.len
              have h5 := hDD.out
              omega
            clear h2 h3 s0
            go_wp2_with fail
            refine HS.out.mono ?_; rintro e w4 ⟨⟨a4, c4, rfl, hS4, hf4⟩, hW4, hk4⟩
            have HT4 := Lib.hid (HTb.out.whl hW4 hk4 (fun k e => .inl e))
            have HS4 := Lib.hid hS4
            have HR := Lib.hid (refdue_any p2 n2 cap2 ao2 L clk a C' DD (hidSymm hC') hDD HTb.out.wb.whl.asc hn2 w4 HT4.out.rw_)
            have hf5 : Hid (∀ a, a4 = some a → a.block ≠ p2) := by
              intro x hx e
              have h6 := hf4 x hx
              have h7 := HTb.out.rw_.blk.lt
              omega
            clear hW4 hk4 hS4 hf4
            go_wp2_with fail
            refine HR.out.mono ?_; rintro e w5 ⟨rfl, hs5, hE⟩
            have HS5 : Hid (SlP w5 a4 (dueL L C')) := by
              obtain ⟨_, _, _, _, k5, _⟩ := hE
              exact HS4.out.keptS k5 fun x hx e => hf5.out x hx e
            obtain ⟨ao', n', cap', hT5⟩ := HT4.out.ref hE
            have HT5 := Lib.hid hT5
            have HM5 := Lib.hid hs5
            clear hE hT5 hs5
            go_wp2_with fail
            refine (same_any a4 ao2 c4 cap2 DD DD (dueL L C') (dueL L C') (hidSymm hDD) (hidSymm hDD) _ (by omega) HS5.out HM5.out true (by show _ = _; exact (decide_eq_true rfl).symm)).mono ?_; rintro e w6 ⟨rfl, q6, rfl⟩
            have HT6 := Lib.hid (HT5.out.more (below_drewN (Below.refl _ _) q6))
            go_wp2_with fail
            go_meet
            exact ⟨rfl, _, _, _, _, _, _, hb0.1, hb0.2, HT6.out⟩
          · have e2 : ((K : Int) == 2) = false := by simp; omega
            have e3 : ((K : Int) == 3) = false := by simp; omega
            obtain ⟨cc, hcc⟩ := nm (setC L a id)
            have HS := Lib.hid (wset_any p F L clk a id cc (hidSymm hcc) hwid w wb HTb.out.wb)
            clear h2 h3 s0
            go_wp2_with fail
            refine HS.out.mono ?_; rintro e w4 ⟨rfl, F', hW4, hk4, hF4⟩
            have HT4 := Lib.hid (HTb.out.whl hW4 hk4 hF4)
            have HR := Lib.hid (rset_any p2 n2 cap2 ao2 L clk a id cc (hidSymm hcc) hn2 HTb.out.wb.whl.asc w4 HT4.out.rw_)
            clear hW4 hk4 hF4
            go_wp2_with fail
            refine HR.out.mono ?_; rintro e w5 ⟨rfl, hE⟩
            obtain ⟨ao', n', cap', hT5⟩ := HT4.out.ref hE
            have HT5 := Lib.hid hT5
            have ecc : (cc == cc) = true := by simp
            clear hE hT5
            go_wp2_with fail
            go_meet
            exact ⟨rfl, _, _, _, _, _, _, hc0, hc1, HT5.out⟩
      obtain ⟨rfl, F', ao', n', cap', L', clk', hd0, hd1, hT'⟩ := hcut
      have HT' := Lib.hid hT'
      have r0 : wc.cell? ⟨p2, 0, none⟩ = some (.slice ao' n' cap') := hT'.rw_.blk.cell 0
      have hn' : n' ≤ 4096 := by rw [← hT'.rw_.len]; exact hT'.wb.whl.len
      have hlen' : Hid (L'.length = n') := hT'.rw_.len
      clear hT' HTb hSb s0 hK3 hK0 HT HTa hS
      have HTd : Hid (Two w wc.drew p F' p2 ao' n' cap' L' clk' L' clk') := HT'.out.more (below_drewN (Below.refl _ _) 1)
      go_upto_region 22 with fail
      go_region_held3 (fun w' => w'.cell? ⟨p2, 0, none⟩ = some (.slice ao' n' cap')) (first | assumption | go_keep)
        (first
          | (go_at_call 14; (refine (all_is p F' L' n' hlen' clk' w _ HTd.out.wb).mono ?_); rintro e wA ⟨⟨al, cl, rfl, hSl⟩, hBA⟩; have HTA := HTd.out.more hBA; have rA : wA.cell? ⟨p2, 0, none⟩ = some (.slice ao' n' cap') := HTA.rw_.blk.cell 0)
          | (go_at_call 17; (refine (same_any al ao' cl cap' n' n' L' L' hlen' hlen' _ (by omega) hSl.1 HTA.rw_.sl true (by show _ = _; exact (decide_eq_true rfl).symm)).mono ?_); rintro e wB ⟨rfl, qB, rfl⟩))
      have HTB := Lib.hid (HTA.more (below_drewN (Below.refl _ _) qB))
      obtain ⟨wd, hwd⟩ := nm (wA.drewN qB)
      rw [← hwd.out] at HTB
      rw [← hwd.out]
      clear HTA hBA hSl rA r0 hwd
      obtain ⟨BB, hBB⟩ := nm (decide (0 < n'))
      have HNX : Hid (Calls Try.prog 12 #[.pointer (some ⟨p, 0, none⟩)] wd fun e w' => (∃ x1 x2 : Int, e = .returned (.tuple #[.agg #[.int .i64 x1, .int .i64 x2], .bool BB]) ∧ (0 < n' → L'[0]? = some (x1, x2))) ∧ Below wd.heap.size wd w') := by
        have := next_is p F' L' n' hlen' clk' w wd HTB.out.wb
        rwa [← hBB.out] at this
      go_upto_region 24 with (go_at_call 12; refine HNX.out.mono ?_; rintro e w7 ⟨⟨y1, y2, rfl, hy⟩, hB7⟩)
      have HT8 : Hid (Two w (w7.alloc (.cells #[.int .i64 y1, .int .i64 y2] 28)) p F' p2 ao' n' cap' L' clk' L' clk') := (HTB.out.more hB7).more (bOld _)
      have hY8 : Hid (Blk (w7.alloc (.cells #[.int .i64 y1, .int .i64 y2] 28)) w7.heap.size #[.int .i64 y1, .int .i64 y2] 28) := Blk.new _ _ _
      obtain ⟨by_, hby⟩ := nm w7.heap.size
      obtain ⟨w8, hw8⟩ := nm (w7.alloc (.cells #[.int .i64 y1, .int .i64 y2] 28))
      rw [← hw8.out] at HT8
      rw [← hw8.out, ← hby.out] at hY8
      rw [← hw8.out, ← hby.out]
      have HY := Lib.hid hy
      have HCK : Hid (∀ q, Calls Try.prog 20 #[.pointer (some ⟨p, 0, none⟩)] (w8.drewN q) fun e w' => e = .returned (.int .i64 clk') ∧ w' = w8.drewN q) :=
        fun q => (clock_any p F' L' clk' _ (HT8.out.wb.whl.below (below_drewN (Below.refl _ _) q))).mono fun _ _ ⟨a, b⟩ => ⟨a, b.symm⟩
      have c0 : w8.cell? ⟨p2, 0, none⟩ = some (.slice ao' n' cap') := HT8.out.rw_.blk.cell 0
      have c1 : w8.cell? ⟨p2, 1, none⟩ = some (.int .i64 clk') := HT8.out.rw_.blk.cell 1
      have hcc : (clk' != clk') = false := by simp
      have HK8 : Hid (∀ q, Two w (w8.drewN q) p F' p2 ao' n' cap' L' clk' L' clk') := fun q => HT8.out.more (below_drewN (Below.refl _ _) q)
      clear hy hB7 hw8 hby
      cases BB
      · have hd : decide (0 < n') = false := hBB.out.symm
        have hn0 : ¬ 0 < n' := by simpa using hd
        have hdi : decide ((0 : Int) < (n' : Int)) = false := decide_eq_false (by omega)
        clear hn0
        go_quiet ((go_at_call 20; exact Calls.quiet_of_same (HCK.out _)))
        have H9 := HK8.out nq
        go_wp2_with fail
        go_roundw
        case rel => exact ⟨k + 1, F', ao', n', cap', L', clk', by omega, by go_num, hd0, hd1, H9⟩
        case measure => simp [intOf]; omega
      · have hd : decide (0 < n') = true := hBB.out.symm
        have hn0 : 0 < n' := by simpa using hd
        have hdi : decide ((0 : Int) < (n' : Int)) = true := decide_eq_true (by omega)
        have hi0 : (0 : Int) < (n' : Int) := by omega
        have hpk := HY.out hn0
        obtain ⟨b3, o3, he3, hb3, h3⟩ := HT8.out.rw_.sl 0 (by rw [hlen'.out]; exact hn0)
        obtain ⟨e0, e1⟩ := h3 0 (y1, y2) hpk
        simp only [Nat.zero_mul, Nat.add_zero] at e0 e1
        subst he3
        have y0 : w8.cell? ⟨by_, 0, none⟩ = some (.int .i64 y1) := hY8.out.cell 0
        have y9 : w8.cell? ⟨by_, 1, none⟩ = some (.int .i64 y2) := hY8.out.cell 1
        have heq := fun w => neqD y1 y2 y1 y2 true (by simp) w
        have hgd := fun (a b : Operand) (w : World) => guardD .neq a b #[.int .i64 y1, .int .i64 y2] #[.int .i64 y1, .int .i64 y2] w
        clear h3 hpk hn0
        go_quiet ((go_at_call 20; exact Calls.quiet_of_same (HCK.out _)))
        have H9 := HK8.out nq
        go_wp2_with fail
        go_roundw
        case rel => exact ⟨k + 1, F', _, n', cap', L', clk', by omega, by go_num, hd0, hd1, H9⟩
        case measure => simp [intOf]; omega
    · obtain rfl : k = N := by omega
      rcases Nat.lt_or_ge k len with hkl | hkl
      · have hk20 : decide (k < 60) = false := decide_eq_false (by have := hN.out; omega)
        have hk20i : decide ((k : Int) < 60) = false := decide_eq_false (by have := hN.out; omega)
        go_wp2_with fail
        go_ret
        exact ⟨rfl, HT.out.wb.below⟩
      · have hkd : decide (k < len) = false := decide_eq_false (by omega)
        go_wp2_with fail
        go_ret
        exact ⟨rfl, HT.out.wb.below⟩
namespace LWheelPlays
open Go.ChangeShapes Go.WideShapes Go.ChangeAt
open Go.ChangeMaps (open_string shut_string)

set_option maxRecDepth 100000 in
theorem contract (H : Type) (enc : TypeId × Value → H) (W : World) (base : Nat) (args : Array Value) (ds gs : List (DataW H)) (before : List MemPlace)
    (hval : ∀ (j : Nat) t v, Try.f7.params[j]? = some t → args[j]? = some v → Value.okWide Try.prog W .any base t v)
    (hW : DataW.Whole enc Try.prog Try.f7.params.toList Rows.wheelPlaysSpec.vars false W args.toList ds gs before)
    (_hsz : (DataW.weightsEach Try.prog (Try.f7.params.toList ++ (OpenSpec.ofChange Rows.wheelPlaysSpec).bare.plain.varTypes Try.prog) (ds ++ gs)).all (fun x => decide (x ≤ reachBytes)) = true) :
    Calls Try.prog 7 args W fun e W' => ∃ v, e = .returned v ∧ Rows.wheelPlaysSpec.post enc Try.prog Try.f7 false true false false W args v W' := by
  have hW' := hW
  obtain ⟨p, q, hA0, hV, rfl, hfz, hnd⟩ := hW
  have hA : DataW.TrodAll enc Try.prog W 0 (fun _ => true) true Try.f7.params.toList args.toList ds p := hA0
  rw [Try.params7] at hA hval
  obtain ⟨v0, vs0, d0, ds0, p0, q0, hargs, rfl, rfl, h0, r0⟩ := trodAll_cons hA
  obtain ⟨rfl, rfl, rfl⟩ := trodAll_nil r0
  obtain rfl : args = #[v0] := by cases args; simp_all
  obtain ⟨rfl, rfl⟩ := trodVars_none hV
  obtain ⟨ao0, len0, cap0, A0, B0, C0, D0, rfl, hlc0, hcm0, hat0⟩ := open_rows4 Try.underlying41 Try.underlying46 (show Try.prog.cellsOf 46 = 4 by kernel_rfl) ⟨rfl, rfl⟩ ⟨rfl, rfl⟩ ⟨rfl, rfl⟩ ⟨rfl, rfl⟩ Try.underlying3 Try.underlying4 (show Try.prog.cellsOf 3 = 1 by kernel_rfl) (show Try.prog.cellsOf 4 = 1 by kernel_rfl) h0 (okWide_slice Try.underlying41 (hval 0 41 v0 rfl rfl))
  clear hA0
  refine (wheelPlays_walk ao0 len0 cap0 A0 B0 C0 D0 (Nat.le_trans hlc0 hcm0) W hat0).mono fun e W' ⟨he, hb⟩ => ?_
  subst he
  exact ⟨_, rfl, law_post laidOut Try.underlying4 rfl (by kernel_rfl) rfl rfl rfl rfl hW' hb⟩

theorem reads (os : Os) {H : Type} (enc : TypeId × Value → H) : ∃ places, DataW.whole enc Try.prog ((World.holding Try.prog os ⟨#[], #[], []⟩).forCall (fun _ _ => 0) ⟨#[], #[.slice none 0 0], []⟩).memory Try.f7.params.toList Rows.wheelPlaysSpec.vars false (#[.slice none 0 0] : Array Value).toList 8 = some ([.nil], [], places) :=
  ⟨[], by kernel_rfl⟩
theorem laid_met (os : Os) : laidMet Try.prog Rows.wheelPlaysRow.laid ((World.holding Try.prog os ⟨#[], #[], []⟩).forCall (fun _ _ => 0) ⟨#[], #[.slice none 0 0], []⟩).memory :=
  laidMet_of_run' 8 (by kernel_rfl) (by kernel_rfl)

set_option maxRecDepth 100000 in
theorem lifted (os : Os) (started : os.Started) (H : Type) (enc : TypeId × Value → H) (F : Stop.Interp) :
    ReturnsInHanded {} Try.checked os 7 .any ((OpenSpec.ofChange Rows.wheelPlaysSpec).preRow enc Try.prog Try.f7 Rows.wheelPlaysRow.domain false Rows.wheelPlaysRow.laid) (((OpenSpec.ofChange Rows.wheelPlaysSpec).at F).post enc Try.prog Try.f7 false true false false) := by
  obtain ⟨places, hx⟩ := reads os enc
  refine returnsInHanded_of_row (C := Try.checked) (s := OpenSpec.ofChange Rows.wheelPlaysSpec) own started (by kernel_rfl) Try.func7
    (witness_row_at (enc := enc) (C := Try.checked) false (World.holding Try.prog os ⟨#[], #[], []⟩) #[.slice none 0 0] rfl (by kernel_rfl) (by kernel_rfl) (by kernel_rfl)
      (OpenSpec.preRow_of_cond 8 hx (by kernel_rfl) (fun k hk => by cases hk) (by kernel_rfl) (laid_met os))) ?_
  intro W base args ds gs before hval hW _ _ hsz hL _ _
  exact contract H enc W base args ds gs before hval hW hsz

theorem said : Rows.WheelPlaysSaid :=
  OpenClaim.holds_of_cond 7 Try.f7 rfl rfl rfl rfl rfl rfl rfl ⟨rfl, rfl, rfl, rfl, rfl⟩ rfl rfl rfl rfl rfl (by kernel_rfl) Try.func7 (by kernel_rfl)
    (of_decide_eq_true (by kernel_rfl)) (by unfold Func.isWrapper; first | (rw [if_pos (by decide +kernel)]; kernel_rfl) | (rw [if_neg (by decide +kernel)]; exact ⟨rfl, rfl⟩))
    (fun os started H enc _ F => by rw [OpenClaim.pre_eq_preRow]; exact lifted os started H enc F)
end LWheelPlays
end Go.Proofs.Ytipnfalmnoieiaa
