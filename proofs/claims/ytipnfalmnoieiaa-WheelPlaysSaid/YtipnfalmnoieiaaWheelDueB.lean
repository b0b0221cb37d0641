/- The wheel as a row that rises: Due. -/
import Derived.Test.YtipnfalmnoieiaaWheelDue
namespace Go.Proofs.Ytipnfalmnoieiaa
open Go.RowKit Go.Shelf Go.Lib Go.Sort Go.Maps

/-- A wheel's time behind a call of Due. -/
def dueC (clk now : Int) : Int := if now ≤ 1125899906842624 then max clk now else clk
theorem WL.setClk {w : World} {p : Nat} {F : Nat → Prop} {L : List (Int × Int)} {clk : Int} (h : WL w p F L clk) (C : Int) : WL (w.setCell ⟨p, 2, none⟩ (.int .i64 C)) p F L C := by
  refine ⟨h.asc, h.nodup, h.wf, h.len, ?_⟩
  have K : KeptS (fun k => k = p) w (w.setCell ⟨p, 2, none⟩ (.int .i64 C)) := (KeptS.refl (fun k => k = p) w).set ⟨p, 2, none⟩ rfl _
  rcases h.mem with ⟨h1, h2, h3⟩ | ⟨g, cap, m, A, D, h1, h2, h3, h4, h5⟩
  · exact .inl ⟨h1, h2.set 2 _, h3⟩
  · exact .inr ⟨g, cap, m, A, D, ⟨h1.blk.set 2 _, h1.size, h1.row.kept (K.block g h1.row.lt h1.pg.symm), h1.map.kept (K.block m h1.map.lt h1.pm.symm), h1.pg, h1.pm, h1.gm⟩, h2, h3, h4, h5⟩
theorem WL.clkFree {w : World} {p : Nat} {F : Nat → Prop} {L : List (Int × Int)} {clk : Int} (h : WL w p F L clk) : w.frozen? ⟨p, 2, none⟩ = false := by
  rcases h.mem with ⟨h1, h2, h3⟩ | ⟨g, cap, m, A, D, h1, h2, h3, h4, h5⟩
  · exact h2.free 2
  · exact h1.blk.free 2
/-- How many a wheel holds. -/
def heapN (w : World) (p : Nat) : Nat := match w.cell? ⟨p, 0, none⟩ with
  | some (.slice _ n _) => n
  | _ => 0
theorem WL.heapN {w : World} {p : Nat} {F : Nat → Prop} {L : List (Int × Int)} {clk : Int} (h : WL w p F L clk) : heapN w p = L.length := by
  obtain ⟨ao, cap, mv, c, c0, _⟩ := h.view 0 (by decide)
  simp [Go.Proofs.Ytipnfalmnoieiaa.heapN, c0]
theorem take_first (p : Nat) (F : Nat → Prop) (L : List (Int × Int)) (x1 x2 clk : Int) (w : World) (h : WL w p F ((x1, x2) :: L) clk) :
    Calls Try.prog 22 #[.pointer (some ⟨p, 0, none⟩), .int .i64 0] w fun e w' => e = .returned (.agg #[.int .i64 x1, .int .i64 x2]) ∧ WL w' p F L clk ∧ KeptS F w w' := by
  rcases h.mem with ⟨e, _⟩ | ⟨g, cap, m, A, D, h1, h2, h3, h4, h5⟩
  · cases e
  · have hs : A.size = ((x1, x2) :: L).length := h1.size
    have hf := first_head h4 h2 h.asc
    have hT := take_any p g cap m _ 0 clk A D (by simp) (by have := h.len; omega) h2 h3 ((ids_perm_L h4).nodup_iff.2 h.nodup) (h.wf.heap h4) w h1
    rw [hf] at hT
    refine hT.mono ?_
    rintro e w' ⟨rfl, hE⟩
    have := take_row h.asc h.nodup h.wf h.len h4 (by simp) hE F h5
    rw [hf] at this
    have ho := out_head h.nodup
    simp only at ho this
    rw [ho] at this
    exact ⟨rfl, this⟩
theorem OwnP.keptS {S : Nat → Prop} {w w' : World} {base : Nat} {t : TypeId} {v : Value} {ps : List (Int × Int)} (h : OwnP w base t v ps) (hk : KeptS S w w') (hS : ∀ k, base ≤ k → ¬ S k) : OwnP w' base t v ps := by
  refine ⟨h.1, ?_⟩
  rcases h.2 with h2 | ⟨g, cap, cur, h1, h2, h3, h4⟩
  · exact .inl h2
  · exact .inr ⟨g, cap, cur, h1, h2, (hk.block g (lt_of_block h3) (hS g h2)).trans h3, h4⟩

/-- How a wheel stands while what is due is taken. -/
structure DueAt (w w' : World) (p : Nat) (F : Nat → Prop) (L : List (Int × Int)) (clk : Int) (v : Value) (out L' : List (Int × Int)) : Prop where
  whl : WL w' p F L' clk
  own : OwnP w' w.heap.size 28 v out
  kept : KeptS F w w'
  due : dueL L clk = out ++ dueL L' clk
  rest : restL L clk = restL L' clk
theorem due_len (L : List (Int × Int)) (c : Int) : (dueL L c).length ≤ L.length := List.length_filter_le _ _

set_option maxRecDepth 100000 in
set_option maxHeartbeats 4000000 in
theorem due_any (p : Nat) (F : Nat → Prop) (L : List (Int × Int)) (clk now : Int) (C : Int) (hC : Hid (dueC clk now = C)) (w : World) (h : WL w p F L clk) :
    Calls Try.prog 13 #[.pointer (some ⟨p, 0, none⟩), .int .i64 now] w fun e w' => ∃ v, e = .returned v ∧ OwnP w' w.heap.size 28 v (dueL L C) ∧ WL w' p F (restL L C) C ∧ KeptS F w w' := by
  obtain ⟨ao, cap, mv, c, c0, c1, c2, hl⟩ := h.view 0 (by decide)
  have f2 := h.clkFree
  have hLl := h.len
  have HW := Lib.hid h
  have HF : Hid (∀ k, F k → k < w.heap.size) := h.lt
  clear h hl c1 c0
  go_enter Try.func13, Try.ntmps13
  go_upto_if 9 with (fail)
  go_cut [] (fun wx => WL wx p F L C ∧ KeptS F w wx)
  case first =>
    by_cases hn : now ≤ 1125899906842624
    · have hd : decide (now ≤ 1125899906842624) = true := decide_eq_true hn
      have hm : Hid (max clk now = C) := by
        show _ = _
        have := hC.out
        unfold dueC at this
        rwa [if_pos hn] at this
      have hmm : max clk now = C := hm.out
      go_wp2_with fail
      go_meet
      exact ⟨HW.out.setClk C, (KeptS.refl F w).set ⟨p, 2, none⟩ HW.out.own _⟩
    · have hd : decide (now ≤ 1125899906842624) = false := decide_eq_false hn
      go_wp2_with fail
      go_meet
      have hcc : clk = C := by
        have := hC.out
        unfold dueC at this
        rwa [if_neg (by omega)] at this
      exact ⟨hcc ▸ HW.out, KeptS.refl _ _⟩
  obtain ⟨hw1, hk1⟩ := hcut
  have H0 : Hid (DueAt w wc p F L C (.slice none 0 0) [] L) := ⟨hw1, OwnP.nil _ _ _, hk1, rfl, rfl⟩
  clear hw1 hk1 c2 f2
  go_wp2_with fail
  go_loopw [5] (fun v wr => ∃ out L', DueAt w wr p F L C v out L') (fun _ wr => heapN wr p)
  case atStart => exact ⟨[], L, H0.out⟩
  case round =>
    obtain ⟨out, L', hD⟩ := hrel
    have HD := Lib.hid hD
    have hol : out.length ≤ 4096 := by
      have h1 := due_len L C
      rw [hD.due, List.length_append] at h1
      omega
    cases L' with
    | nil =>
      obtain ⟨ao', cap', mv', c', c0, z1, c2, z2⟩ := hD.whl.view 0 (by decide)
      clear z1 z2
      rw [List.length_nil] at c0
      clear hD
      go_wp2_with fail
      go_quiet (fail)
      go_wp2_with fail
      go_ret
      have hb := Below.refl wr.heap.size wr
      have hk : KeptS (fun _ => False) wr (wr.drewN nq) := (KeptS.refl _ _).drewN nq
      refine ⟨_, rfl, ?_, ?_, HD.out.kept.drewN nq⟩
      · have := HD.out.due
        simp only [dueL, List.filter_nil, List.append_nil] at this
        rw [show dueL L C = out from this]
        exact HD.out.own
      · rw [HD.out.rest]; exact HD.out.whl.kept hk fun _ _ h => h
    | cons x L' =>
      obtain ⟨x1, x2⟩ := x
      obtain ⟨g, cap', c0, e0, e1⟩ := hD.whl.first
      obtain ⟨ao', cap2, mv', c', z0, z1, c2, z2⟩ := hD.whl.view 0 (by decide)
      clear z0 z1 z2
      obtain ⟨n, hn⟩ := nm ((x1, x2) :: L').length
      rw [← hn.out] at c0
      have hn0 : 0 < n := by rw [hn.out]; simp
      have hnd : decide ((0 : Int) < (n : Int)) = true := decide_eq_true (by omega)
      have hni : (0 : Int) < (n : Int) := by omega
      simp only at e0 e1
      clear hD
      by_cases hx : x1 ≤ C
      · have hxd : decide (x1 ≤ C) = true := decide_eq_true hx
        go_wp2_with fail
        go_quiet (fail)
        have hk : KeptS (fun _ => False) wr (wr.drewN nq) := (KeptS.refl _ _).drewN nq
        have HT := Lib.hid (take_first p F L' x1 x2 C (wr.drewN nq) (HD.out.whl.kept hk fun _ _ h => h))
        obtain ⟨wq, hwq⟩ := nm (wr.drewN nq)
        have HOQ : Hid (OwnP wq w.heap.size 28 u5 out) := by show OwnP _ _ _ _ _; rw [hwq.out]; exact HD.out.own
        have HKQ : Hid (KeptS F w wq) := by show KeptS _ _ _; rw [hwq.out]; exact HD.out.kept.drewN nq
        rw [← hwq.out] at HT
        rw [← hwq.out]
        clear hk c0 c2 e0 e1
        go_wp2_with fail
        refine HT.out.mono ?_; rintro e w2 ⟨rfl, hW2, hK2⟩
        have hnF : ∀ k, w.heap.size ≤ k → ¬ F k := fun k h1 h2 => by have := HF.out k h2; omega
        have hown2 := HOQ.out.keptS hK2 hnF
        have hK3 : KeptS F w w2 := HKQ.out.trans hK2
        have hsz := hK3.size
        have HW2 := Lib.hid hW2
        have HK3 := Lib.hid hK3
        clear hK2 hW2 hnF hK3
        go_wp2_with (at_builtin; refine app_pairs rfl _ _ rfl w.heap.size _ out rfl (hown2.alloc _) (some ⟨w2.heap.size, 0, none⟩) 1 1 [(x1, x2)] rfl rfl (fun h => by cases h) (SlP.ofBlk (Blk.new w2 _ _)) (by omega) (Nat.le_trans hsz (by simp)) ?_)
        intro v' w4 hown4 hg4
        have hD4 : DueAt w w4 p F L C v' (out ++ [(x1, x2)]) L' := by
          have hb : ∀ b, Value.ownBlock u5 = some b → w.heap.size ≤ b := fun b e => (hown2.lt b e).1
          have k4 : KeptS (fun k => Value.ownBlock u5 = some k) w2 w4 := KeptS.grown ((KeptS.refl _ w2).alloc _) hg4 fun b e _ => e
          obtain ⟨q1, q2⟩ := due_cons_le (x := (x1, x2)) (L := L') (c := C) hx
          refine ⟨HW2.out.kept k4 fun k h1 h2 => ?_, hown4, HK3.out.transOn k4 fun k h1 h2 => ?_, ?_, ?_⟩
          · have := HF.out k h1; have := hb k h2; omega
          · have := hb k h2; omega
          · rw [HD.out.due, q1, List.append_assoc]; rfl
          · rw [HD.out.rest, q2]
        have hm4 : Hid (heapN w4 p < heapN wr p) := by
          show _ < _
          rw [hD4.whl.heapN, HD.out.whl.heapN]
          simp
        clear hown2 hown4 hg4
        go_wp2_with fail
        go_roundw
        case rel => exact ⟨_, L', hD4⟩
        case measure => exact hm4.out
      · have hxd : decide (x1 ≤ C) = false := decide_eq_false hx
        go_wp2_with fail
        go_quiet (fail)
        go_wp2_with fail
        go_ret
        have hk : KeptS (fun _ => False) wr (wr.drewN nq) := (KeptS.refl _ _).drewN nq
        obtain ⟨q1, q2⟩ := due_cons_gt (c := C) HD.out.whl.asc (by simp only; omega)
        refine ⟨_, rfl, ?_, ?_, HD.out.kept.drewN nq⟩
        · rw [HD.out.due, q1, List.append_nil]; exact HD.out.own
        · rw [HD.out.rest, q2]; exact HD.out.whl.kept hk fun _ _ h => h
end Go.Proofs.Ytipnfalmnoieiaa
