/- view.changed; Suspect, Refute, Leave. -/
import Derived.Test.YtpolhdkjkidpgaaViewClone
import Derived.Deep.LoopGhost
namespace Go.Proofs.Ytpolhdkjkidpgaa
open Go.RowKit Go.Shelf Go.Lib Go.Sort

/-- An own row's block. -/
theorem OwnT.blk {w : World} {base : Nat} {t : TypeId} {v : Value} {ps : List P3} (h : OwnT w base t v ps) :
    (v = .slice none 0 0 ∧ ps = []) ∨ ∃ g off cap cur, v = .slice (some ⟨g, off, none⟩) ps.length cap ∧ Hid (off = 0) ∧ base ≤ g ∧ Blk w g cur t ∧ ps.length ≤ cap ∧
      ∀ j p, ps[j]? = some p → cur[j * 3]? = some (.int .i64 p.1) ∧ cur[j * 3 + 1]? = some (.int .i64 p.2.1) ∧ cur[j * 3 + 2]? = some (.int .i64 p.2.2) := by
  rcases h.2 with ⟨rfl, h0⟩ | ⟨g, cap, cur, rfl, hb, hg, hc, hm, _, ht⟩
  · exact .inl ⟨rfl, List.length_eq_zero_iff.1 h0⟩
  · refine .inr ⟨g, 0, cap, cur, rfl, Lib.hid rfl, hb, hg, hc, fun j p hj => ?_⟩
    obtain ⟨e1, e2, e3⟩ := flatT_get ps j p hj
    have hlt : j < ps.length := by
      rcases Nat.lt_or_ge j ps.length with h | h
      · exact h
      · rw [List.getElem?_eq_none h] at hj; cases hj
    rw [← ht, List.getElem?_take, if_pos (by omega)] at e1 e2 e3
    simp only [Array.getElem?_toList] at e1 e2 e3
    exact ⟨e1, e2, e3⟩
/-- One element is set. -/
theorem slT_set {w : World} {g : Nat} {cur : Array Value} {t : TypeId} {ps : List P3} {k : Nat} (q : P3) (hk : k < ps.length) (hb : Blk w g cur t)
    (hc : ∀ j p, ps[j]? = some p → cur[j * 3]? = some (.int .i64 p.1) ∧ cur[j * 3 + 1]? = some (.int .i64 p.2.1) ∧ cur[j * 3 + 2]? = some (.int .i64 p.2.2)) :
    SlT (((w.setCell ⟨g, k * 3, none⟩ (.int .i64 q.1)).setCell ⟨g, k * 3 + 1, none⟩ (.int .i64 q.2.1)).setCell ⟨g, k * 3 + 2, none⟩ (.int .i64 q.2.2)) (some ⟨g, 0, none⟩) (ps.set k q) := by
  have hB := ((hb.set (k * 3) (.int .i64 q.1)).set (k * 3 + 1) (.int .i64 q.2.1)).set (k * 3 + 2) (.int .i64 q.2.2)
  have hsz : k * 3 + 2 < cur.size := by
    have := (hc k ps[k] (List.getElem?_eq_getElem hk)).2.2
    rcases Nat.lt_or_ge (k * 3 + 2) cur.size with h | h
    · exact h
    · rw [Array.getElem?_eq_none h] at this; cases this
  intro i hi
  refine ⟨g, 0, rfl, hB.lt, fun j p hj => ?_⟩
  rw [Nat.zero_add, hB.cell, hB.cell, hB.cell]
  simp only [Array.getElem?_setIfInBounds, Array.size_setIfInBounds]
  by_cases e : j = k
  · subst e
    rw [List.getElem?_set_self hk] at hj
    obtain rfl := Option.some.inj hj
    simp
    omega
  · rw [List.getElem?_set_ne (fun h => e h.symm)] at hj
    obtain ⟨c0, c1, c2⟩ := hc j p hj
    rw [if_neg (by omega), if_neg (by omega), if_neg (by omega), if_neg (by omega), if_neg (by omega), if_neg (by omega), if_neg (by omega), if_neg (by omega), if_neg (by omega)]
    exact ⟨c0, c1, c2⟩

set_option maxRecDepth 100000 in
set_option maxHeartbeats 1000000 in
theorem changed_any (A : List P3) (n : Nat) (hn : Hid (A.length = n)) (hl : n ≤ 1000) (f : P3 → P3) (g : Nat) (eg : ∀ args w, (callFunc g args).run Try.prog w = .ok (.enter g args) w)
    (hg : Hid (∀ (x y z : Int) (w : World), (x, y, z) ∈ A → ∃ r0 r1 r2, Hid (f (x, y, z) = (r0, r1, r2)) ∧ Calls Try.prog g #[.agg #[.int .i64 x, .int .i64 y, .int .i64 z]] w fun e w' => e = .returned (.agg #[.int .i64 r0, .int .i64 r1, .int .i64 r2]) ∧ Below w.heap.size w w'))
    (id : Int) (v : Value) (w : World) (hv : Vw w v A) :
    Calls Try.prog 44 #[v, .int .i64 id, .func (.func g) #[] #[]] w fun e w' => ∃ v', e = .returned v' ∧ Vw w' v' (chgL f id A) ∧ Below w.heap.size w w' := by
  have HC := Lib.hid (clone_any A (by rw [hn.out]; exact hl) v w hv)
  clear hv
  go_enter Try.func44, Try.ntmps44
  go_wp2_with fail
  refine HC.out.mono ?_; rintro e w1 ⟨v1, rfl, hown, hB1⟩
  have HB1 := Lib.hid hB1
  rcases hown.blk with ⟨rfl, rfl⟩ | ⟨b, off, cap, cur, rfl, hoff, hbb, hblk, hcl, hcur⟩
  · go_wp2_with fail
    refine wp_loop_rounds 1 ?_
    rw [rounds_succ]
    go_wp2_with fail
    go_ret
    exact ⟨_, rfl, Vw.nil _, HB1.out⟩
  have HSL := Lib.hid hown.sl
  have HBLK := Lib.hid hblk
  have HCUR := Lib.hid hcur
  rw [hn.out] at hcl ⊢
  have hbl : b < w1.heap.size := hblk.lt
  clear hown hB1 hblk hcur
  go_wp2_with fail
  go_loopw [14] (fun i wr => ∃ k : Nat, k ≤ n ∧ i = .int .i64 (k : Int) ∧ Below w1.heap.size w1 wr ∧ Hid (∀ j q, j < k → A[j]? = some q → q.1 ≠ id)) (fun i _ => n - (intOf i).toNat)
  case atStart => exact ⟨0, by omega, rfl, Below.refl _ _, by show ∀ j q, _; intro j q hj; omega⟩
  case round =>
    obtain ⟨k, hk, rfl, hB, hI⟩ := hrel
    by_cases hlt : k < n
    · have hbk := Blk.below HBLK.out hB hbl
      obtain ⟨⟨x, y, z⟩, hp⟩ : ∃ p, p = A[k]'(by rw [hn.out]; exact hlt) := ⟨_, rfl⟩
      have hpk : Hid (A[k]? = some (x, y, z)) := by show _ = _; rw [hp]; exact List.getElem?_eq_getElem _
      obtain ⟨e0, e1, e2⟩ := HCUR.out k _ hpk.out
      have d0 : wr.cell? ⟨b, off + k * 3, none⟩ = some (.int .i64 x) := by rw [hoff.out, Nat.zero_add, hbk.cell]; exact e0
      have d1 : wr.cell? ⟨b, off + k * 3 + 1, none⟩ = some (.int .i64 y) := by rw [hoff.out, Nat.zero_add, hbk.cell]; exact e1
      have d2 : wr.cell? ⟨b, off + k * 3 + 2, none⟩ = some (.int .i64 z) := by rw [hoff.out, Nat.zero_add, hbk.cell]; exact e2
      by_cases hx : x = id
      · obtain ⟨r0, r1, r2, hf, hcall⟩ := hg.out x y z (wr.alloc (.cells #[.int .i64 x, .int .i64 y, .int .i64 z] 32)) (List.mem_of_getElem? hpk.out)
        have HCALL := Lib.hid hcall
        have HBR := Lib.hid hB
        have HE : Hid (chgL f id A = A.set k (r0, r1, r2)) := by
          show _ = _
          rw [chgL_at f id A k (x, y, z) hpk.out hx hI.out, hf.out]
        clear hp e0 e1 e2 hcall hB hbk
        subst hx
        have HB2 : Hid (Below w1.heap.size w1 (wr.alloc (.cells #[.int .i64 x, .int .i64 y, .int .i64 z] 32))) := bNew HBR.out _
        go_wp2_with fail
        refine HCALL.out.mono ?_; rintro e w3 ⟨rfl, hB3⟩
        have hb3 := Blk.below HBLK.out (bNext HB2.out hB3) hbl
        have hx3 : b < w3.heap.size := hb3.lt
        have f0 : w3.frozen? ⟨b, off + k * 3, none⟩ = false := hb3.free _
        have f1 : w3.frozen? ⟨b, off + k * 3 + 1, none⟩ = false := hb3.free _
        have f2 : w3.frozen? ⟨b, off + k * 3 + 2, none⟩ = false := hb3.free _
        have g0 : w3.cell? ⟨b, off + k * 3, none⟩ = some (.int .i64 x) := by rw [hoff.out, Nat.zero_add, hb3.cell]; exact (HCUR.out k _ hpk.out).1
        have g1 : w3.cell? ⟨b, off + k * 3 + 1, none⟩ = some (.int .i64 y) := by rw [hoff.out, Nat.zero_add, hb3.cell]; exact (HCUR.out k _ hpk.out).2.1
        have g2 : w3.cell? ⟨b, off + k * 3 + 2, none⟩ = some (.int .i64 z) := by rw [hoff.out, Nat.zero_add, hb3.cell]; exact (HCUR.out k _ hpk.out).2.2
        go_wp2_with fail
        go_ret
        have hBF := ((((bNext HB1.out (bNext HB2.out hB3)).setCell (p := ⟨b, off + k * 3, none⟩) hbb (.int .i64 r0)).setCell (p := ⟨b, off + k * 3 + 1, none⟩) hbb (.int .i64 r1)).setCell (p := ⟨b, off + k * 3 + 2, none⟩) hbb (.int .i64 r2))
        refine ⟨_, rfl, ?_, hBF⟩
        have h0 := hoff.out
        subst h0
        have hs := slT_set (r0, r1, r2) (by rw [hn.out]; exact hlt) hb3 HCUR.out
        simp only [Nat.zero_add]
        rw [HE.out]
        exact ⟨_, cap, by rw [List.length_set, hn.out]; rfl, by rw [List.length_set, hn.out]; exact hcl, (fun e => by cases e), hs⟩
      · have hxb : (x == id) = false := by simpa using hx
        have HI : Hid (∀ j q, j < k + 1 → A[j]? = some q → q.1 ≠ id) := by
          show ∀ j q, _
          intro j q hj hq
          by_cases e : j = k
          · subst e
            rw [hpk.out] at hq
            obtain rfl := Option.some.inj hq
            exact hx
          · exact hI.out j q (by omega) hq
        have HB2 := Lib.hid (bNew hB (.cells #[.int .i64 x, .int .i64 y, .int .i64 z] 32))
        clear hp e0 e1 e2 hbk hB
        go_wp2_with fail
        go_roundw
        case rel => exact ⟨k + 1, by omega, by go_num, HB2.out, HI⟩
        case measure => simp [intOf]; omega
    · obtain rfl : k = n := by omega
      have HE : Hid (chgL f id A = A) := by
        show _ = _
        refine chgL_none f id fun p hp => ?_
        obtain ⟨i, hi, he⟩ := List.mem_iff_getElem.1 hp
        exact hI.out i p (by rw [← hn.out]; exact hi) (by rw [List.getElem?_eq_getElem hi, he])
      have HB2 := Lib.hid hB
      clear hB
      have hVw : Vw wr (.slice (some ⟨b, off, none⟩) k cap) A := by
        obtain ⟨ao, cap2, hv, h1, _, h3, h4, _⟩ := HSL.out
        have h5 := h3.below HB2.out
        rw [hn.out] at hv h1
        exact ⟨ao, cap2, by rw [hn.out]; exact hv, by rw [hn.out]; exact h1, h4, h5⟩
      have HV := Lib.hid hVw
      clear hVw
      go_wp2_with fail
      go_ret
      rw [HE.out]
      exact ⟨_, rfl, HV.out, bNext HB1.out HB2.out⟩

theorem infoPs : (Try.prog.info? 32).map (·.size) = some 3 := by kernel_rfl
set_option maxRecDepth 100000 in
set_option maxHeartbeats 1000000 in
theorem susp_any (x y z : Int) (w : World) : ∃ r0 r1 r2, Hid (suspP (x, y, z) = (r0, r1, r2)) ∧ Calls Try.prog 45 #[.agg #[.int .i64 x, .int .i64 y, .int .i64 z]] w fun e w' => e = .returned (.agg #[.int .i64 r0, .int .i64 r1, .int .i64 r2]) ∧ Below w.heap.size w w' := by
  by_cases h : z = 0
  · subst h
    refine ⟨x, y, 1, rfl, ?_⟩
    go_enter Try.func45, Try.ntmps45
    go_wp2_with fail
    refine bodyPost_ret (results_cell_row rfl _ _ (w.heap.size + 1) 32 #[.int .i64 x, .int .i64 y, .int .i64 1] (0, 0) _ rfl (heap_alloc2_new _ _ _) Try.underlying32 rfl infoPs) rfl ?_
    exact ⟨rfl, bNew (bOld (w := w) _) _⟩
  · have hb : (z == 0) = false := by simpa using h
    refine ⟨x, y, z, if_neg h, ?_⟩
    go_enter Try.func45, Try.ntmps45
    go_wp2_with fail
    refine bodyPost_ret (results_cell_row rfl _ _ (w.heap.size + 1) 32 #[.int .i64 x, .int .i64 y, .int .i64 z] (0, 0) _ rfl (heap_alloc2_new _ _ _) Try.underlying32 rfl infoPs) rfl ?_
    exact ⟨rfl, bNew (bOld (w := w) _) _⟩
set_option maxRecDepth 100000 in
set_option maxHeartbeats 1000000 in
theorem leav_any (x y z : Int) (w : World) : ∃ r0 r1 r2, Hid (leavP (x, y, z) = (r0, r1, r2)) ∧ Calls Try.prog 47 #[.agg #[.int .i64 x, .int .i64 y, .int .i64 z]] w fun e w' => e = .returned (.agg #[.int .i64 r0, .int .i64 r1, .int .i64 r2]) ∧ Below w.heap.size w w' := by
  refine ⟨x, y, 2, rfl, ?_⟩
  go_enter Try.func47, Try.ntmps47
  go_wp2_with fail
  refine bodyPost_ret (results_cell_row rfl _ _ (w.heap.size + 1) 32 #[.int .i64 x, .int .i64 y, .int .i64 2] (0, 0) _ rfl (heap_alloc2_new _ _ _) Try.underlying32 rfl infoPs) rfl ?_
  exact ⟨rfl, bNew (bOld (w := w) _) _⟩
set_option maxRecDepth 100000 in
set_option maxHeartbeats 1000000 in
theorem refu_any (x y z : Int) (w : World) (h0 : 0 ≤ y) : ∃ r0 r1 r2, Hid (refuP (x, y, z) = (r0, r1, r2)) ∧ Calls Try.prog 46 #[.agg #[.int .i64 x, .int .i64 y, .int .i64 z]] w fun e w' => e = .returned (.agg #[.int .i64 r0, .int .i64 r1, .int .i64 r2]) ∧ Below w.heap.size w w' := by
  by_cases h : z = 1
  · subst h
    by_cases hy : y < 1073741824
    · refine ⟨x, y + 1, 0, if_pos ⟨rfl, hy⟩, ?_⟩
      go_enter Try.func46, Try.ntmps46
      go_wp2_with fail
      refine bodyPost_ret (results_cell_row rfl _ _ (w.heap.size + 1) 32 #[.int .i64 x, .int .i64 (y + 1), .int .i64 0] (0, 0) _ rfl (heap_alloc2_new _ _ _) Try.underlying32 rfl infoPs) rfl ?_
      exact ⟨rfl, bNew (bOld (w := w) _) _⟩
    · refine ⟨x, y, 1, if_neg (fun h => hy h.2), ?_⟩
      go_enter Try.func46, Try.ntmps46
      go_wp2_with fail
      refine bodyPost_ret (results_cell_row rfl _ _ (w.heap.size + 1) 32 #[.int .i64 x, .int .i64 y, .int .i64 1] (0, 0) _ rfl (heap_alloc2_new _ _ _) Try.underlying32 rfl infoPs) rfl ?_
      exact ⟨rfl, bNew (bOld (w := w) _) _⟩
  · have hb : (z == 1) = false := by simpa using h
    refine ⟨x, y, z, if_neg (fun e => h e.1), ?_⟩
    go_enter Try.func46, Try.ntmps46
    go_wp2_with fail
    refine bodyPost_ret (results_cell_row rfl _ _ (w.heap.size + 1) 32 #[.int .i64 x, .int .i64 y, .int .i64 z] (0, 0) _ rfl (heap_alloc2_new _ _ _) Try.underlying32 rfl infoPs) rfl ?_
    exact ⟨rfl, bNew (bOld (w := w) _) _⟩
set_option maxRecDepth 100000 in
theorem suspect_any (A : List P3) (hA : Vok A) (id : Int) (v : Value) (w : World) (hv : Vw w v A) :
    Calls Try.prog 16 #[v, .int .i64 id] w fun e w' => ∃ v', e = .returned v' ∧ Vw w' v' (chgL suspP id A) ∧ Below w.heap.size w w' := by
  have eg : ∀ args w, (callFunc 45 args).run Try.prog w = .ok (.enter 45 args) w := enters_of Try.func45 (by kernel_rfl) rfl
  have HC := Lib.hid (changed_any A A.length rfl (by have := hA.len; omega) suspP 45 eg (fun x y z w _ => susp_any x y z w) id v w hv)
  clear hv eg
  go_enter Try.func16, Try.ntmps16
  go_wp2_with fail
  refine HC.out.mono ?_; rintro e w1 ⟨v1, rfl, h1, h2⟩
  go_wp2_with fail
  go_ret
  exact ⟨v1, rfl, h1, h2⟩
set_option maxRecDepth 100000 in
theorem refute_any (A : List P3) (hA : Vok A) (id : Int) (v : Value) (w : World) (hv : Vw w v A) :
    Calls Try.prog 17 #[v, .int .i64 id] w fun e w' => ∃ v', e = .returned v' ∧ Vw w' v' (chgL refuP id A) ∧ Below w.heap.size w w' := by
  have eg : ∀ args w, (callFunc 46 args).run Try.prog w = .ok (.enter 46 args) w := enters_of Try.func46 (by kernel_rfl) rfl
  have HC := Lib.hid (changed_any A A.length rfl (by have := hA.len; omega) refuP 46 eg (fun x y z w hm => refu_any x y z w (mayP_is (hA.may _ hm)).2.2.1) id v w hv)
  clear hv eg
  go_enter Try.func17, Try.ntmps17
  go_wp2_with fail
  refine HC.out.mono ?_; rintro e w1 ⟨v1, rfl, h1, h2⟩
  go_wp2_with fail
  go_ret
  exact ⟨v1, rfl, h1, h2⟩
set_option maxRecDepth 100000 in
theorem leave_any (A : List P3) (hA : Vok A) (id : Int) (v : Value) (w : World) (hv : Vw w v A) :
    Calls Try.prog 18 #[v, .int .i64 id] w fun e w' => ∃ v', e = .returned v' ∧ Vw w' v' (chgL leavP id A) ∧ Below w.heap.size w w' := by
  have eg : ∀ args w, (callFunc 47 args).run Try.prog w = .ok (.enter 47 args) w := enters_of Try.func47 (by kernel_rfl) rfl
  have HC := Lib.hid (changed_any A A.length rfl (by have := hA.len; omega) leavP 47 eg (fun x y z w _ => leav_any x y z w) id v w hv)
  clear hv eg
  go_enter Try.func18, Try.ntmps18
  go_wp2_with fail
  refine HC.out.mono ?_; rintro e w1 ⟨v1, rfl, h1, h2⟩
  go_wp2_with fail
  go_ret
  exact ⟨v1, rfl, h1, h2⟩
end Go.Proofs.Ytpolhdkjkidpgaa
