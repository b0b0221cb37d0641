/- The document's views: Later, few, Same. -/
import Derived.Test.YtpolhdkjkidpgaaVw
import Derived.Test.YtpolhdkjkidpgaaViewLater
import Derived.Test.YtpolhdkjkidpgaaViewJoin
import Derived.Deep.AppendLies
import Derived.Deep.CutBlock
import Derived.BigQuiet
import Derived.Deep.QuietTactic
import Derived.Deep.DeepCutAuto
namespace Go.Proofs.Ytpolhdkjkidpgaa
open Go.RowKit Go.Shelf Go.Lib Go.Sort

theorem infoPr : (Try.prog.info? 32).map (·.size) = some 3 := by kernel_rfl
set_option maxRecDepth 100000 in
set_option maxHeartbeats 4000000 in
theorem reflater_any (x0 x1 x2 y0 y1 y2 : Int) (w : World) :
    Calls Try.prog 64 #[.agg #[.int .i64 x0, .int .i64 x1, .int .i64 x2], .agg #[.int .i64 y0, .int .i64 y1, .int .i64 y2]] w fun e w' => e = .returned (aggT (laterP (x0, x1, x2) (y0, y1, y2))) ∧ Below w.heap.size w w' := by
  by_cases hx : x2 = 2
  · by_cases hy : y2 = 2
    · subst hx hy
      by_cases h1 : x1 > y1
      · have HE : laterP (x0, x1, 2) (y0, y1, 2) = (x0, x1, 2) := if_neg (by unfold ageLt leftI; simp; omega)
        rw [HE]
        clear HE
        go_enter Try.func64, Try.ntmps64
        go_wp2_with fail
        refine bodyPost_ret (results_cell_row rfl _ _ (w.heap.size + 2) 32 #[.int .i64 x0, .int .i64 x1, .int .i64 2] (0, 0) _ rfl (blk_at (by simp)) Try.underlying32 rfl infoPr) rfl ?_
        exact ⟨rfl, bNew (bNew (bOld (w := w) _) _) _⟩
      · by_cases h2 : x1 = y1
        · subst h2
          have HE : laterP (x0, x1, 2) (y0, x1, 2) = (x0, x1, 2) := if_neg (by unfold ageLt leftI; simp)
          rw [HE]
          clear HE
          go_enter Try.func64, Try.ntmps64
          go_wp2_with fail
          refine bodyPost_ret (results_cell_row rfl _ _ (w.heap.size + 2) 32 #[.int .i64 x0, .int .i64 x1, .int .i64 2] (0, 0) _ rfl (blk_at (by simp)) Try.underlying32 rfl infoPr) rfl ?_
          exact ⟨rfl, bNew (bNew (bOld (w := w) _) _) _⟩
        · have hb : (x1 == y1) = false := by simpa using h2
          have HE : laterP (x0, x1, 2) (y0, y1, 2) = (y0, y1, 2) := if_pos (by unfold ageLt leftI; simp; omega)
          rw [HE]
          clear HE
          go_enter Try.func64, Try.ntmps64
          go_wp2_with fail
          refine bodyPost_ret (results_cell_row rfl _ _ (w.heap.size + 2) 32 #[.int .i64 y0, .int .i64 y1, .int .i64 2] (0, 0) _ rfl (blk_at (by simp)) Try.underlying32 rfl infoPr) rfl ?_
          exact ⟨rfl, bNew (bNew (bOld (w := w) _) _) _⟩
    · subst hx
      have hb : (y2 == 2) = false := by simpa using hy
      have HE : laterP (x0, x1, 2) (y0, y1, y2) = (x0, x1, 2) := if_neg (by unfold ageLt leftI; simp [hy])
      rw [HE]
      clear HE
      go_enter Try.func64, Try.ntmps64
      go_wp2_with fail
      refine bodyPost_ret (results_cell_row rfl _ _ (w.heap.size + 2) 32 #[.int .i64 x0, .int .i64 x1, .int .i64 2] (0, 0) _ rfl (blk_at (by simp)) Try.underlying32 rfl infoPr) rfl ?_
      exact ⟨rfl, bNew (bNew (bOld (w := w) _) _) _⟩
  · have ha : (x2 == 2) = false := by simpa using hx
    by_cases hy : y2 = 2
    · subst hy
      have HE : laterP (x0, x1, x2) (y0, y1, 2) = (y0, y1, 2) := if_pos (by unfold ageLt leftI; simp [hx])
      rw [HE]
      clear HE
      go_enter Try.func64, Try.ntmps64
      go_wp2_with fail
      refine bodyPost_ret (results_cell_row rfl _ _ (w.heap.size + 2) 32 #[.int .i64 y0, .int .i64 y1, .int .i64 2] (0, 0) _ rfl (blk_at (by simp)) Try.underlying32 rfl infoPr) rfl ?_
      exact ⟨rfl, bNew (bNew (bOld (w := w) _) _) _⟩
    · have hb : (y2 == 2) = false := by simpa using hy
      by_cases h1 : x1 > y1
      · have HE : laterP (x0, x1, x2) (y0, y1, y2) = (x0, x1, x2) := if_neg (by unfold ageLt leftI; simp [hx, hy]; omega)
        rw [HE]
        clear HE
        go_enter Try.func64, Try.ntmps64
        go_wp2_with fail
        refine bodyPost_ret (results_cell_row rfl _ _ (w.heap.size + 2) 32 #[.int .i64 x0, .int .i64 x1, .int .i64 x2] (0, 0) _ rfl (blk_at (by simp)) Try.underlying32 rfl infoPr) rfl ?_
        exact ⟨rfl, bNew (bNew (bOld (w := w) _) _) _⟩
      · by_cases h2 : x1 = y1
        · subst h2
          by_cases h3 : x2 ≥ y2
          · have HE : laterP (x0, x1, x2) (y0, x1, y2) = (x0, x1, x2) := if_neg (by unfold ageLt leftI; simp [hx, hy]; omega)
            rw [HE]
            clear HE
            go_enter Try.func64, Try.ntmps64
            go_wp2_with fail
            refine bodyPost_ret (results_cell_row rfl _ _ (w.heap.size + 2) 32 #[.int .i64 x0, .int .i64 x1, .int .i64 x2] (0, 0) _ rfl (blk_at (by simp)) Try.underlying32 rfl infoPr) rfl ?_
            exact ⟨rfl, bNew (bNew (bOld (w := w) _) _) _⟩
          · have HE : laterP (x0, x1, x2) (y0, x1, y2) = (y0, x1, y2) := if_pos (by unfold ageLt leftI; simp [hx, hy]; omega)
            rw [HE]
            clear HE
            go_enter Try.func64, Try.ntmps64
            go_wp2_with fail
            refine bodyPost_ret (results_cell_row rfl _ _ (w.heap.size + 2) 32 #[.int .i64 y0, .int .i64 x1, .int .i64 y2] (0, 0) _ rfl (blk_at (by simp)) Try.underlying32 rfl infoPr) rfl ?_
            exact ⟨rfl, bNew (bNew (bOld (w := w) _) _) _⟩
        · have hc : (x1 == y1) = false := by simpa using h2
          have HE : laterP (x0, x1, x2) (y0, y1, y2) = (y0, y1, y2) := if_pos (by unfold ageLt leftI; simp [hx, hy]; omega)
          rw [HE]
          clear HE
          go_enter Try.func64, Try.ntmps64
          go_wp2_with fail
          refine bodyPost_ret (results_cell_row rfl _ _ (w.heap.size + 2) 32 #[.int .i64 y0, .int .i64 y1, .int .i64 y2] (0, 0) _ rfl (blk_at (by simp)) Try.underlying32 rfl infoPr) rfl ?_
          exact ⟨rfl, bNew (bNew (bOld (w := w) _) _) _⟩

/-- The document's put, from here on. -/
def rput (p : P3) : Bool → List P3 → List P3
  | d, [] => if d = true then [] else [p]
  | d, x :: l => if x.1 = p.1 then laterP x p :: rput p true l else if d = false ∧ p.1 < x.1 then p :: x :: rput p true l else x :: rput p d l
theorem rput_done (p : P3) : ∀ {l : List P3}, (∀ q ∈ l, q.1 ≠ p.1) → rput p true l = l
  | [], _ => rfl
  | x :: l, h => by
    unfold rput
    rw [if_neg (h x (by simp)), if_neg (by simp), rput_done p fun q hq => h q (by simp [hq])]
theorem rput_is {l : List P3} (h : SortT l) (p : P3) : rput p false l = putL l p := by
  induction l with
  | nil => rfl
  | cons x l ih =>
    obtain ⟨h1, h2⟩ := List.pairwise_cons.1 h
    unfold rput putL
    split
    · rename_i e
      rw [rput_done p fun q hq => by have := h1 q hq; omega]
    · rename_i e
      by_cases hl : p.1 < x.1
      · rw [if_pos ⟨rfl, hl⟩, if_pos hl, rput_done p fun q hq => by have := h1 q hq; omega]
      · rw [if_neg (fun h => hl h.2), if_neg hl, ih h2]
/-- A slice that lies at a base or above it. -/
def Nb (base : Nat) (v : Value) : Prop := ∀ ao n c, v = .slice ao n c → ∀ a, ao = some a → base ≤ a.block
theorem Nb.ofOwn {w : World} {base : Nat} {t : TypeId} {v : Value} {ps : List P3} (h : OwnT w base t v ps) : Nb base v := by
  obtain ⟨ao, cap, rfl, _, _, _, _, h7⟩ := h.sl
  intro ao' n c e a ha
  cases e
  exact h7 a ha
theorem Nb.le {base base' : Nat} {v : Value} (h : Nb base v) (hb : base' ≤ base) : Nb base' v := fun ao n c e a ha => Nat.le_trans hb (h ao n c e a ha)
theorem Nb.nil (base : Nat) : Nb base (.slice none 0 0) := fun ao n c e a ha => by cases e; cases ha
set_option maxRecDepth 100000 in
set_option maxHeartbeats 4000000 in
theorem refput_nb (A : List P3) (n : Nat) (hn : Hid (A.length = n)) (hl : n ≤ 1000) (p0 p1 p2 : Int) (v : Value) (w : World) (hv : Vw w v A) :
    Calls Try.prog 40 #[v, .agg #[.int .i64 p0, .int .i64 p1, .int .i64 p2]] w fun e w' => ∃ v', e = .returned v' ∧ Vw w' v' (rput (p0, p1, p2) false A) ∧ Below w.heap.size w w' ∧ Nb w.heap.size v' := by
  obtain ⟨ao, cap, rfl, hc, hno, hsl⟩ := hv
  rw [hn.out]
  obtain ⟨bp, hbp⟩ := nm w.heap.size
  obtain ⟨w0, hw0⟩ := nm (w.alloc (.cells #[.int .i64 p0, .int .i64 p1, .int .i64 p2] 32))
  have hb0 : Blk w0 bp #[.int .i64 p0, .int .i64 p1, .int .i64 p2] 32 := by rw [hw0.out, hbp.out]; exact Blk.new _ _ _
  have hB0 : Below w.heap.size w w0 := by rw [hw0.out]; exact bOld _
  have hs0 : w0.heap.size = bp + 1 := by rw [hw0.out, hbp.out]; simp
  have HSL := Lib.hid (hsl.below hB0)
  have HB0 := Lib.hid hB0
  have HBP := Lib.hid hb0
  obtain ⟨i0, hi, hz0, hz1, hz2⟩ := info_parts infoT
  obtain ⟨R, hR⟩ := nm (rput (p0, p1, p2) false A)
  rw [← hR.out]
  clear hsl hno hB0 hb0
  go_enter Try.func40, Try.ntmps40
  go_upto_region 1 with fail
  rw [← hw0.out, ← hbp.out]
  go_wp2_with fail
  go_loopw [5, 6, 7] (fun v d i wr => ∃ (k : Nat) (D : Bool) (L : List P3), k ≤ n ∧ d = .bool D ∧ i = .int .i64 (k : Int) ∧ OwnT wr (bp + 1) 32 v L ∧ Hid (L ++ rput (p0, p1, p2) D (A.drop k) = R) ∧ L.length ≤ 2 * k ∧ Below w0.heap.size w0 wr) (fun _ _ i _ => n - (intOf i).toNat)
  case atStart => exact ⟨0, false, [], by omega, rfl, rfl, OwnT.nil _ _ _, hR.out.symm, by simp, Below.refl _ _⟩
  case round =>
    obtain ⟨k, D, L, hk, rfl, rfl, hown, hL, hLl, hB⟩ := hrel
    have hbp1 := Blk.below HBP.out hB HBP.out.lt
    have q0 : wr.cell? ⟨bp, 0, none⟩ = some (.int .i64 p0) := hbp1.cell 0
    have q1 : wr.cell? ⟨bp, 1, none⟩ = some (.int .i64 p1) := hbp1.cell 1
    have q2 : wr.cell? ⟨bp, 2, none⟩ = some (.int .i64 p2) := hbp1.cell 2
    by_cases hlt : k < n
    · obtain ⟨b, off, x, y, z, rfl, hbl, c0, c1, c2, hpk⟩ := HSL.out.get k (by rw [hn.out]; exact hlt)
      have d0 : wr.cell? ⟨b, off + k * 3, none⟩ = some (.int .i64 x) := (hB.cell (p := ⟨b, off + k * 3, none⟩) hbl).trans c0
      have d1 : wr.cell? ⟨b, off + k * 3 + 1, none⟩ = some (.int .i64 y) := (hB.cell (p := ⟨b, off + k * 3 + 1, none⟩) hbl).trans c1
      have d2 : wr.cell? ⟨b, off + k * 3 + 2, none⟩ = some (.int .i64 z) := (hB.cell (p := ⟨b, off + k * 3 + 2, none⟩) hbl).trans c2
      have hD : A.drop k = (x, y, z) :: A.drop (k + 1) := by
        have hkl : k < A.length := by rw [hn.out]; exact hlt
        have he : A[k] = (x, y, z) := by have := hpk.out; rw [List.getElem?_eq_getElem hkl] at this; exact Option.some.inj this
        rw [List.drop_eq_getElem_cons hkl, he]
      have C0 := Lib.hid c0
      have C1 := Lib.hid c1
      have C2 := Lib.hid c2
      clear c0 c1 c2
      by_cases hx : x = p0
      · have HL : Hid ((L ++ [laterP (x, y, z) (p0, p1, p2)]) ++ rput (p0, p1, p2) true (A.drop (k + 1)) = R) := by
          show _ = _
          rw [← hL.out, hD]
          conv => rhs; unfold rput
          rw [if_pos hx, List.append_assoc]; rfl
        subst hx
        obtain ⟨⟨l0, l1, l2⟩, hl3⟩ := nm (laterP (x, y, z) (x, p1, p2))
        rw [← hl3.out] at HL
        have HLAT : Hid (∀ w, Calls Try.prog 64 #[.agg #[.int .i64 x, .int .i64 y, .int .i64 z], .agg #[.int .i64 x, .int .i64 p1, .int .i64 p2]] w fun e w' => e = .returned (.agg #[.int .i64 l0, .int .i64 l1, .int .i64 l2]) ∧ Below w.heap.size w w') := by
          intro w; have := reflater_any x y z x p1 p2 w; rw [← hl3.out] at this; exact this
        clear hD
        go_wp2_with fail
        go_quiet (fail)
        go_wp2_with fail
        obtain ⟨w9, hw9⟩ := nm (wr.drewN nq)
        rw [← hw9.out]
        have s9 : w9.heap.size = wr.heap.size := by rw [hw9.out]; rfl
        have HB9 : Hid (Below w0.heap.size w0 w9) := by rw [hw9.out]; exact bDrewN hB nq
        have hown9 := hown.below (bDrewN (Below.refl _ _) nq)
        rw [← hw9.out] at hown9
        have d0 : w9.cell? ⟨b, off + k * 3, none⟩ = some (.int .i64 x) := by rw [hw9.out]; exact d0
        have d1 : w9.cell? ⟨b, off + k * 3 + 1, none⟩ = some (.int .i64 y) := by rw [hw9.out]; exact d1
        have d2 : w9.cell? ⟨b, off + k * 3 + 2, none⟩ = some (.int .i64 z) := by rw [hw9.out]; exact d2
        have q0 : w9.cell? ⟨bp, 0, none⟩ = some (.int .i64 x) := by rw [hw9.out]; exact q0
        have q1 : w9.cell? ⟨bp, 1, none⟩ = some (.int .i64 p1) := by rw [hw9.out]; exact q1
        have q2 : w9.cell? ⟨bp, 2, none⟩ = some (.int .i64 p2) := by rw [hw9.out]; exact q2
        have hbl9 : b < w9.heap.size := Nat.lt_of_lt_of_le hbl HB9.out.size
        have hbp9 : bp < w9.heap.size := by have := HB9.out.size; omega
        have hne := fun kk (hk : kk < bp + 1) (e : _ = some kk) => (absurd (World.ownsRow.lt hown9 kk e).1 (Nat.not_le.2 hk) : False)
        have hneb := hne b (by omega)
        have hnep := hne bp (by omega)
        clear hown hB hbp1
        have s9d : w9.drew.heap.size = w9.heap.size := rfl
        have HKEEP : Hid (∀ wa : World, Below w9.drew.heap.size w9.drew wa → wa.cell? ⟨b, off + k * 3, none⟩ = some (.int .i64 x) ∧ wa.cell? ⟨b, off + k * 3 + 1, none⟩ = some (.int .i64 y) ∧ wa.cell? ⟨b, off + k * 3 + 2, none⟩ = some (.int .i64 z) ∧ wa.cell? ⟨bp, 0, none⟩ = some (.int .i64 x) ∧ wa.cell? ⟨bp, 1, none⟩ = some (.int .i64 p1) ∧ wa.cell? ⟨bp, 2, none⟩ = some (.int .i64 p2)) := by
          show ∀ wa : World, _
          intro wa hBa
          exact ⟨(hBa.cell (p := ⟨b, off + k * 3, none⟩) hbl9).trans d0, (hBa.cell (p := ⟨b, off + k * 3 + 1, none⟩) hbl9).trans d1, (hBa.cell (p := ⟨b, off + k * 3 + 2, none⟩) hbl9).trans d2, (hBa.cell (p := ⟨bp, 0, none⟩) hbp9).trans q0, (hBa.cell (p := ⟨bp, 1, none⟩) hbp9).trans q1, (hBa.cell (p := ⟨bp, 2, none⟩) hbp9).trans q2⟩
        go_region_held3 (fun w' => w'.cell? ⟨b, off + k * 3, none⟩ = some (.int .i64 x) ∧ w'.cell? ⟨b, off + k * 3 + 1, none⟩ = some (.int .i64 y) ∧ w'.cell? ⟨b, off + k * 3 + 2, none⟩ = some (.int .i64 z) ∧ w'.cell? ⟨bp, 0, none⟩ = some (.int .i64 x) ∧ w'.cell? ⟨bp, 1, none⟩ = some (.int .i64 p1) ∧ w'.cell? ⟨bp, 2, none⟩ = some (.int .i64 p2))
          (first
            | exact HKEEP.out _ ‹_›
            | (go_split_ands; refine ⟨?_, ?_, ?_, ?_, ?_, ?_⟩ <;> (repeat (first | with_reducible refine cell_al ?_ | with_reducible refine cell_dr ?_)) <;> with_reducible assumption)
            | (go_split_ands
               refine ⟨?_, ?_, ?_, ?_, ?_, ?_⟩
               · (rw [hgrow.cell_far ⟨b, off + k * 3, none⟩ (by simp; omega) (Ne.symm hneb)]; assumption)
               · (rw [hgrow.cell_far ⟨b, off + k * 3 + 1, none⟩ (by simp; omega) (Ne.symm hneb)]; assumption)
               · (rw [hgrow.cell_far ⟨b, off + k * 3 + 2, none⟩ (by simp; omega) (Ne.symm hneb)]; assumption)
               · (rw [hgrow.cell_far ⟨bp, 0, none⟩ (by simp; omega) (Ne.symm hnep)]; assumption)
               · (rw [hgrow.cell_far ⟨bp, 1, none⟩ (by simp; omega) (Ne.symm hnep)]; assumption)
               · (rw [hgrow.cell_far ⟨bp, 2, none⟩ (by simp; omega) (Ne.symm hnep)]; assumption)))
          (first
            | (go_at_call 64; with_reducible (refine (HLAT.out _).mono ?_); rintro e wa ⟨rfl, hBa⟩; have hsz := hBa.size)
            | (refine step_append_lies _ (by rfl) _ _ _ (by rfl) (bp + 1) 32 i0 _ 3 24 Try.underlying22 hi hz0 hz1 hz2 rfl (by decide) _ L.length (flatT L) (by rfl) (by exact World.ownsRow.alloc (OwnT.below (w := w9.drew) hown9 hBa) _) ⟨wa.heap.size, 0, none⟩ 1 1 [.int .i64 l0, .int .i64 l1, .int .i64 l2] (by rfl) (by rfl) (World.news_of_block (cs := #[.int .i64 l0, .int .i64 l1, .int .i64 l2]) (t := 32) (fr := (0, 0)) (heap_alloc_new wa _)) (by simp [Value.oneCell']) (by decide) (by unfold maxLen; omega) (by omega) (by simp; omega) (wa.heap.size + 1) (by simp) ?_; intro gg cap2 w2 hown2 hgrow hat hlt2))
        have hB2 : Below w0.heap.size w0 w2 := (bNew (bNext (bDrew HB9.out) hBa) _).grown hgrow (by have := HB9.out.size; simp; omega) (fun kk h => by have := (World.ownsRow.lt hown9 kk h).1; omega)
        replace hown2 : OwnT w2 (bp + 1) 32 (.slice (some ⟨gg, 0, none⟩) (L.length + 1) cap2) (L ++ [(l0, l1, l2)]) := by
          show w2.ownsRow _ _ _ _ _ _
          rw [List.length_append, flatT_append]
          exact hown2
        have HB2 := Lib.hid hB2
        clear hown9 hgrow hBa hB2 d0 d1 d2 q0 q1 q2 hne hneb hnep hat HKEEP
        go_wp2_with fail
        go_roundw
        case rel => exact ⟨k + 1, true, _, by omega, rfl, by go_num, hown2, HL, by simp; omega, HB2.out⟩
        case measure => simp [intOf]; omega
      · have hxb : (x == p0) = false := by simpa using hx
        by_cases hg : D = false ∧ p0 < x
        · obtain ⟨rfl, hgx⟩ := hg
          have hgx2 : x > p0 := hgx
          have HL : Hid ((L ++ [(p0, p1, p2), (x, y, z)]) ++ rput (p0, p1, p2) true (A.drop (k + 1)) = R) := by
            show _ = _
            rw [← hL.out, hD]
            conv => rhs; unfold rput
            rw [if_neg hx, if_pos ⟨rfl, hgx⟩, List.append_assoc]; rfl
          clear hD hL
          go_wp2_with fail
          go_quiet (fail)
          go_wp2_with fail
          go_quiet (fail)
          go_wp2_with (at_builtin; refine app_trips rfl _ _ rfl (bp + 1) _ L rfl (OwnT.alloc (by exact hown) _) (some ⟨wr.heap.size, 0, none⟩) 1 1 [(p0, p1, p2)] rfl rfl (fun e => by cases e) (by exact SlT.ofBlk (Blk.new _ _ _)) (by simp; omega) (by have := hB.size; simp; omega) ?_)
          intro v2 w2 hown2 hg2
          have hB2 : Below w0.heap.size w0 w2 := Below.grown (bNew (bDrewN hB _) _) hg2 (by have := hB.size; simp; omega) (fun kk h => by have := (World.ownsRow.lt hown kk h).1; omega)
          have e0 := (hB2.cell (p := ⟨b, off + k * 3, none⟩) hbl).trans C0.out
          have e1 := (hB2.cell (p := ⟨b, off + k * 3 + 1, none⟩) hbl).trans C1.out
          have e2 := (hB2.cell (p := ⟨b, off + k * 3 + 2, none⟩) hbl).trans C2.out
          clear hown hB hg2 d0 d1 d2 q0 q1 q2 hbp1
          go_wp2_with (at_builtin; refine app_trips rfl _ _ rfl (bp + 1) _ (L ++ [(p0, p1, p2)]) rfl (OwnT.alloc (by exact hown2) _) (some ⟨w2.heap.size, 0, none⟩) 1 1 [(x, y, z)] rfl rfl (fun e => by cases e) (by exact SlT.ofBlk (Blk.new _ _ _)) (by simp; omega) (by have := hB2.size; simp; omega) ?_)
          intro v3 w3 hown3 hg3
          have hB3 : Below w0.heap.size w0 w3 := Below.grown (bNew hB2 _) hg3 (by have := hB2.size; simp; omega) (fun kk h => by have := (World.ownsRow.lt hown2 kk h).1; omega)
          clear hown2 hB2 hg3 e0 e1 e2
          go_wp2_with fail
          go_roundw
          case rel => exact ⟨k + 1, true, _, by omega, rfl, by go_num, hown3, HL, by simp; omega, hB3⟩
          case measure => simp [intOf]; omega
        · have HL : Hid ((L ++ [(x, y, z)]) ++ rput (p0, p1, p2) D (A.drop (k + 1)) = R) := by
            show _ = _
            rw [← hL.out, hD]
            conv => rhs; unfold rput
            rw [if_neg hx, if_neg hg, List.append_assoc]; rfl
          clear hD hL
          have hor : D = true ∨ D = false ∧ ¬ x > p0 := by cases D <;> simp at hg ⊢; omega
          rcases hor with rfl | ⟨rfl, hgx⟩
          · go_wp2_with fail
            go_quiet (fail)
            go_wp2_with fail
            go_quiet (fail)
            go_wp2_with (at_builtin; refine app_trips rfl _ _ rfl (bp + 1) _ L rfl (OwnT.alloc (by exact hown) _) (some ⟨wr.heap.size, 0, none⟩) 1 1 [(x, y, z)] rfl rfl (fun e => by cases e) (by exact SlT.ofBlk (Blk.new _ _ _)) (by simp; omega) (by have := hB.size; simp; omega) ?_)
            intro v2 w2 hown2 hg2
            have hB2 : Below w0.heap.size w0 w2 := Below.grown (bNew (bDrewN hB _) _) hg2 (by have := hB.size; simp; omega) (fun kk h => by have := (World.ownsRow.lt hown kk h).1; omega)
            clear hown hB hg2 d0 d1 d2 q0 q1 q2 hbp1
            go_wp2_with fail
            go_roundw
            case rel => exact ⟨k + 1, true, _, by omega, rfl, by go_num, hown2, HL, by simp; omega, hB2⟩
            case measure => simp [intOf]; omega
          · have hgd : decide (x > p0) = false := decide_eq_false hgx
            go_wp2_with fail
            go_quiet (fail)
            go_wp2_with fail
            go_quiet (fail)
            go_wp2_with (at_builtin; refine app_trips rfl _ _ rfl (bp + 1) _ L rfl (OwnT.alloc (by exact hown) _) (some ⟨wr.heap.size, 0, none⟩) 1 1 [(x, y, z)] rfl rfl (fun e => by cases e) (by exact SlT.ofBlk (Blk.new _ _ _)) (by simp; omega) (by have := hB.size; simp; omega) ?_)
            intro v2 w2 hown2 hg2
            have hB2 : Below w0.heap.size w0 w2 := Below.grown (bNew (bDrewN hB _) _) hg2 (by have := hB.size; simp; omega) (fun kk h => by have := (World.ownsRow.lt hown kk h).1; omega)
            clear hown hB hg2 d0 d1 d2 q0 q1 q2 hbp1
            go_wp2_with fail
            go_roundw
            case rel => exact ⟨k + 1, false, _, by omega, rfl, by go_num, hown2, HL, by simp; omega, hB2⟩
            case measure => simp [intOf]; omega
    · obtain rfl : k = n := by omega
      have hnil : A.drop k = [] := List.drop_eq_nil_of_le (by rw [hn.out]; exact Nat.le_refl _)
      rw [hnil] at hL
      cases D
      · have HL : Hid (L ++ [(p0, p1, p2)] = R) := hL.out
        clear hL hnil
        go_wp2_with (at_builtin; refine app_trips rfl _ _ rfl (bp + 1) _ L rfl (OwnT.alloc (by exact hown) _) (some ⟨wr.heap.size, 0, none⟩) 1 1 [(p0, p1, p2)] rfl rfl (fun e => by cases e) (by exact SlT.ofBlk (Blk.new _ _ _)) (by simp; omega) (by have := hB.size; simp; omega) ?_)
        intro v2 w2 hown2 hg2
        have hB2 : Below w0.heap.size w0 w2 := Below.grown (bNew hB _) hg2 (by have := hB.size; simp; omega) (fun kk h => by have := (World.ownsRow.lt hown kk h).1; omega)
        have HV : Hid (Vw w2 v2 R) := (Vw.ofOwn hown2).eq HL.out
        have HB2 := Lib.hid (bNext HB0.out hB2)
        have HNB := Lib.hid ((Nb.ofOwn hown2).le (base' := w.heap.size) (by rw [hbp.out]; omega))
        clear hown hB hg2 hown2 hB2 q0 q1 q2 hbp1
        go_wp2_with fail
        go_ret
        exact ⟨v2, rfl, HV.out, HB2.out, HNB.out⟩
      · have HL : Hid (L = R) := (List.append_nil L).symm.trans hL.out
        have HV : Hid (Vw wr _ R) := (Vw.ofOwn hown).eq HL.out
        have HB2 := Lib.hid (bNext HB0.out hB)
        have HNB := Lib.hid ((Nb.ofOwn hown).le (base' := w.heap.size) (by rw [hbp.out]; omega))
        clear hL hnil hown hB q0 q1 q2 hbp1
        go_wp2_with fail
        go_ret
        exact ⟨_, rfl, HV.out, HB2.out, HNB.out⟩
theorem refput_any (A : List P3) (n : Nat) (hn : Hid (A.length = n)) (hl : n ≤ 1000) (p0 p1 p2 : Int) (v : Value) (w : World) (hv : Vw w v A) :
    Calls Try.prog 40 #[v, .agg #[.int .i64 p0, .int .i64 p1, .int .i64 p2]] w fun e w' => ∃ v', e = .returned v' ∧ Vw w' v' (rput (p0, p1, p2) false A) ∧ Below w.heap.size w w' :=
  (refput_nb A n hn hl p0 p1 p2 v w hv).mono fun _ _ ⟨v', h1, h2, h3, _⟩ => ⟨v', h1, h2, h3⟩
end Go.Proofs.Ytpolhdkjkidpgaa
