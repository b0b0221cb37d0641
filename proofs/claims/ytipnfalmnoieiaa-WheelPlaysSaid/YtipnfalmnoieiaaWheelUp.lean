/- The wheel: up. -/
import Derived.Test.YtipnfalmnoieiaaWheelA
import Derived.WalkMore
namespace Go.Proofs.Ytipnfalmnoieiaa
open Go.RowKit Go.Shelf Go.Lib Go.Sort Go.Maps

theorem cmp_lt (x1 x2 y1 y2 : Int) (h : ltP (x1, x2) (y1, y2)) (w : World) :
    Calls Try.prog 24 #[.agg #[.int .i64 x1, .int .i64 x2], .agg #[.int .i64 y1, .int .i64 y2]] w fun e w' => (∃ C : Int, e = .returned (.int .i64 C) ∧ C < 0) ∧ Below w.heap.size w w' := by
  refine (compare_any (x1, x2) (y1, y2) w).mono ?_
  rintro e w' ⟨rfl, q, os, rfl⟩
  exact ⟨⟨_, rfl, (cmpD_neg (x1, x2) (y1, y2)).2 h⟩, below_grow q os⟩
theorem cmp_ge (x1 x2 y1 y2 : Int) (h : ¬ ltP (x1, x2) (y1, y2)) (w : World) :
    Calls Try.prog 24 #[.agg #[.int .i64 x1, .int .i64 x2], .agg #[.int .i64 y1, .int .i64 y2]] w fun e w' => (∃ C : Int, e = .returned (.int .i64 C) ∧ ¬ C < 0) ∧ Below w.heap.size w w' := by
  refine (compare_any (x1, x2) (y1, y2) w).mono ?_
  rintro e w' ⟨rfl, q, os, rfl⟩
  exact ⟨⟨_, rfl, fun h2 => h ((cmpD_neg (x1, x2) (y1, y2)).1 h2)⟩, below_grow q os⟩

/-- The numbers of a heap are numbers. -/
def WfA (A : PA) : Prop := ∀ x ∈ A.toList, (Lit.int .i64 x.2).wf = true
theorem WfA.perm {A B : PA} (h : WfA A) (hp : B.toList.Perm A.toList) : WfA B := fun x hx => h x (hp.mem_iff.1 hx)
theorem WfA.get {A : PA} (h : WfA A) {j : Nat} (hj : j < A.size) : (Lit.int .i64 A[j]!.2).wf = true := by
  rw [getElem!_pos A j hj]; exact h _ (by simp)
theorem getB {A B : PA} {i : Nat} {a : Int × Int} (h : B.setIfInBounds i a = A) {j : Nat} (hj : j ≠ i) : B[j]! = A[j]! := by
  rw [← h, get_set, if_neg fun e => hj e.1.symm]
theorem getAt {A B : PA} {i : Nat} {a : Int × Int} (h : B.setIfInBounds i a = A) (hi : i < B.size) : A[i]! = a := by
  rw [← h, get_set, if_pos ⟨rfl, hi⟩]
theorem set_swp {A B : PA} {i o : Nat} {a : Int × Int} (h : B.setIfInBounds i a = A) (hi : i < B.size) (_ho : o ≠ i) : (B.setIfInBounds i A[o]!).setIfInBounds o a = swp A i o := by
  unfold swp
  rw [getAt h hi, ← h, Array.setIfInBounds_setIfInBounds]
theorem size_of_set {A B : PA} {i : Nat} {a : Int × Int} (h : B.setIfInBounds i a = A) : A.size = B.size := by rw [← h]; simp

/-- How a wheel stands while one of it is under way: the heap A, but that place i of the memory may hold anything. -/
structure UpAt (w w' : World) (p g cap m n : Nat) (clk : Int) (A0 : PA) (a : Int × Int) (i : Nat) (A B : PA) (D : DataW Unit) : Prop where
  whl : Whl w' p g cap m n clk B D
  set_ : B.setIfInBounds i a = A
  up : UpInv A i
  idx : IdxBut D A i
  perm : A.toList.Perm A0.toList
  kept : KeptS (GM g m) w w'
/-- A heap again. -/
def UpEnd (w w' : World) (p g cap m n : Nat) (clk : Int) (A0 : PA) : Prop := ∃ A D, Whl w' p g cap m n clk A D ∧ Hp A ∧ Idx D A ∧ A.toList.Perm A0.toList ∧ KeptS (GM g m) w w'

set_option maxRecDepth 100000 in
set_option maxHeartbeats 4000000 in
theorem up_any (p g cap m n i : Nat) (clk : Int) (A0 : PA) (D : DataW Unit) (hi : i < n) (hn : n ≤ 100000) (hU : UpInv A0 i) (hX : IdxBut D A0 i) (hnd : (idsA A0).Nodup) (hwf : WfA A0) (w : World) (h : Whl w p g cap m n clk A0 D) :
    Calls Try.prog 21 #[.pointer (some ⟨p, 0, none⟩), .int .i64 (i : Int)] w fun e w' => e = .returned (.tuple #[]) ∧ UpEnd w w' p g cap m n clk A0 := by
  obtain ⟨x1, hx1⟩ := nm A0[i]!.1
  obtain ⟨x2, hx2⟩ := nm A0[i]!.2
  have ha : Hid (A0[i]! = (x1, x2)) := by show _ = _; rw [hx1.out, hx2.out]
  have hwx : (Lit.int .i64 x2).wf = true := by rw [hx2.out]; exact hwf.get (by rw [h.size]; exact hi)
  obtain ⟨e0, e1, _, _⟩ := h.row.cells i (by rw [h.size]; exact hi)
  rw [← hx1.out] at e0
  rw [← hx2.out] at e1
  have c0 : w.cell? ⟨p, 0, none⟩ = some (.slice (some ⟨g, 0, none⟩) n cap) := h.blk.cell 0
  have hi0 : (0 : Int) ≤ (i : Int) := by omega
  have hi1 : (i : Int) < (n : Int) := by omega
  have hcap : n ≤ cap ∧ cap ≤ maxLen := by have := h.row.cap; rwa [h.size] at this
  obtain ⟨hc1, hc2⟩ := hcap
  obtain ⟨w1, hw1⟩ := nm (w.alloc (.cells #[.int .i64 x1, .int .i64 x2] 28))
  obtain ⟨ba, hba⟩ := nm w.heap.size
  have h1 : UpAt w w1 p g cap m n clk A0 (x1, x2) i A0 A0 D := by
    refine ⟨?_, ?_, hU, hX, List.Perm.refl _, ?_⟩
    · rw [hw1.out]; exact h.kept (S := fun _ => False) ((KeptS.refl _ _).alloc _) id id id
    · rw [← ha.out]
      apply Array.ext
      · simp
      · intro j hj1 hj2
        rw [Array.getElem_setIfInBounds]
        split
        · rename_i e; subst e; rw [getElem!_pos A0 i hj2]
        · rfl
    · rw [hw1.out]; exact (KeptS.refl _ _).alloc _
  have hA1 : Blk w1 ba #[.int .i64 x1, .int .i64 x2] 28 := by rw [hw1.out, hba.out]; exact Blk.new _ _ _
  have hbp : ba ≠ g ∧ ba ≠ m := by
    rw [hba.out]
    have := h.row.lt; have : m < w.heap.size := h.map.lt
    omega
  have hsz : Hid (A0.size = n) := h.size
  have HND := Lib.hid hnd
  have HWF := Lib.hid hwf
  have H1 := Lib.hid h1
  have HA1 := Lib.hid hA1
  have HBP := Lib.hid hbp
  clear h hU hX h1 hA1 hbp hnd hwf
  go_enter Try.func21, Try.ntmps21
  go_wp2_with fail
  go_step3
  go_wp2_with fail
  rw [← hba.out, ← hw1.out]
  go_step3
  go_wp2_with fail
  clear e0 e1 c0 hi0 hi1
  go_loopw [1] (fun iv wr => ∃ (k : Nat) (A B : PA) (D' : DataW Unit), k < n ∧ iv = .int .i64 (k : Int) ∧ UpAt w wr p g cap m n clk A0 (x1, x2) k A B D' ∧ Blk wr ba #[.int .i64 x1, .int .i64 x2] 28) (fun iv _ => (intOf iv).toNat)
  case atStart => exact ⟨i, A0, A0, D, hi, rfl, H1.out, HA1.out⟩
  case round =>
    obtain ⟨k, A, B, D', hk, rfl, hup, hbl⟩ := hrel
    have hAs : A.size = n := by rw [hup.perm.length_eq |> fun (h : A.toList.length = A0.toList.length) => (by simpa using h : A.size = A0.size)]; exact hsz.out
    have hD : Maps.size D' ≤ 1000000 := by have := hup.idx.room; omega
    have b0 : wr.cell? ⟨ba, 0, none⟩ = some (.int .i64 x1) := hbl.cell 0
    have b1 : wr.cell? ⟨ba, 1, none⟩ = some (.int .i64 x2) := hbl.cell 1
    have c0 : wr.cell? ⟨p, 0, none⟩ = some (.slice (some ⟨g, 0, none⟩) n cap) := hup.whl.blk.cell 0
    have hAN := Lib.hid ((ids_perm hup.perm).nodup_iff.2 HND.out)
    have HAS := Lib.hid hAs
    have HUP := Lib.hid hup
    have HBL := Lib.hid hbl
    have hfinish : (k = 0 ∨ ltP A[(k - 1) / 2]! A[k]!) → ∀ w9, Below wr.heap.size wr w9 → Calls Try.prog 26 #[.pointer (some ⟨p, 0, none⟩), .int .i64 (k : Int), .agg #[.int .i64 x1, .int .i64 x2]] w9 fun e w' => e = .returned (.tuple #[]) ∧ UpEnd w w' p g cap m n clk A0 := by
      intro h0 w9 hB9
      have hk9 : Whl w9 p g cap m n clk B D' := hup.whl.kept (S := fun _ => False) (KeptS.ofBelow hB9) id id id
      refine (put_any p g cap m n k clk B D' x1 x2 hwx hk (by omega) hD w9 hk9).mono ?_
      rintro e w' ⟨rfl, h2, h3⟩
      have ek : A[k]!.2 = x2 := by rw [getAt hup.set_ (by rw [← size_of_set hup.set_, hAs]; exact hk)]
      refine ⟨rfl, A, D'.put (IL x2) (.lit (.int .i64 k)), ?_, up_done hup.up h0, ?_, hup.perm, (hup.kept.trans (KeptS.ofBelow hB9)).trans h3⟩
      · rw [hup.set_] at h2; exact h2
      · have := hup.idx.put (by rw [hAs]; exact hk) hAN.out
        rw [ek] at this
        exact this
    have HF := Lib.hid hfinish
    clear hfinish hup hbl hAs
    by_cases hk0 : k = 0
    · subst hk0
      have hd : decide (0 < 0) = false := by simp
      have hF := HF.out (.inl rfl) wr (Below.refl _ _)
      go_wp2_with fail
      refine hF.mono ?_; rintro e w9 ⟨rfl, hE⟩
      go_wp2_with fail
      first | go_end0 | (rw [Exit.noGoto_normal]; go_end0)
      exact ⟨rfl, hE⟩
    · obtain ⟨o, ho⟩ := nm ((k - 1) / 2)
      have hok : o < k := by rw [ho.out]; omega
      have hsub : (k : Int) - 1 = ((k - 1 : Nat) : Int) := by omega
      have hquo : ((k : Int) - 1) / 2 = (o : Int) := by rw [ho.out]; omega
      have hkp : 0 < k := by omega
      have hkd : decide (0 < k) = true := decide_eq_true hkp
      have hk1 : (1 : Int) ≤ (k : Int) := by omega
      have hBo : Hid (B[o]! = A[o]!) := getB HUP.out.set_ (by omega)
      obtain ⟨e0, e1, _, _⟩ := HUP.out.whl.row.cells o (by rw [HUP.out.whl.size]; omega)
      rw [hBo.out] at e0 e1
      obtain ⟨y1, hy1⟩ := nm A[o]!.1
      obtain ⟨y2, hy2⟩ := nm A[o]!.2
      have hy : Hid (A[o]! = (y1, y2)) := by show _ = _; rw [hy1.out, hy2.out]
      rw [← hy1.out] at e0
      rw [← hy2.out] at e1
      have hAk : Hid (A[k]! = (x1, x2)) := getAt HUP.out.set_ (by rw [← size_of_set HUP.out.set_, HAS.out]; exact hk)
      have ho0 : (0 : Int) ≤ (o : Int) := by omega
      have ho1 : (o : Int) < (n : Int) := by omega
      clear hsub
      go_wp2_with fail
      rw [hquo]
      clear hquo hkd hk1
      refine wp_region_still_tail 8 (by kernel_rfl) (by kernel_rfl) ?_
      simp only [List.take_succ_cons, List.take_zero, List.drop_succ_cons, List.drop_zero]
      change wpStill _ _ (World.drew _) (fun a' => wpList _ _ _ _ a' (World.drew _)) _ _
      repeat still_step
      refine wpStill_nil ?_
      by_cases hlt : ltP (y1, y2) (x1, x2)
      · go_wp2_with fail
        refine (cmp_lt y1 y2 x1 x2 hlt _).mono ?_; rintro e w2 ⟨⟨C, rfl, hC⟩, hB2⟩
        have hCd : decide (C < 0) = true := decide_eq_true hC
        have hF := HF.out (.inr (by rw [← ho.out, hy.out, hAk.out]; exact hlt)) w2 ⟨hB2.os, hB2.tape, hB2.output, hB2.size, hB2.block⟩
        have hbl2 : Blk w2 ba #[.int .i64 x1, .int .i64 x2] 28 := HBL.out.below (B := wr.heap.size) ⟨hB2.os, hB2.tape, hB2.output, hB2.size, hB2.block⟩ HBL.out.lt
        have f0 : w2.cell? ⟨ba, 0, none⟩ = some (.int .i64 x1) := hbl2.cell 0
        have f1 : w2.cell? ⟨ba, 1, none⟩ = some (.int .i64 x2) := hbl2.cell 1
        clear hlt b0 b1 c0 e0 e1 hB2 hbl2
        go_wp2_with fail
        refine hF.mono ?_; rintro e w9 ⟨rfl, hE⟩
        go_wp2_with fail
        first | go_end0 | (rw [Exit.noGoto_normal]; go_end0)
        exact ⟨rfl, hE⟩
      · go_wp2_with fail
        refine (cmp_ge y1 y2 x1 x2 hlt _).mono ?_; rintro e w2 ⟨⟨C, rfl, hC⟩, hB2⟩
        have hCd : decide (C < 0) = false := decide_eq_false hC
        have hB3 : Below wr.heap.size wr w2 := ⟨hB2.os, hB2.tape, hB2.output, hB2.size, hB2.block⟩
        have hk2 : Whl w2 p g cap m n clk B D' := HUP.out.whl.kept (S := fun _ => False) (KeptS.ofBelow hB3) id id id
        have c2 : w2.cell? ⟨p, 0, none⟩ = some (.slice (some ⟨g, 0, none⟩) n cap) := hk2.blk.cell 0
        obtain ⟨f0, f1, _, _⟩ := hk2.row.cells o (by rw [hk2.size]; omega)
        rw [hBo.out, hy.out] at f0 f1
        have hwy : (Lit.int .i64 y2).wf = true := by rw [hy2.out]; exact (HWF.out.perm HUP.out.perm).get (by rw [HAS.out]; omega)
        have hput := put_any p g cap m n k clk B D' y1 y2 hwy hk (by omega) hD w2 hk2
        have hltR : ltP A[k]! A[(k - 1) / 2]! := by
          rw [← ho.out, hy.out, hAk.out]
          rcases ltP_total (x1, x2) (y1, y2) with h | h | h
          · exact h
          · exfalso
            refine ne_of_ids hAN.out (i := k) (j := o) (by rw [HAS.out]; exact hk) (by rw [HAS.out]; omega) (by omega) ?_
            rw [hAk.out, hy.out, h]
          · exact absurd h hlt
        have HUS : Hid (UpInv (swp A k o) o) := by
          have := up_step HUP.out.up (by rw [HAS.out]; exact hk) hkp hltR
          rwa [← ho.out] at this
        have HIS : Hid (IdxBut (D'.put (IL y2) (.lit (.int .i64 k))) (swp A k o) o) := by
          have := HUP.out.idx.step (i := k) (k := o) (by rw [HAS.out]; exact hk) (by rw [HAS.out]; omega) (by omega) hAN.out
          rwa [hy.out] at this
        have HSS : Hid ((B.setIfInBounds k (y1, y2)).setIfInBounds o (x1, x2) = swp A k o) := by
          have := set_swp HUP.out.set_ (by rw [← size_of_set HUP.out.set_, HAS.out]; exact hk) (o := o) (by omega)
          rwa [hy.out] at this
        have HPS : Hid ((swp A k o).toList.Perm A0.toList) := (swp_perm A k o (by rw [HAS.out]; exact hk) (by rw [HAS.out]; omega)).trans HUP.out.perm
        have HB2 : Hid (Blk w2 ba #[.int .i64 x1, .int .i64 x2] 28) := HBL.out.below hB3 HBL.out.lt
        have HK2 : Hid (KeptS (GM g m) w w2) := HUP.out.kept.trans (KeptS.ofBelow hB3)
        have HP := Lib.hid hput
        clear hlt b0 b1 c0 e0 e1 hB2 hB3 hk2 hput hltR
        go_wp2_with fail
        refine HP.out.mono ?_; rintro e w3 ⟨rfl, h3, h4⟩
        have hbl3 : Blk w3 ba #[.int .i64 x1, .int .i64 x2] 28 := h4.blk HB2.out (fun e => by rcases e with e | e; exact HBP.out.1 e; exact HBP.out.2 e)
        have hup3 : UpAt w w3 p g cap m n clk A0 (x1, x2) o (swp A k o) (B.setIfInBounds k (y1, y2)) (D'.put (IL y2) (.lit (.int .i64 k))) := ⟨h3, HSS.out, HUS.out, HIS.out, HPS.out, HK2.out.trans h4⟩
        clear h3 h4 c2 f0 f1
        go_wp2_with fail
        go_roundw
        case rel => exact ⟨o, _, _, _, by omega, rfl, hup3, hbl3⟩
        case measure => simp [intOf]; omega
end Go.Proofs.Ytipnfalmnoieiaa
