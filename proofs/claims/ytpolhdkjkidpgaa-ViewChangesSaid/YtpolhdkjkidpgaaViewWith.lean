/- view.Join and view.With, of views that may be. -/
import Derived.Test.YtpolhdkjkidpgaaViewMay
import Derived.Test.YtpolhdkjkidpgaaViewClone
import Derived.Test.YtpolhdkjkidpgaaViewJoinB
namespace Go.Proofs.Ytpolhdkjkidpgaa
open Go.RowKit Go.Shelf Go.Lib Go.Sort

theorem join_v (A B : List P3) (hA : SortT A) (hlA : A.length ≤ 1000) (hlB : B.length ≤ 1000) (hwf : ∀ p ∈ A ++ B, (Lit.int .i64 p.1).wf = true) (va vb : Value) (w : World) (ha : Vw w va A) (hb : Vw w vb B) :
    Calls Try.prog 11 #[va, vb] w fun e w' => ∃ v, e = .returned v ∧ Vw w' v (vjoin A B) ∧ Below w.heap.size w w' := by
  obtain ⟨a1, c1, rfl, h1, n1, s1⟩ := ha
  obtain ⟨a2, c2, rfl, h2, n2, s2⟩ := hb
  refine (join_any A.length B.length c1 c2 a1 a2 A B rfl rfl hlA hlB hwf (vjoin A B) (vjoin A B).length (by show _ = _; rw [joinL_append hA]; rfl) rfl w s1 s2 n1 n2).mono ?_
  rintro e w' ⟨ao, cap, rfl, h1, h2, h3, h4⟩
  exact ⟨_, rfl, ⟨ao, cap, rfl, h1, h2, h3⟩, h4⟩
theorem join_ok {A B : List P3} (hA : Vok A) (hB : Vok B) {va vb : Value} {w : World} (ha : Vw w va A) (hb : Vw w vb B) :
    Calls Try.prog 11 #[va, vb] w fun e w' => ∃ v, e = .returned v ∧ Vw w' v (vjoin A B) ∧ Below w.heap.size w w' :=
  join_v A B hA.sort (by have := hA.len; omega) (by have := hB.len; omega) (fun p hp => (List.mem_append.1 hp).elim (hA.wf p) (hB.wf p)) va vb w ha hb

set_option maxRecDepth 100000 in
set_option maxHeartbeats 1000000 in
theorem with_any (A : List P3) (hA : Vok A) (x y z : Int) (v : Value) (w : World) (hv : Vw w v A) :
    Calls Try.prog 15 #[v, .agg #[.int .i64 x, .int .i64 y, .int .i64 z]] w fun e w' => ∃ v', e = .returned v' ∧ Vw w' v' (vwith A (x, y, z)) ∧ Below w.heap.size w w' := by
  obtain ⟨b, hb⟩ := nm (mayP (x, y, z))
  have HM : Hid (∀ w, Calls Try.prog 42 #[.agg #[.int .i64 x, .int .i64 y, .int .i64 z]] w fun e w' => e = .returned (.bool b) ∧ w' = w.alloc (.cells #[.int .i64 x, .int .i64 y, .int .i64 z] 32)) := by intro w; rw [hb.out]; exact may_any x y z w
  have HV := Lib.hid hv
  have hB0 := bNew (bOld (w := w) (.cells #[.int .i64 x, .int .i64 y, .int .i64 z] 32)) (.cells #[.int .i64 x, .int .i64 y, .int .i64 z] 32)
  have HB0 := Lib.hid hB0
  clear hv hB0
  cases b
  · have HE : Hid (vwith A (x, y, z) = A) := by show _ = _; unfold vwith; rw [← hb.out]; rfl
    have HC := Lib.hid (clone_any A (by have := hA.len; omega) v _ (HV.out.below HB0.out))
    go_enter Try.func15, Try.ntmps15
    go_wp2_with (go_at_call 42; with_reducible (refine (HM.out _).mono ?_); rintro e w2 ⟨rfl, rfl⟩)
    refine HC.out.mono ?_; rintro e w1 ⟨v1, rfl, h1, h2⟩
    have HR : Hid (Vw w1 v1 A) := Vw.ofOwn h1
    have HB := Lib.hid (bNext HB0.out h2)
    clear h1 h2
    go_wp2_with fail
    go_ret
    rw [HE.out]
    exact ⟨v1, rfl, HR.out, HB.out⟩
  · have hm : mayP (x, y, z) = true := hb.out.symm
    have HE : Hid (vwith A (x, y, z) = vjoin A [(x, y, z)]) := by show _ = _; unfold vwith; rw [if_pos hm]; rfl
    have hV1 : Vok [(x, y, z)] := ⟨List.pairwise_singleton _ _, (fun p hp => by obtain rfl := List.mem_singleton.1 hp; exact hm), by simp⟩
    obtain ⟨w0, hw0⟩ := nm ((w.alloc (.cells #[.int .i64 x, .int .i64 y, .int .i64 z] 32)).alloc (.cells #[.int .i64 x, .int .i64 y, .int .i64 z] 32))
    rw [← hw0.out] at HB0
    have hbk : Blk w0 w.heap.size #[.int .i64 x, .int .i64 y, .int .i64 z] 32 := by rw [hw0.out]; exact (Blk.new w _ _).alloc _
    have d0 : w0.cell? ⟨w.heap.size, 0, none⟩ = some (.int .i64 x) := hbk.cell 0
    have d1 : w0.cell? ⟨w.heap.size, 1, none⟩ = some (.int .i64 y) := hbk.cell 1
    have d2 : w0.cell? ⟨w.heap.size, 2, none⟩ = some (.int .i64 z) := hbk.cell 2
    have hvw1 : Vw (w0.alloc (.cells #[.int .i64 x, .int .i64 y, .int .i64 z] 32)) (.slice (some ⟨w0.heap.size, 0, none⟩) 1 1) [(x, y, z)] :=
      ⟨_, 1, rfl, Nat.le_refl _, (fun e => by cases e), SlT.ofBlk (Blk.new _ _ _)⟩
    have HJ := Lib.hid (join_ok hA hV1 (HV.out.below HB0.out |>.below (bOld (w := w0) (.cells #[.int .i64 x, .int .i64 y, .int .i64 z] 32))) hvw1)
    have HB1 := Lib.hid (bNew HB0.out (.cells #[.int .i64 x, .int .i64 y, .int .i64 z] 32))
    clear hvw1 hV1 hm hbk
    go_enter Try.func15, Try.ntmps15
    go_wp2_with (go_at_call 42; with_reducible (refine (HM.out _).mono ?_); rintro e w2 ⟨rfl, rfl⟩; try rw [← hw0.out])
    refine HJ.out.mono ?_; rintro e w1 ⟨v1, rfl, h1, h2⟩
    have HR := Lib.hid h1
    have HB := Lib.hid (bNext HB1.out h2)
    clear h1 h2
    go_wp2_with fail
    go_ret
    rw [HE.out]
    exact ⟨v1, rfl, HR.out, HB.out⟩
end Go.Proofs.Ytpolhdkjkidpgaa
