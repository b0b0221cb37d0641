/- Wire: are two the same? (and what stands on it: 4 texts in one) -/
import Derived.Test.YtfpjdmplepepjaaJ5
import Derived.Test.YtfpjdmplepepjaaJ6
/-! WSameW: Wire: are two the same? -/
namespace Go.Proofs.Ytfpjdmplepepjaa
open Go.RowKit

set_option maxRecDepth 100000 in
set_option maxHeartbeats 8000000 in
theorem wsame_any (k f s p fl d0 d1 rc lg : Int) (mark : ByteArray) (am ab ac ag av : Option Addr) (nl kl nb kb nc kc ng kg nv kv : Nat) (live : List Msg5) (bs cl : List Dot2) (tags : List Tag2) (view : List Peer3) (k' f' s' p' fl' d0' d1' rc' lg' : Int) (mark' : ByteArray) (am' ab' ac' ag' av' : Option Addr) (nl' kl' nb' kb' nc' kc' ng' kg' nv' kv' : Nat) (live' : List Msg5) (bs' cl' : List Dot2) (tags' : List Tag2) (view' : List Peer3) (r : Bool) (hr : Hid (r = true ↔ WL.mk k f s p fl d0 d1 rc lg mark live bs cl tags view = WL.mk k' f' s' p' fl' d0' d1' rc' lg' mark' live' bs' cl' tags' view')) (w : World) (hL : Lies w am ab ac ag av nl nb nc ng nv live bs cl tags view) (hL' : Lies w am' ab' ac' ag' av' nl' nb' nc' ng' nv' live' bs' cl' tags' view') :
    Calls Try.prog 16 #[.agg #[.int .i64 k, .int .i64 f, .int .i64 s, .int .i64 p, .int .i64 fl, .string mark, .slice am nl kl, .slice ab nb kb, .slice ac nc kc, .slice ag ng kg, .slice av nv kv, .int .i64 d0, .int .i64 d1, .int .i64 rc, .int .i64 lg], .agg #[.int .i64 k', .int .i64 f', .int .i64 s', .int .i64 p', .int .i64 fl', .string mark', .slice am' nl' kl', .slice ab' nb' kb', .slice ac' nc' kc', .slice ag' ng' kg', .slice av' nv' kv', .int .i64 d0', .int .i64 d1', .int .i64 rc', .int .i64 lg']] w fun e w' => e = .returned (.bool r) ∧ Below w.heap.size w w' := by
  obtain ⟨wa, hwa⟩ := nm (w.alloc (.cells #[.int .i64 k, .int .i64 f, .int .i64 s, .int .i64 p, .int .i64 fl, .string mark, .slice am nl kl, .slice ab nb kb, .slice ac nc kc, .slice ag ng kg, .slice av nv kv, .int .i64 d0, .int .i64 d1, .int .i64 rc, .int .i64 lg] 33))
  obtain ⟨w0, hw0⟩ := nm (wa.alloc (.cells #[.int .i64 k', .int .i64 f', .int .i64 s', .int .i64 p', .int .i64 fl', .string mark', .slice am' nl' kl', .slice ab' nb' kb', .slice ac' nc' kc', .slice ag' ng' kg', .slice av' nv' kv', .int .i64 d0', .int .i64 d1', .int .i64 rc', .int .i64 lg'] 33))
  obtain ⟨x, hx⟩ := nm w.heap.size
  obtain ⟨y, hy⟩ := nm wa.heap.size
  have Kx : Hid (Blk w0 x #[.int .i64 k, .int .i64 f, .int .i64 s, .int .i64 p, .int .i64 fl, .string mark, .slice am nl kl, .slice ab nb kb, .slice ac nc kc, .slice ag ng kg, .slice av nv kv, .int .i64 d0, .int .i64 d1, .int .i64 rc, .int .i64 lg] 33) := by show Blk _ _ _ _; rw [hw0.out]; exact (blkN hwa.out hx.out).alloc _
  have Ky : Hid (Blk w0 y #[.int .i64 k', .int .i64 f', .int .i64 s', .int .i64 p', .int .i64 fl', .string mark', .slice am' nl' kl', .slice ab' nb' kb', .slice ac' nc' kc', .slice ag' ng' kg', .slice av' nv' kv', .int .i64 d0', .int .i64 d1', .int .i64 rc', .int .i64 lg'] 33) := blkN hw0.out hy.out
  have HB0 : Hid (Below w.heap.size w w0) := by rw [hw0.out, hwa.out]; exact bNew (bOld _) _
  have HL : Hid (Lies w0 am ab ac ag av nl nb nc ng nv live bs cl tags view) := hL.below HB0.out
  have HL' : Hid (Lies w0 am' ab' ac' ag' av' nl' nb' nc' ng' nv' live' bs' cl' tags' view') := hL'.below HB0.out
  have HSZ : Hid (x + 1 = y) := by show _ = _; rw [hy.out, hwa.out, hx.out]; simp
  clear hL hL'
  obtain ⟨N, hN, hNf, hNt⟩ := boolOf (k = k' ∧ f = f' ∧ s = s' ∧ p = p' ∧ fl = fl' ∧ d0 = d0' ∧ d1 = d1' ∧ rc = rc' ∧ lg = lg')
  obtain ⟨M, hM⟩ := nm (decide (mark = mark'))
  obtain ⟨G, hG, hGf, hGt⟩ := boolOf (live = live' ∧ bs = bs' ∧ cl = cl')
  obtain ⟨T, hT⟩ := nm (decide (tags = tags'))
  obtain ⟨V, hV⟩ := nm (decide (view = view'))
  have hR : Hid (r = (N && (M && (G && (T && V))))) := by
    show _ = _
    rw [Bool.eq_iff_iff, hr.out, WL.mk.injEq]
    simp only [Bool.and_eq_true, hN.out, hM.out, hG.out, hT.out, hV.out, decide_eq_true_iff]
    constructor
    · rintro ⟨a1, a2, a3, a4, a5, a6, a7, a8, a9, a10, a11, a12, a13, a14, a15⟩
      exact ⟨⟨a1, a2, a3, a4, a5, a6, a7, a8, a9⟩, a10, ⟨a11, a12, a13⟩, a14, a15⟩
    · rintro ⟨⟨a1, a2, a3, a4, a5, a6, a7, a8, a9⟩, a10, ⟨a11, a12, a13⟩, a14, a15⟩
      exact ⟨a1, a2, a3, a4, a5, a6, a7, a8, a9, a10, a11, a12, a13, a14, a15⟩
  have hmk : (mark.toList == mark'.toList) = M := by rw [beqG, hM.out]
  have heq := fun w : World => eqlN hN w
  have hgd := fun (a b : Operand) (w : World) => guardN .eql a b #[.int .i64 k, .int .i64 f, .int .i64 s, .int .i64 p, .int .i64 fl, .int .i64 d0, .int .i64 d1, .int .i64 rc, .int .i64 lg] #[.int .i64 k', .int .i64 f', .int .i64 s', .int .i64 p', .int .i64 fl', .int .i64 d0', .int .i64 d1', .int .i64 rc', .int .i64 lg'] w
  go_enter Try.func16, Try.ntmps16
  go_upto_region 1 with fail
  rw [← hwa.out, ← hw0.out, ← hx.out]
  rw [HSZ.out]
  have c0 : w0.cell? ⟨x, 0, none⟩ = some (.int .i64 k) := Kx.out.cell 0
  have e0 : w0.cell? ⟨y, 0, none⟩ = some (.int .i64 k') := Ky.out.cell 0
  have c1 : w0.cell? ⟨x, 1, none⟩ = some (.int .i64 f) := Kx.out.cell 1
  have e1 : w0.cell? ⟨y, 1, none⟩ = some (.int .i64 f') := Ky.out.cell 1
  have c2 : w0.cell? ⟨x, 2, none⟩ = some (.int .i64 s) := Kx.out.cell 2
  have e2 : w0.cell? ⟨y, 2, none⟩ = some (.int .i64 s') := Ky.out.cell 2
  have c3 : w0.cell? ⟨x, 3, none⟩ = some (.int .i64 p) := Kx.out.cell 3
  have e3 : w0.cell? ⟨y, 3, none⟩ = some (.int .i64 p') := Ky.out.cell 3
  have c4 : w0.cell? ⟨x, 4, none⟩ = some (.int .i64 fl) := Kx.out.cell 4
  have e4 : w0.cell? ⟨y, 4, none⟩ = some (.int .i64 fl') := Ky.out.cell 4
  have c5 : w0.cell? ⟨x, 5, none⟩ = some (.string mark) := Kx.out.cell 5
  have e5 : w0.cell? ⟨y, 5, none⟩ = some (.string mark') := Ky.out.cell 5
  have c6 : w0.cell? ⟨x, 6, none⟩ = some (.slice am nl kl) := Kx.out.cell 6
  have e6 : w0.cell? ⟨y, 6, none⟩ = some (.slice am' nl' kl') := Ky.out.cell 6
  have c7 : w0.cell? ⟨x, 7, none⟩ = some (.slice ab nb kb) := Kx.out.cell 7
  have e7 : w0.cell? ⟨y, 7, none⟩ = some (.slice ab' nb' kb') := Ky.out.cell 7
  have c8 : w0.cell? ⟨x, 8, none⟩ = some (.slice ac nc kc) := Kx.out.cell 8
  have e8 : w0.cell? ⟨y, 8, none⟩ = some (.slice ac' nc' kc') := Ky.out.cell 8
  have c9 : w0.cell? ⟨x, 9, none⟩ = some (.slice ag ng kg) := Kx.out.cell 9
  have e9 : w0.cell? ⟨y, 9, none⟩ = some (.slice ag' ng' kg') := Ky.out.cell 9
  have c10 : w0.cell? ⟨x, 10, none⟩ = some (.slice av nv kv) := Kx.out.cell 10
  have e10 : w0.cell? ⟨y, 10, none⟩ = some (.slice av' nv' kv') := Ky.out.cell 10
  have c11 : w0.cell? ⟨x, 11, none⟩ = some (.int .i64 d0) := Kx.out.cell 11
  have e11 : w0.cell? ⟨y, 11, none⟩ = some (.int .i64 d0') := Ky.out.cell 11
  have c12 : w0.cell? ⟨x, 12, none⟩ = some (.int .i64 d1) := Kx.out.cell 12
  have e12 : w0.cell? ⟨y, 12, none⟩ = some (.int .i64 d1') := Ky.out.cell 12
  have c13 : w0.cell? ⟨x, 13, none⟩ = some (.int .i64 rc) := Kx.out.cell 13
  have e13 : w0.cell? ⟨y, 13, none⟩ = some (.int .i64 rc') := Ky.out.cell 13
  have c14 : w0.cell? ⟨x, 14, none⟩ = some (.int .i64 lg) := Kx.out.cell 14
  have e14 : w0.cell? ⟨y, 14, none⟩ = some (.int .i64 lg') := Ky.out.cell 14
  have KEEP : Hid (∀ wb : World, Below w0.drew.heap.size w0.drew wb → wb.cell? ⟨x, 0, none⟩ = some (.int .i64 k) ∧ wb.cell? ⟨x, 1, none⟩ = some (.int .i64 f) ∧ wb.cell? ⟨x, 2, none⟩ = some (.int .i64 s) ∧ wb.cell? ⟨x, 3, none⟩ = some (.int .i64 p) ∧ wb.cell? ⟨x, 4, none⟩ = some (.int .i64 fl) ∧ wb.cell? ⟨x, 5, none⟩ = some (.string mark) ∧ wb.cell? ⟨x, 6, none⟩ = some (.slice am nl kl) ∧ wb.cell? ⟨x, 7, none⟩ = some (.slice ab nb kb) ∧ wb.cell? ⟨x, 8, none⟩ = some (.slice ac nc kc) ∧ wb.cell? ⟨x, 9, none⟩ = some (.slice ag ng kg) ∧ wb.cell? ⟨x, 10, none⟩ = some (.slice av nv kv) ∧ wb.cell? ⟨x, 11, none⟩ = some (.int .i64 d0) ∧ wb.cell? ⟨x, 12, none⟩ = some (.int .i64 d1) ∧ wb.cell? ⟨x, 13, none⟩ = some (.int .i64 rc) ∧ wb.cell? ⟨x, 14, none⟩ = some (.int .i64 lg) ∧ wb.cell? ⟨y, 0, none⟩ = some (.int .i64 k') ∧ wb.cell? ⟨y, 1, none⟩ = some (.int .i64 f') ∧ wb.cell? ⟨y, 2, none⟩ = some (.int .i64 s') ∧ wb.cell? ⟨y, 3, none⟩ = some (.int .i64 p') ∧ wb.cell? ⟨y, 4, none⟩ = some (.int .i64 fl') ∧ wb.cell? ⟨y, 5, none⟩ = some (.string mark') ∧ wb.cell? ⟨y, 6, none⟩ = some (.slice am' nl' kl') ∧ wb.cell? ⟨y, 7, none⟩ = some (.slice ab' nb' kb') ∧ wb.cell? ⟨y, 8, none⟩ = some (.slice ac' nc' kc') ∧ wb.cell? ⟨y, 9, none⟩ = some (.slice ag' ng' kg') ∧ wb.cell? ⟨y, 10, none⟩ = some (.slice av' nv' kv') ∧ wb.cell? ⟨y, 11, none⟩ = some (.int .i64 d0') ∧ wb.cell? ⟨y, 12, none⟩ = some (.int .i64 d1') ∧ wb.cell? ⟨y, 13, none⟩ = some (.int .i64 rc') ∧ wb.cell? ⟨y, 14, none⟩ = some (.int .i64 lg')) := by
    show ∀ wb : World, _
    intro wb h
    have h1 := Blk.below (w := w0.drew) Kx.out h Kx.out.lt
    have h2 := Blk.below (w := w0.drew) Ky.out h Ky.out.lt
    exact ⟨h1.cell 0, h1.cell 1, h1.cell 2, h1.cell 3, h1.cell 4, h1.cell 5, h1.cell 6, h1.cell 7, h1.cell 8, h1.cell 9, h1.cell 10, h1.cell 11, h1.cell 12, h1.cell 13, h1.cell 14, h2.cell 0, h2.cell 1, h2.cell 2, h2.cell 3, h2.cell 4, h2.cell 5, h2.cell 6, h2.cell 7, h2.cell 8, h2.cell 9, h2.cell 10, h2.cell 11, h2.cell 12, h2.cell 13, h2.cell 14⟩
  cases N
  · obtain rfl : r = false := by rw [hR.out]; rfl
    refine wp_region_held_drew (S := fun w' => w'.cell? ⟨x, 0, none⟩ = some (.int .i64 k) ∧ w'.cell? ⟨x, 1, none⟩ = some (.int .i64 f) ∧ w'.cell? ⟨x, 2, none⟩ = some (.int .i64 s) ∧ w'.cell? ⟨x, 3, none⟩ = some (.int .i64 p) ∧ w'.cell? ⟨x, 4, none⟩ = some (.int .i64 fl) ∧ w'.cell? ⟨x, 5, none⟩ = some (.string mark) ∧ w'.cell? ⟨x, 6, none⟩ = some (.slice am nl kl) ∧ w'.cell? ⟨x, 7, none⟩ = some (.slice ab nb kb) ∧ w'.cell? ⟨x, 8, none⟩ = some (.slice ac nc kc) ∧ w'.cell? ⟨x, 9, none⟩ = some (.slice ag ng kg) ∧ w'.cell? ⟨x, 10, none⟩ = some (.slice av nv kv) ∧ w'.cell? ⟨x, 11, none⟩ = some (.int .i64 d0) ∧ w'.cell? ⟨x, 12, none⟩ = some (.int .i64 d1) ∧ w'.cell? ⟨x, 13, none⟩ = some (.int .i64 rc) ∧ w'.cell? ⟨x, 14, none⟩ = some (.int .i64 lg) ∧ w'.cell? ⟨y, 0, none⟩ = some (.int .i64 k') ∧ w'.cell? ⟨y, 1, none⟩ = some (.int .i64 f') ∧ w'.cell? ⟨y, 2, none⟩ = some (.int .i64 s') ∧ w'.cell? ⟨y, 3, none⟩ = some (.int .i64 p') ∧ w'.cell? ⟨y, 4, none⟩ = some (.int .i64 fl') ∧ w'.cell? ⟨y, 5, none⟩ = some (.string mark') ∧ w'.cell? ⟨y, 6, none⟩ = some (.slice am' nl' kl') ∧ w'.cell? ⟨y, 7, none⟩ = some (.slice ab' nb' kb') ∧ w'.cell? ⟨y, 8, none⟩ = some (.slice ac' nc' kc') ∧ w'.cell? ⟨y, 9, none⟩ = some (.slice ag' ng' kg') ∧ w'.cell? ⟨y, 10, none⟩ = some (.slice av' nv' kv') ∧ w'.cell? ⟨y, 11, none⟩ = some (.int .i64 d0') ∧ w'.cell? ⟨y, 12, none⟩ = some (.int .i64 d1') ∧ w'.cell? ⟨y, 13, none⟩ = some (.int .i64 rc') ∧ w'.cell? ⟨y, 14, none⟩ = some (.int .i64 lg')) (by kernel_rfl) (⟨c0, c1, c2, c3, c4, c5, c6, c7, c8, c9, c10, c11, c12, c13, c14, e0, e1, e2, e3, e4, e5, e6, e7, e8, e9, e10, e11, e12, e13, e14⟩) (fun hHeld => ?_)
    refine wpAnyH_take (i := 0) (v := ?_) (takeL rfl) (by kernel_rfl) (by kernel_rfl) (by kernel_rfl) (fun _ _ _ h => h) (Or.inl ⟨by rfl, ?_⟩) (by assumption) ?_
    rotate_left
    · (intro w hSw; (try dsimp only at hSw); first | (go_simp; done) | (go_simp; with_reducible rfl))
    try simp only [Act.put, List.setIfInBounds_toArray, List.set_cons_zero, List.set_cons_succ]
    refine wpAnyH_take (i := 2) (v := ?_) (takeL rfl) (by kernel_rfl) (by kernel_rfl) (by kernel_rfl) (fun _ _ _ h => h) (Or.inl ⟨by rfl, ?_⟩) (by assumption) ?_
    rotate_left
    · (intro w hSw; (try dsimp only at hSw); first | (go_simp; done) | (go_simp; with_reducible rfl))
    try simp only [Act.put, List.setIfInBounds_toArray, List.set_cons_zero, List.set_cons_succ]
    refine wpAnyH_ready (rs := [1]) (by kernel_rfl) (by simp) ?_
    refine AllReadyH.cons (takeL rfl) (fun K hK => ?_) AllReadyH.nil
    go_simp
    refine (nums_is k f s p fl d0 d1 rc lg mark am ab ac ag av nl kl nb kb nc kc ng kg nv kv _).mono ?_; rintro e v1 ⟨rfl, hb1⟩
    go_wp2_with fail
    refine hK.out _ _ (KEEP.out _ (hb1)) (fun hHeld => ?_)
    clear hK K
    refine wpAnyH_ready (rs := [3]) (by kernel_rfl) (by simp) ?_
    refine AllReadyH.cons (takeL rfl) (fun K hK => ?_) AllReadyH.nil
    go_simp
    refine (nums_is k' f' s' p' fl' d0' d1' rc' lg' mark' am' ab' ac' ag' av' nl' kl' nb' kb' nc' kc' ng' kg' nv' kv' _).mono ?_; rintro e v2 ⟨rfl, hb2⟩
    go_wp2_with fail
    refine hK.out _ _ (KEEP.out _ (bNext hb1 hb2)) (fun hHeld => ?_)
    clear hK K
    refine wpAnyH_take (i := 4) (v := ?_) (takeL rfl) (by kernel_rfl) (by kernel_rfl) (by kernel_rfl) (fun _ _ _ h => h) (Or.inl ⟨by rfl, ?_⟩) (by assumption) ?_
    rotate_left
    · (intro w hSw; (try dsimp only at hSw); first | (go_simp; done) | (go_simp; with_reducible rfl))
    try simp only [Act.put, List.setIfInBounds_toArray, List.set_cons_zero, List.set_cons_succ]
    refine wpAnyH_take (i := 5) (v := ?_) (takeL rfl) (by kernel_rfl) (by kernel_rfl) (by kernel_rfl) (fun _ _ _ h => h) (Or.inl ⟨by rfl, ?_⟩) (by assumption) ?_
    rotate_left
    · (intro w hSw; (try dsimp only at hSw); first | (go_simp; done) | (go_simp; with_reducible rfl))
    try simp only [Act.put, List.setIfInBounds_toArray, List.set_cons_zero, List.set_cons_succ]
    refine wpAnyH_take (i := 6) (v := undef) (takeL rfl) (by kernel_rfl) (by kernel_rfl) (by kernel_rfl) (fun _ _ _ h => h) (Or.inr ⟨by rfl, rfl⟩) (by assumption) ?_
    try simp only [Act.put, List.setIfInBounds_toArray, List.set_cons_zero, List.set_cons_succ]
    refine wpAnyH_take (i := 7) (v := undef) (takeL rfl) (by kernel_rfl) (by kernel_rfl) (by kernel_rfl) (fun _ _ _ h => h) (Or.inr ⟨by rfl, rfl⟩) (by assumption) ?_
    try simp only [Act.put, List.setIfInBounds_toArray, List.set_cons_zero, List.set_cons_succ]
    refine wpAnyH_take (i := 8) (v := undef) (takeL rfl) (by kernel_rfl) (by kernel_rfl) (by kernel_rfl) (fun _ _ _ h => h) (Or.inr ⟨by rfl, rfl⟩) (by assumption) ?_
    try simp only [Act.put, List.setIfInBounds_toArray, List.set_cons_zero, List.set_cons_succ]
    refine wpAnyH_take (i := 9) (v := undef) (takeL rfl) (by kernel_rfl) (by kernel_rfl) (by kernel_rfl) (fun _ _ _ h => h) (Or.inr ⟨by rfl, rfl⟩) (by assumption) ?_
    try simp only [Act.put, List.setIfInBounds_toArray, List.set_cons_zero, List.set_cons_succ]
    refine wpAnyH_take (i := 10) (v := undef) (takeL rfl) (by kernel_rfl) (by kernel_rfl) (by kernel_rfl) (fun _ _ _ h => h) (Or.inr ⟨by rfl, rfl⟩) (by assumption) ?_
    try simp only [Act.put, List.setIfInBounds_toArray, List.set_cons_zero, List.set_cons_succ]
    refine wpAnyH_take (i := 11) (v := ?_) (takeL rfl) (by kernel_rfl) (by kernel_rfl) (by kernel_rfl) (fun _ _ _ h => h) (Or.inl ⟨by rfl, ?_⟩) (by assumption) ?_
    rotate_left
    · (intro w hSw; (try dsimp only at hSw); first | (go_simp; done) | (go_simp; with_reducible rfl))
    try simp only [Act.put, List.setIfInBounds_toArray, List.set_cons_zero, List.set_cons_succ]
    refine wpAnyH_take (i := 12) (v := ?_) (takeL rfl) (by kernel_rfl) (by kernel_rfl) (by kernel_rfl) (fun _ _ _ h => h) (Or.inl ⟨by rfl, ?_⟩) (by assumption) ?_
    rotate_left
    · (intro w hSw; (try dsimp only at hSw); first | (go_simp; done) | (go_simp; with_reducible rfl))
    try simp only [Act.put, List.setIfInBounds_toArray, List.set_cons_zero, List.set_cons_succ]
    refine wpAnyH_take (i := 13) (v := undef) (takeL rfl) (by kernel_rfl) (by kernel_rfl) (by kernel_rfl) (fun _ _ _ h => h) (Or.inr ⟨by rfl, rfl⟩) (by assumption) ?_
    try simp only [Act.put, List.setIfInBounds_toArray, List.set_cons_zero, List.set_cons_succ]
    refine wpAnyH_take (i := 14) (v := undef) (takeL rfl) (by kernel_rfl) (by kernel_rfl) (by kernel_rfl) (fun _ _ _ h => h) (Or.inr ⟨by rfl, rfl⟩) (by assumption) ?_
    try simp only [Act.put, List.setIfInBounds_toArray, List.set_cons_zero, List.set_cons_succ]
    refine wpAnyH_take (i := 15) (v := undef) (takeL rfl) (by kernel_rfl) (by kernel_rfl) (by kernel_rfl) (fun _ _ _ h => h) (Or.inr ⟨by rfl, rfl⟩) (by assumption) ?_
    try simp only [Act.put, List.setIfInBounds_toArray, List.set_cons_zero, List.set_cons_succ]
    refine wpAnyH_take (i := 16) (v := undef) (takeL rfl) (by kernel_rfl) (by kernel_rfl) (by kernel_rfl) (fun _ _ _ h => h) (Or.inr ⟨by rfl, rfl⟩) (by assumption) ?_
    try simp only [Act.put, List.setIfInBounds_toArray, List.set_cons_zero, List.set_cons_succ]
    refine wpAnyH_take (i := 17) (v := undef) (takeL rfl) (by kernel_rfl) (by kernel_rfl) (by kernel_rfl) (fun _ _ _ h => h) (Or.inr ⟨by rfl, rfl⟩) (by assumption) ?_
    try simp only [Act.put, List.setIfInBounds_toArray, List.set_cons_zero, List.set_cons_succ]
    refine wpAnyH_take (i := 18) (v := ?_) (takeL rfl) (by kernel_rfl) (by kernel_rfl) (by kernel_rfl) (fun _ _ _ h => h) (Or.inl ⟨by rfl, ?_⟩) (by assumption) ?_
    rotate_left
    · (intro w hSw; (try dsimp only at hSw); first | (go_simp; done) | (go_simp; with_reducible rfl))
    try simp only [Act.put, List.setIfInBounds_toArray, List.set_cons_zero, List.set_cons_succ]
    refine wpAnyH_take (i := 19) (v := ?_) (takeL rfl) (by kernel_rfl) (by kernel_rfl) (by kernel_rfl) (fun _ _ _ h => h) (Or.inl ⟨by rfl, ?_⟩) (by assumption) ?_
    rotate_left
    · (intro w hSw; (try dsimp only at hSw); first | (go_simp; done) | (go_simp; with_reducible rfl))
    try simp only [Act.put, List.setIfInBounds_toArray, List.set_cons_zero, List.set_cons_succ]
    refine wpAnyH_take (i := 20) (v := undef) (takeL rfl) (by kernel_rfl) (by kernel_rfl) (by kernel_rfl) (fun _ _ _ h => h) (Or.inr ⟨by rfl, rfl⟩) (by assumption) ?_
    try simp only [Act.put, List.setIfInBounds_toArray, List.set_cons_zero, List.set_cons_succ]
    refine wpAnyH_take (i := 21) (v := undef) (takeL rfl) (by kernel_rfl) (by kernel_rfl) (by kernel_rfl) (fun _ _ _ h => h) (Or.inr ⟨by rfl, rfl⟩) (by assumption) ?_
    try simp only [Act.put, List.setIfInBounds_toArray, List.set_cons_zero, List.set_cons_succ]
    refine wpAnyH_take (i := 22) (v := undef) (takeL rfl) (by kernel_rfl) (by kernel_rfl) (by kernel_rfl) (fun _ _ _ h => h) (Or.inr ⟨by rfl, rfl⟩) (by assumption) ?_
    try simp only [Act.put, List.setIfInBounds_toArray, List.set_cons_zero, List.set_cons_succ]
    refine wpAnyH_take (i := 23) (v := undef) (takeL rfl) (by kernel_rfl) (by kernel_rfl) (by kernel_rfl) (fun _ _ _ h => h) (Or.inr ⟨by rfl, rfl⟩) (by assumption) ?_
    try simp only [Act.put, List.setIfInBounds_toArray, List.set_cons_zero, List.set_cons_succ]
    refine wpAnyH_take (i := 24) (v := undef) (takeL rfl) (by kernel_rfl) (by kernel_rfl) (by kernel_rfl) (fun _ _ _ h => h) (Or.inr ⟨by rfl, rfl⟩) (by assumption) ?_
    try simp only [Act.put, List.setIfInBounds_toArray, List.set_cons_zero, List.set_cons_succ]
    refine wpAnyH_take (i := 25) (v := ?_) (takeL rfl) (by kernel_rfl) (by kernel_rfl) (by kernel_rfl) (fun _ _ _ h => h) (Or.inl ⟨by rfl, ?_⟩) (by assumption) ?_
    rotate_left
    · (intro w hSw; (try dsimp only at hSw); first | (go_simp; done) | (go_simp; with_reducible rfl))
    try simp only [Act.put, List.setIfInBounds_toArray, List.set_cons_zero, List.set_cons_succ]
    refine wpAnyH_take (i := 26) (v := ?_) (takeL rfl) (by kernel_rfl) (by kernel_rfl) (by kernel_rfl) (fun _ _ _ h => h) (Or.inl ⟨by rfl, ?_⟩) (by assumption) ?_
    rotate_left
    · (intro w hSw; (try dsimp only at hSw); first | (go_simp; done) | (go_simp; with_reducible rfl))
    try simp only [Act.put, List.setIfInBounds_toArray, List.set_cons_zero, List.set_cons_succ]
    refine wpAnyH_take (i := 27) (v := undef) (takeL rfl) (by kernel_rfl) (by kernel_rfl) (by kernel_rfl) (fun _ _ _ h => h) (Or.inr ⟨by rfl, rfl⟩) (by assumption) ?_
    try simp only [Act.put, List.setIfInBounds_toArray, List.set_cons_zero, List.set_cons_succ]
    refine wpAnyH_take (i := 28) (v := undef) (takeL rfl) (by kernel_rfl) (by kernel_rfl) (by kernel_rfl) (fun _ _ _ h => h) (Or.inr ⟨by rfl, rfl⟩) (by assumption) ?_
    try simp only [Act.put, List.setIfInBounds_toArray, List.set_cons_zero, List.set_cons_succ]
    refine wpAnyH_take (i := 29) (v := undef) (takeL rfl) (by kernel_rfl) (by kernel_rfl) (by kernel_rfl) (fun _ _ _ h => h) (Or.inr ⟨by rfl, rfl⟩) (by assumption) ?_
    try simp only [Act.put, List.setIfInBounds_toArray, List.set_cons_zero, List.set_cons_succ]
    refine wpAnyH_take (i := 30) (v := undef) (takeL rfl) (by kernel_rfl) (by kernel_rfl) (by kernel_rfl) (fun _ _ _ h => h) (Or.inr ⟨by rfl, rfl⟩) (by assumption) ?_
    try simp only [Act.put, List.setIfInBounds_toArray, List.set_cons_zero, List.set_cons_succ]
    refine wpAnyH_take (i := 31) (v := undef) (takeL rfl) (by kernel_rfl) (by kernel_rfl) (by kernel_rfl) (fun _ _ _ h => h) (Or.inr ⟨by rfl, rfl⟩) (by assumption) ?_
    try simp only [Act.put, List.setIfInBounds_toArray, List.set_cons_zero, List.set_cons_succ]
    refine wpAnyH_take (i := 32) (v := ?_) (takeL rfl) (by kernel_rfl) (by kernel_rfl) (by kernel_rfl) (fun _ _ _ h => h) (Or.inl ⟨by rfl, ?_⟩) (by assumption) ?_
    rotate_left
    · (intro w hSw; (try dsimp only at hSw); first | (go_simp; done) | (go_simp; with_reducible rfl))
    try simp only [Act.put, List.setIfInBounds_toArray, List.set_cons_zero, List.set_cons_succ]
    refine wpAnyH_take (i := 33) (v := ?_) (takeL rfl) (by kernel_rfl) (by kernel_rfl) (by kernel_rfl) (fun _ _ _ h => h) (Or.inl ⟨by rfl, ?_⟩) (by assumption) ?_
    rotate_left
    · (intro w hSw; (try dsimp only at hSw); first | (go_simp; done) | (go_simp; with_reducible rfl))
    try simp only [Act.put, List.setIfInBounds_toArray, List.set_cons_zero, List.set_cons_succ]
    refine wpAnyH_done (by kernel_rfl) ?_ _
    go_wp2_with fail
    go_ret
    exact ⟨rfl, bNext (bDrew HB0.out) (bNext hb1 hb2)⟩
  cases M
  · obtain rfl : r = false := by rw [hR.out]; rfl
    refine wp_region_held_drew (S := fun w' => w'.cell? ⟨x, 0, none⟩ = some (.int .i64 k) ∧ w'.cell? ⟨x, 1, none⟩ = some (.int .i64 f) ∧ w'.cell? ⟨x, 2, none⟩ = some (.int .i64 s) ∧ w'.cell? ⟨x, 3, none⟩ = some (.int .i64 p) ∧ w'.cell? ⟨x, 4, none⟩ = some (.int .i64 fl) ∧ w'.cell? ⟨x, 5, none⟩ = some (.string mark) ∧ w'.cell? ⟨x, 6, none⟩ = some (.slice am nl kl) ∧ w'.cell? ⟨x, 7, none⟩ = some (.slice ab nb kb) ∧ w'.cell? ⟨x, 8, none⟩ = some (.slice ac nc kc) ∧ w'.cell? ⟨x, 9, none⟩ = some (.slice ag ng kg) ∧ w'.cell? ⟨x, 10, none⟩ = some (.slice av nv kv) ∧ w'.cell? ⟨x, 11, none⟩ = some (.int .i64 d0) ∧ w'.cell? ⟨x, 12, none⟩ = some (.int .i64 d1) ∧ w'.cell? ⟨x, 13, none⟩ = some (.int .i64 rc) ∧ w'.cell? ⟨x, 14, none⟩ = some (.int .i64 lg) ∧ w'.cell? ⟨y, 0, none⟩ = some (.int .i64 k') ∧ w'.cell? ⟨y, 1, none⟩ = some (.int .i64 f') ∧ w'.cell? ⟨y, 2, none⟩ = some (.int .i64 s') ∧ w'.cell? ⟨y, 3, none⟩ = some (.int .i64 p') ∧ w'.cell? ⟨y, 4, none⟩ = some (.int .i64 fl') ∧ w'.cell? ⟨y, 5, none⟩ = some (.string mark') ∧ w'.cell? ⟨y, 6, none⟩ = some (.slice am' nl' kl') ∧ w'.cell? ⟨y, 7, none⟩ = some (.slice ab' nb' kb') ∧ w'.cell? ⟨y, 8, none⟩ = some (.slice ac' nc' kc') ∧ w'.cell? ⟨y, 9, none⟩ = some (.slice ag' ng' kg') ∧ w'.cell? ⟨y, 10, none⟩ = some (.slice av' nv' kv') ∧ w'.cell? ⟨y, 11, none⟩ = some (.int .i64 d0') ∧ w'.cell? ⟨y, 12, none⟩ = some (.int .i64 d1') ∧ w'.cell? ⟨y, 13, none⟩ = some (.int .i64 rc') ∧ w'.cell? ⟨y, 14, none⟩ = some (.int .i64 lg')) (by kernel_rfl) (⟨c0, c1, c2, c3, c4, c5, c6, c7, c8, c9, c10, c11, c12, c13, c14, e0, e1, e2, e3, e4, e5, e6, e7, e8, e9, e10, e11, e12, e13, e14⟩) (fun hHeld => ?_)
    refine wpAnyH_take (i := 0) (v := ?_) (takeL rfl) (by kernel_rfl) (by kernel_rfl) (by kernel_rfl) (fun _ _ _ h => h) (Or.inl ⟨by rfl, ?_⟩) (by assumption) ?_
    rotate_left
    · (intro w hSw; (try dsimp only at hSw); first | (go_simp; done) | (go_simp; with_reducible rfl))
    try simp only [Act.put, List.setIfInBounds_toArray, List.set_cons_zero, List.set_cons_succ]
    refine wpAnyH_take (i := 2) (v := ?_) (takeL rfl) (by kernel_rfl) (by kernel_rfl) (by kernel_rfl) (fun _ _ _ h => h) (Or.inl ⟨by rfl, ?_⟩) (by assumption) ?_
    rotate_left
    · (intro w hSw; (try dsimp only at hSw); first | (go_simp; done) | (go_simp; with_reducible rfl))
    try simp only [Act.put, List.setIfInBounds_toArray, List.set_cons_zero, List.set_cons_succ]
    refine wpAnyH_ready (rs := [1]) (by kernel_rfl) (by simp) ?_
    refine AllReadyH.cons (takeL rfl) (fun K hK => ?_) AllReadyH.nil
    go_simp
    refine (nums_is k f s p fl d0 d1 rc lg mark am ab ac ag av nl kl nb kb nc kc ng kg nv kv _).mono ?_; rintro e v1 ⟨rfl, hb1⟩
    go_wp2_with fail
    refine hK.out _ _ (KEEP.out _ (hb1)) (fun hHeld => ?_)
    clear hK K
    refine wpAnyH_ready (rs := [3]) (by kernel_rfl) (by simp) ?_
    refine AllReadyH.cons (takeL rfl) (fun K hK => ?_) AllReadyH.nil
    go_simp
    refine (nums_is k' f' s' p' fl' d0' d1' rc' lg' mark' am' ab' ac' ag' av' nl' kl' nb' kb' nc' kc' ng' kg' nv' kv' _).mono ?_; rintro e v2 ⟨rfl, hb2⟩
    go_wp2_with fail
    refine hK.out _ _ (KEEP.out _ (bNext hb1 hb2)) (fun hHeld => ?_)
    clear hK K
    refine wpAnyH_take (i := 4) (v := ?_) (takeL rfl) (by kernel_rfl) (by kernel_rfl) (by kernel_rfl) (fun _ _ _ h => h) (Or.inl ⟨by rfl, ?_⟩) (by assumption) ?_
    rotate_left
    · (intro w hSw; (try dsimp only at hSw); first | (go_simp; done) | (go_simp; with_reducible rfl))
    try simp only [Act.put, List.setIfInBounds_toArray, List.set_cons_zero, List.set_cons_succ]
    refine wpAnyH_take (i := 5) (v := ?_) (takeL rfl) (by kernel_rfl) (by kernel_rfl) (by kernel_rfl) (fun _ _ _ h => h) (Or.inl ⟨by rfl, ?_⟩) (by assumption) ?_
    rotate_left
    · (intro w hSw; (try dsimp only at hSw); first | (go_simp; done) | (go_simp; with_reducible rfl))
    try simp only [Act.put, List.setIfInBounds_toArray, List.set_cons_zero, List.set_cons_succ]
    refine wpAnyH_take (i := 6) (v := ?_) (takeL rfl) (by kernel_rfl) (by kernel_rfl) (by kernel_rfl) (fun _ _ _ h => h) (Or.inl ⟨by rfl, ?_⟩) (by assumption) ?_
    rotate_left
    · (intro w hSw; (try dsimp only at hSw); first | (go_simp; done) | (go_simp; with_reducible rfl))
    try simp only [Act.put, List.setIfInBounds_toArray, List.set_cons_zero, List.set_cons_succ]
    refine wpAnyH_take (i := 7) (v := ?_) (takeL rfl) (by kernel_rfl) (by kernel_rfl) (by kernel_rfl) (fun _ _ _ h => h) (Or.inl ⟨by rfl, ?_⟩) (by assumption) ?_
    rotate_left
    · (intro w hSw; (try dsimp only at hSw); first | (go_simp; done) | (go_simp; with_reducible rfl))
    try simp only [Act.put, List.setIfInBounds_toArray, List.set_cons_zero, List.set_cons_succ]
    refine wpAnyH_take (i := 8) (v := ?_) (takeL rfl) (by kernel_rfl) (by kernel_rfl) (by kernel_rfl) (fun _ _ _ h => h) (Or.inl ⟨by rfl, ?_⟩) (by assumption) ?_
    rotate_left
    · (intro w hSw; (try dsimp only at hSw); first | (go_simp; done) | (go_simp; with_reducible rfl))
    try simp only [Act.put, List.setIfInBounds_toArray, List.set_cons_zero, List.set_cons_succ]
    refine wpAnyH_take (i := 9) (v := ?_) (takeL rfl) (by kernel_rfl) (by kernel_rfl) (by kernel_rfl) (fun _ _ _ h => h) (Or.inl ⟨by rfl, ?_⟩) (by assumption) ?_
    rotate_left
    · (intro w hSw; (try dsimp only at hSw); first | (go_simp; done) | (go_simp; with_reducible rfl))
    try simp only [Act.put, List.setIfInBounds_toArray, List.set_cons_zero, List.set_cons_succ]
    refine wpAnyH_take (i := 10) (v := ?_) (takeL rfl) (by kernel_rfl) (by kernel_rfl) (by kernel_rfl) (fun _ _ _ h => h) (Or.inl ⟨by rfl, ?_⟩) (by assumption) ?_
    rotate_left
    · (intro w hSw; (try dsimp only at hSw); first | (go_simp; done) | (go_simp; with_reducible rfl))
    try simp only [Act.put, List.setIfInBounds_toArray, List.set_cons_zero, List.set_cons_succ]
    refine wpAnyH_take (i := 11) (v := ?_) (takeL rfl) (by kernel_rfl) (by kernel_rfl) (by kernel_rfl) (fun _ _ _ h => h) (Or.inl ⟨by rfl, ?_⟩) (by assumption) ?_
    rotate_left
    · (intro w hSw; (try dsimp only at hSw); first | (go_simp; done) | (go_simp; with_reducible rfl))
    try simp only [Act.put, List.setIfInBounds_toArray, List.set_cons_zero, List.set_cons_succ]
    refine wpAnyH_take (i := 12) (v := ?_) (takeL rfl) (by kernel_rfl) (by kernel_rfl) (by kernel_rfl) (fun _ _ _ h => h) (Or.inl ⟨by rfl, ?_⟩) (by assumption) ?_
    rotate_left
    · (intro w hSw; (try dsimp only at hSw); first | (go_simp; done) | (go_simp; with_reducible rfl))
    try simp only [Act.put, List.setIfInBounds_toArray, List.set_cons_zero, List.set_cons_succ]
    refine wpAnyH_take (i := 13) (v := undef) (takeL rfl) (by kernel_rfl) (by kernel_rfl) (by kernel_rfl) (fun _ _ _ h => h) (Or.inr ⟨by rfl, rfl⟩) (by assumption) ?_
    try simp only [Act.put, List.setIfInBounds_toArray, List.set_cons_zero, List.set_cons_succ]
    refine wpAnyH_take (i := 14) (v := undef) (takeL rfl) (by kernel_rfl) (by kernel_rfl) (by kernel_rfl) (fun _ _ _ h => h) (Or.inr ⟨by rfl, rfl⟩) (by assumption) ?_
    try simp only [Act.put, List.setIfInBounds_toArray, List.set_cons_zero, List.set_cons_succ]
    refine wpAnyH_take (i := 15) (v := undef) (takeL rfl) (by kernel_rfl) (by kernel_rfl) (by kernel_rfl) (fun _ _ _ h => h) (Or.inr ⟨by rfl, rfl⟩) (by assumption) ?_
    try simp only [Act.put, List.setIfInBounds_toArray, List.set_cons_zero, List.set_cons_succ]
    refine wpAnyH_take (i := 16) (v := undef) (takeL rfl) (by kernel_rfl) (by kernel_rfl) (by kernel_rfl) (fun _ _ _ h => h) (Or.inr ⟨by rfl, rfl⟩) (by assumption) ?_
    try simp only [Act.put, List.setIfInBounds_toArray, List.set_cons_zero, List.set_cons_succ]
    refine wpAnyH_take (i := 17) (v := undef) (takeL rfl) (by kernel_rfl) (by kernel_rfl) (by kernel_rfl) (fun _ _ _ h => h) (Or.inr ⟨by rfl, rfl⟩) (by assumption) ?_
    try simp only [Act.put, List.setIfInBounds_toArray, List.set_cons_zero, List.set_cons_succ]
    refine wpAnyH_take (i := 18) (v := ?_) (takeL rfl) (by kernel_rfl) (by kernel_rfl) (by kernel_rfl) (fun _ _ _ h => h) (Or.inl ⟨by rfl, ?_⟩) (by assumption) ?_
    rotate_left
    · (intro w hSw; (try dsimp only at hSw); first | (go_simp; done) | (go_simp; with_reducible rfl))
    try simp only [Act.put, List.setIfInBounds_toArray, List.set_cons_zero, List.set_cons_succ]
    refine wpAnyH_take (i := 19) (v := ?_) (takeL rfl) (by kernel_rfl) (by kernel_rfl) (by kernel_rfl) (fun _ _ _ h => h) (Or.inl ⟨by rfl, ?_⟩) (by assumption) ?_
    rotate_left
    · (intro w hSw; (try dsimp only at hSw); first | (go_simp; done) | (go_simp; with_reducible rfl))
    try simp only [Act.put, List.setIfInBounds_toArray, List.set_cons_zero, List.set_cons_succ]
    refine wpAnyH_take (i := 20) (v := undef) (takeL rfl) (by kernel_rfl) (by kernel_rfl) (by kernel_rfl) (fun _ _ _ h => h) (Or.inr ⟨by rfl, rfl⟩) (by assumption) ?_
    try simp only [Act.put, List.setIfInBounds_toArray, List.set_cons_zero, List.set_cons_succ]
    refine wpAnyH_take (i := 21) (v := undef) (takeL rfl) (by kernel_rfl) (by kernel_rfl) (by kernel_rfl) (fun _ _ _ h => h) (Or.inr ⟨by rfl, rfl⟩) (by assumption) ?_
    try simp only [Act.put, List.setIfInBounds_toArray, List.set_cons_zero, List.set_cons_succ]
    refine wpAnyH_take (i := 22) (v := undef) (takeL rfl) (by kernel_rfl) (by kernel_rfl) (by kernel_rfl) (fun _ _ _ h => h) (Or.inr ⟨by rfl, rfl⟩) (by assumption) ?_
    try simp only [Act.put, List.setIfInBounds_toArray, List.set_cons_zero, List.set_cons_succ]
    refine wpAnyH_take (i := 23) (v := undef) (takeL rfl) (by kernel_rfl) (by kernel_rfl) (by kernel_rfl) (fun _ _ _ h => h) (Or.inr ⟨by rfl, rfl⟩) (by assumption) ?_
    try simp only [Act.put, List.setIfInBounds_toArray, List.set_cons_zero, List.set_cons_succ]
    refine wpAnyH_take (i := 24) (v := undef) (takeL rfl) (by kernel_rfl) (by kernel_rfl) (by kernel_rfl) (fun _ _ _ h => h) (Or.inr ⟨by rfl, rfl⟩) (by assumption) ?_
    try simp only [Act.put, List.setIfInBounds_toArray, List.set_cons_zero, List.set_cons_succ]
    refine wpAnyH_take (i := 25) (v := ?_) (takeL rfl) (by kernel_rfl) (by kernel_rfl) (by kernel_rfl) (fun _ _ _ h => h) (Or.inl ⟨by rfl, ?_⟩) (by assumption) ?_
    rotate_left
    · (intro w hSw; (try dsimp only at hSw); first | (go_simp; done) | (go_simp; with_reducible rfl))
    try simp only [Act.put, List.setIfInBounds_toArray, List.set_cons_zero, List.set_cons_succ]
    refine wpAnyH_take (i := 26) (v := ?_) (takeL rfl) (by kernel_rfl) (by kernel_rfl) (by kernel_rfl) (fun _ _ _ h => h) (Or.inl ⟨by rfl, ?_⟩) (by assumption) ?_
    rotate_left
    · (intro w hSw; (try dsimp only at hSw); first | (go_simp; done) | (go_simp; with_reducible rfl))
    try simp only [Act.put, List.setIfInBounds_toArray, List.set_cons_zero, List.set_cons_succ]
    refine wpAnyH_take (i := 27) (v := undef) (takeL rfl) (by kernel_rfl) (by kernel_rfl) (by kernel_rfl) (fun _ _ _ h => h) (Or.inr ⟨by rfl, rfl⟩) (by assumption) ?_
    try simp only [Act.put, List.setIfInBounds_toArray, List.set_cons_zero, List.set_cons_succ]
    refine wpAnyH_take (i := 28) (v := undef) (takeL rfl) (by kernel_rfl) (by kernel_rfl) (by kernel_rfl) (fun _ _ _ h => h) (Or.inr ⟨by rfl, rfl⟩) (by assumption) ?_
    try simp only [Act.put, List.setIfInBounds_toArray, List.set_cons_zero, List.set_cons_succ]
    refine wpAnyH_take (i := 29) (v := undef) (takeL rfl) (by kernel_rfl) (by kernel_rfl) (by kernel_rfl) (fun _ _ _ h => h) (Or.inr ⟨by rfl, rfl⟩) (by assumption) ?_
    try simp only [Act.put, List.setIfInBounds_toArray, List.set_cons_zero, List.set_cons_succ]
    refine wpAnyH_take (i := 30) (v := undef) (takeL rfl) (by kernel_rfl) (by kernel_rfl) (by kernel_rfl) (fun _ _ _ h => h) (Or.inr ⟨by rfl, rfl⟩) (by assumption) ?_
    try simp only [Act.put, List.setIfInBounds_toArray, List.set_cons_zero, List.set_cons_succ]
    refine wpAnyH_take (i := 31) (v := undef) (takeL rfl) (by kernel_rfl) (by kernel_rfl) (by kernel_rfl) (fun _ _ _ h => h) (Or.inr ⟨by rfl, rfl⟩) (by assumption) ?_
    try simp only [Act.put, List.setIfInBounds_toArray, List.set_cons_zero, List.set_cons_succ]
    refine wpAnyH_take (i := 32) (v := ?_) (takeL rfl) (by kernel_rfl) (by kernel_rfl) (by kernel_rfl) (fun _ _ _ h => h) (Or.inl ⟨by rfl, ?_⟩) (by assumption) ?_
    rotate_left
    · (intro w hSw; (try dsimp only at hSw); first | (go_simp; done) | (go_simp; with_reducible rfl))
    try simp only [Act.put, List.setIfInBounds_toArray, List.set_cons_zero, List.set_cons_succ]
    refine wpAnyH_take (i := 33) (v := ?_) (takeL rfl) (by kernel_rfl) (by kernel_rfl) (by kernel_rfl) (fun _ _ _ h => h) (Or.inl ⟨by rfl, ?_⟩) (by assumption) ?_
    rotate_left
    · (intro w hSw; (try dsimp only at hSw); first | (go_simp; done) | (go_simp; with_reducible rfl))
    try simp only [Act.put, List.setIfInBounds_toArray, List.set_cons_zero, List.set_cons_succ]
    refine wpAnyH_done (by kernel_rfl) ?_ _
    go_wp2_with fail
    go_ret
    exact ⟨rfl, bNext (bDrew HB0.out) (bNext hb1 hb2)⟩
  cases G
  · obtain rfl : r = false := by rw [hR.out]; rfl
    refine wp_region_held_drew (S := fun w' => w'.cell? ⟨x, 0, none⟩ = some (.int .i64 k) ∧ w'.cell? ⟨x, 1, none⟩ = some (.int .i64 f) ∧ w'.cell? ⟨x, 2, none⟩ = some (.int .i64 s) ∧ w'.cell? ⟨x, 3, none⟩ = some (.int .i64 p) ∧ w'.cell? ⟨x, 4, none⟩ = some (.int .i64 fl) ∧ w'.cell? ⟨x, 5, none⟩ = some (.string mark) ∧ w'.cell? ⟨x, 6, none⟩ = some (.slice am nl kl) ∧ w'.cell? ⟨x, 7, none⟩ = some (.slice ab nb kb) ∧ w'.cell? ⟨x, 8, none⟩ = some (.slice ac nc kc) ∧ w'.cell? ⟨x, 9, none⟩ = some (.slice ag ng kg) ∧ w'.cell? ⟨x, 10, none⟩ = some (.slice av nv kv) ∧ w'.cell? ⟨x, 11, none⟩ = some (.int .i64 d0) ∧ w'.cell? ⟨x, 12, none⟩ = some (.int .i64 d1) ∧ w'.cell? ⟨x, 13, none⟩ = some (.int .i64 rc) ∧ w'.cell? ⟨x, 14, none⟩ = some (.int .i64 lg) ∧ w'.cell? ⟨y, 0, none⟩ = some (.int .i64 k') ∧ w'.cell? ⟨y, 1, none⟩ = some (.int .i64 f') ∧ w'.cell? ⟨y, 2, none⟩ = some (.int .i64 s') ∧ w'.cell? ⟨y, 3, none⟩ = some (.int .i64 p') ∧ w'.cell? ⟨y, 4, none⟩ = some (.int .i64 fl') ∧ w'.cell? ⟨y, 5, none⟩ = some (.string mark') ∧ w'.cell? ⟨y, 6, none⟩ = some (.slice am' nl' kl') ∧ w'.cell? ⟨y, 7, none⟩ = some (.slice ab' nb' kb') ∧ w'.cell? ⟨y, 8, none⟩ = some (.slice ac' nc' kc') ∧ w'.cell? ⟨y, 9, none⟩ = some (.slice ag' ng' kg') ∧ w'.cell? ⟨y, 10, none⟩ = some (.slice av' nv' kv') ∧ w'.cell? ⟨y, 11, none⟩ = some (.int .i64 d0') ∧ w'.cell? ⟨y, 12, none⟩ = some (.int .i64 d1') ∧ w'.cell? ⟨y, 13, none⟩ = some (.int .i64 rc') ∧ w'.cell? ⟨y, 14, none⟩ = some (.int .i64 lg')) (by kernel_rfl) (⟨c0, c1, c2, c3, c4, c5, c6, c7, c8, c9, c10, c11, c12, c13, c14, e0, e1, e2, e3, e4, e5, e6, e7, e8, e9, e10, e11, e12, e13, e14⟩) (fun hHeld => ?_)
    refine wpAnyH_take (i := 0) (v := ?_) (takeL rfl) (by kernel_rfl) (by kernel_rfl) (by kernel_rfl) (fun _ _ _ h => h) (Or.inl ⟨by rfl, ?_⟩) (by assumption) ?_
    rotate_left
    · (intro w hSw; (try dsimp only at hSw); first | (go_simp; done) | (go_simp; with_reducible rfl))
    try simp only [Act.put, List.setIfInBounds_toArray, List.set_cons_zero, List.set_cons_succ]
    refine wpAnyH_take (i := 2) (v := ?_) (takeL rfl) (by kernel_rfl) (by kernel_rfl) (by kernel_rfl) (fun _ _ _ h => h) (Or.inl ⟨by rfl, ?_⟩) (by assumption) ?_
    rotate_left
    · (intro w hSw; (try dsimp only at hSw); first | (go_simp; done) | (go_simp; with_reducible rfl))
    try simp only [Act.put, List.setIfInBounds_toArray, List.set_cons_zero, List.set_cons_succ]
    refine wpAnyH_ready (rs := [1]) (by kernel_rfl) (by simp) ?_
    refine AllReadyH.cons (takeL rfl) (fun K hK => ?_) AllReadyH.nil
    go_simp
    refine (nums_is k f s p fl d0 d1 rc lg mark am ab ac ag av nl kl nb kb nc kc ng kg nv kv _).mono ?_; rintro e v1 ⟨rfl, hb1⟩
    go_wp2_with fail
    refine hK.out _ _ (KEEP.out _ (hb1)) (fun hHeld => ?_)
    clear hK K
    refine wpAnyH_ready (rs := [3]) (by kernel_rfl) (by simp) ?_
    refine AllReadyH.cons (takeL rfl) (fun K hK => ?_) AllReadyH.nil
    go_simp
    refine (nums_is k' f' s' p' fl' d0' d1' rc' lg' mark' am' ab' ac' ag' av' nl' kl' nb' kb' nc' kc' ng' kg' nv' kv' _).mono ?_; rintro e v2 ⟨rfl, hb2⟩
    go_wp2_with fail
    refine hK.out _ _ (KEEP.out _ (bNext hb1 hb2)) (fun hHeld => ?_)
    clear hK K
    refine wpAnyH_take (i := 4) (v := ?_) (takeL rfl) (by kernel_rfl) (by kernel_rfl) (by kernel_rfl) (fun _ _ _ h => h) (Or.inl ⟨by rfl, ?_⟩) (by assumption) ?_
    rotate_left
    · (intro w hSw; (try dsimp only at hSw); first | (go_simp; done) | (go_simp; with_reducible rfl))
    try simp only [Act.put, List.setIfInBounds_toArray, List.set_cons_zero, List.set_cons_succ]
    refine wpAnyH_take (i := 5) (v := ?_) (takeL rfl) (by kernel_rfl) (by kernel_rfl) (by kernel_rfl) (fun _ _ _ h => h) (Or.inl ⟨by rfl, ?_⟩) (by assumption) ?_
    rotate_left
    · (intro w hSw; (try dsimp only at hSw); first | (go_simp; done) | (go_simp; with_reducible rfl))
    try simp only [Act.put, List.setIfInBounds_toArray, List.set_cons_zero, List.set_cons_succ]
    refine wpAnyH_take (i := 6) (v := ?_) (takeL rfl) (by kernel_rfl) (by kernel_rfl) (by kernel_rfl) (fun _ _ _ h => h) (Or.inl ⟨by rfl, ?_⟩) (by assumption) ?_
    rotate_left
    · (intro w hSw; (try dsimp only at hSw); first | (go_simp; done) | (go_simp; with_reducible rfl))
    try simp only [Act.put, List.setIfInBounds_toArray, List.set_cons_zero, List.set_cons_succ]
    refine wpAnyH_take (i := 7) (v := ?_) (takeL rfl) (by kernel_rfl) (by kernel_rfl) (by kernel_rfl) (fun _ _ _ h => h) (Or.inl ⟨by rfl, ?_⟩) (by assumption) ?_
    rotate_left
    · (intro w hSw; (try dsimp only at hSw); first | (go_simp; done) | (go_simp; with_reducible rfl))
    try simp only [Act.put, List.setIfInBounds_toArray, List.set_cons_zero, List.set_cons_succ]
    refine wpAnyH_take (i := 8) (v := ?_) (takeL rfl) (by kernel_rfl) (by kernel_rfl) (by kernel_rfl) (fun _ _ _ h => h) (Or.inl ⟨by rfl, ?_⟩) (by assumption) ?_
    rotate_left
    · (intro w hSw; (try dsimp only at hSw); first | (go_simp; done) | (go_simp; with_reducible rfl))
    try simp only [Act.put, List.setIfInBounds_toArray, List.set_cons_zero, List.set_cons_succ]
    refine wpAnyH_take (i := 9) (v := ?_) (takeL rfl) (by kernel_rfl) (by kernel_rfl) (by kernel_rfl) (fun _ _ _ h => h) (Or.inl ⟨by rfl, ?_⟩) (by assumption) ?_
    rotate_left
    · (intro w hSw; (try dsimp only at hSw); first | (go_simp; done) | (go_simp; with_reducible rfl))
    try simp only [Act.put, List.setIfInBounds_toArray, List.set_cons_zero, List.set_cons_succ]
    refine wpAnyH_take (i := 10) (v := ?_) (takeL rfl) (by kernel_rfl) (by kernel_rfl) (by kernel_rfl) (fun _ _ _ h => h) (Or.inl ⟨by rfl, ?_⟩) (by assumption) ?_
    rotate_left
    · (intro w hSw; (try dsimp only at hSw); first | (go_simp; done) | (go_simp; with_reducible rfl))
    try simp only [Act.put, List.setIfInBounds_toArray, List.set_cons_zero, List.set_cons_succ]
    refine wpAnyH_take (i := 11) (v := ?_) (takeL rfl) (by kernel_rfl) (by kernel_rfl) (by kernel_rfl) (fun _ _ _ h => h) (Or.inl ⟨by rfl, ?_⟩) (by assumption) ?_
    rotate_left
    · (intro w hSw; (try dsimp only at hSw); first | (go_simp; done) | (go_simp; with_reducible rfl))
    try simp only [Act.put, List.setIfInBounds_toArray, List.set_cons_zero, List.set_cons_succ]
    refine wpAnyH_take (i := 12) (v := ?_) (takeL rfl) (by kernel_rfl) (by kernel_rfl) (by kernel_rfl) (fun _ _ _ h => h) (Or.inl ⟨by rfl, ?_⟩) (by assumption) ?_
    rotate_left
    · (intro w hSw; (try dsimp only at hSw); first | (go_simp; done) | (go_simp; with_reducible rfl))
    try simp only [Act.put, List.setIfInBounds_toArray, List.set_cons_zero, List.set_cons_succ]
    refine wpAnyH_take (i := 13) (v := ?_) (takeL rfl) (by kernel_rfl) (by kernel_rfl) (by kernel_rfl) (fun _ _ _ h => h) (Or.inl ⟨by rfl, ?_⟩) (by assumption) ?_
    rotate_left
    · (intro w hSw; (try dsimp only at hSw); first | (go_simp; done) | (go_simp; with_reducible rfl))
    try simp only [Act.put, List.setIfInBounds_toArray, List.set_cons_zero, List.set_cons_succ]
    refine wpAnyH_take (i := 14) (v := ?_) (takeL rfl) (by kernel_rfl) (by kernel_rfl) (by kernel_rfl) (fun _ _ _ h => h) (Or.inl ⟨by rfl, ?_⟩) (by assumption) ?_
    rotate_left
    · (intro w hSw; (try dsimp only at hSw); first | (go_simp; done) | (go_simp; with_reducible rfl))
    try simp only [Act.put, List.setIfInBounds_toArray, List.set_cons_zero, List.set_cons_succ]
    refine wpAnyH_take (i := 15) (v := ?_) (takeL rfl) (by kernel_rfl) (by kernel_rfl) (by kernel_rfl) (fun _ _ _ h => h) (Or.inl ⟨by rfl, ?_⟩) (by assumption) ?_
    rotate_left
    · (intro w hSw; (try dsimp only at hSw); first | (go_simp; done) | (go_simp; with_reducible rfl))
    try simp only [Act.put, List.setIfInBounds_toArray, List.set_cons_zero, List.set_cons_succ]
    refine wpAnyH_take (i := 16) (v := ?_) (takeL rfl) (by kernel_rfl) (by kernel_rfl) (by kernel_rfl) (fun _ _ _ h => h) (Or.inl ⟨by rfl, ?_⟩) (by assumption) ?_
    rotate_left
    · (intro w hSw; (try dsimp only at hSw); first | (go_simp; done) | (go_simp; with_reducible rfl))
    try simp only [Act.put, List.setIfInBounds_toArray, List.set_cons_zero, List.set_cons_succ]
    refine wpAnyH_ready (rs := [17]) (by kernel_rfl) (by simp) ?_
    refine AllReadyH.cons (takeL rfl) (fun K hK => ?_) AllReadyH.nil
    go_simp
    refine (bagsame_any am ab ac am' ab' ac' nl kl nb kb nc kc nl' kl' nb' kb' nc' kc' live live' bs cl bs' cl' HL.out.l0 HL.out.l1 HL.out.l2 HL'.out.l0 HL'.out.l1 HL'.out.l2 HL.out.m0 HL.out.m1 HL.out.m2 false hG _ (HL.out.s0.below (bNext (bDrew (Below.refl _ _)) (bNext hb1 hb2))) (HL.out.s1.below (bNext (bDrew (Below.refl _ _)) (bNext hb1 hb2))) (HL.out.s2.below (bNext (bDrew (Below.refl _ _)) (bNext hb1 hb2))) (HL'.out.s0.below (bNext (bDrew (Below.refl _ _)) (bNext hb1 hb2))) (HL'.out.s1.below (bNext (bDrew (Below.refl _ _)) (bNext hb1 hb2))) (HL'.out.s2.below (bNext (bDrew (Below.refl _ _)) (bNext hb1 hb2)))).mono ?_; rintro e v3 ⟨rfl, hb3⟩
    go_wp2_with fail
    refine hK.out _ _ (KEEP.out _ (bNext (bNext hb1 hb2) hb3)) (fun hHeld => ?_)
    clear hK K
    refine wpAnyH_take (i := 18) (v := ?_) (takeL rfl) (by kernel_rfl) (by kernel_rfl) (by kernel_rfl) (fun _ _ _ h => h) (Or.inl ⟨by rfl, ?_⟩) (by assumption) ?_
    rotate_left
    · (intro w hSw; (try dsimp only at hSw); first | (go_simp; done) | (go_simp; with_reducible rfl))
    try simp only [Act.put, List.setIfInBounds_toArray, List.set_cons_zero, List.set_cons_succ]
    refine wpAnyH_take (i := 19) (v := ?_) (takeL rfl) (by kernel_rfl) (by kernel_rfl) (by kernel_rfl) (fun _ _ _ h => h) (Or.inl ⟨by rfl, ?_⟩) (by assumption) ?_
    rotate_left
    · (intro w hSw; (try dsimp only at hSw); first | (go_simp; done) | (go_simp; with_reducible rfl))
    try simp only [Act.put, List.setIfInBounds_toArray, List.set_cons_zero, List.set_cons_succ]
    refine wpAnyH_take (i := 20) (v := undef) (takeL rfl) (by kernel_rfl) (by kernel_rfl) (by kernel_rfl) (fun _ _ _ h => h) (Or.inr ⟨by rfl, rfl⟩) (by assumption) ?_
    try simp only [Act.put, List.setIfInBounds_toArray, List.set_cons_zero, List.set_cons_succ]
    refine wpAnyH_take (i := 21) (v := undef) (takeL rfl) (by kernel_rfl) (by kernel_rfl) (by kernel_rfl) (fun _ _ _ h => h) (Or.inr ⟨by rfl, rfl⟩) (by assumption) ?_
    try simp only [Act.put, List.setIfInBounds_toArray, List.set_cons_zero, List.set_cons_succ]
    refine wpAnyH_take (i := 22) (v := undef) (takeL rfl) (by kernel_rfl) (by kernel_rfl) (by kernel_rfl) (fun _ _ _ h => h) (Or.inr ⟨by rfl, rfl⟩) (by assumption) ?_
    try simp only [Act.put, List.setIfInBounds_toArray, List.set_cons_zero, List.set_cons_succ]
    refine wpAnyH_take (i := 23) (v := undef) (takeL rfl) (by kernel_rfl) (by kernel_rfl) (by kernel_rfl) (fun _ _ _ h => h) (Or.inr ⟨by rfl, rfl⟩) (by assumption) ?_
    try simp only [Act.put, List.setIfInBounds_toArray, List.set_cons_zero, List.set_cons_succ]
    refine wpAnyH_take (i := 24) (v := undef) (takeL rfl) (by kernel_rfl) (by kernel_rfl) (by kernel_rfl) (fun _ _ _ h => h) (Or.inr ⟨by rfl, rfl⟩) (by assumption) ?_
    try simp only [Act.put, List.setIfInBounds_toArray, List.set_cons_zero, List.set_cons_succ]
    refine wpAnyH_take (i := 25) (v := ?_) (takeL rfl) (by kernel_rfl) (by kernel_rfl) (by kernel_rfl) (fun _ _ _ h => h) (Or.inl ⟨by rfl, ?_⟩) (by assumption) ?_
    rotate_left
    · (intro w hSw; (try dsimp only at hSw); first | (go_simp; done) | (go_simp; with_reducible rfl))
    try simp only [Act.put, List.setIfInBounds_toArray, List.set_cons_zero, List.set_cons_succ]
    refine wpAnyH_take (i := 26) (v := ?_) (takeL rfl) (by kernel_rfl) (by kernel_rfl) (by kernel_rfl) (fun _ _ _ h => h) (Or.inl ⟨by rfl, ?_⟩) (by assumption) ?_
    rotate_left
    · (intro w hSw; (try dsimp only at hSw); first | (go_simp; done) | (go_simp; with_reducible rfl))
    try simp only [Act.put, List.setIfInBounds_toArray, List.set_cons_zero, List.set_cons_succ]
    refine wpAnyH_take (i := 27) (v := undef) (takeL rfl) (by kernel_rfl) (by kernel_rfl) (by kernel_rfl) (fun _ _ _ h => h) (Or.inr ⟨by rfl, rfl⟩) (by assumption) ?_
    try simp only [Act.put, List.setIfInBounds_toArray, List.set_cons_zero, List.set_cons_succ]
    refine wpAnyH_take (i := 28) (v := undef) (takeL rfl) (by kernel_rfl) (by kernel_rfl) (by kernel_rfl) (fun _ _ _ h => h) (Or.inr ⟨by rfl, rfl⟩) (by assumption) ?_
    try simp only [Act.put, List.setIfInBounds_toArray, List.set_cons_zero, List.set_cons_succ]
    refine wpAnyH_take (i := 29) (v := undef) (takeL rfl) (by kernel_rfl) (by kernel_rfl) (by kernel_rfl) (fun _ _ _ h => h) (Or.inr ⟨by rfl, rfl⟩) (by assumption) ?_
    try simp only [Act.put, List.setIfInBounds_toArray, List.set_cons_zero, List.set_cons_succ]
    refine wpAnyH_take (i := 30) (v := undef) (takeL rfl) (by kernel_rfl) (by kernel_rfl) (by kernel_rfl) (fun _ _ _ h => h) (Or.inr ⟨by rfl, rfl⟩) (by assumption) ?_
    try simp only [Act.put, List.setIfInBounds_toArray, List.set_cons_zero, List.set_cons_succ]
    refine wpAnyH_take (i := 31) (v := undef) (takeL rfl) (by kernel_rfl) (by kernel_rfl) (by kernel_rfl) (fun _ _ _ h => h) (Or.inr ⟨by rfl, rfl⟩) (by assumption) ?_
    try simp only [Act.put, List.setIfInBounds_toArray, List.set_cons_zero, List.set_cons_succ]
    refine wpAnyH_take (i := 32) (v := ?_) (takeL rfl) (by kernel_rfl) (by kernel_rfl) (by kernel_rfl) (fun _ _ _ h => h) (Or.inl ⟨by rfl, ?_⟩) (by assumption) ?_
    rotate_left
    · (intro w hSw; (try dsimp only at hSw); first | (go_simp; done) | (go_simp; with_reducible rfl))
    try simp only [Act.put, List.setIfInBounds_toArray, List.set_cons_zero, List.set_cons_succ]
    refine wpAnyH_take (i := 33) (v := ?_) (takeL rfl) (by kernel_rfl) (by kernel_rfl) (by kernel_rfl) (fun _ _ _ h => h) (Or.inl ⟨by rfl, ?_⟩) (by assumption) ?_
    rotate_left
    · (intro w hSw; (try dsimp only at hSw); first | (go_simp; done) | (go_simp; with_reducible rfl))
    try simp only [Act.put, List.setIfInBounds_toArray, List.set_cons_zero, List.set_cons_succ]
    refine wpAnyH_done (by kernel_rfl) ?_ _
    go_wp2_with fail
    go_ret
    exact ⟨rfl, bNext (bDrew HB0.out) (bNext (bNext hb1 hb2) hb3)⟩
  have HG2 : Hid (live = live' ∧ bs = bs' ∧ cl = cl') := hGt.out rfl
  cases T
  · obtain rfl : r = false := by rw [hR.out]; rfl
    refine wp_region_held_drew (S := fun w' => w'.cell? ⟨x, 0, none⟩ = some (.int .i64 k) ∧ w'.cell? ⟨x, 1, none⟩ = some (.int .i64 f) ∧ w'.cell? ⟨x, 2, none⟩ = some (.int .i64 s) ∧ w'.cell? ⟨x, 3, none⟩ = some (.int .i64 p) ∧ w'.cell? ⟨x, 4, none⟩ = some (.int .i64 fl) ∧ w'.cell? ⟨x, 5, none⟩ = some (.string mark) ∧ w'.cell? ⟨x, 6, none⟩ = some (.slice am nl kl) ∧ w'.cell? ⟨x, 7, none⟩ = some (.slice ab nb kb) ∧ w'.cell? ⟨x, 8, none⟩ = some (.slice ac nc kc) ∧ w'.cell? ⟨x, 9, none⟩ = some (.slice ag ng kg) ∧ w'.cell? ⟨x, 10, none⟩ = some (.slice av nv kv) ∧ w'.cell? ⟨x, 11, none⟩ = some (.int .i64 d0) ∧ w'.cell? ⟨x, 12, none⟩ = some (.int .i64 d1) ∧ w'.cell? ⟨x, 13, none⟩ = some (.int .i64 rc) ∧ w'.cell? ⟨x, 14, none⟩ = some (.int .i64 lg) ∧ w'.cell? ⟨y, 0, none⟩ = some (.int .i64 k') ∧ w'.cell? ⟨y, 1, none⟩ = some (.int .i64 f') ∧ w'.cell? ⟨y, 2, none⟩ = some (.int .i64 s') ∧ w'.cell? ⟨y, 3, none⟩ = some (.int .i64 p') ∧ w'.cell? ⟨y, 4, none⟩ = some (.int .i64 fl') ∧ w'.cell? ⟨y, 5, none⟩ = some (.string mark') ∧ w'.cell? ⟨y, 6, none⟩ = some (.slice am' nl' kl') ∧ w'.cell? ⟨y, 7, none⟩ = some (.slice ab' nb' kb') ∧ w'.cell? ⟨y, 8, none⟩ = some (.slice ac' nc' kc') ∧ w'.cell? ⟨y, 9, none⟩ = some (.slice ag' ng' kg') ∧ w'.cell? ⟨y, 10, none⟩ = some (.slice av' nv' kv') ∧ w'.cell? ⟨y, 11, none⟩ = some (.int .i64 d0') ∧ w'.cell? ⟨y, 12, none⟩ = some (.int .i64 d1') ∧ w'.cell? ⟨y, 13, none⟩ = some (.int .i64 rc') ∧ w'.cell? ⟨y, 14, none⟩ = some (.int .i64 lg')) (by kernel_rfl) (⟨c0, c1, c2, c3, c4, c5, c6, c7, c8, c9, c10, c11, c12, c13, c14, e0, e1, e2, e3, e4, e5, e6, e7, e8, e9, e10, e11, e12, e13, e14⟩) (fun hHeld => ?_)
    refine wpAnyH_take (i := 0) (v := ?_) (takeL rfl) (by kernel_rfl) (by kernel_rfl) (by kernel_rfl) (fun _ _ _ h => h) (Or.inl ⟨by rfl, ?_⟩) (by assumption) ?_
    rotate_left
    · (intro w hSw; (try dsimp only at hSw); first | (go_simp; done) | (go_simp; with_reducible rfl))
    try simp only [Act.put, List.setIfInBounds_toArray, List.set_cons_zero, List.set_cons_succ]
    refine wpAnyH_take (i := 2) (v := ?_) (takeL rfl) (by kernel_rfl) (by kernel_rfl) (by kernel_rfl) (fun _ _ _ h => h) (Or.inl ⟨by rfl, ?_⟩) (by assumption) ?_
    rotate_left
    · (intro w hSw; (try dsimp only at hSw); first | (go_simp; done) | (go_simp; with_reducible rfl))
    try simp only [Act.put, List.setIfInBounds_toArray, List.set_cons_zero, List.set_cons_succ]
    refine wpAnyH_ready (rs := [1]) (by kernel_rfl) (by simp) ?_
    refine AllReadyH.cons (takeL rfl) (fun K hK => ?_) AllReadyH.nil
    go_simp
    refine (nums_is k f s p fl d0 d1 rc lg mark am ab ac ag av nl kl nb kb nc kc ng kg nv kv _).mono ?_; rintro e v1 ⟨rfl, hb1⟩
    go_wp2_with fail
    refine hK.out _ _ (KEEP.out _ (hb1)) (fun hHeld => ?_)
    clear hK K
    refine wpAnyH_ready (rs := [3]) (by kernel_rfl) (by simp) ?_
    refine AllReadyH.cons (takeL rfl) (fun K hK => ?_) AllReadyH.nil
    go_simp
    refine (nums_is k' f' s' p' fl' d0' d1' rc' lg' mark' am' ab' ac' ag' av' nl' kl' nb' kb' nc' kc' ng' kg' nv' kv' _).mono ?_; rintro e v2 ⟨rfl, hb2⟩
    go_wp2_with fail
    refine hK.out _ _ (KEEP.out _ (bNext hb1 hb2)) (fun hHeld => ?_)
    clear hK K
    refine wpAnyH_take (i := 4) (v := ?_) (takeL rfl) (by kernel_rfl) (by kernel_rfl) (by kernel_rfl) (fun _ _ _ h => h) (Or.inl ⟨by rfl, ?_⟩) (by assumption) ?_
    rotate_left
    · (intro w hSw; (try dsimp only at hSw); first | (go_simp; done) | (go_simp; with_reducible rfl))
    try simp only [Act.put, List.setIfInBounds_toArray, List.set_cons_zero, List.set_cons_succ]
    refine wpAnyH_take (i := 5) (v := ?_) (takeL rfl) (by kernel_rfl) (by kernel_rfl) (by kernel_rfl) (fun _ _ _ h => h) (Or.inl ⟨by rfl, ?_⟩) (by assumption) ?_
    rotate_left
    · (intro w hSw; (try dsimp only at hSw); first | (go_simp; done) | (go_simp; with_reducible rfl))
    try simp only [Act.put, List.setIfInBounds_toArray, List.set_cons_zero, List.set_cons_succ]
    refine wpAnyH_take (i := 6) (v := ?_) (takeL rfl) (by kernel_rfl) (by kernel_rfl) (by kernel_rfl) (fun _ _ _ h => h) (Or.inl ⟨by rfl, ?_⟩) (by assumption) ?_
    rotate_left
    · (intro w hSw; (try dsimp only at hSw); first | (go_simp; done) | (go_simp; with_reducible rfl))
    try simp only [Act.put, List.setIfInBounds_toArray, List.set_cons_zero, List.set_cons_succ]
    refine wpAnyH_take (i := 7) (v := ?_) (takeL rfl) (by kernel_rfl) (by kernel_rfl) (by kernel_rfl) (fun _ _ _ h => h) (Or.inl ⟨by rfl, ?_⟩) (by assumption) ?_
    rotate_left
    · (intro w hSw; (try dsimp only at hSw); first | (go_simp; done) | (go_simp; with_reducible rfl))
    try simp only [Act.put, List.setIfInBounds_toArray, List.set_cons_zero, List.set_cons_succ]
    refine wpAnyH_take (i := 8) (v := ?_) (takeL rfl) (by kernel_rfl) (by kernel_rfl) (by kernel_rfl) (fun _ _ _ h => h) (Or.inl ⟨by rfl, ?_⟩) (by assumption) ?_
    rotate_left
    · (intro w hSw; (try dsimp only at hSw); first | (go_simp; done) | (go_simp; with_reducible rfl))
    try simp only [Act.put, List.setIfInBounds_toArray, List.set_cons_zero, List.set_cons_succ]
    refine wpAnyH_take (i := 9) (v := ?_) (takeL rfl) (by kernel_rfl) (by kernel_rfl) (by kernel_rfl) (fun _ _ _ h => h) (Or.inl ⟨by rfl, ?_⟩) (by assumption) ?_
    rotate_left
    · (intro w hSw; (try dsimp only at hSw); first | (go_simp; done) | (go_simp; with_reducible rfl))
    try simp only [Act.put, List.setIfInBounds_toArray, List.set_cons_zero, List.set_cons_succ]
    refine wpAnyH_take (i := 10) (v := ?_) (takeL rfl) (by kernel_rfl) (by kernel_rfl) (by kernel_rfl) (fun _ _ _ h => h) (Or.inl ⟨by rfl, ?_⟩) (by assumption) ?_
    rotate_left
    · (intro w hSw; (try dsimp only at hSw); first | (go_simp; done) | (go_simp; with_reducible rfl))
    try simp only [Act.put, List.setIfInBounds_toArray, List.set_cons_zero, List.set_cons_succ]
    refine wpAnyH_take (i := 11) (v := ?_) (takeL rfl) (by kernel_rfl) (by kernel_rfl) (by kernel_rfl) (fun _ _ _ h => h) (Or.inl ⟨by rfl, ?_⟩) (by assumption) ?_
    rotate_left
    · (intro w hSw; (try dsimp only at hSw); first | (go_simp; done) | (go_simp; with_reducible rfl))
    try simp only [Act.put, List.setIfInBounds_toArray, List.set_cons_zero, List.set_cons_succ]
    refine wpAnyH_take (i := 12) (v := ?_) (takeL rfl) (by kernel_rfl) (by kernel_rfl) (by kernel_rfl) (fun _ _ _ h => h) (Or.inl ⟨by rfl, ?_⟩) (by assumption) ?_
    rotate_left
    · (intro w hSw; (try dsimp only at hSw); first | (go_simp; done) | (go_simp; with_reducible rfl))
    try simp only [Act.put, List.setIfInBounds_toArray, List.set_cons_zero, List.set_cons_succ]
    refine wpAnyH_take (i := 13) (v := ?_) (takeL rfl) (by kernel_rfl) (by kernel_rfl) (by kernel_rfl) (fun _ _ _ h => h) (Or.inl ⟨by rfl, ?_⟩) (by assumption) ?_
    rotate_left
    · (intro w hSw; (try dsimp only at hSw); first | (go_simp; done) | (go_simp; with_reducible rfl))
    try simp only [Act.put, List.setIfInBounds_toArray, List.set_cons_zero, List.set_cons_succ]
    refine wpAnyH_take (i := 14) (v := ?_) (takeL rfl) (by kernel_rfl) (by kernel_rfl) (by kernel_rfl) (fun _ _ _ h => h) (Or.inl ⟨by rfl, ?_⟩) (by assumption) ?_
    rotate_left
    · (intro w hSw; (try dsimp only at hSw); first | (go_simp; done) | (go_simp; with_reducible rfl))
    try simp only [Act.put, List.setIfInBounds_toArray, List.set_cons_zero, List.set_cons_succ]
    refine wpAnyH_take (i := 15) (v := ?_) (takeL rfl) (by kernel_rfl) (by kernel_rfl) (by kernel_rfl) (fun _ _ _ h => h) (Or.inl ⟨by rfl, ?_⟩) (by assumption) ?_
    rotate_left
    · (intro w hSw; (try dsimp only at hSw); first | (go_simp; done) | (go_simp; with_reducible rfl))
    try simp only [Act.put, List.setIfInBounds_toArray, List.set_cons_zero, List.set_cons_succ]
    refine wpAnyH_take (i := 16) (v := ?_) (takeL rfl) (by kernel_rfl) (by kernel_rfl) (by kernel_rfl) (fun _ _ _ h => h) (Or.inl ⟨by rfl, ?_⟩) (by assumption) ?_
    rotate_left
    · (intro w hSw; (try dsimp only at hSw); first | (go_simp; done) | (go_simp; with_reducible rfl))
    try simp only [Act.put, List.setIfInBounds_toArray, List.set_cons_zero, List.set_cons_succ]
    refine wpAnyH_ready (rs := [17]) (by kernel_rfl) (by simp) ?_
    refine AllReadyH.cons (takeL rfl) (fun K hK => ?_) AllReadyH.nil
    go_simp
    refine (bagsame_any am ab ac am' ab' ac' nl kl nb kb nc kc nl' kl' nb' kb' nc' kc' live live' bs cl bs' cl' HL.out.l0 HL.out.l1 HL.out.l2 HL'.out.l0 HL'.out.l1 HL'.out.l2 HL.out.m0 HL.out.m1 HL.out.m2 true (itT HG2) _ (HL.out.s0.below (bNext (bDrew (Below.refl _ _)) (bNext hb1 hb2))) (HL.out.s1.below (bNext (bDrew (Below.refl _ _)) (bNext hb1 hb2))) (HL.out.s2.below (bNext (bDrew (Below.refl _ _)) (bNext hb1 hb2))) (HL'.out.s0.below (bNext (bDrew (Below.refl _ _)) (bNext hb1 hb2))) (HL'.out.s1.below (bNext (bDrew (Below.refl _ _)) (bNext hb1 hb2))) (HL'.out.s2.below (bNext (bDrew (Below.refl _ _)) (bNext hb1 hb2)))).mono ?_; rintro e v3 ⟨rfl, hb3⟩
    go_wp2_with fail
    refine hK.out _ _ (KEEP.out _ (bNext (bNext hb1 hb2) hb3)) (fun hHeld => ?_)
    clear hK K
    refine wpAnyH_take (i := 18) (v := ?_) (takeL rfl) (by kernel_rfl) (by kernel_rfl) (by kernel_rfl) (fun _ _ _ h => h) (Or.inl ⟨by rfl, ?_⟩) (by assumption) ?_
    rotate_left
    · (intro w hSw; (try dsimp only at hSw); first | (go_simp; done) | (go_simp; with_reducible rfl))
    try simp only [Act.put, List.setIfInBounds_toArray, List.set_cons_zero, List.set_cons_succ]
    refine wpAnyH_take (i := 19) (v := ?_) (takeL rfl) (by kernel_rfl) (by kernel_rfl) (by kernel_rfl) (fun _ _ _ h => h) (Or.inl ⟨by rfl, ?_⟩) (by assumption) ?_
    rotate_left
    · (intro w hSw; (try dsimp only at hSw); first | (go_simp; done) | (go_simp; with_reducible rfl))
    try simp only [Act.put, List.setIfInBounds_toArray, List.set_cons_zero, List.set_cons_succ]
    refine wpAnyH_take (i := 20) (v := ?_) (takeL rfl) (by kernel_rfl) (by kernel_rfl) (by kernel_rfl) (fun _ _ _ h => h) (Or.inl ⟨by rfl, ?_⟩) (by assumption) ?_
    rotate_left
    · (intro w hSw; (try dsimp only at hSw); first | (go_simp; done) | (go_simp; with_reducible rfl))
    try simp only [Act.put, List.setIfInBounds_toArray, List.set_cons_zero, List.set_cons_succ]
    refine wpAnyH_take (i := 21) (v := ?_) (takeL rfl) (by kernel_rfl) (by kernel_rfl) (by kernel_rfl) (fun _ _ _ h => h) (Or.inl ⟨by rfl, ?_⟩) (by assumption) ?_
    rotate_left
    · (intro w hSw; (try dsimp only at hSw); first | (go_simp; done) | (go_simp; with_reducible rfl))
    try simp only [Act.put, List.setIfInBounds_toArray, List.set_cons_zero, List.set_cons_succ]
    refine wpAnyH_take (i := 22) (v := ?_) (takeL rfl) (by kernel_rfl) (by kernel_rfl) (by kernel_rfl) (fun _ _ _ h => h) (Or.inl ⟨by rfl, ?_⟩) (by assumption) ?_
    rotate_left
    · (intro w hSw; (try dsimp only at hSw); first | (go_simp; done) | (go_simp; with_reducible rfl))
    try simp only [Act.put, List.setIfInBounds_toArray, List.set_cons_zero, List.set_cons_succ]
    refine wpAnyH_take (i := 23) (v := ?_) (takeL rfl) (by kernel_rfl) (by kernel_rfl) (by kernel_rfl) (fun _ _ _ h => h) (Or.inl ⟨by rfl, ?_⟩) (by assumption) ?_
    rotate_left
    · (intro w hSw; (try dsimp only at hSw); first | (go_simp; done) | (go_simp; with_reducible rfl))
    try simp only [Act.put, List.setIfInBounds_toArray, List.set_cons_zero, List.set_cons_succ]
    refine wpAnyH_ready (rs := [24]) (by kernel_rfl) (by simp) ?_
    refine AllReadyH.cons (takeL rfl) (fun K hK => ?_) AllReadyH.nil
    go_simp
    refine (sametags_any ag ag' kg kg' ng ng' tags tags' HL.out.l3 HL'.out.l3 _ HL.out.m3 (HL.out.s3.below (bNext (bDrew (Below.refl _ _)) (bNext (bNext hb1 hb2) hb3))) (HL'.out.s3.below (bNext (bDrew (Below.refl _ _)) (bNext (bNext hb1 hb2) hb3))) false hT).mono ?_; rintro e v4 ⟨rfl, q4, rfl⟩
    go_wp2_with fail
    refine hK.out _ _ (KEEP.out _ (bDrewN (bNext (bNext hb1 hb2) hb3) _)) (fun hHeld => ?_)
    clear hK K
    refine wpAnyH_take (i := 25) (v := ?_) (takeL rfl) (by kernel_rfl) (by kernel_rfl) (by kernel_rfl) (fun _ _ _ h => h) (Or.inl ⟨by rfl, ?_⟩) (by assumption) ?_
    rotate_left
    · (intro w hSw; (try dsimp only at hSw); first | (go_simp; done) | (go_simp; with_reducible rfl))
    try simp only [Act.put, List.setIfInBounds_toArray, List.set_cons_zero, List.set_cons_succ]
    refine wpAnyH_take (i := 26) (v := ?_) (takeL rfl) (by kernel_rfl) (by kernel_rfl) (by kernel_rfl) (fun _ _ _ h => h) (Or.inl ⟨by rfl, ?_⟩) (by assumption) ?_
    rotate_left
    · (intro w hSw; (try dsimp only at hSw); first | (go_simp; done) | (go_simp; with_reducible rfl))
    try simp only [Act.put, List.setIfInBounds_toArray, List.set_cons_zero, List.set_cons_succ]
    refine wpAnyH_take (i := 27) (v := undef) (takeL rfl) (by kernel_rfl) (by kernel_rfl) (by kernel_rfl) (fun _ _ _ h => h) (Or.inr ⟨by rfl, rfl⟩) (by assumption) ?_
    try simp only [Act.put, List.setIfInBounds_toArray, List.set_cons_zero, List.set_cons_succ]
    refine wpAnyH_take (i := 28) (v := undef) (takeL rfl) (by kernel_rfl) (by kernel_rfl) (by kernel_rfl) (fun _ _ _ h => h) (Or.inr ⟨by rfl, rfl⟩) (by assumption) ?_
    try simp only [Act.put, List.setIfInBounds_toArray, List.set_cons_zero, List.set_cons_succ]
    refine wpAnyH_take (i := 29) (v := undef) (takeL rfl) (by kernel_rfl) (by kernel_rfl) (by kernel_rfl) (fun _ _ _ h => h) (Or.inr ⟨by rfl, rfl⟩) (by assumption) ?_
    try simp only [Act.put, List.setIfInBounds_toArray, List.set_cons_zero, List.set_cons_succ]
    refine wpAnyH_take (i := 30) (v := undef) (takeL rfl) (by kernel_rfl) (by kernel_rfl) (by kernel_rfl) (fun _ _ _ h => h) (Or.inr ⟨by rfl, rfl⟩) (by assumption) ?_
    try simp only [Act.put, List.setIfInBounds_toArray, List.set_cons_zero, List.set_cons_succ]
    refine wpAnyH_take (i := 31) (v := undef) (takeL rfl) (by kernel_rfl) (by kernel_rfl) (by kernel_rfl) (fun _ _ _ h => h) (Or.inr ⟨by rfl, rfl⟩) (by assumption) ?_
    try simp only [Act.put, List.setIfInBounds_toArray, List.set_cons_zero, List.set_cons_succ]
    refine wpAnyH_take (i := 32) (v := ?_) (takeL rfl) (by kernel_rfl) (by kernel_rfl) (by kernel_rfl) (fun _ _ _ h => h) (Or.inl ⟨by rfl, ?_⟩) (by assumption) ?_
    rotate_left
    · (intro w hSw; (try dsimp only at hSw); first | (go_simp; done) | (go_simp; with_reducible rfl))
    try simp only [Act.put, List.setIfInBounds_toArray, List.set_cons_zero, List.set_cons_succ]
    refine wpAnyH_take (i := 33) (v := ?_) (takeL rfl) (by kernel_rfl) (by kernel_rfl) (by kernel_rfl) (fun _ _ _ h => h) (Or.inl ⟨by rfl, ?_⟩) (by assumption) ?_
    rotate_left
    · (intro w hSw; (try dsimp only at hSw); first | (go_simp; done) | (go_simp; with_reducible rfl))
    try simp only [Act.put, List.setIfInBounds_toArray, List.set_cons_zero, List.set_cons_succ]
    refine wpAnyH_done (by kernel_rfl) ?_ _
    go_wp2_with fail
    go_ret
    exact ⟨rfl, bNext (bDrew HB0.out) (bDrewN (bNext (bNext hb1 hb2) hb3) _)⟩
  obtain rfl : r = V := by rw [hR.out]; simp
  refine wp_region_held_drew (S := fun w' => w'.cell? ⟨x, 0, none⟩ = some (.int .i64 k) ∧ w'.cell? ⟨x, 1, none⟩ = some (.int .i64 f) ∧ w'.cell? ⟨x, 2, none⟩ = some (.int .i64 s) ∧ w'.cell? ⟨x, 3, none⟩ = some (.int .i64 p) ∧ w'.cell? ⟨x, 4, none⟩ = some (.int .i64 fl) ∧ w'.cell? ⟨x, 5, none⟩ = some (.string mark) ∧ w'.cell? ⟨x, 6, none⟩ = some (.slice am nl kl) ∧ w'.cell? ⟨x, 7, none⟩ = some (.slice ab nb kb) ∧ w'.cell? ⟨x, 8, none⟩ = some (.slice ac nc kc) ∧ w'.cell? ⟨x, 9, none⟩ = some (.slice ag ng kg) ∧ w'.cell? ⟨x, 10, none⟩ = some (.slice av nv kv) ∧ w'.cell? ⟨x, 11, none⟩ = some (.int .i64 d0) ∧ w'.cell? ⟨x, 12, none⟩ = some (.int .i64 d1) ∧ w'.cell? ⟨x, 13, none⟩ = some (.int .i64 rc) ∧ w'.cell? ⟨x, 14, none⟩ = some (.int .i64 lg) ∧ w'.cell? ⟨y, 0, none⟩ = some (.int .i64 k') ∧ w'.cell? ⟨y, 1, none⟩ = some (.int .i64 f') ∧ w'.cell? ⟨y, 2, none⟩ = some (.int .i64 s') ∧ w'.cell? ⟨y, 3, none⟩ = some (.int .i64 p') ∧ w'.cell? ⟨y, 4, none⟩ = some (.int .i64 fl') ∧ w'.cell? ⟨y, 5, none⟩ = some (.string mark') ∧ w'.cell? ⟨y, 6, none⟩ = some (.slice am' nl' kl') ∧ w'.cell? ⟨y, 7, none⟩ = some (.slice ab' nb' kb') ∧ w'.cell? ⟨y, 8, none⟩ = some (.slice ac' nc' kc') ∧ w'.cell? ⟨y, 9, none⟩ = some (.slice ag' ng' kg') ∧ w'.cell? ⟨y, 10, none⟩ = some (.slice av' nv' kv') ∧ w'.cell? ⟨y, 11, none⟩ = some (.int .i64 d0') ∧ w'.cell? ⟨y, 12, none⟩ = some (.int .i64 d1') ∧ w'.cell? ⟨y, 13, none⟩ = some (.int .i64 rc') ∧ w'.cell? ⟨y, 14, none⟩ = some (.int .i64 lg')) (by kernel_rfl) (⟨c0, c1, c2, c3, c4, c5, c6, c7, c8, c9, c10, c11, c12, c13, c14, e0, e1, e2, e3, e4, e5, e6, e7, e8, e9, e10, e11, e12, e13, e14⟩) (fun hHeld => ?_)
  refine wpAnyH_take (i := 0) (v := ?_) (takeL rfl) (by kernel_rfl) (by kernel_rfl) (by kernel_rfl) (fun _ _ _ h => h) (Or.inl ⟨by rfl, ?_⟩) (by assumption) ?_
  rotate_left
  · (intro w hSw; (try dsimp only at hSw); first | (go_simp; done) | (go_simp; with_reducible rfl))
  try simp only [Act.put, List.setIfInBounds_toArray, List.set_cons_zero, List.set_cons_succ]
  refine wpAnyH_take (i := 2) (v := ?_) (takeL rfl) (by kernel_rfl) (by kernel_rfl) (by kernel_rfl) (fun _ _ _ h => h) (Or.inl ⟨by rfl, ?_⟩) (by assumption) ?_
  rotate_left
  · (intro w hSw; (try dsimp only at hSw); first | (go_simp; done) | (go_simp; with_reducible rfl))
  try simp only [Act.put, List.setIfInBounds_toArray, List.set_cons_zero, List.set_cons_succ]
  refine wpAnyH_ready (rs := [1]) (by kernel_rfl) (by simp) ?_
  refine AllReadyH.cons (takeL rfl) (fun K hK => ?_) AllReadyH.nil
  go_simp
  refine (nums_is k f s p fl d0 d1 rc lg mark am ab ac ag av nl kl nb kb nc kc ng kg nv kv _).mono ?_; rintro e v1 ⟨rfl, hb1⟩
  go_wp2_with fail
  refine hK.out _ _ (KEEP.out _ (hb1)) (fun hHeld => ?_)
  clear hK K
  refine wpAnyH_ready (rs := [3]) (by kernel_rfl) (by simp) ?_
  refine AllReadyH.cons (takeL rfl) (fun K hK => ?_) AllReadyH.nil
  go_simp
  refine (nums_is k' f' s' p' fl' d0' d1' rc' lg' mark' am' ab' ac' ag' av' nl' kl' nb' kb' nc' kc' ng' kg' nv' kv' _).mono ?_; rintro e v2 ⟨rfl, hb2⟩
  go_wp2_with fail
  refine hK.out _ _ (KEEP.out _ (bNext hb1 hb2)) (fun hHeld => ?_)
  clear hK K
  refine wpAnyH_take (i := 4) (v := ?_) (takeL rfl) (by kernel_rfl) (by kernel_rfl) (by kernel_rfl) (fun _ _ _ h => h) (Or.inl ⟨by rfl, ?_⟩) (by assumption) ?_
  rotate_left
  · (intro w hSw; (try dsimp only at hSw); first | (go_simp; done) | (go_simp; with_reducible rfl))
  try simp only [Act.put, List.setIfInBounds_toArray, List.set_cons_zero, List.set_cons_succ]
  refine wpAnyH_take (i := 5) (v := ?_) (takeL rfl) (by kernel_rfl) (by kernel_rfl) (by kernel_rfl) (fun _ _ _ h => h) (Or.inl ⟨by rfl, ?_⟩) (by assumption) ?_
  rotate_left
  · (intro w hSw; (try dsimp only at hSw); first | (go_simp; done) | (go_simp; with_reducible rfl))
  try simp only [Act.put, List.setIfInBounds_toArray, List.set_cons_zero, List.set_cons_succ]
  refine wpAnyH_take (i := 6) (v := ?_) (takeL rfl) (by kernel_rfl) (by kernel_rfl) (by kernel_rfl) (fun _ _ _ h => h) (Or.inl ⟨by rfl, ?_⟩) (by assumption) ?_
  rotate_left
  · (intro w hSw; (try dsimp only at hSw); first | (go_simp; done) | (go_simp; with_reducible rfl))
  try simp only [Act.put, List.setIfInBounds_toArray, List.set_cons_zero, List.set_cons_succ]
  refine wpAnyH_take (i := 7) (v := ?_) (takeL rfl) (by kernel_rfl) (by kernel_rfl) (by kernel_rfl) (fun _ _ _ h => h) (Or.inl ⟨by rfl, ?_⟩) (by assumption) ?_
  rotate_left
  · (intro w hSw; (try dsimp only at hSw); first | (go_simp; done) | (go_simp; with_reducible rfl))
  try simp only [Act.put, List.setIfInBounds_toArray, List.set_cons_zero, List.set_cons_succ]
  refine wpAnyH_take (i := 8) (v := ?_) (takeL rfl) (by kernel_rfl) (by kernel_rfl) (by kernel_rfl) (fun _ _ _ h => h) (Or.inl ⟨by rfl, ?_⟩) (by assumption) ?_
  rotate_left
  · (intro w hSw; (try dsimp only at hSw); first | (go_simp; done) | (go_simp; with_reducible rfl))
  try simp only [Act.put, List.setIfInBounds_toArray, List.set_cons_zero, List.set_cons_succ]
  refine wpAnyH_take (i := 9) (v := ?_) (takeL rfl) (by kernel_rfl) (by kernel_rfl) (by kernel_rfl) (fun _ _ _ h => h) (Or.inl ⟨by rfl, ?_⟩) (by assumption) ?_
  rotate_left
  · (intro w hSw; (try dsimp only at hSw); first | (go_simp; done) | (go_simp; with_reducible rfl))
  try simp only [Act.put, List.setIfInBounds_toArray, List.set_cons_zero, List.set_cons_succ]
  refine wpAnyH_take (i := 10) (v := ?_) (takeL rfl) (by kernel_rfl) (by kernel_rfl) (by kernel_rfl) (fun _ _ _ h => h) (Or.inl ⟨by rfl, ?_⟩) (by assumption) ?_
  rotate_left
  · (intro w hSw; (try dsimp only at hSw); first | (go_simp; done) | (go_simp; with_reducible rfl))
  try simp only [Act.put, List.setIfInBounds_toArray, List.set_cons_zero, List.set_cons_succ]
  refine wpAnyH_take (i := 11) (v := ?_) (takeL rfl) (by kernel_rfl) (by kernel_rfl) (by kernel_rfl) (fun _ _ _ h => h) (Or.inl ⟨by rfl, ?_⟩) (by assumption) ?_
  rotate_left
  · (intro w hSw; (try dsimp only at hSw); first | (go_simp; done) | (go_simp; with_reducible rfl))
  try simp only [Act.put, List.setIfInBounds_toArray, List.set_cons_zero, List.set_cons_succ]
  refine wpAnyH_take (i := 12) (v := ?_) (takeL rfl) (by kernel_rfl) (by kernel_rfl) (by kernel_rfl) (fun _ _ _ h => h) (Or.inl ⟨by rfl, ?_⟩) (by assumption) ?_
  rotate_left
  · (intro w hSw; (try dsimp only at hSw); first | (go_simp; done) | (go_simp; with_reducible rfl))
  try simp only [Act.put, List.setIfInBounds_toArray, List.set_cons_zero, List.set_cons_succ]
  refine wpAnyH_take (i := 13) (v := ?_) (takeL rfl) (by kernel_rfl) (by kernel_rfl) (by kernel_rfl) (fun _ _ _ h => h) (Or.inl ⟨by rfl, ?_⟩) (by assumption) ?_
  rotate_left
  · (intro w hSw; (try dsimp only at hSw); first | (go_simp; done) | (go_simp; with_reducible rfl))
  try simp only [Act.put, List.setIfInBounds_toArray, List.set_cons_zero, List.set_cons_succ]
  refine wpAnyH_take (i := 14) (v := ?_) (takeL rfl) (by kernel_rfl) (by kernel_rfl) (by kernel_rfl) (fun _ _ _ h => h) (Or.inl ⟨by rfl, ?_⟩) (by assumption) ?_
  rotate_left
  · (intro w hSw; (try dsimp only at hSw); first | (go_simp; done) | (go_simp; with_reducible rfl))
  try simp only [Act.put, List.setIfInBounds_toArray, List.set_cons_zero, List.set_cons_succ]
  refine wpAnyH_take (i := 15) (v := ?_) (takeL rfl) (by kernel_rfl) (by kernel_rfl) (by kernel_rfl) (fun _ _ _ h => h) (Or.inl ⟨by rfl, ?_⟩) (by assumption) ?_
  rotate_left
  · (intro w hSw; (try dsimp only at hSw); first | (go_simp; done) | (go_simp; with_reducible rfl))
  try simp only [Act.put, List.setIfInBounds_toArray, List.set_cons_zero, List.set_cons_succ]
  refine wpAnyH_take (i := 16) (v := ?_) (takeL rfl) (by kernel_rfl) (by kernel_rfl) (by kernel_rfl) (fun _ _ _ h => h) (Or.inl ⟨by rfl, ?_⟩) (by assumption) ?_
  rotate_left
  · (intro w hSw; (try dsimp only at hSw); first | (go_simp; done) | (go_simp; with_reducible rfl))
  try simp only [Act.put, List.setIfInBounds_toArray, List.set_cons_zero, List.set_cons_succ]
  refine wpAnyH_ready (rs := [17]) (by kernel_rfl) (by simp) ?_
  refine AllReadyH.cons (takeL rfl) (fun K hK => ?_) AllReadyH.nil
  go_simp
  refine (bagsame_any am ab ac am' ab' ac' nl kl nb kb nc kc nl' kl' nb' kb' nc' kc' live live' bs cl bs' cl' HL.out.l0 HL.out.l1 HL.out.l2 HL'.out.l0 HL'.out.l1 HL'.out.l2 HL.out.m0 HL.out.m1 HL.out.m2 true (itT HG2) _ (HL.out.s0.below (bNext (bDrew (Below.refl _ _)) (bNext hb1 hb2))) (HL.out.s1.below (bNext (bDrew (Below.refl _ _)) (bNext hb1 hb2))) (HL.out.s2.below (bNext (bDrew (Below.refl _ _)) (bNext hb1 hb2))) (HL'.out.s0.below (bNext (bDrew (Below.refl _ _)) (bNext hb1 hb2))) (HL'.out.s1.below (bNext (bDrew (Below.refl _ _)) (bNext hb1 hb2))) (HL'.out.s2.below (bNext (bDrew (Below.refl _ _)) (bNext hb1 hb2)))).mono ?_; rintro e v3 ⟨rfl, hb3⟩
  go_wp2_with fail
  refine hK.out _ _ (KEEP.out _ (bNext (bNext hb1 hb2) hb3)) (fun hHeld => ?_)
  clear hK K
  refine wpAnyH_take (i := 18) (v := ?_) (takeL rfl) (by kernel_rfl) (by kernel_rfl) (by kernel_rfl) (fun _ _ _ h => h) (Or.inl ⟨by rfl, ?_⟩) (by assumption) ?_
  rotate_left
  · (intro w hSw; (try dsimp only at hSw); first | (go_simp; done) | (go_simp; with_reducible rfl))
  try simp only [Act.put, List.setIfInBounds_toArray, List.set_cons_zero, List.set_cons_succ]
  refine wpAnyH_take (i := 19) (v := ?_) (takeL rfl) (by kernel_rfl) (by kernel_rfl) (by kernel_rfl) (fun _ _ _ h => h) (Or.inl ⟨by rfl, ?_⟩) (by assumption) ?_
  rotate_left
  · (intro w hSw; (try dsimp only at hSw); first | (go_simp; done) | (go_simp; with_reducible rfl))
  try simp only [Act.put, List.setIfInBounds_toArray, List.set_cons_zero, List.set_cons_succ]
  refine wpAnyH_take (i := 20) (v := ?_) (takeL rfl) (by kernel_rfl) (by kernel_rfl) (by kernel_rfl) (fun _ _ _ h => h) (Or.inl ⟨by rfl, ?_⟩) (by assumption) ?_
  rotate_left
  · (intro w hSw; (try dsimp only at hSw); first | (go_simp; done) | (go_simp; with_reducible rfl))
  try simp only [Act.put, List.setIfInBounds_toArray, List.set_cons_zero, List.set_cons_succ]
  refine wpAnyH_take (i := 21) (v := ?_) (takeL rfl) (by kernel_rfl) (by kernel_rfl) (by kernel_rfl) (fun _ _ _ h => h) (Or.inl ⟨by rfl, ?_⟩) (by assumption) ?_
  rotate_left
  · (intro w hSw; (try dsimp only at hSw); first | (go_simp; done) | (go_simp; with_reducible rfl))
  try simp only [Act.put, List.setIfInBounds_toArray, List.set_cons_zero, List.set_cons_succ]
  refine wpAnyH_take (i := 22) (v := ?_) (takeL rfl) (by kernel_rfl) (by kernel_rfl) (by kernel_rfl) (fun _ _ _ h => h) (Or.inl ⟨by rfl, ?_⟩) (by assumption) ?_
  rotate_left
  · (intro w hSw; (try dsimp only at hSw); first | (go_simp; done) | (go_simp; with_reducible rfl))
  try simp only [Act.put, List.setIfInBounds_toArray, List.set_cons_zero, List.set_cons_succ]
  refine wpAnyH_take (i := 23) (v := ?_) (takeL rfl) (by kernel_rfl) (by kernel_rfl) (by kernel_rfl) (fun _ _ _ h => h) (Or.inl ⟨by rfl, ?_⟩) (by assumption) ?_
  rotate_left
  · (intro w hSw; (try dsimp only at hSw); first | (go_simp; done) | (go_simp; with_reducible rfl))
  try simp only [Act.put, List.setIfInBounds_toArray, List.set_cons_zero, List.set_cons_succ]
  refine wpAnyH_ready (rs := [24]) (by kernel_rfl) (by simp) ?_
  refine AllReadyH.cons (takeL rfl) (fun K hK => ?_) AllReadyH.nil
  go_simp
  refine (sametags_any ag ag' kg kg' ng ng' tags tags' HL.out.l3 HL'.out.l3 _ HL.out.m3 (HL.out.s3.below (bNext (bDrew (Below.refl _ _)) (bNext (bNext hb1 hb2) hb3))) (HL'.out.s3.below (bNext (bDrew (Below.refl _ _)) (bNext (bNext hb1 hb2) hb3))) true hT).mono ?_; rintro e v4 ⟨rfl, q4, rfl⟩
  go_wp2_with fail
  refine hK.out _ _ (KEEP.out _ (bDrewN (bNext (bNext hb1 hb2) hb3) _)) (fun hHeld => ?_)
  clear hK K
  refine wpAnyH_take (i := 25) (v := ?_) (takeL rfl) (by kernel_rfl) (by kernel_rfl) (by kernel_rfl) (fun _ _ _ h => h) (Or.inl ⟨by rfl, ?_⟩) (by assumption) ?_
  rotate_left
  · (intro w hSw; (try dsimp only at hSw); first | (go_simp; done) | (go_simp; with_reducible rfl))
  try simp only [Act.put, List.setIfInBounds_toArray, List.set_cons_zero, List.set_cons_succ]
  refine wpAnyH_take (i := 26) (v := ?_) (takeL rfl) (by kernel_rfl) (by kernel_rfl) (by kernel_rfl) (fun _ _ _ h => h) (Or.inl ⟨by rfl, ?_⟩) (by assumption) ?_
  rotate_left
  · (intro w hSw; (try dsimp only at hSw); first | (go_simp; done) | (go_simp; with_reducible rfl))
  try simp only [Act.put, List.setIfInBounds_toArray, List.set_cons_zero, List.set_cons_succ]
  refine wpAnyH_take (i := 27) (v := ?_) (takeL rfl) (by kernel_rfl) (by kernel_rfl) (by kernel_rfl) (fun _ _ _ h => h) (Or.inl ⟨by rfl, ?_⟩) (by assumption) ?_
  rotate_left
  · (intro w hSw; (try dsimp only at hSw); first | (go_simp; done) | (go_simp; with_reducible rfl))
  try simp only [Act.put, List.setIfInBounds_toArray, List.set_cons_zero, List.set_cons_succ]
  refine wpAnyH_take (i := 28) (v := ?_) (takeL rfl) (by kernel_rfl) (by kernel_rfl) (by kernel_rfl) (fun _ _ _ h => h) (Or.inl ⟨by rfl, ?_⟩) (by assumption) ?_
  rotate_left
  · (intro w hSw; (try dsimp only at hSw); first | (go_simp; done) | (go_simp; with_reducible rfl))
  try simp only [Act.put, List.setIfInBounds_toArray, List.set_cons_zero, List.set_cons_succ]
  refine wpAnyH_take (i := 29) (v := ?_) (takeL rfl) (by kernel_rfl) (by kernel_rfl) (by kernel_rfl) (fun _ _ _ h => h) (Or.inl ⟨by rfl, ?_⟩) (by assumption) ?_
  rotate_left
  · (intro w hSw; (try dsimp only at hSw); first | (go_simp; done) | (go_simp; with_reducible rfl))
  try simp only [Act.put, List.setIfInBounds_toArray, List.set_cons_zero, List.set_cons_succ]
  refine wpAnyH_take (i := 30) (v := ?_) (takeL rfl) (by kernel_rfl) (by kernel_rfl) (by kernel_rfl) (fun _ _ _ h => h) (Or.inl ⟨by rfl, ?_⟩) (by assumption) ?_
  rotate_left
  · (intro w hSw; (try dsimp only at hSw); first | (go_simp; done) | (go_simp; with_reducible rfl))
  try simp only [Act.put, List.setIfInBounds_toArray, List.set_cons_zero, List.set_cons_succ]
  refine wpAnyH_ready (rs := [31]) (by kernel_rfl) (by simp) ?_
  refine AllReadyH.cons (takeL rfl) (fun K hK => ?_) AllReadyH.nil
  go_simp
  refine (sameview_any av av' kv kv' nv nv' view view' HL.out.l4 HL'.out.l4 _ HL.out.m4 (SlE.below (HL.out.s4.below (bNext (bDrew (Below.refl _ _)) (bNext (bNext hb1 hb2) hb3))) (bDrewN (Below.refl _ _) _)) (SlE.below (HL'.out.s4.below (bNext (bDrew (Below.refl _ _)) (bNext (bNext hb1 hb2) hb3))) (bDrewN (Below.refl _ _) _)) r hV).mono ?_; rintro e v5 ⟨rfl, q5, rfl⟩
  go_wp2_with fail
  refine hK.out _ _ (KEEP.out _ (bDrewN (bNext (bNext hb1 hb2) hb3) _)) (fun hHeld => ?_)
  clear hK K
  refine wpAnyH_take (i := 32) (v := ?_) (takeL rfl) (by kernel_rfl) (by kernel_rfl) (by kernel_rfl) (fun _ _ _ h => h) (Or.inl ⟨by rfl, ?_⟩) (by assumption) ?_
  rotate_left
  · (intro w hSw; (try dsimp only at hSw); first | (go_simp; done) | (go_simp; with_reducible rfl))
  try simp only [Act.put, List.setIfInBounds_toArray, List.set_cons_zero, List.set_cons_succ]
  refine wpAnyH_take (i := 33) (v := ?_) (takeL rfl) (by kernel_rfl) (by kernel_rfl) (by kernel_rfl) (fun _ _ _ h => h) (Or.inl ⟨by rfl, ?_⟩) (by assumption) ?_
  rotate_left
  · (intro w hSw; (try dsimp only at hSw); first | (go_simp; done) | (go_simp; with_reducible rfl))
  try simp only [Act.put, List.setIfInBounds_toArray, List.set_cons_zero, List.set_cons_succ]
  refine wpAnyH_done (by kernel_rfl) ?_ _
  go_wp2_with fail
  go_ret
  exact ⟨rfl, bNext (bDrew HB0.out) (bDrewN (bNext (bNext hb1 hb2) hb3) _)⟩
end Go.Proofs.Ytfpjdmplepepjaa

/-! WRefSame: The document's Same: rows, contexts, bags. -/
namespace Go.Proofs.Ytfpjdmplepepjaa
open Go.RowKit

set_option maxRecDepth 100000 in
set_option maxHeartbeats 4000000 in
theorem refdots_any (a1 a2 : Option Addr) (c1 c2 n m : Nat) (xs ys : List Dot2) (hx : Hid (xs.length = n)) (hy : Hid (ys.length = m)) (w : World) (hlen : n ≤ 1000000000) (h1 : SlE eDot 2 w a1 xs) (h2 : SlE eDot 2 w a2 ys) (r : Bool) (hr : Hid (r = decide (xs = ys))) :
    Calls Try.prog 90 #[.slice a1 n c1, .slice a2 m c2] w fun e w' => e = .returned (.bool r) ∧ ∃ q, w' = w.drewN q := by
  by_cases hmn : n = m
  rotate_left
  · have hne : r = false := by rw [hr.out]; exact decide_eq_false (by intro e; apply hmn; rw [← hx.out, ← hy.out, e])
    subst hne
    go_enter Try.func90, Try.ntmps90
    go_wp2_with fail
    go_ret
    exact ⟨rfl, 0, rfl⟩
  subst hmn
  have H1 := Lib.hid h1
  have H2 := Lib.hid h2
  clear h1 h2
  go_enter Try.func90, Try.ntmps90
  go_wp2_with fail
  go_loopw [5] (fun i wr => ∃ (k q : Nat), k ≤ n ∧ i = .int .i64 (k : Int) ∧ wr = w.drewN q ∧ Hid (xs.take k = ys.take k)) (fun i _ => n - (intOf i).toNat)
  case atStart => exact ⟨0, 0, by omega, rfl, rfl, Lib.hid (by simp)⟩
  case round =>
    obtain ⟨k, q, hk, rfl, rfl, ht⟩ := hrel
    by_cases hlt : k < n
    · obtain ⟨b1, o1, ⟨x1, x2⟩, rfl, hb1, e1, g1⟩ := H1.out.get k (by rw [hx.out]; exact hlt)
      obtain ⟨b2, o2, ⟨y1, y2⟩, rfl, hb2, e2, g2⟩ := H2.out.get k (by rw [hy.out]; exact hlt)
      have d1 : w.cell? ⟨b1, o1 + k * 2, none⟩ = some (.int .i64 x1) := g1 0 _ rfl
      have d2 : w.cell? ⟨b1, o1 + k * 2 + 1, none⟩ = some (.int .i64 x2) := g1 1 _ rfl
      have d3 : w.cell? ⟨b2, o2 + k * 2, none⟩ = some (.int .i64 y1) := g2 0 _ rfl
      have d4 : w.cell? ⟨b2, o2 + k * 2 + 1, none⟩ = some (.int .i64 y2) := g2 1 _ rfl
      obtain ⟨B, hBB⟩ := nm (decide ((x1, x2) = (y1, y2)))
      have heq := fun w => neqD x1 x2 y1 y2 B hBB.out.symm w
      have hgd := fun (a b : Operand) (w : World) => guardD .neq a b #[.int .i64 x1, .int .i64 x2] #[.int .i64 y1, .int .i64 y2] w
      clear g1 g2
      cases B
      · have HE : Hid (r = false) := by
          show _ = _
          rw [hr.out]
          refine decide_eq_false fun e => ?_
          have h3 := e1.out
          rw [e, e2.out] at h3
          have h4 := Option.some.inj h3
          have := hBB.out
          rw [h4] at this
          simp at this
        go_wp2_with fail
        go_quiet (fail)
        go_wp2_with fail
        go_ret
        rw [HE.out]
        exact ⟨rfl, q + nq, by rw [World.drewN_drewN]⟩
      · have HT : Hid (xs.take (k + 1) = ys.take (k + 1)) := by
          show _ = _
          have e : (x1, x2) = (y1, y2) := by simpa using hBB.out.symm
          rw [take_snocE e1.out, take_snocE e2.out, ht.out, e]
        clear ht
        go_wp2_with fail
        go_quiet (fail)
        go_wp2_with fail
        go_roundw
        case rel => exact ⟨k + 1, q + nq, by omega, by go_num, rfl, HT⟩
        case measure => simp [intOf]; omega
    · obtain rfl : k = n := by omega
      have HE : Hid (r = true) := by
        show _ = _
        rw [hr.out]
        refine decide_eq_true ?_
        have e := ht.out
        rw [List.take_of_length_le (by rw [hx.out]; exact Nat.le_refl _), List.take_of_length_le (by rw [hy.out]; exact Nat.le_refl _)] at e
        exact e
      go_wp2_with fail
      go_ret
      rw [HE.out]
      exact ⟨rfl, q, rfl⟩

set_option maxRecDepth 100000 in
set_option maxHeartbeats 4000000 in
theorem refpeers_any (a1 a2 : Option Addr) (c1 c2 n m : Nat) (xs ys : List Peer3) (hx : Hid (xs.length = n)) (hy : Hid (ys.length = m)) (w : World) (hlen : n ≤ 1000000000) (h1 : SlE ePeer 3 w a1 xs) (h2 : SlE ePeer 3 w a2 ys) (r : Bool) (hr : Hid (r = decide (xs = ys))) :
    Calls Try.prog 44 #[.slice a1 n c1, .slice a2 m c2] w fun e w' => e = .returned (.bool r) ∧ ∃ q, w' = w.drewN q := by
  by_cases hmn : n = m
  rotate_left
  · have hne : r = false := by rw [hr.out]; exact decide_eq_false (by intro e; apply hmn; rw [← hx.out, ← hy.out, e])
    subst hne
    go_enter Try.func44, Try.ntmps44
    go_wp2_with fail
    go_ret
    exact ⟨rfl, 0, rfl⟩
  subst hmn
  have H1 := Lib.hid h1
  have H2 := Lib.hid h2
  clear h1 h2
  go_enter Try.func44, Try.ntmps44
  go_wp2_with fail
  go_loopw [5] (fun i wr => ∃ (k q : Nat), k ≤ n ∧ i = .int .i64 (k : Int) ∧ wr = w.drewN q ∧ Hid (xs.take k = ys.take k)) (fun i _ => n - (intOf i).toNat)
  case atStart => exact ⟨0, 0, by omega, rfl, rfl, Lib.hid (by simp)⟩
  case round =>
    obtain ⟨k, q, hk, rfl, rfl, ht⟩ := hrel
    by_cases hlt : k < n
    · obtain ⟨b1, o1, ⟨x1, x2, x3⟩, rfl, hb1, e1, g1⟩ := H1.out.get k (by rw [hx.out]; exact hlt)
      obtain ⟨b2, o2, ⟨y1, y2, y3⟩, rfl, hb2, e2, g2⟩ := H2.out.get k (by rw [hy.out]; exact hlt)
      have d1 : w.cell? ⟨b1, o1 + k * 3, none⟩ = some (.int .i64 x1) := g1 0 _ rfl
      have d2 : w.cell? ⟨b1, o1 + k * 3 + 1, none⟩ = some (.int .i64 x2) := g1 1 _ rfl
      have d5 : w.cell? ⟨b1, o1 + k * 3 + 2, none⟩ = some (.int .i64 x3) := g1 2 _ rfl
      have d6 : w.cell? ⟨b2, o2 + k * 3 + 2, none⟩ = some (.int .i64 y3) := g2 2 _ rfl
      have d3 : w.cell? ⟨b2, o2 + k * 3, none⟩ = some (.int .i64 y1) := g2 0 _ rfl
      have d4 : w.cell? ⟨b2, o2 + k * 3 + 1, none⟩ = some (.int .i64 y2) := g2 1 _ rfl
      obtain ⟨B, hBB⟩ := nm (decide ((x1, x2, x3) = (y1, y2, y3)))
      have heq := fun w => neqT x1 x2 x3 y1 y2 y3 B hBB.out.symm w
      have hgd := fun (a b : Operand) (w : World) => guardT .neq a b #[.int .i64 x1, .int .i64 x2, .int .i64 x3] #[.int .i64 y1, .int .i64 y2, .int .i64 y3] w
      clear g1 g2
      cases B
      · have HE : Hid (r = false) := by
          show _ = _
          rw [hr.out]
          refine decide_eq_false fun e => ?_
          have h3 := e1.out
          rw [e, e2.out] at h3
          have h4 := Option.some.inj h3
          have := hBB.out
          rw [h4] at this
          simp at this
        go_wp2_with fail
        go_quiet (fail)
        go_wp2_with fail
        go_ret
        rw [HE.out]
        exact ⟨rfl, q + nq, by rw [World.drewN_drewN]⟩
      · have HT : Hid (xs.take (k + 1) = ys.take (k + 1)) := by
          show _ = _
          have e : (x1, x2, x3) = (y1, y2, y3) := by simpa using hBB.out.symm
          rw [take_snocE e1.out, take_snocE e2.out, ht.out, e]
        clear ht
        go_wp2_with fail
        go_quiet (fail)
        go_wp2_with fail
        go_roundw
        case rel => exact ⟨k + 1, q + nq, by omega, by go_num, rfl, HT⟩
        case measure => simp [intOf]; omega
    · obtain rfl : k = n := by omega
      have HE : Hid (r = true) := by
        show _ = _
        rw [hr.out]
        refine decide_eq_true ?_
        have e := ht.out
        rw [List.take_of_length_le (by rw [hx.out]; exact Nat.le_refl _), List.take_of_length_le (by rw [hy.out]; exact Nat.le_refl _)] at e
        exact e
      go_wp2_with fail
      go_ret
      rw [HE.out]
      exact ⟨rfl, q, rfl⟩

set_option maxRecDepth 100000 in
set_option maxHeartbeats 4000000 in
theorem reftags_any (a1 a2 : Option Addr) (c1 c2 n m : Nat) (xs ys : List Tag2) (hx : Hid (xs.length = n)) (hy : Hid (ys.length = m)) (w : World) (hlen : n ≤ 1000000000) (h1 : SlE eTag 2 w a1 xs) (h2 : SlE eTag 2 w a2 ys) (r : Bool) (hr : Hid (r = decide (xs = ys))) :
    Calls Try.prog 43 #[.slice a1 n c1, .slice a2 m c2] w fun e w' => e = .returned (.bool r) ∧ ∃ q, w' = w.drewN q := by
  by_cases hmn : n = m
  rotate_left
  · have hne : r = false := by rw [hr.out]; exact decide_eq_false (by intro e; apply hmn; rw [← hx.out, ← hy.out, e])
    subst hne
    go_enter Try.func43, Try.ntmps43
    go_wp2_with fail
    go_ret
    exact ⟨rfl, 0, rfl⟩
  subst hmn
  have H1 := Lib.hid h1
  have H2 := Lib.hid h2
  clear h1 h2
  go_enter Try.func43, Try.ntmps43
  go_wp2_with fail
  go_loopw [5] (fun i wr => ∃ (k q : Nat), k ≤ n ∧ i = .int .i64 (k : Int) ∧ wr = w.drewN q ∧ Hid (xs.take k = ys.take k)) (fun i _ => n - (intOf i).toNat)
  case atStart => exact ⟨0, 0, by omega, rfl, rfl, Lib.hid (by simp)⟩
  case round =>
    obtain ⟨k, q, hk, rfl, rfl, ht⟩ := hrel
    by_cases hlt : k < n
    · obtain ⟨b1, o1, ⟨x1, x2⟩, rfl, hb1, e1, g1⟩ := H1.out.get k (by rw [hx.out]; exact hlt)
      obtain ⟨b2, o2, ⟨y1, y2⟩, rfl, hb2, e2, g2⟩ := H2.out.get k (by rw [hy.out]; exact hlt)
      have d1 : w.cell? ⟨b1, o1 + k * 2, none⟩ = some (.string x1) := g1 0 _ rfl
      have d2 : w.cell? ⟨b1, o1 + k * 2 + 1, none⟩ = some (.int .i64 x2) := g1 1 _ rfl
      have d3 : w.cell? ⟨b2, o2 + k * 2, none⟩ = some (.string y1) := g2 0 _ rfl
      have d4 : w.cell? ⟨b2, o2 + k * 2 + 1, none⟩ = some (.int .i64 y2) := g2 1 _ rfl
      obtain ⟨B, hBB⟩ := nm (decide ((x1, x2) = (y1, y2)))
      have heq := fun w => neqG x1 x2 y1 y2 B hBB.out.symm w
      have hgd := fun (a b : Operand) (w : World) => guardG .neq a b #[.string x1, .int .i64 x2] #[.string y1, .int .i64 y2] w
      clear g1 g2
      cases B
      · have HE : Hid (r = false) := by
          show _ = _
          rw [hr.out]
          refine decide_eq_false fun e => ?_
          have h3 := e1.out
          rw [e, e2.out] at h3
          have h4 := Option.some.inj h3
          have := hBB.out
          rw [h4] at this
          simp at this
        go_wp2_with fail
        go_quiet (fail)
        go_wp2_with fail
        go_ret
        rw [HE.out]
        exact ⟨rfl, q + nq, by rw [World.drewN_drewN]⟩
      · have HT : Hid (xs.take (k + 1) = ys.take (k + 1)) := by
          show _ = _
          have e : (x1, x2) = (y1, y2) := by simpa using hBB.out.symm
          rw [take_snocE e1.out, take_snocE e2.out, ht.out, e]
        clear ht
        go_wp2_with fail
        go_quiet (fail)
        go_wp2_with fail
        go_roundw
        case rel => exact ⟨k + 1, q + nq, by omega, by go_num, rfl, HT⟩
        case measure => simp [intOf]; omega
    · obtain rfl : k = n := by omega
      have HE : Hid (r = true) := by
        show _ = _
        rw [hr.out]
        refine decide_eq_true ?_
        have e := ht.out
        rw [List.take_of_length_le (by rw [hx.out]; exact Nat.le_refl _), List.take_of_length_le (by rw [hy.out]; exact Nat.le_refl _)] at e
        exact e
      go_wp2_with fail
      go_ret
      rw [HE.out]
      exact ⟨rfl, q, rfl⟩

set_option maxRecDepth 100000 in
set_option maxHeartbeats 4000000 in
theorem refmsgs_any (a1 a2 : Option Addr) (c1 c2 n m : Nat) (xs ys : List Msg5) (hx : Hid (xs.length = n)) (hy : Hid (ys.length = m)) (w : World) (hlen : n ≤ 1000000000) (h1 : SlE eMsg 5 w a1 xs) (h2 : SlE eMsg 5 w a2 ys) (r : Bool) (hr : Hid (r = true ↔ xs = ys)) :
    Calls Try.prog 52 #[.slice a1 n c1, .slice a2 m c2] w fun e w' => e = .returned (.bool r) ∧ ∃ q, w' = w.drewN q := by
  by_cases hmn : n = m
  rotate_left
  · have hne : r = false := by
      cases r
      · rfl
      · exact absurd (by rw [← hx.out, ← hy.out, hr.out.1 rfl]) hmn
    subst hne
    go_enter Try.func52, Try.ntmps52
    go_wp2_with fail
    go_ret
    exact ⟨rfl, 0, rfl⟩
  subst hmn
  have H1 := Lib.hid h1
  have H2 := Lib.hid h2
  clear h1 h2
  go_enter Try.func52, Try.ntmps52
  go_wp2_with fail
  go_loopw [5] (fun i wr => ∃ (k q : Nat), k ≤ n ∧ i = .int .i64 (k : Int) ∧ wr = w.drewN q ∧ Hid (xs.take k = ys.take k)) (fun i _ => n - (intOf i).toNat)
  case atStart => exact ⟨0, 0, by omega, rfl, rfl, Lib.hid (by simp)⟩
  case round =>
    obtain ⟨k, q, hk, rfl, rfl, ht⟩ := hrel
    by_cases hlt : k < n
    · obtain ⟨b1, o1, ⟨x1, x2, x3, x4, x5⟩, rfl, hb1, e1, g1⟩ := H1.out.get k (by rw [hx.out]; exact hlt)
      obtain ⟨b2, o2, ⟨y1, y2, y3, y4, y5⟩, rfl, hb2, e2, g2⟩ := H2.out.get k (by rw [hy.out]; exact hlt)
      have dx0 : w.cell? ⟨b1, o1 + k * 5, none⟩ = some (.int .i64 x1) := g1 0 _ rfl
      have dx1 : w.cell? ⟨b1, o1 + k * 5 + 1, none⟩ = some (.int .i64 x2) := g1 1 _ rfl
      have dx2 : w.cell? ⟨b1, o1 + k * 5 + 2, none⟩ = some (.string x3) := g1 2 _ rfl
      have dx3 : w.cell? ⟨b1, o1 + k * 5 + 3, none⟩ = some (.string x4) := g1 3 _ rfl
      have dx4 : w.cell? ⟨b1, o1 + k * 5 + 4, none⟩ = some (.int .i64 x5) := g1 4 _ rfl
      have dy0 : w.cell? ⟨b2, o2 + k * 5, none⟩ = some (.int .i64 y1) := g2 0 _ rfl
      have dy1 : w.cell? ⟨b2, o2 + k * 5 + 1, none⟩ = some (.int .i64 y2) := g2 1 _ rfl
      have dy2 : w.cell? ⟨b2, o2 + k * 5 + 2, none⟩ = some (.string y3) := g2 2 _ rfl
      have dy3 : w.cell? ⟨b2, o2 + k * 5 + 3, none⟩ = some (.string y4) := g2 3 _ rfl
      have dy4 : w.cell? ⟨b2, o2 + k * 5 + 4, none⟩ = some (.int .i64 y5) := g2 4 _ rfl
      obtain ⟨B, hB, hBf, hBt⟩ : ∃ B : Bool, Hid (B = true ↔ Msg5.mk x1 x2 x3 x4 x5 = Msg5.mk y1 y2 y3 y4 y5) ∧ Hid (B = false → Msg5.mk x1 x2 x3 x4 x5 ≠ Msg5.mk y1 y2 y3 y4 y5) ∧ Hid (B = true → Msg5.mk x1 x2 x3 x4 x5 = Msg5.mk y1 y2 y3 y4 y5) := by
        by_cases h : Msg5.mk x1 x2 x3 x4 x5 = Msg5.mk y1 y2 y3 y4 y5
        · exact ⟨true, show true = true ↔ _ from ⟨fun _ => h, fun _ => rfl⟩, (fun e => by cases e), fun _ => h⟩
        · exact ⟨false, show false = true ↔ _ from ⟨fun e => (by cases e), fun g => absurd g h⟩, fun _ => h, fun e => by cases e⟩
      have heq := fun w => neqM x1 x2 y1 y2 x3 x4 y3 y4 x5 y5 B hB w
      have hgd := fun (a b : Operand) (w : World) => guardM .neq a b #[.int .i64 x1, .int .i64 x2, .string x3, .string x4, .int .i64 x5] #[.int .i64 y1, .int .i64 y2, .string y3, .string y4, .int .i64 y5] w
      clear hB
      clear g1 g2
      cases B
      · obtain rfl : r = false := by
          cases r
          · rfl
          · have e := hr.out.1 rfl
            have h3 := e1.out
            rw [e, e2.out] at h3
            exact absurd (Option.some.inj h3).symm (hBf.out rfl)
        go_wp2_with fail
        go_quiet (fail)
        go_wp2_with fail
        go_ret
        exact ⟨rfl, q + nq, by rw [World.drewN_drewN]⟩
      · have HT : Hid (xs.take (k + 1) = ys.take (k + 1)) := by
          show _ = _
          have e : Msg5.mk x1 x2 x3 x4 x5 = Msg5.mk y1 y2 y3 y4 y5 := hBt.out rfl
          rw [take_snocE e1.out, take_snocE e2.out, ht.out, e]
        clear ht
        go_wp2_with fail
        go_quiet (fail)
        go_wp2_with fail
        go_roundw
        case rel => exact ⟨k + 1, q + nq, by omega, by go_num, rfl, HT⟩
        case measure => simp [intOf]; omega
    · obtain rfl : k = n := by omega
      obtain rfl : r = true := by
        refine hr.out.2 ?_
        have e := ht.out
        rw [List.take_of_length_le (by rw [hx.out]; exact Nat.le_refl _), List.take_of_length_le (by rw [hy.out]; exact Nat.le_refl _)] at e
        exact e
      go_wp2_with fail
      go_ret
      exact ⟨rfl, q, rfl⟩

set_option maxRecDepth 100000 in
set_option maxHeartbeats 4000000 in
theorem refctx_any (a1 a2 b1 b2 : Option Addr) (n1 k1 n2 k2 m1 j1 m2 j2 : Nat) (bs cl bs' cl' : List Dot2) (h1 : Hid (bs.length = n1)) (h2 : Hid (cl.length = n2)) (h3 : Hid (bs'.length = m1)) (h4 : Hid (cl'.length = m2)) (hm : n1 ≤ 1000000) (hm2 : n2 ≤ 1000000) (r : Bool) (hr : Hid (r = true ↔ bs = bs' ∧ cl = cl')) (w : World) (s1 : SlP w a1 bs) (s2 : SlP w a2 cl) (s3 : SlP w b1 bs') (s4 : SlP w b2 cl') :
    Calls Try.prog 53 #[.agg #[.slice a1 n1 k1, .slice a2 n2 k2], .agg #[.slice b1 m1 j1, .slice b2 m2 j2]] w fun e w' => e = .returned (.bool r) ∧ Below w.heap.size w w' := by
  obtain ⟨wa, hwa⟩ := nm (w.alloc (.cells #[.slice a1 n1 k1, .slice a2 n2 k2] 25))
  obtain ⟨w0, hw0⟩ := nm (wa.alloc (.cells #[.slice b1 m1 j1, .slice b2 m2 j2] 25))
  obtain ⟨x, hx⟩ := nm w.heap.size
  obtain ⟨y, hy⟩ := nm wa.heap.size
  have Kx : Hid (Blk w0 x #[.slice a1 n1 k1, .slice a2 n2 k2] 25) := by show Blk _ _ _ _; rw [hw0.out]; exact (blkN hwa.out hx.out).alloc _
  have Ky : Hid (Blk w0 y #[.slice b1 m1 j1, .slice b2 m2 j2] 25) := blkN hw0.out hy.out
  have HB0 : Hid (Below w.heap.size w w0) := by rw [hw0.out, hwa.out]; exact bNew (bOld _) _
  have HS1 : Hid (SlE eDot 2 w0 a1 bs) := (s1.below HB0.out).rows
  have HS2 : Hid (SlE eDot 2 w0 a2 cl) := (s2.below HB0.out).rows
  have HS3 : Hid (SlE eDot 2 w0 b1 bs') := (s3.below HB0.out).rows
  have HS4 : Hid (SlE eDot 2 w0 b2 cl') := (s4.below HB0.out).rows
  have HSZ : Hid (x + 1 = y) := by show _ = _; rw [hy.out, hwa.out, hx.out]; simp
  clear s1 s2 s3 s4
  obtain ⟨A, hA⟩ := nm (decide (bs = bs'))
  obtain ⟨B, hB⟩ := nm (decide (cl = cl'))
  have hR : Hid (r = (A && B)) := by
    show _ = _
    rw [Bool.eq_iff_iff, hr.out, hA.out, hB.out, Bool.and_eq_true, decide_eq_true_iff, decide_eq_true_iff]
  go_enter Try.func53, Try.ntmps53
  go_upto_region 1 with fail
  rw [← hwa.out, ← hw0.out, ← hx.out]
  rw [HSZ.out]
  have c0 : w0.cell? ⟨x, 0, none⟩ = some (.slice a1 n1 k1) := Kx.out.cell 0
  have c1 : w0.cell? ⟨x, 1, none⟩ = some (.slice a2 n2 k2) := Kx.out.cell 1
  have d0 : w0.cell? ⟨y, 0, none⟩ = some (.slice b1 m1 j1) := Ky.out.cell 0
  have d1 : w0.cell? ⟨y, 1, none⟩ = some (.slice b2 m2 j2) := Ky.out.cell 1
  go_wp2_with fail
  refine (refdots_any a1 b1 k1 j1 n1 m1 bs bs' h1 h3 _ (by omega) HS1.out HS3.out A hA).mono ?_; rintro e w1 ⟨rfl, q, rfl⟩
  go_wp2_with fail
  refine (refdots_any a2 b2 k2 j2 n2 m2 cl cl' h2 h4 _ (by omega) (HS2.out.below (bDrewN (Below.refl _ _) _)) (HS4.out.below (bDrewN (Below.refl _ _) _)) B hB).mono ?_; rintro e w1 ⟨rfl, q', rfl⟩
  cases A
  · obtain rfl : r = false := by rw [hR.out]; rfl
    go_wp2_with fail
    go_ret
    exact ⟨rfl, bDrewN HB0.out _⟩
  · obtain rfl : r = B := by rw [hR.out]; simp
    go_wp2_with fail
    go_ret
    exact ⟨rfl, bDrewN HB0.out _⟩

set_option maxRecDepth 100000 in
set_option maxHeartbeats 4000000 in
theorem refbag_any (am ab ac am' ab' ac' : Option Addr) (nl kl nb kb nc kc nl' kl' nb' kb' nc' kc' : Nat) (live live' : List Msg5) (bs cl bs' cl' : List Dot2) (h0 : Hid (live.length = nl)) (h1 : Hid (bs.length = nb)) (h2 : Hid (cl.length = nc)) (h0' : Hid (live'.length = nl')) (h3 : Hid (bs'.length = nb')) (h4 : Hid (cl'.length = nc')) (hm0 : nl ≤ 1000000) (hm : nb ≤ 1000000) (hm2 : nc ≤ 1000000) (r : Bool) (hr : Hid (r = true ↔ live = live' ∧ bs = bs' ∧ cl = cl')) (w : World) (s0 : SlE eMsg 5 w am live) (s1 : SlP w ab bs) (s2 : SlP w ac cl) (s0' : SlE eMsg 5 w am' live') (s3 : SlP w ab' bs') (s4 : SlP w ac' cl') :
    Calls Try.prog 19 #[.agg #[.slice am nl kl, .slice ab nb kb, .slice ac nc kc], .agg #[.slice am' nl' kl', .slice ab' nb' kb', .slice ac' nc' kc']] w fun e w' => e = .returned (.bool r) ∧ Below w.heap.size w w' := by
  obtain ⟨wa, hwa⟩ := nm (w.alloc (.cells #[.slice am nl kl, .slice ab nb kb, .slice ac nc kc] 27))
  obtain ⟨w0, hw0⟩ := nm (wa.alloc (.cells #[.slice am' nl' kl', .slice ab' nb' kb', .slice ac' nc' kc'] 27))
  obtain ⟨x, hx⟩ := nm w.heap.size
  obtain ⟨y, hy⟩ := nm wa.heap.size
  have Kx : Hid (Blk w0 x #[.slice am nl kl, .slice ab nb kb, .slice ac nc kc] 27) := by show Blk _ _ _ _; rw [hw0.out]; exact (blkN hwa.out hx.out).alloc _
  have Ky : Hid (Blk w0 y #[.slice am' nl' kl', .slice ab' nb' kb', .slice ac' nc' kc'] 27) := blkN hw0.out hy.out
  have HB0 : Hid (Below w.heap.size w w0) := by rw [hw0.out, hwa.out]; exact bNew (bOld _) _
  have HS0 : Hid (SlE eMsg 5 w0 am live) := s0.below HB0.out
  have HS0' : Hid (SlE eMsg 5 w0 am' live') := s0'.below HB0.out
  have HS1 : Hid (SlP w0 ab bs) := s1.below HB0.out
  have HS2 : Hid (SlP w0 ac cl) := s2.below HB0.out
  have HS3 : Hid (SlP w0 ab' bs') := s3.below HB0.out
  have HS4 : Hid (SlP w0 ac' cl') := s4.below HB0.out
  have HSZ : Hid (x + 1 = y) := by show _ = _; rw [hy.out, hwa.out, hx.out]; simp
  clear s1 s2 s3 s4 s0 s0'
  obtain ⟨A, hA, hAf, hAt⟩ := boolOf (bs = bs' ∧ cl = cl')
  obtain ⟨B, hB, hBf, hBt⟩ := boolOf (live = live')
  have hR : Hid (r = (A && B)) := by
    show _ = _
    rw [Bool.eq_iff_iff, hr.out, Bool.and_eq_true, hA.out, hB.out]
    exact ⟨fun h => ⟨h.2, h.1⟩, fun h => ⟨h.2, h.1⟩⟩
  go_enter Try.func19, Try.ntmps19
  go_upto_region 1 with fail
  rw [← hwa.out, ← hw0.out, ← hx.out]
  rw [HSZ.out]
  have c0 : w0.cell? ⟨x, 0, none⟩ = some (.slice am nl kl) := Kx.out.cell 0
  have d0 : w0.cell? ⟨y, 0, none⟩ = some (.slice am' nl' kl') := Ky.out.cell 0
  have c1 : w0.cell? ⟨x, 1, none⟩ = some (.slice ab nb kb) := Kx.out.cell 1
  have d1 : w0.cell? ⟨y, 1, none⟩ = some (.slice ab' nb' kb') := Ky.out.cell 1
  have c2 : w0.cell? ⟨x, 2, none⟩ = some (.slice ac nc kc) := Kx.out.cell 2
  have d2 : w0.cell? ⟨y, 2, none⟩ = some (.slice ac' nc' kc') := Ky.out.cell 2
  go_wp2_with fail
  refine (refmsgs_any am am' kl kl' nl nl' live live' h0 h0' _ (by omega) HS0.out HS0'.out B hB).mono ?_; rintro e w1 ⟨rfl, q', rfl⟩
  go_wp2_with fail
  refine (refctx_any ab ac ab' ac' nb kb nc kc nb' kb' nc' kc' bs cl bs' cl' h1 h2 h3 h4 hm hm2 A hA _ (HS1.out.below (bDrewN (Below.refl _ _) _)) (HS2.out.below (bDrewN (Below.refl _ _) _)) (HS3.out.below (bDrewN (Below.refl _ _) _)) (HS4.out.below (bDrewN (Below.refl _ _) _))).mono ?_; rintro e w1 ⟨rfl, hB1⟩
  clear c0 d0 c1 d1 c2 d2
  cases B
  · obtain rfl : r = false := by rw [hR.out]; simp
    go_wp2_with fail
    go_ret
    exact ⟨rfl, bNext (bDrewN HB0.out _) hB1⟩
  · obtain rfl : r = A := by rw [hR.out]; simp
    go_wp2_with fail
    go_ret
    exact ⟨rfl, bNext (bDrewN HB0.out _) hB1⟩
end Go.Proofs.Ytfpjdmplepepjaa

/-! WRefSameW: The document's Same of what is said. -/
namespace Go.Proofs.Ytfpjdmplepepjaa
open Go.RowKit

set_option maxRecDepth 100000 in
set_option maxHeartbeats 8000000 in
theorem refwsame_any (k f s p fl d0 d1 rc lg : Int) (mark : ByteArray) (am ab ac ag av : Option Addr) (nl kl nb kb nc kc ng kg nv kv : Nat) (live : List Msg5) (bs cl : List Dot2) (tags : List Tag2) (view : List Peer3) (k' f' s' p' fl' d0' d1' rc' lg' : Int) (mark' : ByteArray) (am' ab' ac' ag' av' : Option Addr) (nl' kl' nb' kb' nc' kc' ng' kg' nv' kv' : Nat) (live' : List Msg5) (bs' cl' : List Dot2) (tags' : List Tag2) (view' : List Peer3) (r : Bool) (hr : Hid (r = true ↔ WL.mk k f s p fl d0 d1 rc lg mark live bs cl tags view = WL.mk k' f' s' p' fl' d0' d1' rc' lg' mark' live' bs' cl' tags' view')) (w : World) (hL : Lies w am ab ac ag av nl nb nc ng nv live bs cl tags view) (hL' : Lies w am' ab' ac' ag' av' nl' nb' nc' ng' nv' live' bs' cl' tags' view') :
    Calls Try.prog 15 #[.agg #[.int .i64 k, .int .i64 f, .int .i64 s, .int .i64 p, .int .i64 fl, .string mark, .slice am nl kl, .slice ab nb kb, .slice ac nc kc, .slice ag ng kg, .slice av nv kv, .int .i64 d0, .int .i64 d1, .int .i64 rc, .int .i64 lg], .agg #[.int .i64 k', .int .i64 f', .int .i64 s', .int .i64 p', .int .i64 fl', .string mark', .slice am' nl' kl', .slice ab' nb' kb', .slice ac' nc' kc', .slice ag' ng' kg', .slice av' nv' kv', .int .i64 d0', .int .i64 d1', .int .i64 rc', .int .i64 lg']] w fun e w' => e = .returned (.bool r) ∧ Below w.heap.size w w' := by
  obtain ⟨wa, hwa⟩ := nm (w.alloc (.cells #[.int .i64 k, .int .i64 f, .int .i64 s, .int .i64 p, .int .i64 fl, .string mark, .slice am nl kl, .slice ab nb kb, .slice ac nc kc, .slice ag ng kg, .slice av nv kv, .int .i64 d0, .int .i64 d1, .int .i64 rc, .int .i64 lg] 33))
  obtain ⟨w0, hw0⟩ := nm (wa.alloc (.cells #[.int .i64 k', .int .i64 f', .int .i64 s', .int .i64 p', .int .i64 fl', .string mark', .slice am' nl' kl', .slice ab' nb' kb', .slice ac' nc' kc', .slice ag' ng' kg', .slice av' nv' kv', .int .i64 d0', .int .i64 d1', .int .i64 rc', .int .i64 lg'] 33))
  obtain ⟨x, hx⟩ := nm w.heap.size
  obtain ⟨y, hy⟩ := nm wa.heap.size
  have Kx : Hid (Blk w0 x #[.int .i64 k, .int .i64 f, .int .i64 s, .int .i64 p, .int .i64 fl, .string mark, .slice am nl kl, .slice ab nb kb, .slice ac nc kc, .slice ag ng kg, .slice av nv kv, .int .i64 d0, .int .i64 d1, .int .i64 rc, .int .i64 lg] 33) := by show Blk _ _ _ _; rw [hw0.out]; exact (blkN hwa.out hx.out).alloc _
  have Ky : Hid (Blk w0 y #[.int .i64 k', .int .i64 f', .int .i64 s', .int .i64 p', .int .i64 fl', .string mark', .slice am' nl' kl', .slice ab' nb' kb', .slice ac' nc' kc', .slice ag' ng' kg', .slice av' nv' kv', .int .i64 d0', .int .i64 d1', .int .i64 rc', .int .i64 lg'] 33) := blkN hw0.out hy.out
  have HB0 : Hid (Below w.heap.size w w0) := by rw [hw0.out, hwa.out]; exact bNew (bOld _) _
  have HL : Hid (Lies w0 am ab ac ag av nl nb nc ng nv live bs cl tags view) := hL.below HB0.out
  have HL' : Hid (Lies w0 am' ab' ac' ag' av' nl' nb' nc' ng' nv' live' bs' cl' tags' view') := hL'.below HB0.out
  have HSZ : Hid (x + 1 = y) := by show _ = _; rw [hy.out, hwa.out, hx.out]; simp
  clear hL hL'
  obtain ⟨A, hA, hAf, hAt⟩ := boolOf (live = live' ∧ bs = bs' ∧ cl = cl')
  obtain ⟨T, hT⟩ := nm (decide (tags = tags'))
  obtain ⟨V, hV⟩ := nm (decide (view = view'))
  obtain ⟨bK, hbK⟩ := nm (k == k')
  have gK : (k == k') = bK := hbK.out.symm
  obtain ⟨bF, hbF⟩ := nm (f == f')
  have gF : (f == f') = bF := hbF.out.symm
  obtain ⟨bS, hbS⟩ := nm (s == s')
  have gS : (s == s') = bS := hbS.out.symm
  obtain ⟨bP, hbP⟩ := nm (p == p')
  have gP : (p == p') = bP := hbP.out.symm
  obtain ⟨bQ, hbQ⟩ := nm (fl == fl')
  have gQ : (fl == fl') = bQ := hbQ.out.symm
  obtain ⟨bR, hbR⟩ := nm (rc == rc')
  have gR : (rc == rc') = bR := hbR.out.symm
  obtain ⟨bG, hbG⟩ := nm (lg == lg')
  have gG : (lg == lg') = bG := hbG.out.symm
  obtain ⟨bM, hbM⟩ := nm (decide (mark = mark'))
  have gM : (mark.toList == mark'.toList) = bM := by rw [beqG, hbM.out]
  obtain ⟨bD, hbD⟩ := nm (decide ((d0, d1) = (d0', d1')))
  have heq := fun w => eqlD d0 d1 d0' d1' bD hbD.out.symm w
  have hgd := fun (a b : Operand) (w : World) => guardD .eql a b #[.int .i64 d0, .int .i64 d1] #[.int .i64 d0', .int .i64 d1'] w
  have hR : Hid (r = (A && (T && (V && (bK && (bF && (bS && (bP && (bQ && (bM && (bD && (bR && bG)))))))))))) := by
    show _ = _
    rw [Bool.eq_iff_iff, hr.out, WL.mk.injEq]
    simp only [Bool.and_eq_true, hA.out, hT.out, hV.out, hbK.out, hbF.out, hbS.out, hbP.out, hbQ.out, hbM.out, hbD.out, hbR.out, hbG.out, decide_eq_true_iff, beq_iff_eq, Prod.mk.injEq]
    constructor
    · rintro ⟨a1, a2, a3, a4, a5, a6, a7, a8, a9, a10, a11, a12, a13, a14, a15⟩
      exact ⟨⟨a11, a12, a13⟩, a14, a15, a1, a2, a3, a4, a5, a10, ⟨a6, a7⟩, a8, a9⟩
    · rintro ⟨⟨a11, a12, a13⟩, a14, a15, a1, a2, a3, a4, a5, a10, ⟨a6, a7⟩, a8, a9⟩
      exact ⟨a1, a2, a3, a4, a5, a6, a7, a8, a9, a10, a11, a12, a13, a14, a15⟩
  go_enter Try.func15, Try.ntmps15
  go_upto_region 1 with fail
  rw [← hwa.out, ← hw0.out, ← hx.out]
  rw [HSZ.out]
  have c6 : w0.cell? ⟨x, 6, none⟩ = some (.slice am nl kl) := Kx.out.cell 6
  have e6 : w0.cell? ⟨y, 6, none⟩ = some (.slice am' nl' kl') := Ky.out.cell 6
  have c7 : w0.cell? ⟨x, 7, none⟩ = some (.slice ab nb kb) := Kx.out.cell 7
  have e7 : w0.cell? ⟨y, 7, none⟩ = some (.slice ab' nb' kb') := Ky.out.cell 7
  have c8 : w0.cell? ⟨x, 8, none⟩ = some (.slice ac nc kc) := Kx.out.cell 8
  have e8 : w0.cell? ⟨y, 8, none⟩ = some (.slice ac' nc' kc') := Ky.out.cell 8
  go_wp2_with fail
  refine (refbag_any am ab ac am' ab' ac' nl kl nb kb nc kc nl' kl' nb' kb' nc' kc' live live' bs cl bs' cl' HL.out.l0 HL.out.l1 HL.out.l2 HL'.out.l0 HL'.out.l1 HL'.out.l2 HL.out.m0 HL.out.m1 HL.out.m2 A hA _ HL.out.s0 HL.out.s1 HL.out.s2 HL'.out.s0 HL'.out.s1 HL'.out.s2).mono ?_; rintro e w1 ⟨rfl, hB1⟩
  replace Kx := Lib.hid (Kx.out.below hB1 Kx.out.lt)
  replace Ky := Lib.hid (Ky.out.below hB1 Ky.out.lt)
  replace HB0 := Lib.hid (bNext HB0.out hB1)
  replace HL := Lib.hid (HL.out.below hB1)
  replace HL' := Lib.hid (HL'.out.below hB1)
  clear hB1 c6 c7 c8 e6 e7 e8
  have c0 : w1.cell? ⟨x, 0, none⟩ = some (.int .i64 k) := Kx.out.cell 0
  have e0 : w1.cell? ⟨y, 0, none⟩ = some (.int .i64 k') := Ky.out.cell 0
  have c1 : w1.cell? ⟨x, 1, none⟩ = some (.int .i64 f) := Kx.out.cell 1
  have e1 : w1.cell? ⟨y, 1, none⟩ = some (.int .i64 f') := Ky.out.cell 1
  have c2 : w1.cell? ⟨x, 2, none⟩ = some (.int .i64 s) := Kx.out.cell 2
  have e2 : w1.cell? ⟨y, 2, none⟩ = some (.int .i64 s') := Ky.out.cell 2
  have c3 : w1.cell? ⟨x, 3, none⟩ = some (.int .i64 p) := Kx.out.cell 3
  have e3 : w1.cell? ⟨y, 3, none⟩ = some (.int .i64 p') := Ky.out.cell 3
  have c4 : w1.cell? ⟨x, 4, none⟩ = some (.int .i64 fl) := Kx.out.cell 4
  have e4 : w1.cell? ⟨y, 4, none⟩ = some (.int .i64 fl') := Ky.out.cell 4
  have c5 : w1.cell? ⟨x, 5, none⟩ = some (.string mark) := Kx.out.cell 5
  have e5 : w1.cell? ⟨y, 5, none⟩ = some (.string mark') := Ky.out.cell 5
  have c6 : w1.cell? ⟨x, 6, none⟩ = some (.slice am nl kl) := Kx.out.cell 6
  have e6 : w1.cell? ⟨y, 6, none⟩ = some (.slice am' nl' kl') := Ky.out.cell 6
  have c7 : w1.cell? ⟨x, 7, none⟩ = some (.slice ab nb kb) := Kx.out.cell 7
  have e7 : w1.cell? ⟨y, 7, none⟩ = some (.slice ab' nb' kb') := Ky.out.cell 7
  have c8 : w1.cell? ⟨x, 8, none⟩ = some (.slice ac nc kc) := Kx.out.cell 8
  have e8 : w1.cell? ⟨y, 8, none⟩ = some (.slice ac' nc' kc') := Ky.out.cell 8
  have c9 : w1.cell? ⟨x, 9, none⟩ = some (.slice ag ng kg) := Kx.out.cell 9
  have e9 : w1.cell? ⟨y, 9, none⟩ = some (.slice ag' ng' kg') := Ky.out.cell 9
  have c10 : w1.cell? ⟨x, 10, none⟩ = some (.slice av nv kv) := Kx.out.cell 10
  have e10 : w1.cell? ⟨y, 10, none⟩ = some (.slice av' nv' kv') := Ky.out.cell 10
  have c11 : w1.cell? ⟨x, 11, none⟩ = some (.int .i64 d0) := Kx.out.cell 11
  have e11 : w1.cell? ⟨y, 11, none⟩ = some (.int .i64 d0') := Ky.out.cell 11
  have c12 : w1.cell? ⟨x, 12, none⟩ = some (.int .i64 d1) := Kx.out.cell 12
  have e12 : w1.cell? ⟨y, 12, none⟩ = some (.int .i64 d1') := Ky.out.cell 12
  have c13 : w1.cell? ⟨x, 13, none⟩ = some (.int .i64 rc) := Kx.out.cell 13
  have e13 : w1.cell? ⟨y, 13, none⟩ = some (.int .i64 rc') := Ky.out.cell 13
  have c14 : w1.cell? ⟨x, 14, none⟩ = some (.int .i64 lg) := Kx.out.cell 14
  have e14 : w1.cell? ⟨y, 14, none⟩ = some (.int .i64 lg') := Ky.out.cell 14
  have hQ : ∀ q : Nat, Hid (Below w.heap.size w (w1.drewN q)) := fun q => bDrewN HB0.out q
  go_wp2_with fail
  refine (reftags_any ag ag' kg kg' ng ng' tags tags' HL.out.l3 HL'.out.l3 _ (by have := HL.out.m3; omega) HL.out.s3 HL'.out.s3 T hT).mono ?_; rintro e w2 ⟨rfl, q4, rfl⟩
  go_wp2_with fail
  refine (refpeers_any av av' kv kv' nv nv' view view' HL.out.l4 HL'.out.l4 _ (by have := HL.out.m4; omega) (HL.out.s4.below (bDrewN (Below.refl _ _) _)) (HL'.out.s4.below (bDrewN (Below.refl _ _) _)) V hV).mono ?_; rintro e w3 ⟨rfl, q5, rfl⟩
  cases A
  · obtain rfl : r = false := by rw [hR.out]; simp
    go_wp2_with fail
    go_ret
    exact ⟨rfl, (hQ _).out⟩
  cases T
  · obtain rfl : r = false := by rw [hR.out]; simp
    go_wp2_with fail
    go_ret
    exact ⟨rfl, (hQ _).out⟩
  cases V
  · obtain rfl : r = false := by rw [hR.out]; simp
    go_wp2_with fail
    go_ret
    exact ⟨rfl, (hQ _).out⟩
  cases bK
  · obtain rfl : r = false := by rw [hR.out]; simp
    go_wp2_with fail
    go_ret
    exact ⟨rfl, (hQ _).out⟩
  cases bF
  · obtain rfl : r = false := by rw [hR.out]; simp
    go_wp2_with fail
    go_ret
    exact ⟨rfl, (hQ _).out⟩
  cases bS
  · obtain rfl : r = false := by rw [hR.out]; simp
    go_wp2_with fail
    go_ret
    exact ⟨rfl, (hQ _).out⟩
  cases bP
  · obtain rfl : r = false := by rw [hR.out]; simp
    go_wp2_with fail
    go_ret
    exact ⟨rfl, (hQ _).out⟩
  cases bQ
  · obtain rfl : r = false := by rw [hR.out]; simp
    go_wp2_with fail
    go_ret
    exact ⟨rfl, (hQ _).out⟩
  cases bM
  · obtain rfl : r = false := by rw [hR.out]; simp
    go_wp2_with fail
    go_ret
    exact ⟨rfl, (hQ _).out⟩
  cases bD
  · obtain rfl : r = false := by rw [hR.out]; simp
    go_wp2_with fail
    go_ret
    exact ⟨rfl, (hQ _).out⟩
  cases bR
  · obtain rfl : r = false := by rw [hR.out]; simp
    go_wp2_with fail
    go_ret
    exact ⟨rfl, (hQ _).out⟩
  obtain rfl : r = bG := by rw [hR.out]; simp
  go_wp2_with fail
  go_ret
  exact ⟨rfl, (hQ _).out⟩
end Go.Proofs.Ytfpjdmplepepjaa

/-! WHold: What is said, held in one of two boxes that the law writes to. -/
namespace Go.Proofs.Ytfpjdmplepepjaa
open Go.RowKit

/-- Of what was there only the boxes x and y may have turned. -/
structure Two (x y : Nat) (w w' : World) : Prop where
  size : w.heap.size ≤ w'.heap.size
  block : ∀ k, k < w.heap.size → k ≠ x → k ≠ y → w'.heap[k]? = w.heap[k]?
theorem Two.refl (x y : Nat) (w : World) : Two x y w w := ⟨Nat.le_refl _, fun _ _ _ _ => rfl⟩
theorem Two.trans {x y : Nat} {a b c : World} (h : Two x y a b) (g : Two x y b c) : Two x y a c :=
  ⟨Nat.le_trans h.size g.size, fun k hk hx hy => (g.block k (Nat.lt_of_lt_of_le hk h.size) hx hy).trans (h.block k hk hx hy)⟩
theorem Two.ofBelow {x y : Nat} {a b : World} (h : Below a.heap.size a b) : Two x y a b := ⟨h.size, fun k hk _ _ => h.block k hk⟩
theorem Two.setRow {x y : Nat} (a : World) (g : Nat) (cs : Array Value) (h : g = x ∨ g = y) : Two x y a (a.setRow g cs) :=
  ⟨by simp [World.setRow], fun k _ hx hy => setRow_other _ _ _ _ (by rcases h with e | e <;> (rw [e]; assumption))⟩
theorem SlE.two {α : Type} {enc : α → List Value} {k : Nat} {w w' : World} {ao : Option Addr} {xs : List α} {x y : Nat} (h : SlE enc k w ao xs) (hn : ∀ a, ao = some a → 0 < xs.length → a.block ≠ x ∧ a.block ≠ y) (ht : Two x y w w') : SlE enc k w' ao xs := by
  intro i hi
  obtain ⟨b, off, h1, h2, h3⟩ := h i hi
  obtain ⟨hx, hy⟩ := hn _ h1 (by omega)
  refine ⟨b, off, h1, Nat.lt_of_lt_of_le h2 ht.size, fun j z hj c u hu => ?_⟩
  rw [← h3 j z hj c u hu]
  simp only [World.cell?, ht.block b h2 hx hy]
/-- The rows of what is said lie apart from both boxes. -/
structure Far (x y : Nat) (am ab ac ag av : Option Addr) (live : List Msg5) (bs cl : List Dot2) (tags : List Tag2) (view : List Peer3) : Prop where
  f0 : ∀ a, am = some a → 0 < live.length → a.block ≠ x ∧ a.block ≠ y
  f1 : ∀ a, ab = some a → 0 < bs.length → a.block ≠ x ∧ a.block ≠ y
  f2 : ∀ a, ac = some a → 0 < cl.length → a.block ≠ x ∧ a.block ≠ y
  f3 : ∀ a, ag = some a → 0 < tags.length → a.block ≠ x ∧ a.block ≠ y
  f4 : ∀ a, av = some a → 0 < view.length → a.block ≠ x ∧ a.block ≠ y
theorem Lies.two {x y : Nat} {w w' : World} {am ab ac ag av : Option Addr} {nl nb nc ng nv : Nat} {live : List Msg5} {bs cl : List Dot2} {tags : List Tag2} {view : List Peer3} (h : Lies w am ab ac ag av nl nb nc ng nv live bs cl tags view) (hf : Far x y am ab ac ag av live bs cl tags view) (ht : Two x y w w') : Lies w' am ab ac ag av nl nb nc ng nv live bs cl tags view :=
  ⟨h.l0, h.l1, h.l2, h.l3, h.l4, h.m0, h.m1, h.m2, h.m3, h.m4, h.s0.two hf.f0 ht, (h.s1.rows.two hf.f1 ht).pairs, (h.s2.rows.two hf.f2 ht).pairs, h.s3.two hf.f3 ht, h.s4.two hf.f4 ht⟩
/-- Box g holds what is said, its rows lie apart from the boxes x and y. -/
def HoldsW (x y g : Nat) (w : World) : Prop :=
  ∃ (k f s p fl d0 d1 rc lg : Int) (mark : ByteArray) (am ab ac ag av : Option Addr) (nl kl nb kb nc kc ng kg nv kv : Nat) (live : List Msg5) (bs cl : List Dot2) (tags : List Tag2) (view : List Peer3), Blk w g #[.int .i64 k, .int .i64 f, .int .i64 s, .int .i64 p, .int .i64 fl, .string mark, .slice am nl kl, .slice ab nb kb, .slice ac nc kc, .slice ag ng kg, .slice av nv kv, .int .i64 d0, .int .i64 d1, .int .i64 rc, .int .i64 lg] 33 ∧ Lies w am ab ac ag av nl nb nc ng nv live bs cl tags view ∧ Far x y am ab ac ag av live bs cl tags view ∧ Smallish mark live bs cl tags view
theorem HoldsW.two {x y g : Nat} {w w' : World} (h : HoldsW x y g w) (ht : Two x y w w') (hg : w'.heap[g]? = w.heap[g]?) : HoldsW x y g w' := by
  obtain ⟨k, f, s, p, fl, d0, d1, rc, lg, mark, am, ab, ac, ag, av, nl, kl, nb, kb, nc, kc, ng, kg, nv, kv, live, bs, cl, tags, view, hb, hl, hf, hs⟩ := h
  exact ⟨k, f, s, p, fl, d0, d1, rc, lg, mark, am, ab, ac, ag, av, nl, kl, nb, kb, nc, kc, ng, kg, nv, kv, live, bs, cl, tags, view, hg.trans hb, hl.two hf ht, hf, hs⟩
theorem HoldsW.below {x y g : Nat} {w w' : World} (h : HoldsW x y g w) (hb : Below w.heap.size w w') : HoldsW x y g w' := by
  obtain ⟨k, f, s, p, fl, d0, d1, rc, lg, mark, am, ab, ac, ag, av, nl, kl, nb, kb, nc, kc, ng, kg, nv, kv, live, bs, cl, tags, view, hk, hl, hf, hs⟩ := h
  exact ⟨k, f, s, p, fl, d0, d1, rc, lg, mark, am, ab, ac, ag, av, nl, kl, nb, kb, nc, kc, ng, kg, nv, kv, live, bs, cl, tags, view, hk.below hb hk.lt, hl.below hb, hf, hs⟩
theorem Smallish.lens {mark : ByteArray} {live : List Msg5} {bs cl : List Dot2} {tags : List Tag2} {view : List Peer3} (h : Smallish mark live bs cl tags view) : live.length ≤ 6 ∧ bs.length ≤ 6 ∧ cl.length ≤ 6 ∧ tags.length ≤ 6 ∧ view.length ≤ 6 := ⟨h.live.1, h.bs, h.cl, h.tags.1, h.view⟩
theorem far_old {α : Type} {enc : α → List Value} {k : Nat} {w : World} {ao : Option Addr} {xs : List α} {x y : Nat} (h : SlE enc k w ao xs) (hx : w.heap.size ≤ x) (hy : w.heap.size ≤ y) : ∀ a, ao = some a → 0 < xs.length → a.block ≠ x ∧ a.block ≠ y := by
  intro a ha h0
  obtain ⟨b, off, h1, h2, _⟩ := h 0 h0
  rw [h1] at ha
  obtain rfl := Option.some.inj ha
  exact ⟨by show b ≠ x; omega, by show b ≠ y; omega⟩
/-- What small made of what a box held is laid into the box. -/
theorem HoldsW.laid {k f s p fl d0 d1 rc lg : Int} {ab ac av : Option Addr} {kb kc kv : Nat} {bs cl : List Dot2} {view : List Peer3} {W w0 w1 : World} {x y g : Nat} {mark : ByteArray} {am ag : Option Addr} {nl kl nb nc ng kg nv : Nat} {live : List Msg5} {tags : List Tag2} {old : Array Value}
    (hW : Below W.heap.size W w1) (hx : W.heap.size ≤ x) (hy : W.heap.size ≤ y) (hx2 : x < w0.heap.size) (hy2 : y < w0.heap.size) (hg : g = x ∨ g = y) (hk : Blk w1 g old 33)
    (h1 : SlE eDot 2 W ab bs) (h2 : SlE eDot 2 W ac cl) (h4 : SlE ePeer 3 W av view)
    (hl : live.length = nl ∧ (bs.take 6).length = nb ∧ (cl.take 6).length = nc ∧ tags.length = ng ∧ (view.take 6).length = nv)
    (s0 : SlE eMsg 5 w1 am live ∧ ∀ a, am = some a → w0.heap.size ≤ a.block) (s3 : SlE eTag 2 w1 ag tags ∧ ∀ a, ag = some a → w0.heap.size ≤ a.block) (hs : Smallish mark live (bs.take 6) (cl.take 6) tags (view.take 6)) :
    HoldsW x y g (w1.setRow g #[.int .i64 k, .int .i64 f, .int .i64 s, .int .i64 p, .int .i64 fl, .string mark, .slice am nl kl, .slice ab nb kb, .slice ac nc kc, .slice ag ng kg, .slice av nv kv, .int .i64 d0, .int .i64 d1, .int .i64 rc, .int .i64 lg]) := by
  have hf : Far x y am ab ac ag av live (bs.take 6) (cl.take 6) tags (view.take 6) :=
    ⟨fun a ha _ => by have := s0.2 a ha; omega, far_old (h1.take 6) hx hy, far_old (h2.take 6) hx hy, fun a ha _ => by have := s3.2 a ha; omega, far_old (h4.take 6) hx hy⟩
  obtain ⟨n0, n1, n2, n3, n4⟩ := hs.lens
  have hli : Lies w1 am ab ac ag av nl nb nc ng nv live (bs.take 6) (cl.take 6) tags (view.take 6) :=
    ⟨hl.1, hl.2.1, hl.2.2.1, hl.2.2.2.1, hl.2.2.2.2, by omega, by omega, by omega, by omega, by omega, s0.1, ((h1.below hW).take 6).pairs, ((h2.below hW).take 6).pairs, s3.1, (h4.below hW).take 6⟩
  exact ⟨k, f, s, p, fl, d0, d1, rc, lg, mark, am, ab, ac, ag, av, nl, kl, nb, kb, nc, kc, ng, kg, nv, kv, live, bs.take 6, cl.take 6, tags, view.take 6, setRow_heap w1 g _ _ _ _ hk, hli.two hf (Two.setRow w1 g _ hg), hf, hs⟩
end Go.Proofs.Ytfpjdmplepepjaa

