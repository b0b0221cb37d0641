/- A builder is written to: what lies apart from it is as it was. (and what stands on it: 11 texts in one) -/
import Derived.Deep.RegionHeld3
import Derived.Deep.DeepCutAuto
import Derived.BigQuiet
import Derived.Deep.QuietTactic
import Derived.ChangeKeysEq
import Derived.Test.YtfpjdmplepepjaaJ2
import Derived.Test.YtfpjdmplepepjaaJ1
import Derived.Test.YtfpjdmplepepjaaJ4
/-! WBuild: A builder is written to: what lies apart from it is as it was. -/
namespace Go.Proofs.Ytfpjdmplepepjaa
open Go.RowKit

/-- Block y is neither the builder's nor its row's. -/
def Apart (b y : Nat) (w : World) : Prop := y ≠ b ∧ ∀ v, w.cell? ⟨b, 1, none⟩ = some v → v.ownBlock ≠ some y
theorem apart_of {B b y : Nat} {bs : List Value} {w0 w : World} (h : Lib.IsBuilder 91 5 B b bs w0) (hy : w0.heap.size ≤ y) (hb : Below w0.heap.size w0 w) : Apart b y w := by
  have key : ∀ p, Lib.BuilderAt 91 5 B b p bs w0 → Apart b y w := by
    rintro p ⟨h1, v, h2, h3, h5⟩
    have hl := lt_of_block h2
    refine ⟨by omega, fun u hu e => ?_⟩
    rw [hb.cell (p := ⟨b, 1, none⟩) hl, Lib.cell_of_heap h2] at hu
    obtain rfl : v = u := by simpa using hu
    have := (World.ownsRow.lt h3 y e).2
    omega
  exact h.elim (key _) (key _)
theorem bcheck_keeps (B b : Nat) (bs : List Value) (w : World) (h : Lib.IsBuilder 91 5 B b bs w) :
    Calls Try.prog 91 #[.pointer (some ⟨b, 0, none⟩)] w fun e w' => e = .returned (.tuple #[]) ∧ (Lib.BuilderAt 91 5 B b (.pointer (some ⟨b, 0, none⟩)) bs w' ∧ Below B w w' ∧ w'.cell? ⟨b, 1, none⟩ = w.cell? ⟨b, 1, none⟩ ∧ ∀ k, k ≠ b → w'.heap[k]? = w.heap[k]?) := by
  rcases h with h | h
  · refine (bcheck_fresh b w h.cell0 h.shape h.frozen0).mono ?_
    rintro e w' ⟨rfl, rfl⟩
    exact ⟨rfl, h.used _, (Below.refl B w).setCell (p := ⟨b, 0, none⟩) h.1 _, World.cell?_setCell_other _ _ _ _ (by simp), fun k hk => Below.heap_setCell _ _ _ _ hk⟩
  · refine (bcheck_used b w h.cell0).mono ?_
    rintro e w' ⟨rfl, rfl⟩
    exact ⟨rfl, h, Below.refl B _, rfl, fun _ _ => rfl⟩

set_option maxHeartbeats 2000000 in
set_option maxRecDepth 100000 in
theorem bwrite_keeps (B b : Nat) (l : List UInt8) (s : ByteArray) (w : World) (h : Lib.IsBuilder 91 5 B b (Lib.byteCells l) w) (hlen : l.length + s.size ≤ 140737488355328) (hBw : B ≤ w.heap.size) (y : Nat) (hy : Hid (Apart b y w)) (hyl : y < w.heap.size) :
    Calls Try.prog 54 #[.pointer (some ⟨b, 0, none⟩), .string s] w fun e w' => e = .returned (.tuple #[.int .i64 s.size, .nilIface]) ∧ (Lib.IsBuilder 91 5 B b (Lib.byteCells (l ++ bl s)) w' ∧ Below B w w' ∧ w'.heap[y]? = w.heap[y]?) := by
  obtain ⟨i0, hi, hz0, hz1, hz2⟩ := info_parts infoByte
  have e240 : ∀ args w, (callFunc 91 args).run Try.prog w = .ok (.enter 91 args) w := enters_of Try.func91 (by kernel_rfl) rfl
  have hbs : (Lib.byteCells l).length = l.length := Lib.byteCells_length l
  obtain ⟨bs, hbs2⟩ := nm (Lib.byteCells l)
  rw [← hbs2.out] at h hbs
  go_enter Try.func54, Try.ntmps54
  go_wp2_with (go_at_call 91; refine (bcheck_keeps B b bs _ h).mono ?_)
  rintro e w1 ⟨rfl, h1, hb1, hc, hk⟩
  have HC1 := Lib.hid hc
  have HK1 := Lib.hid hk
  clear hc hk
  obtain ⟨hB, v, hbk, hown, hne⟩ := h1
  have c0 : w1.cell? ⟨b, 0, none⟩ = some (.pointer (some ⟨b, 0, none⟩)) := by rw [Lib.cell_of_heap hbk]; rfl
  have c1 : w1.cell? ⟨b, 1, none⟩ = some v := by rw [Lib.cell_of_heap hbk]; rfl
  go_wp2_with (at_builtin; refine Lib.wpList_append_own_string _ rfl _ _ 36 9 rfl B 5 i0 Try.underlying36 Try.underlying9 hi hz0 hz1 hz2 _ _ _ rfl hown s rfl ?c3 ?c4 ?c5 ?_)
  case c3 => unfold maxLen; omega
  case c4 => omega
  case c5 => have := hb1.size; omega
  intro v' w2 hown' hgrow _
  have hlt : b < w1.heap.size := lt_of_block hbk
  have hb2 : w2.heap[b]? = some (.cells #[.pointer (some ⟨b, 0, none⟩), v] 91 (0, 0)) := by
    rw [hgrow.block b hlt (fun e => hne e.symm)]
    exact hbk
  have d0 : w2.cell? ⟨b, 0, none⟩ = some (.pointer (some ⟨b, 0, none⟩)) := by rw [Lib.cell_of_heap hb2]; rfl
  have d1 : w2.cell? ⟨b, 1, none⟩ = some v := by rw [Lib.cell_of_heap hb2]; rfl
  have f1 : w2.frozen? ⟨b, 1, none⟩ = false := Lib.frozen_of_heap hb2 1
  obtain ⟨ao, n', cap, rfl⟩ : ∃ ao n' cap, v' = .slice ao n' cap := by
    rcases hown'.2 with ⟨hv, _⟩ | ⟨g, cap, cur, hv, _⟩
    · exact ⟨_, _, _, hv⟩
    · exact ⟨_, _, _, hv⟩
  go_wp2
  go_ret2
  refine ⟨rfl, Or.inr ?_, ?_⟩
  · have := Lib.BuilderAt.put (T := 91) (e := 5) hB hb2 (bs' := bs ++ Lib.strCells s) (by simpa [Lib.strCells_length, hbs] using hown') (by decide)
    have e1 : bs ++ Lib.strCells s = Lib.byteCells (l ++ bl s) := by
      rw [hbs2.out, Lib.byteCells, Lib.byteCells, List.map_append]; rfl
    rw [← e1]
    exact this
  · refine ⟨(hb1.grown hgrow (by have := hb1.size; omega) (fun k hk => (hown.lt k hk).1)).setCell (p := ⟨b, 1, none⟩) hB _, ?_⟩
    obtain ⟨hy1, hy2⟩ := hy.out
    refine (Below.heap_setCell _ _ _ _ hy1).trans ?_
    rw [hgrow.block y (Nat.lt_of_lt_of_le hyl hb1.size) (fun e => hy2 v (by rw [← HC1.out]; exact c1) e.symm)]
    exact HK1.out y hy1
end Go.Proofs.Ytfpjdmplepepjaa

/-! WBytes: Contexts, catalogues, views as bytes. -/
namespace Go.Proofs.Ytfpjdmplepepjaa
open Go.RowKit

theorem rowD_is (ps : List Dot2) : rowD ps = rowL dotL ps := rfl
theorem text_is (t : ByteArray) (s : ByteArray) (hs : Hid (s = ofL (textL (bl t)))) (w : World) (ht : t.size ≤ 1000000) :
    Calls Try.prog 22 #[.string t] w fun e w' => e = .returned (.string s) ∧ Below w.heap.size w w' := by rw [hs.out]; exact text_any t w (by omega)
theorem row_is (ao : Option Addr) (ps : List Dot2) (n cap : Nat) (hn : Hid (ps.length = n)) (hm : n ≤ 1000000) (hin : Hid (∀ p ∈ ps, upDot p)) (w : World) (hs : SlP w ao ps) (s : ByteArray) (hss : Hid (s = ofL (rowL dotL ps))) :
    Calls Try.prog 93 #[.slice ao n cap] w fun e w' => e = .returned (.string s) ∧ Below w.heap.size w w' :=
  row_any ao ps n cap hn hm (show ∀ p ∈ ps, InD p from fun p hp => ⟨(hin.out p hp).1.2, (hin.out p hp).2.2⟩) w hs s hss
theorem dots_le (ps : List Dot2) (n : Nat) (hn : ps.length = n) (hm : n ≤ 1000000) (h : ∀ p ∈ ps, upDot p) : (rowL dotL ps).length ≤ 10 + 20 * 1000000 := by
  have := rowL_le (f := dotL) (m := 20) ps (by omega) fun p hp => dotL_le (h p hp)
  rw [hn] at this; omega

set_option maxRecDepth 100000 in
set_option maxHeartbeats 4000000 in
theorem ctxbytes_any (ab ac : Option Addr) (nb kb nc kc : Nat) (bs cl : List Dot2) (hn : Hid (bs.length = nb)) (hm : nb ≤ 1000000) (hn2 : Hid (cl.length = nc)) (hm2 : nc ≤ 1000000) (h1 : Hid (∀ p ∈ bs, upDot p)) (h2 : Hid (∀ p ∈ cl, upDot p)) (s : ByteArray) (hs : Hid (s = ofL (ctxL bs cl))) (w : World) (g1 : SlP w ab bs) (g2 : SlP w ac cl) :
    Calls Try.prog 58 #[.agg #[.slice ab nb kb, .slice ac nc kc]] w fun e w' => e = .returned (.string s) ∧ Below w.heap.size w w' := by
  obtain ⟨w0, hw0⟩ := nm (w.alloc (.cells #[.slice ab nb kb, .slice ac nc kc] 25))
  obtain ⟨x, hx⟩ := nm w.heap.size
  have Kx : Hid (Blk w0 x #[.slice ab nb kb, .slice ac nc kc] 25) := blkN hw0.out hx.out
  have HB0 : Hid (Below w.heap.size w w0) := by rw [hw0.out]; exact bOld _
  have HS1 : Hid (SlP w0 ab bs) := g1.below HB0.out
  have HS2 : Hid (SlP w0 ac cl) := g2.below HB0.out
  clear g1 g2
  obtain ⟨s1, hs1⟩ := nm (ofL (rowL dotL bs))
  obtain ⟨s2, hs2⟩ := nm (ofL (rowL dotL cl))
  have hsum : Hid (s1 ++ s2 = s) := by show _ = _; rw [hs.out, hs1.out, hs2.out, ofL_append]; rfl
  have l1 : s1.size ≤ 10 + 20 * 1000000 := by rw [hs1.out, ofL_size]; exact dots_le bs nb hn.out hm h1.out
  have l2 : s2.size ≤ 10 + 20 * 1000000 := by rw [hs2.out, ofL_size]; exact dots_le cl nc hn2.out hm2 h2.out
  have hadd := fun w : World => run_string_add_sum (P := Try.prog) w s1 s2 (by omega)
  clear l1 l2
  have c0 : w0.cell? ⟨x, 0, none⟩ = some (.slice ab nb kb) := Kx.out.cell 0
  have c1 : w0.cell? ⟨x, 1, none⟩ = some (.slice ac nc kc) := Kx.out.cell 1
  have KEEP : Hid (∀ wb : World, Below w0.drew.heap.size w0.drew wb → wb.cell? ⟨x, 0, none⟩ = some (.slice ab nb kb) ∧ wb.cell? ⟨x, 1, none⟩ = some (.slice ac nc kc)) := by
    show ∀ wb : World, _
    intro wb h
    have h1 := Blk.below (w := w0.drew) Kx.out h Kx.out.lt
    exact ⟨h1.cell 0, h1.cell 1⟩
  go_enter Try.func58, Try.ntmps58
  go_upto_region 1 with fail
  rw [← hw0.out, ← hx.out]
  refine wp_region_held_drew (S := fun w' => w'.cell? ⟨x, 0, none⟩ = some (.slice ab nb kb) ∧ w'.cell? ⟨x, 1, none⟩ = some (.slice ac nc kc)) (by kernel_rfl) (⟨c0, c1⟩) (fun hHeld => ?_)
  refine wpAnyH_take (i := 0) (v := ?_) (takeL rfl) (by kernel_rfl) (by kernel_rfl) (by kernel_rfl) (fun _ _ _ h => h) (Or.inl ⟨by rfl, ?_⟩) (by assumption) ?_
  rotate_left
  · (intro w hSw; (try dsimp only at hSw); first | (go_simp; done) | (go_simp; with_reducible rfl))
  try simp only [Act.put, List.setIfInBounds_toArray, List.set_cons_zero, List.set_cons_succ]
  refine wpAnyH_take (i := 1) (v := ?_) (takeL rfl) (by kernel_rfl) (by kernel_rfl) (by kernel_rfl) (fun _ _ _ h => h) (Or.inl ⟨by rfl, ?_⟩) (by assumption) ?_
  rotate_left
  · (intro w hSw; (try dsimp only at hSw); first | (go_simp; done) | (go_simp; with_reducible rfl))
  try simp only [Act.put, List.setIfInBounds_toArray, List.set_cons_zero, List.set_cons_succ]
  refine wpAnyH_take (i := 3) (v := ?_) (takeL rfl) (by kernel_rfl) (by kernel_rfl) (by kernel_rfl) (fun _ _ _ h => h) (Or.inl ⟨by rfl, ?_⟩) (by assumption) ?_
  rotate_left
  · (intro w hSw; (try dsimp only at hSw); first | (go_simp; done) | (go_simp; with_reducible rfl))
  try simp only [Act.put, List.setIfInBounds_toArray, List.set_cons_zero, List.set_cons_succ]
  refine wpAnyH_take (i := 4) (v := ?_) (takeL rfl) (by kernel_rfl) (by kernel_rfl) (by kernel_rfl) (fun _ _ _ h => h) (Or.inl ⟨by rfl, ?_⟩) (by assumption) ?_
  rotate_left
  · (intro w hSw; (try dsimp only at hSw); first | (go_simp; done) | (go_simp; with_reducible rfl))
  try simp only [Act.put, List.setIfInBounds_toArray, List.set_cons_zero, List.set_cons_succ]
  refine wpAnyH_ready (rs := [2]) (by kernel_rfl) (by simp) ?_
  refine AllReadyH.cons (takeL rfl) (fun K hK => ?_) AllReadyH.nil
  go_simp
  refine (row_is ab bs nb kb hn hm h1 _ (HS1.out.below (bDrew (Below.refl _ _))) s1 hs1).mono ?_; rintro e w1 ⟨rfl, hB1⟩
  go_wp2_with fail
  refine hK.out _ _ (KEEP.out _ hB1) (fun hHeld => ?_)
  clear hK K
  refine wpAnyH_ready (rs := [5]) (by kernel_rfl) (by simp) ?_
  refine AllReadyH.cons (takeL rfl) (fun K hK => ?_) AllReadyH.nil
  go_simp
  refine (row_is ac cl nc kc hn2 hm2 h2 _ (HS2.out.below (bNext (bDrew (Below.refl _ _)) hB1)) s2 hs2).mono ?_; rintro e w2 ⟨rfl, hB2⟩
  go_wp2_with fail
  refine hK.out _ _ (KEEP.out _ (bNext hB1 hB2)) (fun hHeld => ?_)
  clear hK K
  refine wpAnyH_take (i := 6) (v := ?_) (takeL rfl) (by kernel_rfl) (by kernel_rfl) (by kernel_rfl) (fun _ _ _ h => h) (Or.inl ⟨by rfl, ?_⟩) (by assumption) ?_
  rotate_left
  · (intro w hSw; (try dsimp only at hSw); first | (go_simp; done) | (go_simp; with_reducible rfl))
  try simp only [Act.put, List.setIfInBounds_toArray, List.set_cons_zero, List.set_cons_succ]
  refine wpAnyH_take (i := 7) (v := ?_) (takeL rfl) (by kernel_rfl) (by kernel_rfl) (by kernel_rfl) (fun _ _ _ h => h) (Or.inl ⟨by rfl, ?_⟩) (by assumption) ?_
  rotate_left
  · (intro w hSw; (try dsimp only at hSw); first | (go_simp; done) | (go_simp; with_reducible rfl))
  try simp only [Act.put, List.setIfInBounds_toArray, List.set_cons_zero, List.set_cons_succ]
  refine wpAnyH_done (by kernel_rfl) ?_ _
  go_wp2_with fail
  go_ret
  exact ⟨congrArg (fun t => Ending.returned (Value.string t)) hsum.out, bNext (bDrew HB0.out) (bNext hB1 hB2)⟩

set_option maxRecDepth 100000 in
set_option maxHeartbeats 4000000 in
theorem tagbytes_any (ao : Option Addr) (n cap : Nat) (xs : List Tag2) (hn : Hid (xs.length = n)) (hm : n ≤ 1000000) (hin : Hid (∀ x ∈ xs, upTag x)) (s : ByteArray) (hss : Hid (s = ofL (rowL tagL xs))) (w : World) (hs : SlE eTag 2 w ao xs) :
    Calls Try.prog 24 #[.slice ao n cap] w fun e w' => e = .returned (.string s) ∧ Below w.heap.size w w' := by
  have HS := Lib.hid hs
  clear hs
  obtain ⟨s0, h0⟩ := nm (ofL (Pl.num n))
  have l0 : s0.size ≤ 10 := by rw [h0.out, ofL_size]; exact Pl.num_length_le _ (by omega)
  go_enter Try.func24, Try.ntmps24
  go_wp2_with fail
  refine (int_is (n : Int) s0 h0 _ (by omega)).mono ?_; rintro e w1 ⟨rfl, hB1⟩
  go_wp2_with fail
  go_loopw [3, 11] (fun v i wr => ∃ (k : Nat) (t : ByteArray), k ≤ n ∧ i = .int .i64 (k : Int) ∧ v = .string t ∧ t.size ≤ 10 + 1000020 * k ∧ Below w.heap.size w wr ∧ Hid (t = s0 ++ ofL ((xs.take k).flatMap tagL))) (fun _ i _ => n - (intOf i).toNat)
  case atStart => exact ⟨0, s0, by omega, rfl, rfl, by omega, hB1, by show _ = _; rw [List.take_zero]; exact (append_nil s0).symm⟩
  case round =>
    obtain ⟨k, t, hk, rfl, rfl, ht, hB, hT⟩ := hrel
    by_cases hlt : k < n
    · obtain ⟨b, off, ⟨u, v⟩, rfl, hbl, hpk, hcells⟩ := (HS.out.below hB).get k (by rw [hn.out]; exact hlt)
      have d0 : wr.cell? ⟨b, off + k * 2, none⟩ = some (.string u) := hcells 0 _ rfl
      have d1 : wr.cell? ⟨b, off + k * 2 + 1, none⟩ = some (.int .i64 v) := hcells 1 _ rfl
      clear hcells
      obtain ⟨q1, q2⟩ := hin.out _ (List.mem_of_getElem? hpk.out)
      simp only at q1 q2
      obtain ⟨s1, h1⟩ := nm (ofL (textL (bl u)))
      obtain ⟨s2, h2⟩ := nm (ofL (Pl.num v.toNat))
      have l1 : s1.size ≤ 1000010 := by rw [h1.out, ofL_size]; have := textL_le q1 (Nat.le_refl _); omega
      have l2 : s2.size ≤ 10 := by rw [h2.out, ofL_size]; exact num_le q2
      have hts : (t ++ (s1 ++ s2)).size ≤ 10 + 1000020 * (k + 1) := by rw [app_size, app_size]; omega
      have k1 := fun w : World => run_string_add_sum (P := Try.prog) w s1 s2 (by omega)
      have k2 := fun w : World => run_string_add_sum (P := Try.prog) w t (s1 ++ s2) (by rw [app_size]; omega)
      have HT : Hid (t ++ (s1 ++ s2) = s0 ++ ofL ((xs.take (k + 1)).flatMap tagL)) := by
        show _ = _
        rw [hT.out, h1.out, h2.out, flat_take hpk.out, ← ofL_append, app_assoc, ofL_append (textL _)]; rfl
      clear hT
      obtain ⟨y, hy⟩ := nm wr.heap.size
      obtain ⟨w3, hw3⟩ := nm (wr.alloc (.cells #[.string u, .int .i64 v] 57))
      have Ky : Hid (Blk w3 y #[.string u, .int .i64 v] 57) := blkN hw3.out hy.out
      have HB3 : Hid (Below w.heap.size w w3) := by rw [hw3.out]; exact bNew hB _
      have e0 : w3.cell? ⟨y, 0, none⟩ = some (.string u) := Ky.out.cell 0
      have e1 : w3.cell? ⟨y, 1, none⟩ = some (.int .i64 v) := Ky.out.cell 1
      clear hB
      have KEEP : Hid (∀ wb : World, Below w3.drew.heap.size w3.drew wb → wb.cell? ⟨y, 0, none⟩ = some (.string u) ∧ wb.cell? ⟨y, 1, none⟩ = some (.int .i64 v)) := by
        show ∀ wb : World, _
        intro wb h
        have h2 := Blk.below (w := w3.drew) Ky.out h Ky.out.lt
        exact ⟨h2.cell 0, h2.cell 1⟩
      go_wp2_with fail
      rw [← hw3.out, ← hy.out]
      refine wp_region_held_drew (S := fun w' => w'.cell? ⟨y, 0, none⟩ = some (.string u) ∧ w'.cell? ⟨y, 1, none⟩ = some (.int .i64 v)) (by kernel_rfl) (⟨e0, e1⟩) (fun hHeld => ?_)
      refine wpAnyH_take (i := 0) (v := ?_) (takeL rfl) (by kernel_rfl) (by kernel_rfl) (by kernel_rfl) (fun _ _ _ h => h) (Or.inl ⟨by rfl, ?_⟩) (by assumption) ?_
      rotate_left
      · (intro w hSw; (try dsimp only at hSw); first | (go_simp; done) | (go_simp; with_reducible rfl))
      try simp only [Act.put, List.setIfInBounds_toArray, List.set_cons_zero, List.set_cons_succ]
      refine wpAnyH_take (i := 1) (v := ?_) (takeL rfl) (by kernel_rfl) (by kernel_rfl) (by kernel_rfl) (fun _ _ _ h => h) (Or.inl ⟨by rfl, ?_⟩) (by assumption) ?_
      rotate_left
      · (intro w hSw; (try dsimp only at hSw); first | (go_simp; done) | (go_simp; with_reducible rfl))
      try simp only [Act.put, List.setIfInBounds_toArray, List.set_cons_zero, List.set_cons_succ]
      refine wpAnyH_take (i := 2) (v := ?_) (takeL rfl) (by kernel_rfl) (by kernel_rfl) (by kernel_rfl) (fun _ _ _ h => h) (Or.inl ⟨by rfl, ?_⟩) (by assumption) ?_
      rotate_left
      · (intro w hSw; (try dsimp only at hSw); first | (go_simp; done) | (go_simp; with_reducible rfl))
      try simp only [Act.put, List.setIfInBounds_toArray, List.set_cons_zero, List.set_cons_succ]
      refine wpAnyH_take (i := 4) (v := ?_) (takeL rfl) (by kernel_rfl) (by kernel_rfl) (by kernel_rfl) (fun _ _ _ h => h) (Or.inl ⟨by rfl, ?_⟩) (by assumption) ?_
      rotate_left
      · (intro w hSw; (try dsimp only at hSw); first | (go_simp; done) | (go_simp; with_reducible rfl))
      try simp only [Act.put, List.setIfInBounds_toArray, List.set_cons_zero, List.set_cons_succ]
      refine wpAnyH_take (i := 5) (v := ?_) (takeL rfl) (by kernel_rfl) (by kernel_rfl) (by kernel_rfl) (fun _ _ _ h => h) (Or.inl ⟨by rfl, ?_⟩) (by assumption) ?_
      rotate_left
      · (intro w hSw; (try dsimp only at hSw); first | (go_simp; done) | (go_simp; with_reducible rfl))
      try simp only [Act.put, List.setIfInBounds_toArray, List.set_cons_zero, List.set_cons_succ]
      refine wpAnyH_ready (rs := [3]) (by kernel_rfl) (by simp) ?_
      refine AllReadyH.cons (takeL rfl) (fun K hK => ?_) AllReadyH.nil
      go_simp
      refine (text_is u s1 h1 _ q1).mono ?_; rintro e w4 ⟨rfl, hB4⟩
      go_wp2_with fail
      refine hK.out _ _ (KEEP.out _ hB4) (fun hHeld => ?_)
      clear hK K
      refine wpAnyH_ready (rs := [6]) (by kernel_rfl) (by simp) ?_
      refine AllReadyH.cons (takeL rfl) (fun K hK => ?_) AllReadyH.nil
      go_simp
      refine (int_is v s2 h2 _ q2.2).mono ?_; rintro e w5 ⟨rfl, hB5⟩
      go_wp2_with fail
      refine hK.out _ _ (KEEP.out _ (bNext hB4 hB5)) (fun hHeld => ?_)
      clear hK K
      refine wpAnyH_take (i := 7) (v := ?_) (takeL rfl) (by kernel_rfl) (by kernel_rfl) (by kernel_rfl) (fun _ _ _ h => h) (Or.inl ⟨by rfl, ?_⟩) (by assumption) ?_
      rotate_left
      · (intro w hSw; (try dsimp only at hSw); first | (go_simp; done) | (go_simp; with_reducible rfl))
      try simp only [Act.put, List.setIfInBounds_toArray, List.set_cons_zero, List.set_cons_succ]
      refine wpAnyH_take (i := 8) (v := ?_) (takeL rfl) (by kernel_rfl) (by kernel_rfl) (by kernel_rfl) (fun _ _ _ h => h) (Or.inl ⟨by rfl, ?_⟩) (by assumption) ?_
      rotate_left
      · (intro w hSw; (try dsimp only at hSw); first | (go_simp; done) | (go_simp; with_reducible rfl))
      try simp only [Act.put, List.setIfInBounds_toArray, List.set_cons_zero, List.set_cons_succ]
      refine wpAnyH_take (i := 9) (v := ?_) (takeL rfl) (by kernel_rfl) (by kernel_rfl) (by kernel_rfl) (fun _ _ _ h => h) (Or.inl ⟨by rfl, ?_⟩) (by assumption) ?_
      rotate_left
      · (intro w hSw; (try dsimp only at hSw); first | (go_simp; done) | (go_simp; with_reducible rfl))
      try simp only [Act.put, List.setIfInBounds_toArray, List.set_cons_zero, List.set_cons_succ]
      refine wpAnyH_done (by kernel_rfl) ?_ _
      go_wp2_with fail
      go_roundw
      case rel => exact ⟨k + 1, t ++ (s1 ++ s2), by omega, by go_num, rfl, hts, bNext (bDrew HB3.out) (bNext hB4 hB5), HT⟩
      case measure => simp [intOf]; omega
    · obtain rfl : k = n := by omega
      have HE : Hid (t = s) := by
        show _ = _
        rw [hT.out, hss.out, h0.out, List.take_of_length_le (by rw [hn.out]; exact Nat.le_refl _), ofL_append, rowL, hn.out]
      go_wp2_with fail
      go_ret
      rw [HE.out]
      exact ⟨rfl, hB⟩

set_option maxRecDepth 100000 in
set_option maxHeartbeats 4000000 in
theorem viewbytes_any (ao : Option Addr) (n cap : Nat) (xs : List Peer3) (hn : Hid (xs.length = n)) (hm : n ≤ 1000000) (hin : Hid (∀ x ∈ xs, upPeer x)) (s : ByteArray) (hss : Hid (s = ofL (rowL peerL xs))) (w : World) (hs : SlE ePeer 3 w ao xs) :
    Calls Try.prog 25 #[.slice ao n cap] w fun e w' => e = .returned (.string s) ∧ Below w.heap.size w w' := by
  have HS := Lib.hid hs
  clear hs
  obtain ⟨s0, h0⟩ := nm (ofL (Pl.num n))
  have l0 : s0.size ≤ 10 := by rw [h0.out, ofL_size]; exact Pl.num_length_le _ (by omega)
  go_enter Try.func25, Try.ntmps25
  go_wp2_with fail
  refine (int_is (n : Int) s0 h0 _ (by omega)).mono ?_; rintro e w1 ⟨rfl, hB1⟩
  go_wp2_with fail
  go_loopw [3, 11] (fun v i wr => ∃ (k : Nat) (t : ByteArray), k ≤ n ∧ i = .int .i64 (k : Int) ∧ v = .string t ∧ t.size ≤ 10 + 30 * k ∧ Below w.heap.size w wr ∧ Hid (t = s0 ++ ofL ((xs.take k).flatMap peerL))) (fun _ i _ => n - (intOf i).toNat)
  case atStart => exact ⟨0, s0, by omega, rfl, rfl, by omega, hB1, by show _ = _; rw [List.take_zero]; exact (append_nil s0).symm⟩
  case round =>
    obtain ⟨k, t, hk, rfl, rfl, ht, hB, hT⟩ := hrel
    by_cases hlt : k < n
    · obtain ⟨b, off, ⟨u, v, z⟩, rfl, hbl, hpk, hcells⟩ := (HS.out.below hB).get k (by rw [hn.out]; exact hlt)
      have d0 : wr.cell? ⟨b, off + k * 3, none⟩ = some (.int .i64 u) := hcells 0 _ rfl
      have d1 : wr.cell? ⟨b, off + k * 3 + 1, none⟩ = some (.int .i64 v) := hcells 1 _ rfl
      have d2 : wr.cell? ⟨b, off + k * 3 + 2, none⟩ = some (.int .i64 z) := hcells 2 _ rfl
      clear hcells
      obtain ⟨q1, q2, q3⟩ := hin.out _ (List.mem_of_getElem? hpk.out)
      simp only at q1 q2 q3
      obtain ⟨s1, h1⟩ := nm (ofL (Pl.num u.toNat))
      obtain ⟨s2, h2⟩ := nm (ofL (Pl.num v.toNat))
      obtain ⟨s3, h3⟩ := nm (ofL (Pl.num z.toNat))
      have l1 : s1.size ≤ 10 := by rw [h1.out, ofL_size]; exact num_le q1
      have l2 : s2.size ≤ 10 := by rw [h2.out, ofL_size]; exact num_le q2
      have l3 : s3.size ≤ 10 := by rw [h3.out, ofL_size]; exact num_le q3
      have hts : (t ++ (s1 ++ s2 ++ s3)).size ≤ 10 + 30 * (k + 1) := by rw [app_size, app_size, app_size]; omega
      have k1 := fun w : World => run_string_add_sum (P := Try.prog) w s1 s2 (by omega)
      have k2 := fun w : World => run_string_add_sum (P := Try.prog) w (s1 ++ s2) s3 (by rw [app_size]; omega)
      have k3 := fun w : World => run_string_add_sum (P := Try.prog) w t (s1 ++ s2 ++ s3) (by rw [app_size, app_size]; omega)
      have HT : Hid (t ++ (s1 ++ s2 ++ s3) = s0 ++ ofL ((xs.take (k + 1)).flatMap peerL)) := by
        show _ = _
        rw [hT.out, h1.out, h2.out, h3.out, flat_take hpk.out, ← ofL_append, app_assoc, ofL_append, ofL_append, List.append_assoc]; rfl
      clear hT
      obtain ⟨y, hy⟩ := nm wr.heap.size
      obtain ⟨w3, hw3⟩ := nm (wr.alloc (.cells #[.int .i64 u, .int .i64 v, .int .i64 z] 82))
      have Ky : Hid (Blk w3 y #[.int .i64 u, .int .i64 v, .int .i64 z] 82) := blkN hw3.out hy.out
      have HB3 : Hid (Below w.heap.size w w3) := by rw [hw3.out]; exact bNew hB _
      have e0 : w3.cell? ⟨y, 0, none⟩ = some (.int .i64 u) := Ky.out.cell 0
      have e1 : w3.cell? ⟨y, 1, none⟩ = some (.int .i64 v) := Ky.out.cell 1
      have e2 : w3.cell? ⟨y, 2, none⟩ = some (.int .i64 z) := Ky.out.cell 2
      clear hB
      have KEEP : Hid (∀ wb : World, Below w3.drew.heap.size w3.drew wb → wb.cell? ⟨y, 0, none⟩ = some (.int .i64 u) ∧ wb.cell? ⟨y, 1, none⟩ = some (.int .i64 v) ∧ wb.cell? ⟨y, 2, none⟩ = some (.int .i64 z)) := by
        show ∀ wb : World, _
        intro wb h
        have h2 := Blk.below (w := w3.drew) Ky.out h Ky.out.lt
        exact ⟨h2.cell 0, h2.cell 1, h2.cell 2⟩
      go_wp2_with fail
      rw [← hw3.out, ← hy.out]
      refine wp_region_held_drew (S := fun w' => w'.cell? ⟨y, 0, none⟩ = some (.int .i64 u) ∧ w'.cell? ⟨y, 1, none⟩ = some (.int .i64 v) ∧ w'.cell? ⟨y, 2, none⟩ = some (.int .i64 z)) (by kernel_rfl) (⟨e0, e1, e2⟩) (fun hHeld => ?_)
      refine wpAnyH_take (i := 0) (v := ?_) (takeL rfl) (by kernel_rfl) (by kernel_rfl) (by kernel_rfl) (fun _ _ _ h => h) (Or.inl ⟨by rfl, ?_⟩) (by assumption) ?_
      rotate_left
      · (intro w hSw; (try dsimp only at hSw); first | (go_simp; done) | (go_simp; with_reducible rfl))
      try simp only [Act.put, List.setIfInBounds_toArray, List.set_cons_zero, List.set_cons_succ]
      refine wpAnyH_take (i := 1) (v := ?_) (takeL rfl) (by kernel_rfl) (by kernel_rfl) (by kernel_rfl) (fun _ _ _ h => h) (Or.inl ⟨by rfl, ?_⟩) (by assumption) ?_
      rotate_left
      · (intro w hSw; (try dsimp only at hSw); first | (go_simp; done) | (go_simp; with_reducible rfl))
      try simp only [Act.put, List.setIfInBounds_toArray, List.set_cons_zero, List.set_cons_succ]
      refine wpAnyH_take (i := 2) (v := ?_) (takeL rfl) (by kernel_rfl) (by kernel_rfl) (by kernel_rfl) (fun _ _ _ h => h) (Or.inl ⟨by rfl, ?_⟩) (by assumption) ?_
      rotate_left
      · (intro w hSw; (try dsimp only at hSw); first | (go_simp; done) | (go_simp; with_reducible rfl))
      try simp only [Act.put, List.setIfInBounds_toArray, List.set_cons_zero, List.set_cons_succ]
      refine wpAnyH_take (i := 4) (v := ?_) (takeL rfl) (by kernel_rfl) (by kernel_rfl) (by kernel_rfl) (fun _ _ _ h => h) (Or.inl ⟨by rfl, ?_⟩) (by assumption) ?_
      rotate_left
      · (intro w hSw; (try dsimp only at hSw); first | (go_simp; done) | (go_simp; with_reducible rfl))
      try simp only [Act.put, List.setIfInBounds_toArray, List.set_cons_zero, List.set_cons_succ]
      refine wpAnyH_take (i := 5) (v := ?_) (takeL rfl) (by kernel_rfl) (by kernel_rfl) (by kernel_rfl) (fun _ _ _ h => h) (Or.inl ⟨by rfl, ?_⟩) (by assumption) ?_
      rotate_left
      · (intro w hSw; (try dsimp only at hSw); first | (go_simp; done) | (go_simp; with_reducible rfl))
      try simp only [Act.put, List.setIfInBounds_toArray, List.set_cons_zero, List.set_cons_succ]
      refine wpAnyH_take (i := 8) (v := ?_) (takeL rfl) (by kernel_rfl) (by kernel_rfl) (by kernel_rfl) (fun _ _ _ h => h) (Or.inl ⟨by rfl, ?_⟩) (by assumption) ?_
      rotate_left
      · (intro w hSw; (try dsimp only at hSw); first | (go_simp; done) | (go_simp; with_reducible rfl))
      try simp only [Act.put, List.setIfInBounds_toArray, List.set_cons_zero, List.set_cons_succ]
      refine wpAnyH_take (i := 9) (v := ?_) (takeL rfl) (by kernel_rfl) (by kernel_rfl) (by kernel_rfl) (fun _ _ _ h => h) (Or.inl ⟨by rfl, ?_⟩) (by assumption) ?_
      rotate_left
      · (intro w hSw; (try dsimp only at hSw); first | (go_simp; done) | (go_simp; with_reducible rfl))
      try simp only [Act.put, List.setIfInBounds_toArray, List.set_cons_zero, List.set_cons_succ]
      refine wpAnyH_ready (rs := [3]) (by kernel_rfl) (by simp) ?_
      refine AllReadyH.cons (takeL rfl) (fun K hK => ?_) AllReadyH.nil
      go_simp
      refine (int_is u s1 h1 _ q1.2).mono ?_; rintro e w4 ⟨rfl, hB4⟩
      go_wp2_with fail
      refine hK.out _ _ (KEEP.out _ hB4) (fun hHeld => ?_)
      clear hK K
      refine wpAnyH_ready (rs := [6]) (by kernel_rfl) (by simp) ?_
      refine AllReadyH.cons (takeL rfl) (fun K hK => ?_) AllReadyH.nil
      go_simp
      refine (int_is v s2 h2 _ q2.2).mono ?_; rintro e w5 ⟨rfl, hB5⟩
      go_wp2_with fail
      refine hK.out _ _ (KEEP.out _ (bNext hB4 hB5)) (fun hHeld => ?_)
      clear hK K
      refine wpAnyH_take (i := 7) (v := ?_) (takeL rfl) (by kernel_rfl) (by kernel_rfl) (by kernel_rfl) (fun _ _ _ h => h) (Or.inl ⟨by rfl, ?_⟩) (by assumption) ?_
      rotate_left
      · (intro w hSw; (try dsimp only at hSw); first | (go_simp; done) | (go_simp; with_reducible rfl))
      try simp only [Act.put, List.setIfInBounds_toArray, List.set_cons_zero, List.set_cons_succ]
      refine wpAnyH_ready (rs := [10]) (by kernel_rfl) (by simp) ?_
      refine AllReadyH.cons (takeL rfl) (fun K hK => ?_) AllReadyH.nil
      go_simp
      refine (int_is z s3 h3 _ q3.2).mono ?_; rintro e w6 ⟨rfl, hB6⟩
      go_wp2_with fail
      refine hK.out _ _ (KEEP.out _ (bNext (bNext hB4 hB5) hB6)) (fun hHeld => ?_)
      clear hK K
      refine wpAnyH_take (i := 11) (v := ?_) (takeL rfl) (by kernel_rfl) (by kernel_rfl) (by kernel_rfl) (fun _ _ _ h => h) (Or.inl ⟨by rfl, ?_⟩) (by assumption) ?_
      rotate_left
      · (intro w hSw; (try dsimp only at hSw); first | (go_simp; done) | (go_simp; with_reducible rfl))
      try simp only [Act.put, List.setIfInBounds_toArray, List.set_cons_zero, List.set_cons_succ]
      refine wpAnyH_take (i := 12) (v := ?_) (takeL rfl) (by kernel_rfl) (by kernel_rfl) (by kernel_rfl) (fun _ _ _ h => h) (Or.inl ⟨by rfl, ?_⟩) (by assumption) ?_
      rotate_left
      · (intro w hSw; (try dsimp only at hSw); first | (go_simp; done) | (go_simp; with_reducible rfl))
      try simp only [Act.put, List.setIfInBounds_toArray, List.set_cons_zero, List.set_cons_succ]
      refine wpAnyH_take (i := 13) (v := ?_) (takeL rfl) (by kernel_rfl) (by kernel_rfl) (by kernel_rfl) (fun _ _ _ h => h) (Or.inl ⟨by rfl, ?_⟩) (by assumption) ?_
      rotate_left
      · (intro w hSw; (try dsimp only at hSw); first | (go_simp; done) | (go_simp; with_reducible rfl))
      try simp only [Act.put, List.setIfInBounds_toArray, List.set_cons_zero, List.set_cons_succ]
      refine wpAnyH_done (by kernel_rfl) ?_ _
      go_wp2_with fail
      go_roundw
      case rel => exact ⟨k + 1, t ++ (s1 ++ s2 ++ s3), by omega, by go_num, rfl, hts, bNext (bDrew HB3.out) (bNext (bNext hB4 hB5) hB6), HT⟩
      case measure => simp [intOf]; omega
    · obtain rfl : k = n := by omega
      have HE : Hid (t = s) := by
        show _ = _
        rw [hT.out, hss.out, h0.out, List.take_of_length_le (by rw [hn.out]; exact Nat.le_refl _), ofL_append, rowL, hn.out]
      go_wp2_with fail
      go_ret
      rw [HE.out]
      exact ⟨rfl, hB⟩
end Go.Proofs.Ytfpjdmplepepjaa

/-! WBagBytes: Bags as bytes. -/
namespace Go.Proofs.Ytfpjdmplepepjaa
open Go.RowKit

set_option maxRecDepth 100000 in
set_option maxHeartbeats 4000000 in
theorem bagbytes_any (am ab ac : Option Addr) (nl kl nb kb nc kc : Nat) (live : List Msg5) (bs cl : List Dot2) (hn0 : Hid (live.length = nl)) (hm0 : nl ≤ 1000000) (hn : Hid (bs.length = nb)) (hm : nb ≤ 1000000) (hn2 : Hid (cl.length = nc)) (hm2 : nc ≤ 1000000) (h0 : Hid (∀ p ∈ live, upMsg p)) (h1 : Hid (∀ p ∈ bs, upDot p)) (h2 : Hid (∀ p ∈ cl, upDot p)) (s : ByteArray) (hs : Hid (s = ofL (bagL live bs cl))) (w : World) (g0 : SlE eMsg 5 w am live) (g1 : SlP w ab bs) (g2 : SlP w ac cl) :
    Calls Try.prog 23 #[.agg #[.slice am nl kl, .slice ab nb kb, .slice ac nc kc]] w fun e w' => e = .returned (.string s) ∧ Below w.heap.size w w' := by
  obtain ⟨wa, hwa⟩ := nm (w.alloc (.cells #[.slice am nl kl, .slice ab nb kb, .slice ac nc kc] 27))
  obtain ⟨w0, hw0⟩ := nm (wa.alloc (.cells #[.pointer none, .slice none 0 0] 91))
  obtain ⟨x, hx⟩ := nm w.heap.size
  obtain ⟨y0, hy0⟩ := nm wa.heap.size
  have Kx : Hid (Blk w0 x #[.slice am nl kl, .slice ab nb kb, .slice ac nc kc] 27) := by show Blk _ _ _ _; rw [hw0.out]; exact (blkN hwa.out hx.out).alloc _
  have HSZ : Hid (x + 1 = y0) := by show _ = _; rw [hy0.out, hwa.out, hx.out]; simp
  have HBD : Hid (Lib.IsBuilder 91 5 y0 y0 (Lib.byteCells []) w0) := by show Lib.IsBuilder _ _ _ _ _ _; rw [hw0.out, hy0.out]; exact bnew wa
  have HB0 : Hid (Below w.heap.size w w0) := by rw [hw0.out, hwa.out]; exact bNew (bOld _) _
  have HLE : Hid (y0 ≤ w0.heap.size) := by show _ ≤ _; rw [hw0.out, hy0.out]; simp
  have HWY : Hid (w.heap.size ≤ y0) := by show _ ≤ _; have := HSZ.out; have := hx.out; omega
  have HS0 : Hid (SlE eMsg 5 w0 am live) := g0.below HB0.out
  have HS1 : Hid (SlP w0 ab bs) := g1.below HB0.out
  have HS2 : Hid (SlP w0 ac cl) := g2.below HB0.out
  have HXL : Hid (x < y0) := by show _ < _; have := HSZ.out; omega
  have HG0 : Hid (SlE eMsg 5 w am live) := g0
  clear g0 g1 g2
  obtain ⟨s1, hs1⟩ := nm (ofL (ctxL bs cl))
  obtain ⟨s2, hs2⟩ := nm (ofL (Pl.num nl))
  obtain ⟨A, hA⟩ := nm (ctxL bs cl ++ Pl.num nl)
  have l1 : s1.size ≤ 40000020 := by
    rw [hs1.out, ofL_size, ctxL, List.length_append]
    have := dots_le bs nb hn.out hm h1.out
    have := dots_le cl nc hn2.out hm2 h2.out
    omega
  have l2 : s2.size ≤ 10 := by rw [hs2.out, ofL_size]; exact Pl.num_length_le _ (by omega)
  have hsum : Hid (Lib.byteCells ([] ++ bl (s1 ++ s2)) = Lib.byteCells A) := by show _ = _; rw [hA.out, hs1.out, hs2.out, ofL_append, bl_ofL]; rfl
  have HAL : Hid (A.length ≤ 40000030) := by
    show _ ≤ _
    have e : A.length = s1.size + s2.size := by rw [hA.out, hs1.out, hs2.out, ofL_size, ofL_size, List.length_append]
    omega
  have HLN : Hid (([] : List UInt8).length + (s1 ++ s2).size ≤ 140737488355328) := by show _ ≤ _; rw [app_size, List.length_nil]; omega
  have hadd := fun w : World => run_string_add_sum (P := Try.prog) w s1 s2 (by omega)
  clear l1 l2
  have c0 : w0.cell? ⟨x, 0, none⟩ = some (.slice am nl kl) := Kx.out.cell 0
  have c1 : w0.cell? ⟨x, 1, none⟩ = some (.slice ab nb kb) := Kx.out.cell 1
  have c2 : w0.cell? ⟨x, 2, none⟩ = some (.slice ac nc kc) := Kx.out.cell 2
  have KEEP : Hid (∀ wb : World, Below y0 w0.drew wb → wb.cell? ⟨x, 0, none⟩ = some (.slice am nl kl) ∧ wb.cell? ⟨x, 1, none⟩ = some (.slice ab nb kb) ∧ wb.cell? ⟨x, 2, none⟩ = some (.slice ac nc kc)) := by
    show ∀ wb : World, _
    intro wb h
    have h1 := Blk.below (w := w0.drew) Kx.out h HXL.out
    exact ⟨h1.cell 0, h1.cell 1, h1.cell 2⟩
  go_enter Try.func23, Try.ntmps23
  go_upto_region 2 with fail
  rw [← hwa.out, ← hw0.out, ← hx.out]
  rw [HSZ.out]
  refine wp_region_held_drew (S := fun w' => w'.cell? ⟨x, 0, none⟩ = some (.slice am nl kl) ∧ w'.cell? ⟨x, 1, none⟩ = some (.slice ab nb kb) ∧ w'.cell? ⟨x, 2, none⟩ = some (.slice ac nc kc)) (by kernel_rfl) (⟨c0, c1, c2⟩) (fun hHeld => ?_)
  refine wpAnyH_take (i := 0) (v := ?_) (takeL rfl) (by kernel_rfl) (by kernel_rfl) (by kernel_rfl) (fun _ _ _ h => h) (Or.inl ⟨by rfl, ?_⟩) (by assumption) ?_
  rotate_left
  · (intro w hSw; (try dsimp only at hSw); first | (go_simp; done) | (go_simp; with_reducible rfl))
  try simp only [Act.put, List.setIfInBounds_toArray, List.set_cons_zero, List.set_cons_succ]
  refine wpAnyH_take (i := 1) (v := ?_) (takeL rfl) (by kernel_rfl) (by kernel_rfl) (by kernel_rfl) (fun _ _ _ h => h) (Or.inl ⟨by rfl, ?_⟩) (by assumption) ?_
  rotate_left
  · (intro w hSw; (try dsimp only at hSw); first | (go_simp; done) | (go_simp; with_reducible rfl))
  try simp only [Act.put, List.setIfInBounds_toArray, List.set_cons_zero, List.set_cons_succ]
  refine wpAnyH_take (i := 3) (v := ?_) (takeL rfl) (by kernel_rfl) (by kernel_rfl) (by kernel_rfl) (fun _ _ _ h => h) (Or.inl ⟨by rfl, ?_⟩) (by assumption) ?_
  rotate_left
  · (intro w hSw; (try dsimp only at hSw); first | (go_simp; done) | (go_simp; with_reducible rfl))
  try simp only [Act.put, List.setIfInBounds_toArray, List.set_cons_zero, List.set_cons_succ]
  refine wpAnyH_take (i := 4) (v := ?_) (takeL rfl) (by kernel_rfl) (by kernel_rfl) (by kernel_rfl) (fun _ _ _ h => h) (Or.inl ⟨by rfl, ?_⟩) (by assumption) ?_
  rotate_left
  · (intro w hSw; (try dsimp only at hSw); first | (go_simp; done) | (go_simp; with_reducible rfl))
  try simp only [Act.put, List.setIfInBounds_toArray, List.set_cons_zero, List.set_cons_succ]
  refine wpAnyH_take (i := 5) (v := ?_) (takeL rfl) (by kernel_rfl) (by kernel_rfl) (by kernel_rfl) (fun _ _ _ h => h) (Or.inl ⟨by rfl, ?_⟩) (by assumption) ?_
  rotate_left
  · (intro w hSw; (try dsimp only at hSw); first | (go_simp; done) | (go_simp; with_reducible rfl))
  try simp only [Act.put, List.setIfInBounds_toArray, List.set_cons_zero, List.set_cons_succ]
  refine wpAnyH_ready (rs := [2]) (by kernel_rfl) (by simp) ?_
  refine AllReadyH.cons (takeL rfl) (fun K hK => ?_) AllReadyH.nil
  go_simp
  refine (ctxbytes_any ab ac nb kb nc kc bs cl hn hm hn2 hm2 h1 h2 s1 hs1 _ (HS1.out.below (bDrew (Below.refl _ _))) (HS2.out.below (bDrew (Below.refl _ _)))).mono ?_; rintro e w1 ⟨rfl, hB1⟩
  go_wp2_with fail
  refine hK.out _ _ (KEEP.out _ (hB1.mono HLE.out)) (fun hHeld => ?_)
  clear hK K
  refine wpAnyH_ready (rs := [6]) (by kernel_rfl) (by simp) ?_
  refine AllReadyH.cons (takeL rfl) (fun K hK => ?_) AllReadyH.nil
  go_simp
  refine (int_is (nl : Int) s2 hs2 _ (by omega)).mono ?_; rintro e w2 ⟨rfl, hB2⟩
  go_wp2_with fail
  refine hK.out _ _ (KEEP.out _ ((bNext hB1 hB2).mono HLE.out)) (fun hHeld => ?_)
  clear hK K
  refine wpAnyH_take (i := 7) (v := ?_) (takeL rfl) (by kernel_rfl) (by kernel_rfl) (by kernel_rfl) (fun _ _ _ h => h) (Or.inl ⟨by rfl, ?_⟩) (by assumption) ?_
  rotate_left
  · (intro w hSw; (try dsimp only at hSw); first | (go_simp; done) | (go_simp; with_reducible rfl))
  try simp only [Act.put, List.setIfInBounds_toArray, List.set_cons_zero, List.set_cons_succ]
  refine wpAnyH_ready (rs := [8]) (by kernel_rfl) (by simp) ?_
  refine AllReadyH.cons (takeL rfl) (fun K hK => ?_) AllReadyH.nil
  go_simp
  refine (bwrite_any y0 y0 [] (s1 ++ s2) _ (bstays HBD.out (bNext (bDrew (Below.refl _ _)) (bNext hB1 hB2))) HLN.out (Nat.le_trans HLE.out (bNext hB1 hB2).size)).mono ?_; rintro e w3 ⟨rfl, hb3, hB3⟩
  go_wp2_with fail
  refine hK.out _ _ (KEEP.out _ (((bNext hB1 hB2).mono HLE.out).trans hB3)) (fun hHeld => ?_)
  clear hK K
  refine wpAnyH_done (by kernel_rfl) ?_ _
  have HBT : Hid (Below y0 w0 w3) := (bDrew (Below.refl _ _)).trans (((bNext hB1 hB2).mono HLE.out).trans hB3)
  have HBW : Hid (Below w.heap.size w w3) := HB0.out.trans (HBT.out.mono HWY.out)
  rw [hsum.out] at hb3
  have HBD3 := Lib.hid hb3
  have HY3 : Hid (y0 ≤ w3.heap.size) := Nat.le_trans HLE.out HBT.out.size
  have Kx3 : Hid (Blk w3 x #[.slice am nl kl, .slice ab nb kb, .slice ac nc kc] 27) := Kx.out.below HBT.out HXL.out
  clear hb3 hB1 hB2 hB3 c0 c1 c2 hadd KEEP hHeld
  have c0 : w3.cell? ⟨x, 0, none⟩ = some (.slice am nl kl) := Kx3.out.cell 0
  go_wp2_with fail
  clear c0
  go_loopw [18] (fun i wr => ∃ k : Nat, k ≤ nl ∧ i = .int .i64 (k : Int) ∧ Hid (Lib.IsBuilder 91 5 y0 y0 (Lib.byteCells (A ++ (live.take k).flatMap msgL)) wr) ∧ Below w.heap.size w wr ∧ Hid (y0 ≤ wr.heap.size)) (fun i _ => nl - (intOf i).toNat)
  case atStart => exact ⟨0, by omega, rfl, by show Lib.IsBuilder _ _ _ _ _ _; rw [List.take_zero, List.flatMap_nil, List.append_nil]; exact HBD3.out, HBW.out, HY3⟩
  case round =>
    obtain ⟨k, hk, rfl, hbd, hB, hy⟩ := hrel
    by_cases hlt : k < nl
    · obtain ⟨b, off, ⟨p, q, qu, bo, ct⟩, rfl, hbl, hpk, hcells⟩ := (HG0.out.below hB).get k (by rw [hn0.out]; exact hlt)
      have d0 : wr.cell? ⟨b, off + k * 5, none⟩ = some (.int .i64 p) := hcells 0 _ rfl
      have d1 : wr.cell? ⟨b, off + k * 5 + 1, none⟩ = some (.int .i64 q) := hcells 1 _ rfl
      have d2 : wr.cell? ⟨b, off + k * 5 + 2, none⟩ = some (.string qu) := hcells 2 _ rfl
      have d3 : wr.cell? ⟨b, off + k * 5 + 3, none⟩ = some (.string bo) := hcells 3 _ rfl
      have d4 : wr.cell? ⟨b, off + k * 5 + 4, none⟩ = some (.int .i64 ct) := hcells 4 _ rfl
      clear hcells
      obtain ⟨q1, q2, q3, q4, q5⟩ := h0.out _ (List.mem_of_getElem? hpk.out)
      simp only at q1 q2 q3 q4 q5
      obtain ⟨s1, hs1⟩ := nm (ofL (bytesD (p, q)))
      obtain ⟨s2, hs2⟩ := nm (ofL (textL (bl qu)))
      obtain ⟨s3, hs3⟩ := nm (ofL (textL (bl bo)))
      obtain ⟨s4, hs4⟩ := nm (ofL (Pl.num ct.toNat))
      have l1 : s1.size ≤ 20 := by rw [hs1.out, ofL_size]; exact bytesD_le _ ⟨q1.2, q2.2⟩
      have l2 : s2.size ≤ 1000010 := by rw [hs2.out, ofL_size]; have := textL_le q3 (Nat.le_refl _); omega
      have l3 : s3.size ≤ 1000010 := by rw [hs3.out, ofL_size]; have := textL_le q4 (Nat.le_refl _); omega
      have l4 : s4.size ≤ 10 := by rw [hs4.out, ofL_size]; exact num_le q5
      have k1 := fun w : World => run_string_add_sum (P := Try.prog) w s1 s2 (by omega)
      have k2 := fun w : World => run_string_add_sum (P := Try.prog) w (s1 ++ s2) s3 (by rw [app_size]; omega)
      have k3 := fun w : World => run_string_add_sum (P := Try.prog) w (s1 ++ s2 ++ s3) s4 (by rw [app_size, app_size]; omega)
      have HLN : Hid ((A ++ (live.take k).flatMap msgL).length + (s1 ++ s2 ++ s3 ++ s4).size ≤ 140737488355328) := by
        show _ ≤ _
        have hf := flat_le (f := msgL) (m := 2000050) (live.take k) (fun m hm => by
          obtain ⟨r1, r2, r3, r4, r5⟩ := h0.out m (List.mem_of_mem_take hm)
          have e1 := dotL_le (x := (m.node, m.n)) ⟨r1, r2⟩
          have e2 := textL_le r3 (Nat.le_refl _)
          have e3 := textL_le r4 (Nat.le_refl _)
          have e4 := num_le r5
          simp only [msgL, List.length_append]; omega)
        have hA := HAL.out
        rw [List.length_take, hn0.out] at hf
        rw [List.length_append, app_size, app_size, app_size]; omega
      have HT : Hid (A ++ (live.take k).flatMap msgL ++ bl (s1 ++ s2 ++ s3 ++ s4) = A ++ (live.take (k + 1)).flatMap msgL) := by
        show _ = _
        rw [flat_take hpk.out, hs1.out, hs2.out, hs3.out, hs4.out, ofL_append, ofL_append, ofL_append, bl_ofL, List.append_assoc, msgL]
        simp only [List.append_assoc]; rfl
      obtain ⟨y, hyy⟩ := nm wr.heap.size
      obtain ⟨w4, hw4⟩ := nm (wr.alloc (.cells #[.int .i64 p, .int .i64 q, .string qu, .string bo, .int .i64 ct] 48))
      have Ky : Hid (Blk w4 y #[.int .i64 p, .int .i64 q, .string qu, .string bo, .int .i64 ct] 48) := blkN hw4.out hyy.out
      have HB4 : Hid (Below wr.heap.size wr w4) := by rw [hw4.out]; exact bOld _
      have HBW4 : Hid (Below w.heap.size w w4) := bNext hB HB4.out
      have HYG : Hid (wr.heap.size ≤ y) := by show _ ≤ _; rw [hyy.out]; exact Nat.le_refl _
      have HY4 : Hid (y0 ≤ w4.heap.size) := Nat.le_trans hy.out HB4.out.size
      have e0 : w4.cell? ⟨y, 0, none⟩ = some (.int .i64 p) := Ky.out.cell 0
      have e1 : w4.cell? ⟨y, 1, none⟩ = some (.int .i64 q) := Ky.out.cell 1
      have e2 : w4.cell? ⟨y, 2, none⟩ = some (.string qu) := Ky.out.cell 2
      have e3 : w4.cell? ⟨y, 3, none⟩ = some (.string bo) := Ky.out.cell 3
      have e4 : w4.cell? ⟨y, 4, none⟩ = some (.int .i64 ct) := Ky.out.cell 4
      clear hB
      have KEEP : Hid (∀ wb : World, Below w4.drew.heap.size w4.drew wb → wb.cell? ⟨y, 0, none⟩ = some (.int .i64 p) ∧ wb.cell? ⟨y, 1, none⟩ = some (.int .i64 q) ∧ wb.cell? ⟨y, 2, none⟩ = some (.string qu) ∧ wb.cell? ⟨y, 3, none⟩ = some (.string bo) ∧ wb.cell? ⟨y, 4, none⟩ = some (.int .i64 ct)) := by
        show ∀ wb : World, _
        intro wb h
        have h2 := Blk.below (w := w4.drew) Ky.out h Ky.out.lt
        exact ⟨h2.cell 0, h2.cell 1, h2.cell 2, h2.cell 3, h2.cell 4⟩
      go_wp2_with fail
      rw [← hw4.out, ← hyy.out]
      refine wp_region_held_drew (S := fun w' => w'.cell? ⟨y, 0, none⟩ = some (.int .i64 p) ∧ w'.cell? ⟨y, 1, none⟩ = some (.int .i64 q) ∧ w'.cell? ⟨y, 2, none⟩ = some (.string qu) ∧ w'.cell? ⟨y, 3, none⟩ = some (.string bo) ∧ w'.cell? ⟨y, 4, none⟩ = some (.int .i64 ct)) (by kernel_rfl) (⟨e0, e1, e2, e3, e4⟩) (fun hHeld => ?_)
      refine wpAnyH_take (i := 0) (v := ?_) (takeL rfl) (by kernel_rfl) (by kernel_rfl) (by kernel_rfl) (fun _ _ _ h => h) (Or.inl ⟨by rfl, ?_⟩) (by assumption) ?_
      rotate_left
      · (intro w hSw; (try dsimp only at hSw); first | (go_simp; done) | (go_simp; with_reducible rfl))
      try simp only [Act.put, List.setIfInBounds_toArray, List.set_cons_zero, List.set_cons_succ]
      refine wpAnyH_take (i := 1) (v := ?_) (takeL rfl) (by kernel_rfl) (by kernel_rfl) (by kernel_rfl) (fun _ _ _ h => h) (Or.inl ⟨by rfl, ?_⟩) (by assumption) ?_
      rotate_left
      · (intro w hSw; (try dsimp only at hSw); first | (go_simp; done) | (go_simp; with_reducible rfl))
      try simp only [Act.put, List.setIfInBounds_toArray, List.set_cons_zero, List.set_cons_succ]
      refine wpAnyH_take (i := 3) (v := ?_) (takeL rfl) (by kernel_rfl) (by kernel_rfl) (by kernel_rfl) (fun _ _ _ h => h) (Or.inl ⟨by rfl, ?_⟩) (by assumption) ?_
      rotate_left
      · (intro w hSw; (try dsimp only at hSw); first | (go_simp; done) | (go_simp; with_reducible rfl))
      try simp only [Act.put, List.setIfInBounds_toArray, List.set_cons_zero, List.set_cons_succ]
      refine wpAnyH_take (i := 4) (v := ?_) (takeL rfl) (by kernel_rfl) (by kernel_rfl) (by kernel_rfl) (fun _ _ _ h => h) (Or.inl ⟨by rfl, ?_⟩) (by assumption) ?_
      rotate_left
      · (intro w hSw; (try dsimp only at hSw); first | (go_simp; done) | (go_simp; with_reducible rfl))
      try simp only [Act.put, List.setIfInBounds_toArray, List.set_cons_zero, List.set_cons_succ]
      refine wpAnyH_take (i := 7) (v := ?_) (takeL rfl) (by kernel_rfl) (by kernel_rfl) (by kernel_rfl) (fun _ _ _ h => h) (Or.inl ⟨by rfl, ?_⟩) (by assumption) ?_
      rotate_left
      · (intro w hSw; (try dsimp only at hSw); first | (go_simp; done) | (go_simp; with_reducible rfl))
      try simp only [Act.put, List.setIfInBounds_toArray, List.set_cons_zero, List.set_cons_succ]
      refine wpAnyH_take (i := 8) (v := ?_) (takeL rfl) (by kernel_rfl) (by kernel_rfl) (by kernel_rfl) (fun _ _ _ h => h) (Or.inl ⟨by rfl, ?_⟩) (by assumption) ?_
      rotate_left
      · (intro w hSw; (try dsimp only at hSw); first | (go_simp; done) | (go_simp; with_reducible rfl))
      try simp only [Act.put, List.setIfInBounds_toArray, List.set_cons_zero, List.set_cons_succ]
      refine wpAnyH_take (i := 11) (v := ?_) (takeL rfl) (by kernel_rfl) (by kernel_rfl) (by kernel_rfl) (fun _ _ _ h => h) (Or.inl ⟨by rfl, ?_⟩) (by assumption) ?_
      rotate_left
      · (intro w hSw; (try dsimp only at hSw); first | (go_simp; done) | (go_simp; with_reducible rfl))
      try simp only [Act.put, List.setIfInBounds_toArray, List.set_cons_zero, List.set_cons_succ]
      refine wpAnyH_take (i := 12) (v := ?_) (takeL rfl) (by kernel_rfl) (by kernel_rfl) (by kernel_rfl) (fun _ _ _ h => h) (Or.inl ⟨by rfl, ?_⟩) (by assumption) ?_
      rotate_left
      · (intro w hSw; (try dsimp only at hSw); first | (go_simp; done) | (go_simp; with_reducible rfl))
      try simp only [Act.put, List.setIfInBounds_toArray, List.set_cons_zero, List.set_cons_succ]
      refine wpAnyH_ready (rs := [2]) (by kernel_rfl) (by simp) ?_
      refine AllReadyH.cons (takeL rfl) (fun K hK => ?_) AllReadyH.nil
      go_simp
      refine (bytes_any p q _ q1.2 q2.2 s1 hs1).mono ?_; rintro e w5 ⟨rfl, hB5⟩
      go_wp2_with fail
      refine hK.out _ _ (KEEP.out _ hB5) (fun hHeld => ?_)
      clear hK K
      refine wpAnyH_ready (rs := [5]) (by kernel_rfl) (by simp) ?_
      refine AllReadyH.cons (takeL rfl) (fun K hK => ?_) AllReadyH.nil
      go_simp
      refine (text_is qu s2 hs2 _ q3).mono ?_; rintro e w6 ⟨rfl, hB6⟩
      go_wp2_with fail
      refine hK.out _ _ (KEEP.out _ (bNext hB5 hB6)) (fun hHeld => ?_)
      clear hK K
      refine wpAnyH_take (i := 6) (v := ?_) (takeL rfl) (by kernel_rfl) (by kernel_rfl) (by kernel_rfl) (fun _ _ _ h => h) (Or.inl ⟨by rfl, ?_⟩) (by assumption) ?_
      rotate_left
      · (intro w hSw; (try dsimp only at hSw); first | (go_simp; done) | (go_simp; with_reducible rfl))
      try simp only [Act.put, List.setIfInBounds_toArray, List.set_cons_zero, List.set_cons_succ]
      refine wpAnyH_ready (rs := [9]) (by kernel_rfl) (by simp) ?_
      refine AllReadyH.cons (takeL rfl) (fun K hK => ?_) AllReadyH.nil
      go_simp
      refine (text_is bo s3 hs3 _ q4).mono ?_; rintro e w7 ⟨rfl, hB7⟩
      go_wp2_with fail
      refine hK.out _ _ (KEEP.out _ (bNext (bNext hB5 hB6) hB7)) (fun hHeld => ?_)
      clear hK K
      refine wpAnyH_take (i := 10) (v := ?_) (takeL rfl) (by kernel_rfl) (by kernel_rfl) (by kernel_rfl) (fun _ _ _ h => h) (Or.inl ⟨by rfl, ?_⟩) (by assumption) ?_
      rotate_left
      · (intro w hSw; (try dsimp only at hSw); first | (go_simp; done) | (go_simp; with_reducible rfl))
      try simp only [Act.put, List.setIfInBounds_toArray, List.set_cons_zero, List.set_cons_succ]
      refine wpAnyH_ready (rs := [13]) (by kernel_rfl) (by simp) ?_
      refine AllReadyH.cons (takeL rfl) (fun K hK => ?_) AllReadyH.nil
      go_simp
      refine (int_is ct s4 hs4 _ q5.2).mono ?_; rintro e w8 ⟨rfl, hB8⟩
      go_wp2_with fail
      refine hK.out _ _ (KEEP.out _ (bNext (bNext (bNext hB5 hB6) hB7) hB8)) (fun hHeld => ?_)
      clear hK K
      refine wpAnyH_take (i := 14) (v := ?_) (takeL rfl) (by kernel_rfl) (by kernel_rfl) (by kernel_rfl) (fun _ _ _ h => h) (Or.inl ⟨by rfl, ?_⟩) (by assumption) ?_
      rotate_left
      · (intro w hSw; (try dsimp only at hSw); first | (go_simp; done) | (go_simp; with_reducible rfl))
      try simp only [Act.put, List.setIfInBounds_toArray, List.set_cons_zero, List.set_cons_succ]
      refine wpAnyH_ready (rs := [15]) (by kernel_rfl) (by simp) ?_
      refine AllReadyH.cons (takeL rfl) (fun K hK => ?_) AllReadyH.nil
      go_simp
      have HW8 : Hid (Below wr.heap.size wr w8) := bNext (bDrew HB4.out) (bNext (bNext (bNext hB5 hB6) hB7) hB8)
      have Ky8 : Hid (Blk w8 y #[.int .i64 p, .int .i64 q, .string qu, .string bo, .int .i64 ct] 48) := Blk.below (w := w4.drew) Ky.out (bNext (bNext (bNext hB5 hB6) hB7) hB8) Ky.out.lt
      refine (bwrite_keeps y0 y0 (A ++ (live.take k).flatMap msgL) (s1 ++ s2 ++ s3 ++ s4) _ (bstays hbd.out HW8.out) HLN.out (Nat.le_trans hy.out HW8.out.size) y (apart_of hbd.out HYG.out HW8.out) Ky8.out.lt).mono ?_; rintro e w9 ⟨rfl, hb9, hB9, hk9⟩
      have Ky9 : Hid (Blk w9 y #[.int .i64 p, .int .i64 q, .string qu, .string bo, .int .i64 ct] 48) := hk9.trans Ky8.out
      go_wp2_with fail
      refine hK.out _ _ (⟨Ky9.out.cell 0, Ky9.out.cell 1, Ky9.out.cell 2, Ky9.out.cell 3, Ky9.out.cell 4⟩) (fun hHeld => ?_)
      clear hK K
      refine wpAnyH_done (by kernel_rfl) ?_ _
      rw [HT.out] at hb9
      have HB9 : Hid (Below w.heap.size w w9) := by
        have := (bDrew HBW4.out)
        exact (bNext this (bNext (bNext (bNext hB5 hB6) hB7) hB8)).trans (hB9.mono HWY.out)
      have HY9 : Hid (y0 ≤ w9.heap.size) := Nat.le_trans (Nat.le_trans hy.out HW8.out.size) hB9.size
      have HBD9 := Lib.hid hb9
      clear hb9 hB9 hk9 hB5 hB6 hB7 hB8 hHeld
      go_wp2_with fail
      go_roundw
      case rel => exact ⟨k + 1, by omega, by go_num, HBD9, HB9.out, HY9⟩
      case measure => simp [intOf]; omega
    · obtain rfl : k = nl := by omega
      have HE : Hid (ofL (A ++ (live.take k).flatMap msgL) = s) := by
        show _ = _
        rw [hs.out, hA.out, List.take_of_length_le (by rw [hn0.out]; exact Nat.le_refl _), bagL, rowL, hn0.out, List.append_assoc]
      have HBB := Lib.hid hB
      clear hB
      go_wp2_with fail
      refine (Try.Builder_String_any _ _ _ _ hbd.out hy.out).mono ?_; rintro e w5 ⟨rfl, h5⟩
      go_wp2_with fail
      go_ret
      exact ⟨congrArg (fun t => Ending.returned (Value.string t)) HE.out, HBB.out.trans (h5.mono HWY.out)⟩
end Go.Proofs.Ytfpjdmplepepjaa

/-! WireEmpty: Wire, of what has no lists: their checks, bytes, reads, sames. -/
namespace Go.Proofs.Ytfpjdmplepepjaa
open Go.RowKit

set_option maxRecDepth 100000 in
set_option maxHeartbeats 1000000 in
theorem rises0 (w : World) : Calls Try.prog 98 #[.slice none 0 0] w fun e w' => e = .returned (.bool true) ∧ w = w' := by
  go_enter Try.func98, Try.ntmps98
  go_wp2_with fail
  refine wp_loop_rounds 1 ?_
  rw [rounds_succ]
  go_wp2_with fail
  go_ret
  exact ⟨rfl, rfl⟩

set_option maxRecDepth 100000 in
set_option maxHeartbeats 1000000 in
theorem names0 (w : World) : Calls Try.prog 30 #[.slice none 0 0] w fun e w' => e = .returned (.int .i64 0) ∧ w = w' := by
  go_enter Try.func30, Try.ntmps30
  go_wp2_with fail
  refine wp_loop_rounds 1 ?_
  rw [rounds_succ]
  go_wp2_with fail
  go_ret
  exact ⟨rfl, rfl⟩

set_option maxRecDepth 100000 in
set_option maxHeartbeats 1000000 in
theorem views0 (w : World) : Calls Try.prog 31 #[.slice none 0 0] w fun e w' => e = .returned (.int .i64 0) ∧ w = w' := by
  go_enter Try.func31, Try.ntmps31
  go_wp2_with fail
  refine wp_loop_rounds 1 ?_
  rw [rounds_succ]
  go_wp2_with fail
  go_ret
  exact ⟨rfl, rfl⟩

set_option maxRecDepth 100000 in
set_option maxHeartbeats 1000000 in
theorem eqD0 (w : World) : Calls Try.prog 107 #[.slice none 0 0, .slice none 0 0] w fun e w' => e = .returned (.bool true) ∧ w = w' := by
  go_enter Try.func107, Try.ntmps107
  go_wp2_with fail
  refine wp_loop_rounds 1 ?_
  rw [rounds_succ]
  go_wp2_with fail
  go_ret
  exact ⟨rfl, rfl⟩

set_option maxRecDepth 100000 in
set_option maxHeartbeats 1000000 in
theorem eqM0 (w : World) : Calls Try.prog 83 #[.slice none 0 0, .slice none 0 0] w fun e w' => e = .returned (.bool true) ∧ w = w' := by
  go_enter Try.func83, Try.ntmps83
  go_wp2_with fail
  refine wp_loop_rounds 1 ?_
  rw [rounds_succ]
  go_wp2_with fail
  go_ret
  exact ⟨rfl, rfl⟩

set_option maxRecDepth 100000 in
set_option maxHeartbeats 1000000 in
theorem eqT0 (w : World) : Calls Try.prog 84 #[.slice none 0 0, .slice none 0 0] w fun e w' => e = .returned (.bool true) ∧ w = w' := by
  go_enter Try.func84, Try.ntmps84
  go_wp2_with fail
  refine wp_loop_rounds 1 ?_
  rw [rounds_succ]
  go_wp2_with fail
  go_ret
  exact ⟨rfl, rfl⟩

set_option maxRecDepth 100000 in
set_option maxHeartbeats 1000000 in
theorem eqP0 (w : World) : Calls Try.prog 85 #[.slice none 0 0, .slice none 0 0] w fun e w' => e = .returned (.bool true) ∧ w = w' := by
  go_enter Try.func85, Try.ntmps85
  go_wp2_with fail
  refine wp_loop_rounds 1 ?_
  rw [rounds_succ]
  go_wp2_with fail
  go_ret
  exact ⟨rfl, rfl⟩

set_option maxRecDepth 100000 in
set_option maxHeartbeats 1000000 in
theorem sameT0 (w : World) : Calls Try.prog 46 #[.slice none 0 0, .slice none 0 0] w fun e w' => e = .returned (.bool true) ∧ w = w' := by
  go_enter Try.func46, Try.ntmps46
  go_wp2_with fail
  refine (eqT0 _).mono ?_; rintro e w2 ⟨rfl, rfl⟩
  go_wp2_with fail
  go_ret
  exact ⟨rfl, rfl⟩

set_option maxRecDepth 100000 in
set_option maxHeartbeats 1000000 in
theorem sameP0 (w : World) : Calls Try.prog 47 #[.slice none 0 0, .slice none 0 0] w fun e w' => e = .returned (.bool true) ∧ w = w' := by
  go_enter Try.func47, Try.ntmps47
  go_wp2_with fail
  refine (eqP0 _).mono ?_; rintro e w2 ⟨rfl, rfl⟩
  go_wp2_with fail
  go_ret
  exact ⟨rfl, rfl⟩

set_option maxRecDepth 100000 in
set_option maxHeartbeats 1000000 in
theorem ctxsame0 (w : World) : Calls Try.prog 82 #[.agg #[.slice none 0 0, .slice none 0 0], .agg #[.slice none 0 0, .slice none 0 0]] w fun e w' => e = .returned (.bool true) ∧ Below w.heap.size w w' := by
  go_enter Try.func82, Try.ntmps82
  go_wp2_with (go_at_call 107; with_reducible (refine (eqD0 _).mono ?_); rintro e w2 ⟨rfl, rfl⟩)
  go_ret
  exact ⟨rfl, bNew (bOld _) _⟩

set_option maxRecDepth 100000 in
set_option maxHeartbeats 1000000 in
theorem bagsame0 (w : World) : Calls Try.prog 45 #[.agg #[.slice none 0 0, .slice none 0 0, .slice none 0 0], .agg #[.slice none 0 0, .slice none 0 0, .slice none 0 0]] w fun e w' => e = .returned (.bool true) ∧ Below w.heap.size w w' := by
  obtain ⟨w0, hw0⟩ := nm ((w.alloc (.cells #[.slice none 0 0, .slice none 0 0, .slice none 0 0] 27)).alloc (.cells #[.slice none 0 0, .slice none 0 0, .slice none 0 0] 27))
  have HB : Hid (Below w.heap.size w w0) := by rw [hw0.out]; exact bNew (bOld _) _
  have k1 : Blk w0 w.heap.size #[.slice none 0 0, .slice none 0 0, .slice none 0 0] 27 := by rw [hw0.out]; exact (Blk.new w _ _).alloc _
  have k2 : Blk w0 (w.heap.size + 1) #[.slice none 0 0, .slice none 0 0, .slice none 0 0] 27 := by rw [hw0.out]; exact blk_at (by simp)
  go_enter Try.func45, Try.ntmps45
  go_upto_region 1 with fail
  rw [← hw0.out]
  have c0 : w0.cell? ⟨w.heap.size, 0, none⟩ = some (.slice none 0 0) := k1.cell 0
  have d0 : w0.cell? ⟨w.heap.size + 1, 0, none⟩ = some (.slice none 0 0) := k2.cell 0
  have c1 : w0.cell? ⟨w.heap.size, 1, none⟩ = some (.slice none 0 0) := k1.cell 1
  have d1 : w0.cell? ⟨w.heap.size + 1, 1, none⟩ = some (.slice none 0 0) := k2.cell 1
  have c2 : w0.cell? ⟨w.heap.size, 2, none⟩ = some (.slice none 0 0) := k1.cell 2
  have d2 : w0.cell? ⟨w.heap.size + 1, 2, none⟩ = some (.slice none 0 0) := k2.cell 2
  go_wp2_with fail
  refine (ctxsame0 _).mono ?_; rintro e w2 ⟨rfl, hB2⟩
  have e1 : w2.cell? ⟨w.heap.size, 0, none⟩ = some (.slice none 0 0) := (hB2.cell (p := ⟨w.heap.size, 0, none⟩) k1.lt).trans c0
  have e2 : w2.cell? ⟨w.heap.size + 1, 0, none⟩ = some (.slice none 0 0) := (hB2.cell (p := ⟨w.heap.size + 1, 0, none⟩) k2.lt).trans d0
  go_wp2_with (go_at_call 83; with_reducible (refine (eqM0 _).mono ?_); rintro e w2 ⟨rfl, rfl⟩)
  go_ret
  exact ⟨rfl, bNext HB.out hB2⟩

set_option maxRecDepth 100000 in
set_option maxHeartbeats 1000000 in
theorem ctx0 (w : World) : Calls Try.prog 66 #[.agg #[.slice none 0 0, .slice none 0 0]] w fun e w' => e = .returned (.int .i64 0) ∧ Below w.heap.size w w' := by
  go_enter Try.func66, Try.ntmps66
  go_wp2_with (go_at_call 98; with_reducible (refine (rises0 _).mono ?_); rintro e w2 ⟨rfl, rfl⟩)
  refine wp_loop_rounds 1 ?_
  rw [rounds_succ]
  go_wp2_with fail
  refine wp_loop_rounds 1 ?_
  rw [rounds_succ]
  go_wp2_with fail
  go_ret
  exact ⟨rfl, bOld _⟩

set_option maxRecDepth 100000 in
set_option maxHeartbeats 1000000 in
theorem bag0 (w : World) : Calls Try.prog 29 #[.agg #[.slice none 0 0, .slice none 0 0, .slice none 0 0]] w fun e w' => e = .returned (.int .i64 0) ∧ Below w.heap.size w w' := by
  obtain ⟨w0, hw0⟩ := nm (w.alloc (.cells #[.slice none 0 0, .slice none 0 0, .slice none 0 0] 27))
  have HB : Hid (Below w.heap.size w w0) := by rw [hw0.out]; exact bOld _
  have k1 : Blk w0 w.heap.size #[.slice none 0 0, .slice none 0 0, .slice none 0 0] 27 := by rw [hw0.out]; exact Blk.new w _ _
  go_enter Try.func29, Try.ntmps29
  go_upto_region 1 with fail
  rw [← hw0.out]
  have c0 : w0.cell? ⟨w.heap.size, 0, none⟩ = some (.slice none 0 0) := k1.cell 0
  have c1 : w0.cell? ⟨w.heap.size, 1, none⟩ = some (.slice none 0 0) := k1.cell 1
  have c2 : w0.cell? ⟨w.heap.size, 2, none⟩ = some (.slice none 0 0) := k1.cell 2
  go_wp2_with fail
  refine (ctx0 _).mono ?_; rintro e w2 ⟨rfl, hB2⟩
  have e1 : w2.cell? ⟨w.heap.size, 0, none⟩ = some (.slice none 0 0) := (hB2.cell (p := ⟨w.heap.size, 0, none⟩) k1.lt).trans c0
  go_wp2_with fail
  refine wp_loop_rounds 1 ?_
  rw [rounds_succ]
  go_wp2_with fail
  go_ret
  exact ⟨rfl, bNext HB.out hB2⟩

set_option maxRecDepth 100000 in
set_option maxHeartbeats 1000000 in
theorem int0 (w : World) : Calls Try.prog 55 #[.int .i64 0] w fun e w' => e = .returned (.string (ofL [0])) ∧ Below w.heap.size w w' := by
  have h := mint_int 0 w (by decide)
  rw [show (0 : Int).toNat = 0 from rfl, num0] at h
  exact h
set_option maxRecDepth 100000 in
set_option maxHeartbeats 1000000 in
theorem row0 (w : World) : Calls Try.prog 93 #[.slice none 0 0] w fun e w' => e = .returned (.string (ofL [0])) ∧ Below w.heap.size w w' := by
  go_enter Try.func93, Try.ntmps93
  go_wp2_with fail
  refine (int0 _).mono ?_; rintro e w2 ⟨rfl, hB⟩
  go_wp2_with fail
  refine wp_loop_rounds 1 ?_
  rw [rounds_succ]
  go_wp2_with fail
  go_ret
  exact ⟨rfl, hB⟩

set_option maxRecDepth 100000 in
set_option maxHeartbeats 1000000 in
theorem namesb0 (w : World) : Calls Try.prog 24 #[.slice none 0 0] w fun e w' => e = .returned (.string (ofL [0])) ∧ Below w.heap.size w w' := by
  go_enter Try.func24, Try.ntmps24
  go_wp2_with fail
  refine (int0 _).mono ?_; rintro e w2 ⟨rfl, hB⟩
  go_wp2_with fail
  refine wp_loop_rounds 1 ?_
  rw [rounds_succ]
  go_wp2_with fail
  go_ret
  exact ⟨rfl, hB⟩

set_option maxRecDepth 100000 in
set_option maxHeartbeats 1000000 in
theorem viewb0 (w : World) : Calls Try.prog 25 #[.slice none 0 0] w fun e w' => e = .returned (.string (ofL [0])) ∧ Below w.heap.size w w' := by
  go_enter Try.func25, Try.ntmps25
  go_wp2_with fail
  refine (int0 _).mono ?_; rintro e w2 ⟨rfl, hB⟩
  go_wp2_with fail
  refine wp_loop_rounds 1 ?_
  rw [rounds_succ]
  go_wp2_with fail
  go_ret
  exact ⟨rfl, hB⟩

end Go.Proofs.Ytfpjdmplepepjaa

/-! WireEmptyB: Wire, of what has no lists: a context's and a bag's bytes; what is read of them. -/
namespace Go.Proofs.Ytfpjdmplepepjaa
open Go.RowKit

set_option maxRecDepth 100000 in
set_option maxHeartbeats 2000000 in
theorem ctxb0 (w : World) : Calls Try.prog 58 #[.agg #[.slice none 0 0, .slice none 0 0]] w fun e w' => e = .returned (.string (ofL [0, 0])) ∧ Below w.heap.size w w' := by
  obtain ⟨w0, hw0⟩ := nm (w.alloc (.cells #[.slice none 0 0, .slice none 0 0] 25))
  obtain ⟨bx, hbx⟩ := nm w.heap.size
  have HB : Hid (Below w.heap.size w w0) := by rw [hw0.out]; exact bOld _
  have k1 : Blk w0 bx #[.slice none 0 0, .slice none 0 0] 25 := by rw [hw0.out, hbx.out]; exact Blk.new w _ _
  have c0 : w0.cell? ⟨bx, 0, none⟩ = some (.slice none 0 0) := k1.cell 0
  have c1 : w0.cell? ⟨bx, 1, none⟩ = some (.slice none 0 0) := k1.cell 1
  have hlt : bx < w0.heap.size := k1.lt
  have HK : Hid (∀ wa : World, Below w0.drew.heap.size w0.drew wa → wa.cell? ⟨bx, 0, none⟩ = some (.slice none 0 0) ∧ wa.cell? ⟨bx, 1, none⟩ = some (.slice none 0 0)) := by show ∀ wa : World, _; intro wa h; exact ⟨(h.cell (p := ⟨bx, 0, none⟩) hlt).trans c0, (h.cell (p := ⟨bx, 1, none⟩) hlt).trans c1⟩
  obtain ⟨z1, hz1⟩ := nm (ofL [0])
  have hap : Hid (z1 ++ z1 = ofL [0, 0]) := by show _ = _; rw [hz1.out, ofL_append]; rfl
  have hT : True := trivial
  have HR : Hid (∀ w, Calls Try.prog 93 #[.slice none 0 0] w fun e w' => e = .returned (.string z1) ∧ Below w.heap.size w w') := by intro w; rw [hz1.out]; exact row0 w
  have l3 : z1.size + z1.size ≤ 9223372036854775807 := by rw [hz1.out, ofL_size]; decide
  have hadd := fun w : World => run_string_add_sum (P := Try.prog) w z1 z1 l3
  go_enter Try.func58, Try.ntmps58
  go_upto_region 1 with fail
  rw [← hw0.out, ← hbx.out]
  go_region_held3 (fun w' => w'.cell? ⟨bx, 0, none⟩ = some (.slice none 0 0) ∧ w'.cell? ⟨bx, 1, none⟩ = some (.slice none 0 0))
    (first
      | exact HK.out _ (bNext hBa hBb)
      | exact HK.out _ hBa
      | exact ⟨cell_dr c0, cell_dr c1⟩
      | exact ⟨c0, c1⟩)
    (first
      | (go_at_call 93; clear hT; with_reducible (refine (HR.out _).mono ?_); rintro e wa ⟨rfl, hBa⟩)
      | (go_at_call 93; with_reducible (refine (HR.out _).mono ?_); rintro e wb ⟨rfl, hBb⟩))
  all_goals (go_wp2_with fail; go_ret; exact ⟨congrArg (fun t => Ending.returned (Value.string t)) hap.out, bNext (bDrew HB.out) (bNext hBa hBb)⟩)

set_option maxRecDepth 100000 in
set_option maxHeartbeats 2000000 in
theorem bagb0 (w : World) : Calls Try.prog 23 #[.agg #[.slice none 0 0, .slice none 0 0, .slice none 0 0]] w fun e w' => e = .returned (.string (ofL [0, 0, 0])) ∧ Below w.heap.size w w' := by
  obtain ⟨w0, hw0⟩ := nm ((w.alloc (.cells #[.slice none 0 0, .slice none 0 0, .slice none 0 0] 27)).alloc (.cells #[.pointer none, .slice none 0 0] 91))
  obtain ⟨bx, hbx⟩ := nm w.heap.size
  have HB : Hid (Below w.heap.size w w0) := by rw [hw0.out]; exact bNew (bOld _) _
  have k1 : Blk w0 bx #[.slice none 0 0, .slice none 0 0, .slice none 0 0] 27 := by rw [hw0.out, hbx.out]; exact (Blk.new w _ _).alloc _
  have hbd := bnew (w.alloc (.cells #[.slice none 0 0, .slice none 0 0, .slice none 0 0] 27))
  rw [← hw0.out, show (w.alloc (.cells #[.slice none 0 0, .slice none 0 0, .slice none 0 0] 27)).heap.size = bx + 1 from by rw [hbx.out]; simp] at hbd
  have hs0 : w0.heap.size = bx + 2 := by rw [hw0.out, hbx.out]; simp
  have hle : bx + 1 ≤ w0.drew.heap.size := by show bx + 1 ≤ w0.heap.size; omega
  have hbd2 : Lib.IsBuilder 91 5 (bx + 1) (bx + 1) (Lib.byteCells []) w0.drew := bstays hbd (bDrew (Below.refl _ _))
  have HBD := Lib.hid hbd2
  have c0 : w0.cell? ⟨bx, 0, none⟩ = some (.slice none 0 0) := k1.cell 0
  have c1 : w0.cell? ⟨bx, 1, none⟩ = some (.slice none 0 0) := k1.cell 1
  have c2 : w0.cell? ⟨bx, 2, none⟩ = some (.slice none 0 0) := k1.cell 2
  have HK : Hid (∀ wa : World, Below (bx + 1) w0.drew wa → wa.cell? ⟨bx, 0, none⟩ = some (.slice none 0 0) ∧ wa.cell? ⟨bx, 1, none⟩ = some (.slice none 0 0) ∧ wa.cell? ⟨bx, 2, none⟩ = some (.slice none 0 0)) := by show ∀ wa : World, _; intro wa h; exact ⟨(h.cell (p := ⟨bx, 0, none⟩) (Nat.lt_succ_self bx)).trans c0, (h.cell (p := ⟨bx, 1, none⟩) (Nat.lt_succ_self bx)).trans c1, (h.cell (p := ⟨bx, 2, none⟩) (Nat.lt_succ_self bx)).trans c2⟩
  obtain ⟨z1, hz1⟩ := nm (ofL [0])
  obtain ⟨z2, hz2⟩ := nm (ofL [0, 0])
  have hap : Hid (Lib.byteCells ([] ++ bl (z2 ++ z1)) = Lib.byteCells [0, 0, 0]) := by show _ = _; rw [hz1.out, hz2.out, ofL_append, bl_ofL]; rfl
  have HSZ : Hid (([] : List UInt8).length + (z2 ++ z1).size ≤ 140737488355328) := by show _ ≤ _; rw [hz1.out, hz2.out, ofL_append, ofL_size]; decide
  have HI : Hid (∀ w, Calls Try.prog 55 #[.int .i64 0] w fun e w' => e = .returned (.string z1) ∧ Below w.heap.size w w') := by intro w; rw [hz1.out]; exact int0 w
  have HC : Hid (∀ w, Calls Try.prog 58 #[.agg #[.slice none 0 0, .slice none 0 0]] w fun e w' => e = .returned (.string z2) ∧ Below w.heap.size w w') := by intro w; rw [hz2.out]; exact ctxb0 w
  have l3 : z2.size + z1.size ≤ 9223372036854775807 := by rw [hz1.out, hz2.out, ofL_size, ofL_size]; decide
  have hadd := fun w : World => run_string_add_sum (P := Try.prog) w z2 z1 l3
  clear hbd hbd2
  go_enter Try.func23, Try.ntmps23
  go_upto_region 2 with fail
  rw [← hw0.out, ← hbx.out]
  go_region_held3 (fun w' => w'.cell? ⟨bx, 0, none⟩ = some (.slice none 0 0) ∧ w'.cell? ⟨bx, 1, none⟩ = some (.slice none 0 0) ∧ w'.cell? ⟨bx, 2, none⟩ = some (.slice none 0 0))
    (first
      | exact HK.out _ (((bNext hBa hBb).mono hle).trans hBc)
      | exact HK.out _ (((bNext hBb hBa).mono hle).trans hBc)
      | exact HK.out _ ((bNext hBa hBb).mono hle)
      | exact HK.out _ ((bNext hBb hBa).mono hle)
      | exact HK.out _ (hBa.mono hle)
      | exact HK.out _ (hBb.mono hle)
      | exact ⟨cell_dr c0, cell_dr c1, cell_dr c2⟩
      | exact ⟨c0, c1, c2⟩)
    (first
      | (go_at_call 58; with_reducible (refine (HC.out _).mono ?_); rintro e wa ⟨rfl, hBa⟩)
      | (go_at_call 55; with_reducible (refine (HI.out _).mono ?_); rintro e wb ⟨rfl, hBb⟩)
      | (go_at_call 54; refine (bwrite_any (bx + 1) (bx + 1) [] _ _ (bstays (bstays HBD.out hBa) hBb) HSZ.out (Nat.le_trans hle (bNext hBa hBb).size)).mono ?_; rintro e wc ⟨rfl, hbc, hBc⟩)
      | (go_at_call 54; refine (bwrite_any (bx + 1) (bx + 1) [] _ _ (bstays (bstays HBD.out hBb) hBa) HSZ.out (Nat.le_trans hle (bNext hBb hBa).size)).mono ?_; rintro e wc ⟨rfl, hbc, hBc⟩))
  have hBt : Below (bx + 1) w0.drew wc := by first | exact ((bNext hBa hBb).mono hle).trans hBc | exact ((bNext hBb hBa).mono hle).trans hBc
  have hBw : Below w.heap.size w wc := (bDrew HB.out).trans (hBt.mono (by rw [hbx.out]; omega))
  obtain ⟨e0, e1, e2⟩ := HK.out _ hBt
  rw [hap.out] at hbc
  have hle2 : bx + 1 ≤ wc.heap.size := Nat.le_trans hle hBt.size
  have HBC := Lib.hid hbc
  have HBW := Lib.hid hBw
  clear hBa hBb hBc hBt hBw hbc
  go_wp2_with fail
  refine wp_loop_rounds 1 ?_
  rw [rounds_succ]
  go_wp2_with fail
  refine (Try.Builder_String_any _ _ _ _ HBC.out hle2).mono ?_; rintro e w3 ⟨rfl, h1⟩
  have HF := Lib.hid (HBW.out.trans (h1.mono (by rw [hbx.out]; omega)))
  go_wp2_with fail
  go_ret
  exact ⟨rfl, HF.out⟩

theorem rzero_any (b : Nat) (t : List UInt8) (most : Int) (w : World) (hr : IsRd w b ⟨ofL (0 :: t), false⟩) (hs : t.length ≤ 1000000) (h0 : 0 ≤ most) (hm : most ≤ 9223372036854775807) :
    Calls Try.prog 77 #[.pointer (some ⟨b, 0, none⟩), .int .i64 most] w fun e w' => e = .returned (.int .i64 0) ∧ IsRd w' b ⟨ofL t, false⟩ ∧ Kept b w w' := by
  have h := rint_any b ⟨ofL (0 :: t), false⟩ most w hr (by simp only [ofL_size, List.length_cons]; omega) hm
  have e := Rd.int_back 0 most (by decide) h0 t
  rw [num0] at e
  rw [show (0 :: t : List UInt8) = [0] ++ t from rfl] at h
  rw [e] at h
  exact h
theorem fine0 (b : Nat) (t : List UInt8) (w : World) (hr : IsRd w b ⟨ofL t, false⟩) : Calls Try.prog 78 #[.pointer (some ⟨b, 0, none⟩)] w fun e w' => e = .returned (.bool true) ∧ w = w' := fine_is false true rfl b _ w hr
set_option maxRecDepth 100000 in
set_option maxHeartbeats 2000000 in
theorem rrow0 (b : Nat) (t : List UInt8) (w : World) (hr : IsRd w b ⟨ofL (0 :: t), false⟩) (hs : t.length ≤ 1000000) :
    Calls Try.prog 105 #[.pointer (some ⟨b, 0, none⟩), .int .i64 1000] w fun e w' => e = .returned (.slice none 0 0) ∧ IsRd w' b ⟨ofL t, false⟩ ∧ Kept b w w' := by
  go_enter Try.func105, Try.ntmps105
  go_wp2_with fail
  refine (rzero_any b t _ _ hr hs (by decide) (by decide)).mono ?_; rintro e w1 ⟨rfl, h1, hk⟩
  go_wp2_with fail
  refine wp_loop_rounds 1 ?_
  rw [rounds_succ]
  go_wp2_with (first | (go_at_call 78; refine (fine0 b t _ h1).mono ?_; rintro e w2 ⟨rfl, rfl⟩) | (go_at_call 98; refine (rises0 _).mono ?_; rintro e w2 ⟨rfl, rfl⟩))
  go_ret
  exact ⟨rfl, h1, hk⟩

set_option maxRecDepth 100000 in
set_option maxHeartbeats 2000000 in
theorem rnames0 (b : Nat) (t : List UInt8) (w : World) (hr : IsRd w b ⟨ofL (0 :: t), false⟩) (hs : t.length ≤ 1000000) :
    Calls Try.prog 40 #[.pointer (some ⟨b, 0, none⟩)] w fun e w' => e = .returned (.slice none 0 0) ∧ IsRd w' b ⟨ofL t, false⟩ ∧ Kept b w w' := by
  go_enter Try.func40, Try.ntmps40
  go_wp2_with fail
  refine (rzero_any b t _ _ hr hs (by decide) (by decide)).mono ?_; rintro e w1 ⟨rfl, h1, hk⟩
  go_wp2_with fail
  refine wp_loop_rounds 1 ?_
  rw [rounds_succ]
  go_wp2_with (first | (go_at_call 78; refine (fine0 b t _ h1).mono ?_; rintro e w2 ⟨rfl, rfl⟩) | (go_at_call 30; refine (names0 _).mono ?_; rintro e w2 ⟨rfl, rfl⟩))
  go_ret
  exact ⟨rfl, h1, hk⟩

set_option maxRecDepth 100000 in
set_option maxHeartbeats 2000000 in
theorem rview0 (b : Nat) (t : List UInt8) (w : World) (hr : IsRd w b ⟨ofL (0 :: t), false⟩) (hs : t.length ≤ 1000000) :
    Calls Try.prog 41 #[.pointer (some ⟨b, 0, none⟩)] w fun e w' => e = .returned (.slice none 0 0) ∧ IsRd w' b ⟨ofL t, false⟩ ∧ Kept b w w' := by
  go_enter Try.func41, Try.ntmps41
  go_wp2_with fail
  refine (rzero_any b t _ _ hr hs (by decide) (by decide)).mono ?_; rintro e w1 ⟨rfl, h1, hk⟩
  go_wp2_with fail
  refine wp_loop_rounds 1 ?_
  rw [rounds_succ]
  go_wp2_with (first | (go_at_call 78; refine (fine0 b t _ h1).mono ?_; rintro e w2 ⟨rfl, rfl⟩) | (go_at_call 31; refine (views0 _).mono ?_; rintro e w2 ⟨rfl, rfl⟩))
  go_ret
  exact ⟨rfl, h1, hk⟩

end Go.Proofs.Ytfpjdmplepepjaa

/-! WireEmptyC: Wire, of what has no lists: a context and a bag that are read. -/
namespace Go.Proofs.Ytfpjdmplepepjaa
open Go.RowKit

theorem infoCx : (Try.prog.info? 25).map (·.size) = some 2 := by kernel_rfl
theorem infoBg : (Try.prog.info? 27).map (·.size) = some 3 := by kernel_rfl
set_option maxRecDepth 100000 in
set_option maxHeartbeats 2000000 in
theorem rctx0 (b : Nat) (t : List UInt8) (w : World) (hr : IsRd w b ⟨ofL (0 :: 0 :: t), false⟩) (hs : t.length ≤ 100000) :
    Calls Try.prog 80 #[.pointer (some ⟨b, 0, none⟩)] w fun e w' => e = .returned (.agg #[.slice none 0 0, .slice none 0 0]) ∧ IsRd w' b ⟨ofL t, false⟩ ∧ Kept b w w' := by
  obtain ⟨x, hx⟩ := nm w.heap.size
  have hbx : b < x := by rw [hx.out]; exact hr.lt
  obtain ⟨w0, hw0⟩ := nm (w.alloc (.cells #[.slice none 0 0, .slice none 0 0] 25))
  have Kx : Hid (Blk w0 x #[.slice none 0 0, .slice none 0 0] 25) := by show Blk _ _ _ _; rw [hw0.out, hx.out]; exact Blk.new _ _ _
  have HR : Hid (IsRd w0 b ⟨ofL (0 :: 0 :: t), false⟩) := by show IsRd _ _ _; rw [hw0.out]; exact Blk.alloc hr _
  have HP : Hid (Kept b w w0) := by show Kept _ _ _; rw [hw0.out]; exact (Kept.refl _ _).alloc _
  clear hr
  go_enter Try.func80, Try.ntmps80
  go_upto_region 1 with fail
  rw [← hw0.out, ← hx.out]
  go_wp2_with fail
  refine (rrow0 b (0 :: t) _ HR.out (by simp only [List.length_cons]; omega)).mono ?_; rintro e w1 ⟨rfl, h1, hk⟩
  replace Kx := Lib.hid (hk.blk Kx.out (by omega))
  replace HP := Lib.hid (HP.out.trans hk)
  obtain ⟨c, hc⟩ := nm w1.heap.size
  have hbc : b < c := by rw [hc.out]; exact h1.lt
  have hxc : x < c := by rw [hc.out]; exact Kx.out.lt
  obtain ⟨w2, hw2⟩ := nm (w1.alloc (.cells #[.slice none 0 0, .slice none 0 0] 25))
  have Kc : Hid (Blk w2 c #[.slice none 0 0, .slice none 0 0] 25) := by show Blk _ _ _ _; rw [hw2.out, hc.out]; exact Blk.new _ _ _
  replace Kx : Hid (Blk w2 x #[.slice none 0 0, .slice none 0 0] 25) := by show Blk _ _ _ _; rw [hw2.out]; exact Kx.out.alloc _
  replace HR : Hid (IsRd w2 b ⟨ofL (0 :: t), false⟩) := by show IsRd _ _ _; rw [hw2.out]; exact Blk.alloc h1 _
  replace HP : Hid (Kept b w w2) := by show Kept _ _ _; rw [hw2.out]; exact HP.out.alloc _
  clear h1 hk
  go_upto_region 2 with fail
  rw [← hw2.out, ← hc.out]
  go_wp2_with fail
  refine (rrow0 b t _ HR.out (by omega)).mono ?_; rintro e w3 ⟨rfl, h3, hk⟩
  replace Kx := Lib.hid (hk.blk Kx.out (by omega))
  replace Kc := Lib.hid (hk.blk Kc.out (by omega))
  replace HP := Lib.hid (HP.out.trans hk)
  have cc0 : w3.cell? ⟨c, 0, none⟩ = some (.slice none 0 0) := Kc.out.cell 0
  have cf0 : w3.frozen? ⟨c, 0, none⟩ = false := Kc.out.free 0
  have cc1 : w3.cell? ⟨c, 1, none⟩ = some (.slice none 0 0) := Kc.out.cell 1
  have cf1 : w3.frozen? ⟨c, 1, none⟩ = false := Kc.out.free 1
  obtain ⟨w4, hw4⟩ := nm (w3.setCell ⟨c, 1, none⟩ (.slice none 0 0))
  have hwc : w.heap.size ≤ c := by rw [← hx.out]; omega
  replace Kx : Hid (Blk w4 x #[.slice none 0 0, .slice none 0 0] 25) := by show Blk _ _ _ _; rw [hw4.out]; exact Kx.out.setOther (by simp only; omega) _
  replace Kc : Hid (Blk w4 c #[.slice none 0 0, .slice none 0 0] 25) := by show Blk _ _ _ _; rw [hw4.out]; exact Kc.out.set 1 _
  replace HR : Hid (IsRd w4 b ⟨ofL t, false⟩) := by show IsRd _ _ _; rw [hw4.out]; exact Blk.setOther h3 (by simp only; omega) _
  replace HP : Hid (Kept b w w4) := by show Kept _ _ _; rw [hw4.out]; exact HP.out.setNew hwc _
  clear h3 hk
  go_upto_region 3 with fail
  rw [← hw4.out]
  clear cc0 cc1 cf0 cf1
  have cc0 : w4.cell? ⟨c, 0, none⟩ = some (.slice none 0 0) := Kc.out.cell 0
  have cc1 : w4.cell? ⟨c, 1, none⟩ = some (.slice none 0 0) := Kc.out.cell 1
  go_wp2_with (first | (go_at_call 78; refine (fine0 b t _ HR.out).mono ?_; rintro e w5 ⟨rfl, rfl⟩) | (go_at_call 66; refine (ctx0 _).mono ?_; rintro e w6 ⟨rfl, hB6⟩; have xb := Kx.out.below hB6 Kx.out.lt; have xc0 := xb.cell 0; have xc1 := xb.cell 1; have xf0 := xb.free 0; have xf1 := xb.free 1; have cb := Kc.out.below hB6 Kc.out.lt; have cc2 := cb.cell 0; have cc3 := cb.cell 1))
  refine bodyPost_ret (results_cell_row rfl _ _ x 25 #[.slice none 0 0, .slice none 0 0] (0, 0) _ rfl ((xb.set 0 _).set 1 _) Try.underlying25 rfl infoCx) rfl ?_
  exact ⟨rfl, (Blk.setOther (Blk.setOther (HR.out.below hB6 HR.out.lt) (by simp only; omega) _) (by simp only; omega) _), ((HP.out.trans (Kept.ofBelow hB6)).setNew (by rw [← hx.out]; exact Nat.le_refl _) _).setNew (by rw [← hx.out]; exact Nat.le_refl _) _⟩

set_option maxRecDepth 100000 in
set_option maxHeartbeats 2000000 in
theorem rbag0 (b : Nat) (t : List UInt8) (w : World) (hr : IsRd w b ⟨ofL (0 :: 0 :: 0 :: t), false⟩) (hs : t.length ≤ 10000) :
    Calls Try.prog 39 #[.pointer (some ⟨b, 0, none⟩)] w fun e w' => e = .returned (.agg #[.slice none 0 0, .slice none 0 0, .slice none 0 0]) ∧ IsRd w' b ⟨ofL t, false⟩ ∧ Kept b w w' := by
  obtain ⟨x, hx⟩ := nm w.heap.size
  have hbx : b < x := by rw [hx.out]; exact hr.lt
  obtain ⟨w0, hw0⟩ := nm (w.alloc (.cells #[.slice none 0 0, .slice none 0 0, .slice none 0 0] 27))
  have Kx : Hid (Blk w0 x #[.slice none 0 0, .slice none 0 0, .slice none 0 0] 27) := by show Blk _ _ _ _; rw [hw0.out, hx.out]; exact Blk.new _ _ _
  have HR : Hid (IsRd w0 b ⟨ofL (0 :: 0 :: 0 :: t), false⟩) := by show IsRd _ _ _; rw [hw0.out]; exact Blk.alloc hr _
  have HP : Hid (Kept b w w0) := by show Kept _ _ _; rw [hw0.out]; exact (Kept.refl _ _).alloc _
  clear hr
  go_enter Try.func39, Try.ntmps39
  go_upto_region 1 with fail
  rw [← hw0.out, ← hx.out]
  go_wp2_with fail
  refine (rctx0 b (0 :: t) _ HR.out (by simp only [List.length_cons]; omega)).mono ?_; rintro e w1 ⟨rfl, h1, hk⟩
  replace Kx := Lib.hid (hk.blk Kx.out (by omega))
  replace HP := Lib.hid (HP.out.trans hk)
  obtain ⟨c, hc⟩ := nm w1.heap.size
  have hbc : b < c := by rw [hc.out]; exact h1.lt
  have hxc : x < c := by rw [hc.out]; exact Kx.out.lt
  obtain ⟨w2, hw2⟩ := nm (w1.alloc (.cells #[.slice none 0 0, .slice none 0 0, .slice none 0 0] 27))
  have Kc : Hid (Blk w2 c #[.slice none 0 0, .slice none 0 0, .slice none 0 0] 27) := by show Blk _ _ _ _; rw [hw2.out, hc.out]; exact Blk.new _ _ _
  replace Kx : Hid (Blk w2 x #[.slice none 0 0, .slice none 0 0, .slice none 0 0] 27) := by show Blk _ _ _ _; rw [hw2.out]; exact Kx.out.alloc _
  replace HR : Hid (IsRd w2 b ⟨ofL (0 :: t), false⟩) := by show IsRd _ _ _; rw [hw2.out]; exact Blk.alloc h1 _
  replace HP : Hid (Kept b w w2) := by show Kept _ _ _; rw [hw2.out]; exact HP.out.alloc _
  clear h1 hk
  go_upto_region 2 with fail
  rw [← hw2.out, ← hc.out]
  go_wp2_with fail
  refine (rzero_any b t 1000 _ HR.out (by omega) (by decide) (by decide)).mono ?_; rintro e w3 ⟨rfl, h3, hk⟩
  replace Kx := Lib.hid (hk.blk Kx.out (by omega))
  replace Kc := Lib.hid (hk.blk Kc.out (by omega))
  replace HP := Lib.hid (HP.out.trans hk)
  replace HR := Lib.hid h3
  clear h3 hk
  have cc0 : w3.cell? ⟨c, 0, none⟩ = some (.slice none 0 0) := Kc.out.cell 0
  have cc1 : w3.cell? ⟨c, 1, none⟩ = some (.slice none 0 0) := Kc.out.cell 1
  have cc2 : w3.cell? ⟨c, 2, none⟩ = some (.slice none 0 0) := Kc.out.cell 2
  go_wp2_with fail
  refine wp_loop_rounds 1 ?_
  rw [rounds_succ]
  go_wp2_with (first | (go_at_call 78; refine (fine0 b t _ HR.out).mono ?_; rintro e w5 ⟨rfl, rfl⟩) | (go_at_call 29; refine (bag0 _).mono ?_; rintro e w6 ⟨rfl, hB6⟩; have xb := Kx.out.below hB6 Kx.out.lt; have xc0 := xb.cell 0; have xc1 := xb.cell 1; have xc2 := xb.cell 2; have xf0 := xb.free 0; have xf1 := xb.free 1; have xf2 := xb.free 2; have cb := Kc.out.below hB6 Kc.out.lt; have cc4 := cb.cell 0; have cc5 := cb.cell 1; have cc6 := cb.cell 2))
  refine bodyPost_ret (results_cell_row rfl _ _ x 27 #[.slice none 0 0, .slice none 0 0, .slice none 0 0] (0, 0) _ rfl (((xb.set 0 _).set 1 _).set 2 _) Try.underlying27 rfl infoBg) rfl ?_
  exact ⟨rfl, (Blk.setOther (Blk.setOther (Blk.setOther (HR.out.below hB6 HR.out.lt) (by simp only; omega) _) (by simp only; omega) _) (by simp only; omega) _), (((HP.out.trans (Kept.ofBelow hB6)).setNew (by rw [← hx.out]; exact Nat.le_refl _) _).setNew (by rw [← hx.out]; exact Nat.le_refl _) _).setNew (by rw [← hx.out]; exact Nat.le_refl _) _⟩
end Go.Proofs.Ytfpjdmplepepjaa

/-! WireCheck: Wire's numbers and Check, of what has no lists. -/
namespace Go.Proofs.Ytfpjdmplepepjaa
open Go.RowKit

theorem infoNine : (Try.prog.info? 54).map (·.size) = some 9 := by kernel_rfl
set_option maxRecDepth 100000 in
set_option maxHeartbeats 8000000 in
theorem numbers_any (k f s p fl d0 d1 rc lg : Int) (w : World) :
    Calls Try.prog 20 #[.agg #[.int .i64 k, .int .i64 f, .int .i64 s, .int .i64 p, .int .i64 fl, .string ⟨#[]⟩, .slice none 0 0, .slice none 0 0, .slice none 0 0, .slice none 0 0, .slice none 0 0, .int .i64 d0, .int .i64 d1, .int .i64 rc, .int .i64 lg]] w fun e w' => e = .returned (.agg #[.int .i64 k, .int .i64 f, .int .i64 s, .int .i64 p, .int .i64 fl, .int .i64 d0, .int .i64 d1, .int .i64 rc, .int .i64 lg]) ∧ Below w.heap.size w w' := by
  go_enter Try.func20, Try.ntmps20
  go_wp2_with fail
  refine bodyPost_ret (results_cell_row rfl _ _ (w.heap.size + 1) 54 #[.int .i64 k, .int .i64 f, .int .i64 s, .int .i64 p, .int .i64 fl, .int .i64 d0, .int .i64 d1, .int .i64 rc, .int .i64 lg] (0, 0) _ rfl (blk_at (by simp)) Try.underlying54 rfl infoNine) rfl ?_
  exact ⟨rfl, bNew (bOld _) _⟩

set_option maxRecDepth 100000 in
set_option maxHeartbeats 8000000 in
theorem within_t (n l m : Int) (w : World) (h1 : l ≤ n) (h2 : n ≤ m) :
    Calls Try.prog 27 #[.int .i64 n, .int .i64 l, .int .i64 m] w fun e w' => e = .returned (.bool true) ∧ w = w' := by
  have g1 : n ≥ l := h1
  go_enter Try.func27, Try.ntmps27
  go_wp2_with fail
  go_ret
  exact ⟨rfl, rfl⟩
set_option maxRecDepth 100000 in
set_option maxHeartbeats 8000000 in
theorem within_f (n l m : Int) (w : World) (h1 : ¬ l ≤ n) :
    Calls Try.prog 27 #[.int .i64 n, .int .i64 l, .int .i64 m] w fun e w' => e = .returned (.bool false) ∧ w = w' := by
  have g1 : decide (n ≥ l) = false := decide_eq_false h1
  go_enter Try.func27, Try.ntmps27
  go_wp2_with fail
  go_ret
  exact ⟨rfl, rfl⟩
set_option maxRecDepth 100000 in
set_option maxHeartbeats 8000000 in
theorem dotin_t (n : Int) (w : World) (h1 : 1 ≤ n) (h2 : n ≤ 1099511627776) :
    Calls Try.prog 65 #[.int .i64 n] w fun e w' => e = .returned (.bool true) ∧ w = w' := by
  have g1 : n ≥ 1 := h1
  go_enter Try.func65, Try.ntmps65
  go_wp2_with fail
  go_ret
  exact ⟨rfl, rfl⟩
set_option maxRecDepth 100000 in
set_option maxHeartbeats 8000000 in
theorem dotck_t (n m : Int) (w : World) (h1 : 1 ≤ n) (h2 : n ≤ 1099511627776) (h3 : 1 ≤ m) (h4 : m ≤ 1099511627776) :
    Calls Try.prog 28 #[.agg #[.int .i64 n, .int .i64 m]] w fun e w' => e = .returned (.bool true) ∧ w' = w.alloc (.cells #[.int .i64 n, .int .i64 m] 31) := by
  have H1 : Hid (∀ w, Calls Try.prog 65 #[.int .i64 n] w fun e w' => e = .returned (.bool true) ∧ w = w') := fun w => dotin_t n w h1 h2
  have H2 : Hid (∀ w, Calls Try.prog 65 #[.int .i64 m] w fun e w' => e = .returned (.bool true) ∧ w = w') := fun w => dotin_t m w h3 h4
  go_enter Try.func28, Try.ntmps28
  go_wp2_with (go_at_call 65; first | (with_reducible (refine (H1.out _).mono ?_); rintro e w2 ⟨rfl, rfl⟩) | (with_reducible (refine (H2.out _).mono ?_); rintro e w2 ⟨rfl, rfl⟩))
  go_ret
  exact ⟨rfl, rfl⟩

set_option maxRecDepth 100000 in
set_option maxHeartbeats 8000000 in
theorem check_ok (k f s p fl d0 d1 rc lg : Int) (h : 1 ≤ k ∧ k ≤ 8 ∧ 1 ≤ f ∧ f ≤ 1099511627776 ∧ 0 ≤ s ∧ s ≤ 1099511627776 ∧ 0 ≤ p ∧ p ≤ 15 ∧ 0 ≤ fl ∧ fl ≤ 1 ∧ 0 ≤ rc ∧ rc ≤ 1099511627776 ∧ 0 ≤ lg ∧ lg ≤ 1073741824) (hd : d0 = 0 ∧ d1 = 0 ∨ (1 ≤ d0 ∧ d0 ≤ 1099511627776) ∧ 1 ≤ d1 ∧ d1 ≤ 1099511627776) (w : World) :
    Calls Try.prog 12 #[.agg #[.int .i64 k, .int .i64 f, .int .i64 s, .int .i64 p, .int .i64 fl, .string ⟨#[]⟩, .slice none 0 0, .slice none 0 0, .slice none 0 0, .slice none 0 0, .slice none 0 0, .int .i64 d0, .int .i64 d1, .int .i64 rc, .int .i64 lg]] w fun e w' => e = .returned (.int .i64 0) ∧ Below w.heap.size w w' := by
  have HK : Hid (∀ w, Calls Try.prog 27 #[.int .i64 k, .int .i64 1, .int .i64 8] w fun e w' => e = .returned (.bool true) ∧ w = w') := fun w => within_t k 1 8 w (by omega) (by omega)
  have HF : Hid (∀ w, Calls Try.prog 27 #[.int .i64 f, .int .i64 1, .int .i64 1099511627776] w fun e w' => e = .returned (.bool true) ∧ w = w') := fun w => within_t f 1 1099511627776 w (by omega) (by omega)
  have HS : Hid (∀ w, Calls Try.prog 27 #[.int .i64 s, .int .i64 0, .int .i64 1099511627776] w fun e w' => e = .returned (.bool true) ∧ w = w') := fun w => within_t s 0 1099511627776 w (by omega) (by omega)
  have HP : Hid (∀ w, Calls Try.prog 27 #[.int .i64 p, .int .i64 0, .int .i64 15] w fun e w' => e = .returned (.bool true) ∧ w = w') := fun w => within_t p 0 15 w (by omega) (by omega)
  have HL : Hid (∀ w, Calls Try.prog 27 #[.int .i64 fl, .int .i64 0, .int .i64 1] w fun e w' => e = .returned (.bool true) ∧ w = w') := fun w => within_t fl 0 1 w (by omega) (by omega)
  have HR : Hid (∀ w, Calls Try.prog 27 #[.int .i64 rc, .int .i64 0, .int .i64 1099511627776] w fun e w' => e = .returned (.bool true) ∧ w = w') := fun w => within_t rc 0 1099511627776 w (by omega) (by omega)
  have HG : Hid (∀ w, Calls Try.prog 27 #[.int .i64 lg, .int .i64 0, .int .i64 1073741824] w fun e w' => e = .returned (.bool true) ∧ w = w') := fun w => within_t lg 0 1073741824 w (by omega) (by omega)
  obtain ⟨w0, hw0⟩ := nm (w.alloc (.cells #[.int .i64 k, .int .i64 f, .int .i64 s, .int .i64 p, .int .i64 fl, .string ⟨#[]⟩, .slice none 0 0, .slice none 0 0, .slice none 0 0, .slice none 0 0, .slice none 0 0, .int .i64 d0, .int .i64 d1, .int .i64 rc, .int .i64 lg] 33))
  obtain ⟨x, hx⟩ := nm w.heap.size
  have Kx : Hid (Blk w0 x #[.int .i64 k, .int .i64 f, .int .i64 s, .int .i64 p, .int .i64 fl, .string ⟨#[]⟩, .slice none 0 0, .slice none 0 0, .slice none 0 0, .slice none 0 0, .slice none 0 0, .int .i64 d0, .int .i64 d1, .int .i64 rc, .int .i64 lg] 33) := by show Blk _ _ _ _; rw [hw0.out, hx.out]; exact Blk.new _ _ _
  have HB0 : Hid (Below w.heap.size w w0) := by rw [hw0.out]; exact bOld _
  clear h
  rcases hd with ⟨rfl, rfl⟩ | ⟨⟨g1, g2⟩, g3, g4⟩
  · have heq := fun w => eqlD 0 0 0 0 true (by simp) w
    have hgd := fun (a b : Operand) (w : World) => guardD .eql a b #[.int .i64 0, .int .i64 0] #[.int .i64 0, .int .i64 0] w
    go_enter Try.func12, Try.ntmps12
    go_upto_region 1 with fail
    rw [← hw0.out, ← hx.out]
    have c0 : w0.cell? ⟨x, 0, none⟩ = some (.int .i64 k) := Kx.out.cell 0
    have c1 : w0.cell? ⟨x, 1, none⟩ = some (.int .i64 f) := Kx.out.cell 1
    have c2 : w0.cell? ⟨x, 2, none⟩ = some (.int .i64 s) := Kx.out.cell 2
    have c3 : w0.cell? ⟨x, 3, none⟩ = some (.int .i64 p) := Kx.out.cell 3
    have c4 : w0.cell? ⟨x, 4, none⟩ = some (.int .i64 fl) := Kx.out.cell 4
    have c5 : w0.cell? ⟨x, 5, none⟩ = some (.string ⟨#[]⟩) := Kx.out.cell 5
    have c6 : w0.cell? ⟨x, 6, none⟩ = some (.slice none 0 0) := Kx.out.cell 6
    have c7 : w0.cell? ⟨x, 7, none⟩ = some (.slice none 0 0) := Kx.out.cell 7
    have c8 : w0.cell? ⟨x, 8, none⟩ = some (.slice none 0 0) := Kx.out.cell 8
    have c9 : w0.cell? ⟨x, 9, none⟩ = some (.slice none 0 0) := Kx.out.cell 9
    have c10 : w0.cell? ⟨x, 10, none⟩ = some (.slice none 0 0) := Kx.out.cell 10
    have c11 : w0.cell? ⟨x, 11, none⟩ = some (.int .i64 0) := Kx.out.cell 11
    have c12 : w0.cell? ⟨x, 12, none⟩ = some (.int .i64 0) := Kx.out.cell 12
    have c13 : w0.cell? ⟨x, 13, none⟩ = some (.int .i64 rc) := Kx.out.cell 13
    have c14 : w0.cell? ⟨x, 14, none⟩ = some (.int .i64 lg) := Kx.out.cell 14
    go_wp2_with (go_at_call 27; first | (with_reducible (refine (HK.out _).mono ?_); rintro e w2 ⟨rfl, rfl⟩) | (with_reducible (refine (HF.out _).mono ?_); rintro e w2 ⟨rfl, rfl⟩) | (with_reducible (refine (HS.out _).mono ?_); rintro e w2 ⟨rfl, rfl⟩) | (with_reducible (refine (HP.out _).mono ?_); rintro e w2 ⟨rfl, rfl⟩) | (with_reducible (refine (HL.out _).mono ?_); rintro e w2 ⟨rfl, rfl⟩) | (with_reducible (refine (HR.out _).mono ?_); rintro e w2 ⟨rfl, rfl⟩) | (with_reducible (refine (HG.out _).mono ?_); rintro e w2 ⟨rfl, rfl⟩))
    refine (bag0 _).mono ?_; rintro e w6 ⟨rfl, hB6⟩
    have K6 := Kx.out.below hB6 Kx.out.lt
    have e9 : w6.cell? ⟨x, 9, none⟩ = some (.slice none 0 0) := K6.cell 9
    have e10 : w6.cell? ⟨x, 10, none⟩ = some (.slice none 0 0) := K6.cell 10
    have HB6 := Lib.hid (bNext HB0.out hB6)
    clear hB6 K6
    go_wp2_with (first | (go_at_call 30; refine (names0 _).mono ?_; rintro e w7 ⟨rfl, rfl⟩) | (go_at_call 31; refine (views0 _).mono ?_; rintro e w8 ⟨rfl, rfl⟩))
    go_ret
    exact ⟨rfl, HB6.out⟩
  · have hne : (d0, d1) ≠ (0, 0) := by intro e; cases e; omega
    have heq := fun w => eqlD d0 d1 0 0 false (by simpa using hne) w
    have hgd := fun (a b : Operand) (w : World) => guardD .eql a b #[.int .i64 d0, .int .i64 d1] #[.int .i64 0, .int .i64 0] w
    have HD : Hid (∀ w, Calls Try.prog 28 #[.agg #[.int .i64 d0, .int .i64 d1]] w fun e w' => e = .returned (.bool true) ∧ w' = w.alloc (.cells #[.int .i64 d0, .int .i64 d1] 31)) := fun w => dotck_t d0 d1 w g1 g2 g3 g4
    clear hne
    go_enter Try.func12, Try.ntmps12
    go_upto_region 1 with fail
    rw [← hw0.out, ← hx.out]
    have c0 : w0.cell? ⟨x, 0, none⟩ = some (.int .i64 k) := Kx.out.cell 0
    have c1 : w0.cell? ⟨x, 1, none⟩ = some (.int .i64 f) := Kx.out.cell 1
    have c2 : w0.cell? ⟨x, 2, none⟩ = some (.int .i64 s) := Kx.out.cell 2
    have c3 : w0.cell? ⟨x, 3, none⟩ = some (.int .i64 p) := Kx.out.cell 3
    have c4 : w0.cell? ⟨x, 4, none⟩ = some (.int .i64 fl) := Kx.out.cell 4
    have c5 : w0.cell? ⟨x, 5, none⟩ = some (.string ⟨#[]⟩) := Kx.out.cell 5
    have c6 : w0.cell? ⟨x, 6, none⟩ = some (.slice none 0 0) := Kx.out.cell 6
    have c7 : w0.cell? ⟨x, 7, none⟩ = some (.slice none 0 0) := Kx.out.cell 7
    have c8 : w0.cell? ⟨x, 8, none⟩ = some (.slice none 0 0) := Kx.out.cell 8
    have c9 : w0.cell? ⟨x, 9, none⟩ = some (.slice none 0 0) := Kx.out.cell 9
    have c10 : w0.cell? ⟨x, 10, none⟩ = some (.slice none 0 0) := Kx.out.cell 10
    have c11 : w0.cell? ⟨x, 11, none⟩ = some (.int .i64 d0) := Kx.out.cell 11
    have c12 : w0.cell? ⟨x, 12, none⟩ = some (.int .i64 d1) := Kx.out.cell 12
    have c13 : w0.cell? ⟨x, 13, none⟩ = some (.int .i64 rc) := Kx.out.cell 13
    have c14 : w0.cell? ⟨x, 14, none⟩ = some (.int .i64 lg) := Kx.out.cell 14
    go_upto_region 3 with (go_at_call 28; with_reducible (refine (HD.out _).mono ?_); rintro e wd ⟨rfl, rfl⟩)
    obtain ⟨w1, hw1⟩ := nm (w0.alloc (.cells #[.int .i64 d0, .int .i64 d1] 31))
    have K1 : Hid (Blk w1 x #[.int .i64 k, .int .i64 f, .int .i64 s, .int .i64 p, .int .i64 fl, .string ⟨#[]⟩, .slice none 0 0, .slice none 0 0, .slice none 0 0, .slice none 0 0, .slice none 0 0, .int .i64 d0, .int .i64 d1, .int .i64 rc, .int .i64 lg] 33) := by show Blk _ _ _ _; rw [hw1.out]; exact Kx.out.alloc _
    have HB1 : Hid (Below w.heap.size w w1) := by rw [hw1.out]; exact bNew HB0.out _
    rw [← hw1.out]
    have m0 : w1.cell? ⟨x, 0, none⟩ = some (.int .i64 k) := K1.out.cell 0
    have m1 : w1.cell? ⟨x, 1, none⟩ = some (.int .i64 f) := K1.out.cell 1
    have m2 : w1.cell? ⟨x, 2, none⟩ = some (.int .i64 s) := K1.out.cell 2
    have m3 : w1.cell? ⟨x, 3, none⟩ = some (.int .i64 p) := K1.out.cell 3
    have m4 : w1.cell? ⟨x, 4, none⟩ = some (.int .i64 fl) := K1.out.cell 4
    have m5 : w1.cell? ⟨x, 5, none⟩ = some (.string ⟨#[]⟩) := K1.out.cell 5
    have m6 : w1.cell? ⟨x, 6, none⟩ = some (.slice none 0 0) := K1.out.cell 6
    have m7 : w1.cell? ⟨x, 7, none⟩ = some (.slice none 0 0) := K1.out.cell 7
    have m8 : w1.cell? ⟨x, 8, none⟩ = some (.slice none 0 0) := K1.out.cell 8
    have m9 : w1.cell? ⟨x, 9, none⟩ = some (.slice none 0 0) := K1.out.cell 9
    have m10 : w1.cell? ⟨x, 10, none⟩ = some (.slice none 0 0) := K1.out.cell 10
    have m11 : w1.cell? ⟨x, 11, none⟩ = some (.int .i64 d0) := K1.out.cell 11
    have m12 : w1.cell? ⟨x, 12, none⟩ = some (.int .i64 d1) := K1.out.cell 12
    have m13 : w1.cell? ⟨x, 13, none⟩ = some (.int .i64 rc) := K1.out.cell 13
    have m14 : w1.cell? ⟨x, 14, none⟩ = some (.int .i64 lg) := K1.out.cell 14
    go_wp2_with (go_at_call 27; first | (with_reducible (refine (HK.out _).mono ?_); rintro e w2 ⟨rfl, rfl⟩) | (with_reducible (refine (HF.out _).mono ?_); rintro e w2 ⟨rfl, rfl⟩) | (with_reducible (refine (HS.out _).mono ?_); rintro e w2 ⟨rfl, rfl⟩) | (with_reducible (refine (HP.out _).mono ?_); rintro e w2 ⟨rfl, rfl⟩) | (with_reducible (refine (HL.out _).mono ?_); rintro e w2 ⟨rfl, rfl⟩) | (with_reducible (refine (HR.out _).mono ?_); rintro e w2 ⟨rfl, rfl⟩) | (with_reducible (refine (HG.out _).mono ?_); rintro e w2 ⟨rfl, rfl⟩))
    refine (bag0 _).mono ?_; rintro e w6 ⟨rfl, hB6⟩
    have K6 := K1.out.below hB6 K1.out.lt
    have e9 : w6.cell? ⟨x, 9, none⟩ = some (.slice none 0 0) := K6.cell 9
    have e10 : w6.cell? ⟨x, 10, none⟩ = some (.slice none 0 0) := K6.cell 10
    have HB6 := Lib.hid (bNext HB1.out hB6)
    clear hB6 K6
    go_wp2_with (first | (go_at_call 30; refine (names0 _).mono ?_; rintro e w7 ⟨rfl, rfl⟩) | (go_at_call 31; refine (views0 _).mono ?_; rintro e w8 ⟨rfl, rfl⟩))
    go_ret
    exact ⟨rfl, HB6.out⟩

set_option maxRecDepth 100000 in
set_option maxHeartbeats 8000000 in
theorem check_zero (w : World) :
    Calls Try.prog 12 #[.agg #[.int .i64 0, .int .i64 0, .int .i64 0, .int .i64 0, .int .i64 0, .string ⟨#[]⟩, .slice none 0 0, .slice none 0 0, .slice none 0 0, .slice none 0 0, .slice none 0 0, .int .i64 0, .int .i64 0, .int .i64 0, .int .i64 0]] w fun e w' => e = .returned (.int .i64 1) ∧ Below w.heap.size w w' := by
  have heq := fun w => eqlD 0 0 0 0 true (by simp) w
  have hgd := fun (a b : Operand) (w : World) => guardD .eql a b #[.int .i64 0, .int .i64 0] #[.int .i64 0, .int .i64 0] w
  have HK : Hid (∀ w, Calls Try.prog 27 #[.int .i64 0, .int .i64 1, .int .i64 8] w fun e w' => e = .returned (.bool false) ∧ w = w') := fun w => within_f 0 1 8 w (by decide)
  go_enter Try.func12, Try.ntmps12
  go_wp2_with (go_at_call 27; with_reducible (refine (HK.out _).mono ?_); rintro e w2 ⟨rfl, rfl⟩)
  go_ret
  exact ⟨rfl, bOld _⟩
end Go.Proofs.Ytfpjdmplepepjaa

/-! WNine: Wire's nine numbers, as they are told; two of them compared. -/
namespace Go.Proofs.Ytfpjdmplepepjaa
open Go.RowKit

theorem infoOne : (Try.prog.info? 3).map (·.size) = some 1 := by kernel_rfl
set_option maxRecDepth 100000 in
set_option maxHeartbeats 4000000 in
theorem nineEq (a0 a1 a2 a3 a4 a5 a6 a7 a8 b0 b1 b2 b3 b4 b5 b6 b7 b8 : Int) (w : World) :
    (Op.equalIn 10000 54 (.agg #[.int .i64 a0, .int .i64 a1, .int .i64 a2, .int .i64 a3, .int .i64 a4, .int .i64 a5, .int .i64 a6, .int .i64 a7, .int .i64 a8]) (.agg #[.int .i64 b0, .int .i64 b1, .int .i64 b2, .int .i64 b3, .int .i64 b4, .int .i64 b5, .int .i64 b6, .int .i64 b7, .int .i64 b8])).run Try.prog w = .ok (decide (a0 = b0 ∧ a1 = b1 ∧ a2 = b2 ∧ a3 = b3 ∧ a4 = b4 ∧ a5 = b5 ∧ a6 = b6 ∧ a7 = b7 ∧ a8 = b8)) w := by
  obtain ⟨i0, hi, _⟩ := Option.map_eq_some_iff.1 infoOne
  rw [run_equalIn_array w 9999 _ _ Try.underlying54 hi, cellsI, show List.range 9 = [0, 1, 2, 3, 4, 5, 6, 7, 8] from rfl]
  have st : ∀ (j : Nat) (is : List Nat) (xs ys : Array Value) (a b : Int), xs[j]? = some (.int .i64 a) → ys[j]? = some (.int .i64 b) → (Op.eqItems 9999 3 1 xs ys (j :: is)).run Try.prog w = if a = b then (Op.eqItems 9999 3 1 xs ys is).run Try.prog w else .ok false w := by
    intro j is xs ys a b h1 h2
    by_cases h : a = b
    · simp [go_sem, Op.eqItems, Try.underlying3, h1, h2, h]
    · simp [go_sem, Op.eqItems, Try.underlying3, h1, h2, h]
  rw [st 0 _ _ _ a0 b0 rfl rfl]
  rw [st 1 _ _ _ a1 b1 rfl rfl]
  rw [st 2 _ _ _ a2 b2 rfl rfl]
  rw [st 3 _ _ _ a3 b3 rfl rfl]
  rw [st 4 _ _ _ a4 b4 rfl rfl]
  rw [st 5 _ _ _ a5 b5 rfl rfl]
  rw [st 6 _ _ _ a6 b6 rfl rfl]
  rw [st 7 _ _ _ a7 b7 rfl rfl]
  rw [st 8 _ _ _ a8 b8 rfl rfl]
  have e0 : (Op.eqItems 9999 3 1 #[.int .i64 a0, .int .i64 a1, .int .i64 a2, .int .i64 a3, .int .i64 a4, .int .i64 a5, .int .i64 a6, .int .i64 a7, .int .i64 a8] #[.int .i64 b0, .int .i64 b1, .int .i64 b2, .int .i64 b3, .int .i64 b4, .int .i64 b5, .int .i64 b6, .int .i64 b7, .int .i64 b8] []).run Try.prog w = .ok true w := by simp [Op.eqItems]
  have it : ∀ (p q : Prop) [Decidable p] [Decidable q], (if p then (.ok (decide q) w : Result Bool) else .ok false w) = .ok (decide (p ∧ q)) w := by
    intro p q _ _
    by_cases h : p <;> simp [h]
  rw [e0]
  rw [show (.ok true w : Result Bool) = .ok (decide True) w from rfl]
  simp only [it, and_true]
theorem eqlN {a0 a1 a2 a3 a4 a5 a6 a7 a8 b0 b1 b2 b3 b4 b5 b6 b7 b8 : Int} {B : Bool} (hB : Hid (B = true ↔ a0 = b0 ∧ a1 = b1 ∧ a2 = b2 ∧ a3 = b3 ∧ a4 = b4 ∧ a5 = b5 ∧ a6 = b6 ∧ a7 = b7 ∧ a8 = b8)) (w : World) :
    Sem.run Try.prog (binOp .eql 54 (.agg #[.int .i64 a0, .int .i64 a1, .int .i64 a2, .int .i64 a3, .int .i64 a4, .int .i64 a5, .int .i64 a6, .int .i64 a7, .int .i64 a8]) (.agg #[.int .i64 b0, .int .i64 b1, .int .i64 b2, .int .i64 b3, .int .i64 b4, .int .i64 b5, .int .i64 b6, .int .i64 b7, .int .i64 b8])) w = .ok (.bool B) w := by
  have e : decide (a0 = b0 ∧ a1 = b1 ∧ a2 = b2 ∧ a3 = b3 ∧ a4 = b4 ∧ a5 = b5 ∧ a6 = b6 ∧ a7 = b7 ∧ a8 = b8) = B := by rw [Bool.eq_iff_iff, hB.out, decide_eq_true_iff]
  rw [run_eql_struct, nineEq, e]; rfl
theorem guardN (op : BinOp) (a b : Operand) (xs ys : Array Value) (w : World) : Sem.run Try.prog (eqGuard op 54 a b (.agg xs) (.agg ys)) w = .ok () w := run_eqGuard_agg w op _ a b xs ys (by kernel_rfl)

set_option maxRecDepth 100000 in
set_option maxHeartbeats 8000000 in
theorem nums_is (k f s p fl d0 d1 rc lg : Int) (mark : ByteArray) (am ab ac ag av : Option Addr) (nl kl nb kb nc kc ng kg nv kv : Nat) (w : World) :
    Calls Try.prog 20 #[.agg #[.int .i64 k, .int .i64 f, .int .i64 s, .int .i64 p, .int .i64 fl, .string mark, .slice am nl kl, .slice ab nb kb, .slice ac nc kc, .slice ag ng kg, .slice av nv kv, .int .i64 d0, .int .i64 d1, .int .i64 rc, .int .i64 lg]] w fun e w' => e = .returned (.agg #[.int .i64 k, .int .i64 f, .int .i64 s, .int .i64 p, .int .i64 fl, .int .i64 d0, .int .i64 d1, .int .i64 rc, .int .i64 lg]) ∧ Below w.heap.size w w' := by
  go_enter Try.func20, Try.ntmps20
  go_wp2_with fail
  refine bodyPost_ret (results_cell_row rfl _ _ (w.heap.size + 1) 54 #[.int .i64 k, .int .i64 f, .int .i64 s, .int .i64 p, .int .i64 fl, .int .i64 d0, .int .i64 d1, .int .i64 rc, .int .i64 lg] (0, 0) _ rfl (blk_at (by simp)) Try.underlying54 rfl infoNine) rfl ?_
  exact ⟨rfl, bNew (bOld _) _⟩
end Go.Proofs.Ytfpjdmplepepjaa

/-! WSame: Contexts and bags: are two the same? -/
namespace Go.Proofs.Ytfpjdmplepepjaa
open Go.RowKit

theorem SlP.rows {w : World} {ao : Option Addr} {ps : List Dot2} (h : SlP w ao ps) : SlE eDot 2 w ao ps := by
  intro k hk
  obtain ⟨b, off, h1, h2, h3⟩ := h k hk
  refine ⟨b, off, h1, h2, fun j p hj c u hu => ?_⟩
  obtain ⟨g0, g1⟩ := h3 j p hj
  match c, hu with
  | 0, hu => obtain rfl := Option.some.inj hu; exact g0
  | 1, hu => obtain rfl := Option.some.inj hu; exact g1
  | c + 2, hu => simp [eDot] at hu

set_option maxRecDepth 100000 in
set_option maxHeartbeats 4000000 in
theorem ctxsame_any (a1 a2 b1 b2 : Option Addr) (n1 k1 n2 k2 m1 j1 m2 j2 : Nat) (bs cl bs' cl' : List Dot2) (h1 : Hid (bs.length = n1)) (h2 : Hid (cl.length = n2)) (h3 : Hid (bs'.length = m1)) (h4 : Hid (cl'.length = m2)) (hm : n1 ≤ 1000000) (hm2 : n2 ≤ 1000000) (r : Bool) (hr : Hid (r = true ↔ bs = bs' ∧ cl = cl')) (w : World) (s1 : SlP w a1 bs) (s2 : SlP w a2 cl) (s3 : SlP w b1 bs') (s4 : SlP w b2 cl') :
    Calls Try.prog 82 #[.agg #[.slice a1 n1 k1, .slice a2 n2 k2], .agg #[.slice b1 m1 j1, .slice b2 m2 j2]] w fun e w' => e = .returned (.bool r) ∧ Below w.heap.size w w' := by
  obtain ⟨wa, hwa⟩ := nm (w.alloc (.cells #[.slice a1 n1 k1, .slice a2 n2 k2] 25))
  obtain ⟨w0, hw0⟩ := nm (wa.alloc (.cells #[.slice b1 m1 j1, .slice b2 m2 j2] 25))
  obtain ⟨x, hx⟩ := nm w.heap.size
  obtain ⟨y, hy⟩ := nm wa.heap.size
  have Kx : Hid (Blk w0 x #[.slice a1 n1 k1, .slice a2 n2 k2] 25) := by show Blk _ _ _ _; rw [hw0.out]; exact (blkN hwa.out hx.out).alloc _
  have Ky : Hid (Blk w0 y #[.slice b1 m1 j1, .slice b2 m2 j2] 25) := blkN hw0.out hy.out
  have HB0 : Hid (Below w.heap.size w w0) := by rw [hw0.out, hwa.out]; exact bNew (bOld _) _
  have HS1 : Hid (SlE eDot 2 w0 a1 bs) := (s1.below HB0.out).rows
  have HS2 : Hid (SlE eDot 2 w0 a2 cl) := (s2.below HB0.out).rows
  have HS3 : Hid (SlE eDot 2 w0 b1 bs') := (s3.below HB0.out).rows
  have HS4 : Hid (SlE eDot 2 w0 b2 cl') := (s4.below HB0.out).rows
  have HSZ : Hid (x + 1 = y) := by show _ = _; rw [hy.out, hwa.out, hx.out]; simp
  clear s1 s2 s3 s4
  obtain ⟨A, hA⟩ := nm (decide (bs = bs'))
  obtain ⟨B, hB⟩ := nm (decide (cl = cl'))
  have hR : Hid (r = (A && B)) := by
    show _ = _
    rw [Bool.eq_iff_iff, hr.out, hA.out, hB.out, Bool.and_eq_true, decide_eq_true_iff, decide_eq_true_iff]
  go_enter Try.func82, Try.ntmps82
  go_upto_region 1 with fail
  rw [← hwa.out, ← hw0.out, ← hx.out]
  rw [HSZ.out]
  have c0 : w0.cell? ⟨x, 0, none⟩ = some (.slice a1 n1 k1) := Kx.out.cell 0
  have c1 : w0.cell? ⟨x, 1, none⟩ = some (.slice a2 n2 k2) := Kx.out.cell 1
  have d0 : w0.cell? ⟨y, 0, none⟩ = some (.slice b1 m1 j1) := Ky.out.cell 0
  have d1 : w0.cell? ⟨y, 1, none⟩ = some (.slice b2 m2 j2) := Ky.out.cell 1
  go_wp2_with fail
  refine (eqdots_any a1 b1 k1 j1 n1 m1 bs bs' h1 h3 _ (by omega) HS1.out HS3.out A hA).mono ?_; rintro e w1 ⟨rfl, q, rfl⟩
  cases A
  · obtain rfl : r = false := by rw [hR.out]; rfl
    go_wp2_with fail
    go_ret
    exact ⟨rfl, bDrewN HB0.out _⟩
  · obtain rfl : r = B := by rw [hR.out]; simp
    go_wp2_with fail
    refine (eqdots_any a2 b2 k2 j2 n2 m2 cl cl' h2 h4 _ (by omega) (HS2.out.below (bDrewN (Below.refl _ _) _)) (HS4.out.below (bDrewN (Below.refl _ _) _)) r hB).mono ?_; rintro e w1 ⟨rfl, q', rfl⟩
    go_wp2_with fail
    go_ret
    exact ⟨rfl, bDrewN HB0.out _⟩

set_option maxRecDepth 100000 in
set_option maxHeartbeats 4000000 in
theorem bagsame_any (am ab ac am' ab' ac' : Option Addr) (nl kl nb kb nc kc nl' kl' nb' kb' nc' kc' : Nat) (live live' : List Msg5) (bs cl bs' cl' : List Dot2) (h0 : Hid (live.length = nl)) (h1 : Hid (bs.length = nb)) (h2 : Hid (cl.length = nc)) (h0' : Hid (live'.length = nl')) (h3 : Hid (bs'.length = nb')) (h4 : Hid (cl'.length = nc')) (hm0 : nl ≤ 1000000) (hm : nb ≤ 1000000) (hm2 : nc ≤ 1000000) (r : Bool) (hr : Hid (r = true ↔ live = live' ∧ bs = bs' ∧ cl = cl')) (w : World) (s0 : SlE eMsg 5 w am live) (s1 : SlP w ab bs) (s2 : SlP w ac cl) (s0' : SlE eMsg 5 w am' live') (s3 : SlP w ab' bs') (s4 : SlP w ac' cl') :
    Calls Try.prog 45 #[.agg #[.slice am nl kl, .slice ab nb kb, .slice ac nc kc], .agg #[.slice am' nl' kl', .slice ab' nb' kb', .slice ac' nc' kc']] w fun e w' => e = .returned (.bool r) ∧ Below w.heap.size w w' := by
  obtain ⟨wa, hwa⟩ := nm (w.alloc (.cells #[.slice am nl kl, .slice ab nb kb, .slice ac nc kc] 27))
  obtain ⟨w0, hw0⟩ := nm (wa.alloc (.cells #[.slice am' nl' kl', .slice ab' nb' kb', .slice ac' nc' kc'] 27))
  obtain ⟨x, hx⟩ := nm w.heap.size
  obtain ⟨y, hy⟩ := nm wa.heap.size
  have Kx : Hid (Blk w0 x #[.slice am nl kl, .slice ab nb kb, .slice ac nc kc] 27) := by show Blk _ _ _ _; rw [hw0.out]; exact (blkN hwa.out hx.out).alloc _
  have Ky : Hid (Blk w0 y #[.slice am' nl' kl', .slice ab' nb' kb', .slice ac' nc' kc'] 27) := blkN hw0.out hy.out
  have HB0 : Hid (Below w.heap.size w w0) := by rw [hw0.out, hwa.out]; exact bNew (bOld _) _
  have HS0 : Hid (SlE eMsg 5 w0 am live) := s0.below HB0.out
  have HS0' : Hid (SlE eMsg 5 w0 am' live') := s0'.below HB0.out
  have HS1 : Hid (SlP w0 ab bs) := s1.below HB0.out
  have HS2 : Hid (SlP w0 ac cl) := s2.below HB0.out
  have HS3 : Hid (SlP w0 ab' bs') := s3.below HB0.out
  have HS4 : Hid (SlP w0 ac' cl') := s4.below HB0.out
  have HSZ : Hid (x + 1 = y) := by show _ = _; rw [hy.out, hwa.out, hx.out]; simp
  clear s1 s2 s3 s4 s0 s0'
  obtain ⟨A, hA, hAf, hAt⟩ := boolOf (bs = bs' ∧ cl = cl')
  obtain ⟨B, hB, hBf, hBt⟩ := boolOf (live = live')
  have hR : Hid (r = (A && B)) := by
    show _ = _
    rw [Bool.eq_iff_iff, hr.out, Bool.and_eq_true, hA.out, hB.out]
    exact ⟨fun h => ⟨h.2, h.1⟩, fun h => ⟨h.2, h.1⟩⟩
  go_enter Try.func45, Try.ntmps45
  go_upto_region 1 with fail
  rw [← hwa.out, ← hw0.out, ← hx.out]
  rw [HSZ.out]
  have c0 : w0.cell? ⟨x, 0, none⟩ = some (.slice am nl kl) := Kx.out.cell 0
  have d0 : w0.cell? ⟨y, 0, none⟩ = some (.slice am' nl' kl') := Ky.out.cell 0
  have c1 : w0.cell? ⟨x, 1, none⟩ = some (.slice ab nb kb) := Kx.out.cell 1
  have d1 : w0.cell? ⟨y, 1, none⟩ = some (.slice ab' nb' kb') := Ky.out.cell 1
  have c2 : w0.cell? ⟨x, 2, none⟩ = some (.slice ac nc kc) := Kx.out.cell 2
  have d2 : w0.cell? ⟨y, 2, none⟩ = some (.slice ac' nc' kc') := Ky.out.cell 2
  go_wp2_with fail
  refine (ctxsame_any ab ac ab' ac' nb kb nc kc nb' kb' nc' kc' bs cl bs' cl' h1 h2 h3 h4 hm hm2 A hA _ HS1.out HS2.out HS3.out HS4.out).mono ?_; rintro e w1 ⟨rfl, hB1⟩
  replace Kx := Lib.hid (Kx.out.below hB1 Kx.out.lt)
  replace Ky := Lib.hid (Ky.out.below hB1 Ky.out.lt)
  replace HB0 := Lib.hid (bNext HB0.out hB1)
  replace HS0 := Lib.hid (HS0.out.below hB1)
  replace HS0' := Lib.hid (HS0'.out.below hB1)
  clear hB1 c0 d0 c1 d1 c2 d2
  have c0 : w1.cell? ⟨x, 0, none⟩ = some (.slice am nl kl) := Kx.out.cell 0
  have d0 : w1.cell? ⟨y, 0, none⟩ = some (.slice am' nl' kl') := Ky.out.cell 0
  cases A
  · obtain rfl : r = false := by rw [hR.out]; rfl
    go_wp2_with fail
    go_ret
    exact ⟨rfl, HB0.out⟩
  · obtain rfl : r = B := by rw [hR.out]; simp
    go_wp2_with fail
    refine (eqmsgs_any am am' kl kl' nl nl' live live' h0 h0' _ (by omega) HS0.out HS0'.out r hB).mono ?_; rintro e w1 ⟨rfl, q', rfl⟩
    go_wp2_with fail
    go_ret
    exact ⟨rfl, bDrewN HB0.out _⟩

set_option maxRecDepth 100000 in
set_option maxHeartbeats 4000000 in
theorem sametags_any (a1 a2 : Option Addr) (c1 c2 n m : Nat) (xs ys : List Tag2) (hx : Hid (xs.length = n)) (hy : Hid (ys.length = m)) (w : World) (hlen : n ≤ 1000000) (h1 : SlE eTag 2 w a1 xs) (h2 : SlE eTag 2 w a2 ys) (r : Bool) (hr : Hid (r = decide (xs = ys))) :
    Calls Try.prog 46 #[.slice a1 n c1, .slice a2 m c2] w fun e w' => e = .returned (.bool r) ∧ ∃ q, w' = w.drewN q := by
  have H1 := Lib.hid h1
  have H2 := Lib.hid h2
  clear h1 h2
  go_enter Try.func46, Try.ntmps46
  go_wp2_with fail
  refine (eqtags_any a1 a2 c1 c2 n m xs ys hx hy _ (by omega) H1.out H2.out r hr).mono ?_; rintro e w1 ⟨rfl, q, rfl⟩
  go_wp2_with fail
  go_ret
  exact ⟨rfl, q, rfl⟩

set_option maxRecDepth 100000 in
set_option maxHeartbeats 4000000 in
theorem sameview_any (a1 a2 : Option Addr) (c1 c2 n m : Nat) (xs ys : List Peer3) (hx : Hid (xs.length = n)) (hy : Hid (ys.length = m)) (w : World) (hlen : n ≤ 1000000) (h1 : SlE ePeer 3 w a1 xs) (h2 : SlE ePeer 3 w a2 ys) (r : Bool) (hr : Hid (r = decide (xs = ys))) :
    Calls Try.prog 47 #[.slice a1 n c1, .slice a2 m c2] w fun e w' => e = .returned (.bool r) ∧ ∃ q, w' = w.drewN q := by
  have H1 := Lib.hid h1
  have H2 := Lib.hid h2
  clear h1 h2
  go_enter Try.func47, Try.ntmps47
  go_wp2_with fail
  refine (eqpeers_any a1 a2 c1 c2 n m xs ys hx hy _ (by omega) H1.out H2.out r hr).mono ?_; rintro e w1 ⟨rfl, q, rfl⟩
  go_wp2_with fail
  go_ret
  exact ⟨rfl, q, rfl⟩
end Go.Proofs.Ytfpjdmplepepjaa

/-! WireBytes: Wire's Bytes, of what has no lists. -/
namespace Go.Proofs.Ytfpjdmplepepjaa
open Go.RowKit

/-- What is written of numbers alone. -/
def wireL (zs : List Int) : List UInt8 := numsL zs ++ [0, 0, 0, 0, 0, 0]
theorem SlAt.ofBlk {w : World} {b : Nat} {t : TypeId} {zs : List Int} (h : Blk w b (zs.map (Value.int .i64)).toArray t) : SlAt w (some ⟨b, 0, none⟩) (zs.map (Value.int .i64)) := by
  intro k _
  refine ⟨b, 0, rfl, h.lt, fun j _ => ?_⟩
  rw [h.cell, Nat.zero_add]
  simp
set_option maxRecDepth 100000 in
set_option maxHeartbeats 8000000 in
theorem bytes_ok (k f s p fl d0 d1 rc lg : Int) (h : 1 ≤ k ∧ k ≤ 8 ∧ 1 ≤ f ∧ f ≤ 1099511627776 ∧ 0 ≤ s ∧ s ≤ 1099511627776 ∧ 0 ≤ p ∧ p ≤ 15 ∧ 0 ≤ fl ∧ fl ≤ 1 ∧ 0 ≤ rc ∧ rc ≤ 1099511627776 ∧ 0 ≤ lg ∧ lg ≤ 1073741824) (hd : d0 = 0 ∧ d1 = 0 ∨ (1 ≤ d0 ∧ d0 ≤ 1099511627776) ∧ 1 ≤ d1 ∧ d1 ≤ 1099511627776) (w : World) :
    Calls Try.prog 10 #[.agg #[.int .i64 k, .int .i64 f, .int .i64 s, .int .i64 p, .int .i64 fl, .string ⟨#[]⟩, .slice none 0 0, .slice none 0 0, .slice none 0 0, .slice none 0 0, .slice none 0 0, .int .i64 d0, .int .i64 d1, .int .i64 rc, .int .i64 lg]] w fun e w' => e = .returned (.tuple #[.string (ofL (wireL [k, f, s, p, fl, d0, d1, rc, lg])), .int .i64 0]) ∧ Below w.heap.size w w' := by
  obtain ⟨w0, hw0⟩ := nm (w.alloc (.cells #[.int .i64 k, .int .i64 f, .int .i64 s, .int .i64 p, .int .i64 fl, .string ⟨#[]⟩, .slice none 0 0, .slice none 0 0, .slice none 0 0, .slice none 0 0, .slice none 0 0, .int .i64 d0, .int .i64 d1, .int .i64 rc, .int .i64 lg] 33))
  obtain ⟨x, hx⟩ := nm w.heap.size
  have Kx : Hid (Blk w0 x #[.int .i64 k, .int .i64 f, .int .i64 s, .int .i64 p, .int .i64 fl, .string ⟨#[]⟩, .slice none 0 0, .slice none 0 0, .slice none 0 0, .slice none 0 0, .slice none 0 0, .int .i64 d0, .int .i64 d1, .int .i64 rc, .int .i64 lg] 33) := by show Blk _ _ _ _; rw [hw0.out, hx.out]; exact Blk.new _ _ _
  have HB0 : Hid (Below w.heap.size w w0) := by rw [hw0.out]; exact bOld _
  have HCK := Lib.hid (check_ok k f s p fl d0 d1 rc lg h hd w0)
  have hz : ∀ z ∈ ([k, f, s, p, fl, d0, d1, rc, lg] : List Int), z ≤ 9223372036854775807 := by
    intro z hz
    simp only [List.mem_cons, List.not_mem_nil, or_false] at hz
    rcases hz with rfl | rfl | rfl | rfl | rfl | rfl | rfl | rfl | rfl <;> omega
  have HZ := Lib.hid hz
  obtain ⟨zs, hzs⟩ := nm ([k, f, s, p, fl, d0, d1, rc, lg] : List Int)
  have hzl : Hid (zs.length = 9) := by show _ = _; rw [hzs.out]; rfl
  rw [← hzs.out]
  rw [← hzs.out] at HZ
  clear h hd hz
  go_enter Try.func10, Try.ntmps10
  go_upto_region 1 with fail
  rw [← hw0.out, ← hx.out]
  have c0 : w0.cell? ⟨x, 0, none⟩ = some (.int .i64 k) := Kx.out.cell 0
  have c1 : w0.cell? ⟨x, 1, none⟩ = some (.int .i64 f) := Kx.out.cell 1
  have c2 : w0.cell? ⟨x, 2, none⟩ = some (.int .i64 s) := Kx.out.cell 2
  have c3 : w0.cell? ⟨x, 3, none⟩ = some (.int .i64 p) := Kx.out.cell 3
  have c4 : w0.cell? ⟨x, 4, none⟩ = some (.int .i64 fl) := Kx.out.cell 4
  have c5 : w0.cell? ⟨x, 5, none⟩ = some (.string ⟨#[]⟩) := Kx.out.cell 5
  have c6 : w0.cell? ⟨x, 6, none⟩ = some (.slice none 0 0) := Kx.out.cell 6
  have c7 : w0.cell? ⟨x, 7, none⟩ = some (.slice none 0 0) := Kx.out.cell 7
  have c8 : w0.cell? ⟨x, 8, none⟩ = some (.slice none 0 0) := Kx.out.cell 8
  have c9 : w0.cell? ⟨x, 9, none⟩ = some (.slice none 0 0) := Kx.out.cell 9
  have c10 : w0.cell? ⟨x, 10, none⟩ = some (.slice none 0 0) := Kx.out.cell 10
  have c11 : w0.cell? ⟨x, 11, none⟩ = some (.int .i64 d0) := Kx.out.cell 11
  have c12 : w0.cell? ⟨x, 12, none⟩ = some (.int .i64 d1) := Kx.out.cell 12
  have c13 : w0.cell? ⟨x, 13, none⟩ = some (.int .i64 rc) := Kx.out.cell 13
  have c14 : w0.cell? ⟨x, 14, none⟩ = some (.int .i64 lg) := Kx.out.cell 14
  go_wp2_with fail
  refine HCK.out.mono ?_; rintro e w1 ⟨rfl, hB1⟩
  replace Kx := Lib.hid (Kx.out.below hB1 Kx.out.lt)
  have HB1 := Lib.hid (bNext HB0.out hB1)
  clear hB1 c0 c1 c2 c3 c4 c5 c6 c7 c8 c9 c10 c11 c12 c13 c14
  have c0 : w1.cell? ⟨x, 0, none⟩ = some (.int .i64 k) := Kx.out.cell 0
  have c1 : w1.cell? ⟨x, 1, none⟩ = some (.int .i64 f) := Kx.out.cell 1
  have c2 : w1.cell? ⟨x, 2, none⟩ = some (.int .i64 s) := Kx.out.cell 2
  have c3 : w1.cell? ⟨x, 3, none⟩ = some (.int .i64 p) := Kx.out.cell 3
  have c4 : w1.cell? ⟨x, 4, none⟩ = some (.int .i64 fl) := Kx.out.cell 4
  have c5 : w1.cell? ⟨x, 5, none⟩ = some (.string ⟨#[]⟩) := Kx.out.cell 5
  have c6 : w1.cell? ⟨x, 6, none⟩ = some (.slice none 0 0) := Kx.out.cell 6
  have c7 : w1.cell? ⟨x, 7, none⟩ = some (.slice none 0 0) := Kx.out.cell 7
  have c8 : w1.cell? ⟨x, 8, none⟩ = some (.slice none 0 0) := Kx.out.cell 8
  have c9 : w1.cell? ⟨x, 9, none⟩ = some (.slice none 0 0) := Kx.out.cell 9
  have c10 : w1.cell? ⟨x, 10, none⟩ = some (.slice none 0 0) := Kx.out.cell 10
  have c11 : w1.cell? ⟨x, 11, none⟩ = some (.int .i64 d0) := Kx.out.cell 11
  have c12 : w1.cell? ⟨x, 12, none⟩ = some (.int .i64 d1) := Kx.out.cell 12
  have c13 : w1.cell? ⟨x, 13, none⟩ = some (.int .i64 rc) := Kx.out.cell 13
  have c14 : w1.cell? ⟨x, 14, none⟩ = some (.int .i64 lg) := Kx.out.cell 14
  go_wp2_with fail
  refine (numbers_any k f s p fl d0 d1 rc lg _).mono ?_; rintro e w2 ⟨rfl, hB2⟩
  obtain ⟨y, hy⟩ := nm w2.heap.size
  obtain ⟨w3, hw3⟩ := nm (w2.alloc (.cells #[.int .i64 k, .int .i64 f, .int .i64 s, .int .i64 p, .int .i64 fl, .int .i64 d0, .int .i64 d1, .int .i64 rc, .int .i64 lg] 54))
  replace Kx : Hid (Blk w3 x #[.int .i64 k, .int .i64 f, .int .i64 s, .int .i64 p, .int .i64 fl, .string ⟨#[]⟩, .slice none 0 0, .slice none 0 0, .slice none 0 0, .slice none 0 0, .slice none 0 0, .int .i64 d0, .int .i64 d1, .int .i64 rc, .int .i64 lg] 33) := by show Blk _ _ _ _; rw [hw3.out]; exact (Kx.out.below hB2 Kx.out.lt).alloc _
  have Ky : Hid (Blk w3 y #[.int .i64 k, .int .i64 f, .int .i64 s, .int .i64 p, .int .i64 fl, .int .i64 d0, .int .i64 d1, .int .i64 rc, .int .i64 lg] 54) := by show Blk _ _ _ _; rw [hw3.out, hy.out]; exact Blk.new _ _ _
  have HB3 : Hid (Below w.heap.size w w3) := by show Below _ _ _; rw [hw3.out]; exact bNew (bNext HB1.out hB2) _
  clear hB2 c0 c1 c2 c3 c4 c5 c6 c7 c8 c9 c10 c11 c12 c13 c14
  go_upto_region 4 with fail
  rw [← hw3.out, ← hy.out]
  have c5 : w3.cell? ⟨x, 5, none⟩ = some (.string ⟨#[]⟩) := Kx.out.cell 5
  have c6 : w3.cell? ⟨x, 6, none⟩ = some (.slice none 0 0) := Kx.out.cell 6
  have c7 : w3.cell? ⟨x, 7, none⟩ = some (.slice none 0 0) := Kx.out.cell 7
  have c8 : w3.cell? ⟨x, 8, none⟩ = some (.slice none 0 0) := Kx.out.cell 8
  have c9 : w3.cell? ⟨x, 9, none⟩ = some (.slice none 0 0) := Kx.out.cell 9
  have c10 : w3.cell? ⟨x, 10, none⟩ = some (.slice none 0 0) := Kx.out.cell 10
  have hlx : x < w3.heap.size := Kx.out.lt
  have HKEEP : Hid (∀ wa : World, Below w3.drew.heap.size w3.drew wa → wa.cell? ⟨x, 5, none⟩ = some (.string ⟨#[]⟩) ∧ wa.cell? ⟨x, 6, none⟩ = some (.slice none 0 0) ∧ wa.cell? ⟨x, 7, none⟩ = some (.slice none 0 0) ∧ wa.cell? ⟨x, 8, none⟩ = some (.slice none 0 0) ∧ wa.cell? ⟨x, 9, none⟩ = some (.slice none 0 0) ∧ wa.cell? ⟨x, 10, none⟩ = some (.slice none 0 0)) := by
    show ∀ wa : World, _
    intro wa h
    exact ⟨(h.cell (p := ⟨x, 5, none⟩) hlx).trans c5, (h.cell (p := ⟨x, 6, none⟩) hlx).trans c6, (h.cell (p := ⟨x, 7, none⟩) hlx).trans c7, (h.cell (p := ⟨x, 8, none⟩) hlx).trans c8, (h.cell (p := ⟨x, 9, none⟩) hlx).trans c9, (h.cell (p := ⟨x, 10, none⟩) hlx).trans c10⟩
  have hsl : SlAt w3.drew (some ⟨y, 0, none⟩) (zs.map (Value.int .i64)) := by rw [hzs.out]; exact SlAt.ofBlk (w := w3.drew) Ky.out
  obtain ⟨a1, ha1⟩ := nm (ofL (numsL zs))
  obtain ⟨z1, hz1⟩ := nm (ofL [0])
  obtain ⟨z3, hz3⟩ := nm (ofL [0, 0, 0])
  have HN : Hid (Calls Try.prog 21 #[.slice (some ⟨y, 0, none⟩) 9 9] w3.drew fun e w' => e = .returned (.string a1) ∧ Below w3.drew.heap.size w3.drew w') := by
    show Calls _ _ _ _ _
    rw [ha1.out]
    exact nums_any (some ⟨y, 0, none⟩) 9 9 zs hzl.out (by decide) HZ.out w3.drew hsl
  have HT : Hid (∀ w, Calls Try.prog 22 #[.string ⟨#[]⟩] w fun e w' => e = .returned (.string z1) ∧ Below w.heap.size w w') := by
    intro w
    have := text_any ⟨#[]⟩ w (by decide)
    rw [show ofL (textL (bl ⟨#[]⟩)) = z1 from by rw [hz1.out]; unfold textL; rw [show (bl ⟨#[]⟩).length = 0 from rfl, num0]; rfl] at this
    exact this
  have HG : Hid (∀ w, Calls Try.prog 23 #[.agg #[.slice none 0 0, .slice none 0 0, .slice none 0 0]] w fun e w' => e = .returned (.string z3) ∧ Below w.heap.size w w') := by intro w; rw [hz3.out]; exact bagb0 w
  have HM : Hid (∀ w, Calls Try.prog 24 #[.slice none 0 0] w fun e w' => e = .returned (.string z1) ∧ Below w.heap.size w w') := by intro w; rw [hz1.out]; exact namesb0 w
  have HV : Hid (∀ w, Calls Try.prog 25 #[.slice none 0 0] w fun e w' => e = .returned (.string z1) ∧ Below w.heap.size w w') := by intro w; rw [hz1.out]; exact viewb0 w
  have l1 : a1.size ≤ 100 := by
    rw [ha1.out, ofL_size]
    unfold numsL
    rw [List.length_append, hzl.out]
    have g1 := Pl.num_length_le 9 (by decide)
    have g2 := intsL_le zs HZ.out
    rw [hzl.out] at g2
    omega
  have m1 : z1.size = 1 := by rw [hz1.out, ofL_size]; rfl
  have m3 : z3.size = 3 := by rw [hz3.out, ofL_size]; rfl
  have n2 : (a1 ++ z1).size = a1.size + 1 := by rw [ByteArray.size_append, m1]
  have n3 : (a1 ++ z1 ++ z3).size = a1.size + 4 := by rw [ByteArray.size_append, n2, m3]
  have n4 : (a1 ++ z1 ++ z3 ++ z1).size = a1.size + 5 := by rw [ByteArray.size_append, n3, m1]
  have n5 : (a1 ++ z1 ++ z3 ++ z1 ++ z1).size = a1.size + 6 := by rw [ByteArray.size_append, n4, m1]
  have k2 := fun w : World => run_string_add_sum (P := Try.prog) w a1 z1 (by omega)
  have k3 := fun w : World => run_string_add_sum (P := Try.prog) w (a1 ++ z1) z3 (by omega)
  have k4 := fun w : World => run_string_add_sum (P := Try.prog) w (a1 ++ z1 ++ z3) z1 (by omega)
  have k5 := fun w : World => run_string_add_sum (P := Try.prog) w (a1 ++ z1 ++ z3 ++ z1) z1 (by omega)
  have HF : Hid (a1 ++ z1 ++ z3 ++ z1 ++ z1 = ofL (wireL zs)) := by
    show _ = _
    rw [ha1.out, hz1.out, hz3.out, ofL_append, ofL_append, ofL_append, ofL_append]
    unfold wireL
    simp only [List.append_assoc]; rfl
  have HS5 : Hid ((a1 ++ z1 ++ z3 ++ z1 ++ z1).size ≤ 200) := by show _ ≤ _; omega
  clear n2 n3 n4 n5 m1 m3 l1 hsl
  go_region_held3 (fun w' => w'.cell? ⟨x, 5, none⟩ = some (.string ⟨#[]⟩) ∧ w'.cell? ⟨x, 6, none⟩ = some (.slice none 0 0) ∧ w'.cell? ⟨x, 7, none⟩ = some (.slice none 0 0) ∧ w'.cell? ⟨x, 8, none⟩ = some (.slice none 0 0) ∧ w'.cell? ⟨x, 9, none⟩ = some (.slice none 0 0) ∧ w'.cell? ⟨x, 10, none⟩ = some (.slice none 0 0))
    (first
      | exact HKEEP.out _ (bNext (bNext (bNext (bNext hb1 hb2) hb3) hb4) hb5)
      | exact HKEEP.out _ (bNext (bNext (bNext hb1 hb2) hb3) hb4)
      | exact HKEEP.out _ (bNext (bNext hb1 hb2) hb3)
      | exact HKEEP.out _ (bNext hb1 hb2)
      | exact HKEEP.out _ hb1
      | exact ⟨cell_dr c5, cell_dr c6, cell_dr c7, cell_dr c8, cell_dr c9, cell_dr c10⟩
      | exact ⟨c5, c6, c7, c8, c9, c10⟩)
    (first
      | (go_at_call 21; refine HN.out.mono ?_; rintro e v1 ⟨rfl, hb1⟩)
      | (go_at_call 22; with_reducible (refine (HT.out _).mono ?_); rintro e v2 ⟨rfl, hb2⟩)
      | (go_at_call 23; with_reducible (refine (HG.out _).mono ?_); rintro e v3 ⟨rfl, hb3⟩)
      | (go_at_call 24; with_reducible (refine (HM.out _).mono ?_); rintro e v4 ⟨rfl, hb4⟩)
      | (go_at_call 25; with_reducible (refine (HV.out _).mono ?_); rintro e v5 ⟨rfl, hb5⟩))
  have HBF := Lib.hid (bNext (bDrew HB3.out) (bNext (bNext (bNext (bNext hb1 hb2) hb3) hb4) hb5))
  obtain ⟨R, hR⟩ := nm (a1 ++ z1 ++ z3 ++ z1 ++ z1)
  rw [← hR.out] at HF HS5
  rw [← hR.out]
  have hRs : R.size ≤ 200 := HS5.out
  clear hb1 hb2 hb3 hb4 hb5 k2 k3 k4 k5 c5 c6 c7 c8 c9 c10
  go_wp2_with fail
  refine bodyPost_ret (v := .tuple #[.string R, .int .i64 0]) (by simp [results, Try.results10, go_sem]) rfl ?_
  exact ⟨by rw [← HF.out], HBF.out⟩
end Go.Proofs.Ytfpjdmplepepjaa

/-! WWire: Wire as bytes. -/
namespace Go.Proofs.Ytfpjdmplepepjaa
open Go.RowKit

/-- What Bytes tells. -/
def Said (m : WL) (T : ByteArray) (E : Int) : Prop :=
  (¬ m.May ∧ T = ⟨#[]⟩ ∧ E = 1) ∨ (m.May ∧ 8000 < m.bytes.length ∧ T = ⟨#[]⟩ ∧ E = 11) ∨ (m.May ∧ m.bytes.length ≤ 8000 ∧ T = ofL m.bytes ∧ E = 0)
theorem said_is (m : WL) : ∃ T E, Said m T E := by
  by_cases h : m.May
  · by_cases g : m.bytes.length ≤ 8000
    · exact ⟨_, _, .inr (.inr ⟨h, g, rfl, rfl⟩)⟩
    · exact ⟨_, _, .inr (.inl ⟨h, by omega, rfl, rfl⟩)⟩
  · exact ⟨_, _, .inl ⟨h, rfl, rfl⟩⟩
set_option maxRecDepth 100000 in
set_option maxHeartbeats 4000000 in
theorem wbytes_any (k f s p fl d0 d1 rc lg : Int) (mark : ByteArray) (am ab ac ag av : Option Addr) (nl kl nb kb nc kc ng kg nv kv : Nat) (live : List Msg5) (bs cl : List Dot2) (tags : List Tag2) (view : List Peer3) (T : ByteArray) (E : Int) (hT : Hid (Said (WL.mk k f s p fl d0 d1 rc lg mark live bs cl tags view) T E)) (w : World) (hL : Lies w am ab ac ag av nl nb nc ng nv live bs cl tags view) :
    Calls Try.prog 10 #[.agg #[.int .i64 k, .int .i64 f, .int .i64 s, .int .i64 p, .int .i64 fl, .string mark, .slice am nl kl, .slice ab nb kb, .slice ac nc kc, .slice ag ng kg, .slice av nv kv, .int .i64 d0, .int .i64 d1, .int .i64 rc, .int .i64 lg]] w fun e w' => e = .returned (.tuple #[.string T, .int .i64 E]) ∧ Below w.heap.size w w' := by
  obtain ⟨w0, hw0⟩ := nm (w.alloc (.cells #[.int .i64 k, .int .i64 f, .int .i64 s, .int .i64 p, .int .i64 fl, .string mark, .slice am nl kl, .slice ab nb kb, .slice ac nc kc, .slice ag ng kg, .slice av nv kv, .int .i64 d0, .int .i64 d1, .int .i64 rc, .int .i64 lg] 33))
  obtain ⟨x, hx⟩ := nm w.heap.size
  have Kx : Hid (Blk w0 x #[.int .i64 k, .int .i64 f, .int .i64 s, .int .i64 p, .int .i64 fl, .string mark, .slice am nl kl, .slice ab nb kb, .slice ac nc kc, .slice ag ng kg, .slice av nv kv, .int .i64 d0, .int .i64 d1, .int .i64 rc, .int .i64 lg] 33) := blkN hw0.out hx.out
  have HB0 : Hid (Below w.heap.size w w0) := by rw [hw0.out]; exact bOld _
  have HL : Hid (Lies w0 am ab ac ag av nl nb nc ng nv live bs cl tags view) := hL.below HB0.out
  clear hL
  obtain ⟨r, hr, hrf, hrt⟩ := boolOf (WL.mk k f s p fl d0 d1 rc lg mark live bs cl tags view).May
  have HCK : Hid (Calls Try.prog 12 #[.agg #[.int .i64 k, .int .i64 f, .int .i64 s, .int .i64 p, .int .i64 fl, .string mark, .slice am nl kl, .slice ab nb kb, .slice ac nc kc, .slice ag ng kg, .slice av nv kv, .int .i64 d0, .int .i64 d1, .int .i64 rc, .int .i64 lg]] w0 fun e w' => e = .returned (.int .i64 (errno r)) ∧ Below w0.heap.size w0 w') := wcheck_any k f s p fl d0 d1 rc lg mark am ab ac ag av nl kl nb kb nc kc ng kg nv kv live bs cl tags view r hr (errno r) rfl w0 HL.out
  go_enter Try.func10, Try.ntmps10
  go_upto_region 1 with fail
  rw [← hw0.out, ← hx.out]
  have c0 : w0.cell? ⟨x, 0, none⟩ = some (.int .i64 k) := Kx.out.cell 0
  have c1 : w0.cell? ⟨x, 1, none⟩ = some (.int .i64 f) := Kx.out.cell 1
  have c2 : w0.cell? ⟨x, 2, none⟩ = some (.int .i64 s) := Kx.out.cell 2
  have c3 : w0.cell? ⟨x, 3, none⟩ = some (.int .i64 p) := Kx.out.cell 3
  have c4 : w0.cell? ⟨x, 4, none⟩ = some (.int .i64 fl) := Kx.out.cell 4
  have c5 : w0.cell? ⟨x, 5, none⟩ = some (.string mark) := Kx.out.cell 5
  have c6 : w0.cell? ⟨x, 6, none⟩ = some (.slice am nl kl) := Kx.out.cell 6
  have c7 : w0.cell? ⟨x, 7, none⟩ = some (.slice ab nb kb) := Kx.out.cell 7
  have c8 : w0.cell? ⟨x, 8, none⟩ = some (.slice ac nc kc) := Kx.out.cell 8
  have c9 : w0.cell? ⟨x, 9, none⟩ = some (.slice ag ng kg) := Kx.out.cell 9
  have c10 : w0.cell? ⟨x, 10, none⟩ = some (.slice av nv kv) := Kx.out.cell 10
  have c11 : w0.cell? ⟨x, 11, none⟩ = some (.int .i64 d0) := Kx.out.cell 11
  have c12 : w0.cell? ⟨x, 12, none⟩ = some (.int .i64 d1) := Kx.out.cell 12
  have c13 : w0.cell? ⟨x, 13, none⟩ = some (.int .i64 rc) := Kx.out.cell 13
  have c14 : w0.cell? ⟨x, 14, none⟩ = some (.int .i64 lg) := Kx.out.cell 14
  go_wp2_with fail
  refine HCK.out.mono ?_; rintro e w1 ⟨rfl, hB1⟩
  replace Kx := Lib.hid (Kx.out.below hB1 Kx.out.lt)
  have HB1 := Lib.hid (bNext HB0.out hB1)
  replace HL := Lib.hid (HL.out.below hB1)
  clear HCK hB1
  clear c0 c1 c2 c3 c4 c5 c6 c7 c8 c9 c10 c11 c12 c13 c14
  cases r
  · have HE : Hid (T = ⟨#[]⟩ ∧ E = 1) := by
      rcases hT.out with h | h | h
      · exact h.2
      · exact absurd h.1 (hrf.out rfl)
      · exact absurd h.1 (hrf.out rfl)
    obtain ⟨rfl, rfl⟩ := HE.out
    simp only [errno]
    go_wp2_with fail
    refine bodyPost_ret (v := .tuple #[.string ⟨#[]⟩, .int .i64 1]) (by simp [results, Try.results10, go_sem]) rfl ?_
    exact ⟨rfl, HB1.out⟩
  have HMY : Hid (WL.mk k f s p fl d0 d1 rc lg mark live bs cl tags view).May := hrt.out rfl
  have HUP : Hid (WL.mk k f s p fl d0 d1 rc lg mark live bs cl tags view).Ups := HMY.out.ups (by simp only; rw [HL.out.l0.out]; exact HL.out.m0) (by simp only; rw [HL.out.l1.out]; exact HL.out.m1) (by simp only; rw [HL.out.l2.out]; exact HL.out.m2)
  simp only [errno]
  have c0 : w1.cell? ⟨x, 0, none⟩ = some (.int .i64 k) := Kx.out.cell 0
  have c1 : w1.cell? ⟨x, 1, none⟩ = some (.int .i64 f) := Kx.out.cell 1
  have c2 : w1.cell? ⟨x, 2, none⟩ = some (.int .i64 s) := Kx.out.cell 2
  have c3 : w1.cell? ⟨x, 3, none⟩ = some (.int .i64 p) := Kx.out.cell 3
  have c4 : w1.cell? ⟨x, 4, none⟩ = some (.int .i64 fl) := Kx.out.cell 4
  have c5 : w1.cell? ⟨x, 5, none⟩ = some (.string mark) := Kx.out.cell 5
  have c6 : w1.cell? ⟨x, 6, none⟩ = some (.slice am nl kl) := Kx.out.cell 6
  have c7 : w1.cell? ⟨x, 7, none⟩ = some (.slice ab nb kb) := Kx.out.cell 7
  have c8 : w1.cell? ⟨x, 8, none⟩ = some (.slice ac nc kc) := Kx.out.cell 8
  have c9 : w1.cell? ⟨x, 9, none⟩ = some (.slice ag ng kg) := Kx.out.cell 9
  have c10 : w1.cell? ⟨x, 10, none⟩ = some (.slice av nv kv) := Kx.out.cell 10
  have c11 : w1.cell? ⟨x, 11, none⟩ = some (.int .i64 d0) := Kx.out.cell 11
  have c12 : w1.cell? ⟨x, 12, none⟩ = some (.int .i64 d1) := Kx.out.cell 12
  have c13 : w1.cell? ⟨x, 13, none⟩ = some (.int .i64 rc) := Kx.out.cell 13
  have c14 : w1.cell? ⟨x, 14, none⟩ = some (.int .i64 lg) := Kx.out.cell 14
  go_wp2_with fail
  refine (nums_is k f s p fl d0 d1 rc lg mark am ab ac ag av nl kl nb kb nc kc ng kg nv kv _).mono ?_; rintro e w2 ⟨rfl, hB2⟩
  obtain ⟨y, hy⟩ := nm w2.heap.size
  obtain ⟨w3, hw3⟩ := nm (w2.alloc (.cells #[.int .i64 k, .int .i64 f, .int .i64 s, .int .i64 p, .int .i64 fl, .int .i64 d0, .int .i64 d1, .int .i64 rc, .int .i64 lg] 54))
  replace Kx : Hid (Blk w3 x #[.int .i64 k, .int .i64 f, .int .i64 s, .int .i64 p, .int .i64 fl, .string mark, .slice am nl kl, .slice ab nb kb, .slice ac nc kc, .slice ag ng kg, .slice av nv kv, .int .i64 d0, .int .i64 d1, .int .i64 rc, .int .i64 lg] 33) := by show Blk _ _ _ _; rw [hw3.out]; exact (Kx.out.below hB2 Kx.out.lt).alloc _
  have Ky : Hid (Blk w3 y #[.int .i64 k, .int .i64 f, .int .i64 s, .int .i64 p, .int .i64 fl, .int .i64 d0, .int .i64 d1, .int .i64 rc, .int .i64 lg] 54) := blkN hw3.out hy.out
  have HB3 : Hid (Below w.heap.size w w3) := by show Below _ _ _; rw [hw3.out]; exact bNew (bNext HB1.out hB2) _
  replace HL : Hid (Lies w3 am ab ac ag av nl nb nc ng nv live bs cl tags view) := by rw [hw3.out]; exact HL.out.below (bNew hB2 _)
  clear hB2
  clear c0 c1 c2 c3 c4 c5 c6 c7 c8 c9 c10 c11 c12 c13 c14
  go_upto_region 4 with fail
  rw [← hw3.out, ← hy.out]
  have c5 : w3.cell? ⟨x, 5, none⟩ = some (.string mark) := Kx.out.cell 5
  have c6 : w3.cell? ⟨x, 6, none⟩ = some (.slice am nl kl) := Kx.out.cell 6
  have c7 : w3.cell? ⟨x, 7, none⟩ = some (.slice ab nb kb) := Kx.out.cell 7
  have c8 : w3.cell? ⟨x, 8, none⟩ = some (.slice ac nc kc) := Kx.out.cell 8
  have c9 : w3.cell? ⟨x, 9, none⟩ = some (.slice ag ng kg) := Kx.out.cell 9
  have c10 : w3.cell? ⟨x, 10, none⟩ = some (.slice av nv kv) := Kx.out.cell 10
  obtain ⟨zs, hzs⟩ := nm ([k, f, s, p, fl, d0, d1, rc, lg] : List Int)
  have hzl : Hid (zs.length = 9) := by show _ = _; rw [hzs.out]; rfl
  have HZ : Hid (∀ z ∈ zs, z ≤ 9223372036854775807) := by show ∀ z ∈ zs, _; rw [hzs.out]; exact fun z hz => (HUP.out.nums z hz).2
  have HSL : Hid (SlAt w3.drew (some ⟨y, 0, none⟩) (zs.map (Value.int .i64))) := by rw [hzs.out]; exact SlAt.ofBlk (w := w3.drew) Ky.out
  obtain ⟨a1, ha1⟩ := nm (ofL (numsL zs))
  obtain ⟨a2, ha2⟩ := nm (ofL (textL (bl mark)))
  obtain ⟨a3, ha3⟩ := nm (ofL (bagL live bs cl))
  obtain ⟨a4, ha4⟩ := nm (ofL (rowL tagL tags))
  obtain ⟨a5, ha5⟩ := nm (ofL (rowL peerL view))
  have HU0 : Hid (∀ x ∈ live, upMsg x) := HUP.out.live
  have HU1 : Hid (∀ x ∈ bs, upDot x) := HUP.out.bs
  have HU2 : Hid (∀ x ∈ cl, upDot x) := HUP.out.cl
  have HU3 : Hid (∀ x ∈ tags, upTag x) := HUP.out.tags
  have HU4 : Hid (∀ x ∈ view, upPeer x) := HUP.out.view
  have hmk : mark.size ≤ 1000000 := HUP.out.mark
  have l1 : a1.size ≤ 100 := by
    rw [ha1.out, ofL_size]
    unfold numsL
    rw [List.length_append, hzl.out]
    have g1 := Pl.num_length_le 9 (by decide)
    have g2 := intsL_le zs HZ.out
    rw [hzl.out] at g2
    omega
  have l2 : a2.size ≤ 1000010 := by rw [ha2.out, ofL_size]; have := textL_le hmk (Nat.le_refl _); omega
  have l3 : a3.size ≤ 4000000000000 := by
    rw [ha3.out, ofL_size, bagL, ctxL, List.length_append, List.length_append]
    have e1 := dots_le bs nb HL.out.l1.out HL.out.m1 HU1.out
    have e2 := dots_le cl nc HL.out.l2.out HL.out.m2 HU2.out
    have e3 := rowL_le (f := msgL) (m := 2000050) live (by rw [HL.out.l0.out]; exact HL.out.m0) (fun m hm => by
      obtain ⟨r1, r2, r3, r4, r5⟩ := HU0.out m hm
      have e1 := dotL_le (x := (m.node, m.n)) ⟨r1, r2⟩
      have e2 := textL_le r3 (Nat.le_refl _)
      have e3 := textL_le r4 (Nat.le_refl _)
      have e4 := num_le r5
      simp only [msgL, List.length_append]; omega)
    have e4 : live.length ≤ 1000000 := by rw [HL.out.l0.out]; exact HL.out.m0
    omega
  have l4 : a4.size ≤ 4000000000000 := by
    rw [ha4.out, ofL_size]
    have e3 := rowL_le (f := tagL) (m := 1000020) tags (by rw [HL.out.l3.out]; exact HL.out.m3) (fun m hm => by
      obtain ⟨r1, r2⟩ := HU3.out m hm
      have e2 := textL_le r1 (Nat.le_refl _)
      have e4 := num_le r2
      simp only [tagL, List.length_append]; omega)
    have e4 : tags.length ≤ 1000000 := by rw [HL.out.l3.out]; exact HL.out.m3
    omega
  have l5 : a5.size ≤ 4000000000000 := by
    rw [ha5.out, ofL_size]
    have e3 := rowL_le (f := peerL) (m := 30) view (by rw [HL.out.l4.out]; exact HL.out.m4) (fun m hm => peerL_le (HU4.out m hm))
    have e4 : view.length ≤ 1000000 := by rw [HL.out.l4.out]; exact HL.out.m4
    omega
  have k2 := fun w : World => run_string_add_sum (P := Try.prog) w a1 a2 (by omega)
  have k3 := fun w : World => run_string_add_sum (P := Try.prog) w (a1 ++ a2) a3 (by rw [app_size]; omega)
  have k4 := fun w : World => run_string_add_sum (P := Try.prog) w (a1 ++ a2 ++ a3) a4 (by rw [app_size, app_size]; omega)
  have k5 := fun w : World => run_string_add_sum (P := Try.prog) w (a1 ++ a2 ++ a3 ++ a4) a5 (by rw [app_size, app_size, app_size]; omega)
  have HF : Hid (a1 ++ a2 ++ a3 ++ a4 ++ a5 = ofL (WL.mk k f s p fl d0 d1 rc lg mark live bs cl tags view).bytes) := by
    show _ = _
    rw [ha1.out, ha2.out, ha3.out, ha4.out, ha5.out, ofL_append, ofL_append, ofL_append, ofL_append, hzs.out]
    unfold WL.bytes
    simp only [List.append_assoc]; rfl
  clear l1 l2 l3 l4 l5 hmk
  have KEEP : Hid (∀ wb : World, Below w3.drew.heap.size w3.drew wb → wb.cell? ⟨x, 5, none⟩ = some (.string mark) ∧ wb.cell? ⟨x, 6, none⟩ = some (.slice am nl kl) ∧ wb.cell? ⟨x, 7, none⟩ = some (.slice ab nb kb) ∧ wb.cell? ⟨x, 8, none⟩ = some (.slice ac nc kc) ∧ wb.cell? ⟨x, 9, none⟩ = some (.slice ag ng kg) ∧ wb.cell? ⟨x, 10, none⟩ = some (.slice av nv kv)) := by
    show ∀ wb : World, _
    intro wb h
    have h1 := Blk.below (w := w3.drew) Kx.out h Kx.out.lt
    exact ⟨h1.cell 5, h1.cell 6, h1.cell 7, h1.cell 8, h1.cell 9, h1.cell 10⟩
  refine wp_region_noPanic ?_
  refine wp_region_held_drew (S := fun w' => w'.cell? ⟨x, 5, none⟩ = some (.string mark) ∧ w'.cell? ⟨x, 6, none⟩ = some (.slice am nl kl) ∧ w'.cell? ⟨x, 7, none⟩ = some (.slice ab nb kb) ∧ w'.cell? ⟨x, 8, none⟩ = some (.slice ac nc kc) ∧ w'.cell? ⟨x, 9, none⟩ = some (.slice ag ng kg) ∧ w'.cell? ⟨x, 10, none⟩ = some (.slice av nv kv)) (by kernel_rfl) (⟨c5, c6, c7, c8, c9, c10⟩) (fun hHeld => ?_)
  refine wpAnyH_take (i := 0) (v := ?_) (takeL rfl) (by kernel_rfl) (by kernel_rfl) (by kernel_rfl) (fun _ _ _ h => h) (Or.inl ⟨by rfl, ?_⟩) (by assumption) ?_
  rotate_left
  · (intro w hSw; (try dsimp only at hSw); first | (go_simp; done) | (go_simp; with_reducible rfl))
  try simp only [Act.put, List.setIfInBounds_toArray, List.set_cons_zero, List.set_cons_succ]
  refine wpAnyH_take (i := 2) (v := ?_) (takeL rfl) (by kernel_rfl) (by kernel_rfl) (by kernel_rfl) (fun _ _ _ h => h) (Or.inl ⟨by rfl, ?_⟩) (by assumption) ?_
  rotate_left
  · (intro w hSw; (try dsimp only at hSw); first | (go_simp; done) | (go_simp; with_reducible rfl))
  try simp only [Act.put, List.setIfInBounds_toArray, List.set_cons_zero, List.set_cons_succ]
  refine wpAnyH_take (i := 3) (v := ?_) (takeL rfl) (by kernel_rfl) (by kernel_rfl) (by kernel_rfl) (fun _ _ _ h => h) (Or.inl ⟨by rfl, ?_⟩) (by assumption) ?_
  rotate_left
  · (intro w hSw; (try dsimp only at hSw); first | (go_simp; done) | (go_simp; with_reducible rfl))
  try simp only [Act.put, List.setIfInBounds_toArray, List.set_cons_zero, List.set_cons_succ]
  refine wpAnyH_take (i := 6) (v := ?_) (takeL rfl) (by kernel_rfl) (by kernel_rfl) (by kernel_rfl) (fun _ _ _ h => h) (Or.inl ⟨by rfl, ?_⟩) (by assumption) ?_
  rotate_left
  · (intro w hSw; (try dsimp only at hSw); first | (go_simp; done) | (go_simp; with_reducible rfl))
  try simp only [Act.put, List.setIfInBounds_toArray, List.set_cons_zero, List.set_cons_succ]
  refine wpAnyH_take (i := 7) (v := ?_) (takeL rfl) (by kernel_rfl) (by kernel_rfl) (by kernel_rfl) (fun _ _ _ h => h) (Or.inl ⟨by rfl, ?_⟩) (by assumption) ?_
  rotate_left
  · (intro w hSw; (try dsimp only at hSw); first | (go_simp; done) | (go_simp; with_reducible rfl))
  try simp only [Act.put, List.setIfInBounds_toArray, List.set_cons_zero, List.set_cons_succ]
  refine wpAnyH_take (i := 10) (v := ?_) (takeL rfl) (by kernel_rfl) (by kernel_rfl) (by kernel_rfl) (fun _ _ _ h => h) (Or.inl ⟨by rfl, ?_⟩) (by assumption) ?_
  rotate_left
  · (intro w hSw; (try dsimp only at hSw); first | (go_simp; done) | (go_simp; with_reducible rfl))
  try simp only [Act.put, List.setIfInBounds_toArray, List.set_cons_zero, List.set_cons_succ]
  refine wpAnyH_take (i := 11) (v := ?_) (takeL rfl) (by kernel_rfl) (by kernel_rfl) (by kernel_rfl) (fun _ _ _ h => h) (Or.inl ⟨by rfl, ?_⟩) (by assumption) ?_
  rotate_left
  · (intro w hSw; (try dsimp only at hSw); first | (go_simp; done) | (go_simp; with_reducible rfl))
  try simp only [Act.put, List.setIfInBounds_toArray, List.set_cons_zero, List.set_cons_succ]
  refine wpAnyH_take (i := 14) (v := ?_) (takeL rfl) (by kernel_rfl) (by kernel_rfl) (by kernel_rfl) (fun _ _ _ h => h) (Or.inl ⟨by rfl, ?_⟩) (by assumption) ?_
  rotate_left
  · (intro w hSw; (try dsimp only at hSw); first | (go_simp; done) | (go_simp; with_reducible rfl))
  try simp only [Act.put, List.setIfInBounds_toArray, List.set_cons_zero, List.set_cons_succ]
  refine wpAnyH_take (i := 15) (v := ?_) (takeL rfl) (by kernel_rfl) (by kernel_rfl) (by kernel_rfl) (fun _ _ _ h => h) (Or.inl ⟨by rfl, ?_⟩) (by assumption) ?_
  rotate_left
  · (intro w hSw; (try dsimp only at hSw); first | (go_simp; done) | (go_simp; with_reducible rfl))
  try simp only [Act.put, List.setIfInBounds_toArray, List.set_cons_zero, List.set_cons_succ]
  refine wpAnyH_ready (rs := [1]) (by kernel_rfl) (by simp) ?_
  refine AllReadyH.cons (takeL rfl) (fun K hK => ?_) AllReadyH.nil
  go_simp
  refine (nums_any (some ⟨y, 0, none⟩) 9 9 zs hzl.out (by decide) HZ.out w3.drew HSL.out).mono ?_; rintro e v1 ⟨rfl, hb1⟩
  rw [← ha1.out]
  go_wp2_with fail
  refine hK.out _ _ (KEEP.out _ (hb1)) (fun hHeld => ?_)
  clear hK K
  refine wpAnyH_ready (rs := [4]) (by kernel_rfl) (by simp) ?_
  refine AllReadyH.cons (takeL rfl) (fun K hK => ?_) AllReadyH.nil
  go_simp
  refine (text_is mark a2 ha2 _ HUP.out.mark).mono ?_; rintro e v2 ⟨rfl, hb2⟩
  go_wp2_with fail
  refine hK.out _ _ (KEEP.out _ (bNext hb1 hb2)) (fun hHeld => ?_)
  clear hK K
  refine wpAnyH_take (i := 5) (v := ?_) (takeL rfl) (by kernel_rfl) (by kernel_rfl) (by kernel_rfl) (fun _ _ _ h => h) (Or.inl ⟨by rfl, ?_⟩) (by assumption) ?_
  rotate_left
  · (intro w hSw; (try dsimp only at hSw); first | (go_simp; done) | (go_simp; with_reducible rfl))
  try simp only [Act.put, List.setIfInBounds_toArray, List.set_cons_zero, List.set_cons_succ]
  refine wpAnyH_ready (rs := [8]) (by kernel_rfl) (by simp) ?_
  refine AllReadyH.cons (takeL rfl) (fun K hK => ?_) AllReadyH.nil
  go_simp
  refine (bagbytes_any am ab ac nl kl nb kb nc kc live bs cl HL.out.l0 HL.out.m0 HL.out.l1 HL.out.m1 HL.out.l2 HL.out.m2 HU0 HU1 HU2 a3 ha3 _ (HL.out.s0.below (bNext (bDrew (Below.refl _ _)) (bNext hb1 hb2))) (HL.out.s1.below (bNext (bDrew (Below.refl _ _)) (bNext hb1 hb2))) (HL.out.s2.below (bNext (bDrew (Below.refl _ _)) (bNext hb1 hb2)))).mono ?_; rintro e v3 ⟨rfl, hb3⟩
  go_wp2_with fail
  refine hK.out _ _ (KEEP.out _ (bNext (bNext hb1 hb2) hb3)) (fun hHeld => ?_)
  clear hK K
  refine wpAnyH_take (i := 9) (v := ?_) (takeL rfl) (by kernel_rfl) (by kernel_rfl) (by kernel_rfl) (fun _ _ _ h => h) (Or.inl ⟨by rfl, ?_⟩) (by assumption) ?_
  rotate_left
  · (intro w hSw; (try dsimp only at hSw); first | (go_simp; done) | (go_simp; with_reducible rfl))
  try simp only [Act.put, List.setIfInBounds_toArray, List.set_cons_zero, List.set_cons_succ]
  refine wpAnyH_ready (rs := [12]) (by kernel_rfl) (by simp) ?_
  refine AllReadyH.cons (takeL rfl) (fun K hK => ?_) AllReadyH.nil
  go_simp
  refine (tagbytes_any ag ng kg tags HL.out.l3 HL.out.m3 HU3 a4 ha4 _ (HL.out.s3.below (bNext (bDrew (Below.refl _ _)) (bNext (bNext hb1 hb2) hb3)))).mono ?_; rintro e v4 ⟨rfl, hb4⟩
  go_wp2_with fail
  refine hK.out _ _ (KEEP.out _ (bNext (bNext (bNext hb1 hb2) hb3) hb4)) (fun hHeld => ?_)
  clear hK K
  refine wpAnyH_take (i := 13) (v := ?_) (takeL rfl) (by kernel_rfl) (by kernel_rfl) (by kernel_rfl) (fun _ _ _ h => h) (Or.inl ⟨by rfl, ?_⟩) (by assumption) ?_
  rotate_left
  · (intro w hSw; (try dsimp only at hSw); first | (go_simp; done) | (go_simp; with_reducible rfl))
  try simp only [Act.put, List.setIfInBounds_toArray, List.set_cons_zero, List.set_cons_succ]
  refine wpAnyH_ready (rs := [16]) (by kernel_rfl) (by simp) ?_
  refine AllReadyH.cons (takeL rfl) (fun K hK => ?_) AllReadyH.nil
  go_simp
  refine (viewbytes_any av nv kv view HL.out.l4 HL.out.m4 HU4 a5 ha5 _ (HL.out.s4.below (bNext (bDrew (Below.refl _ _)) (bNext (bNext (bNext hb1 hb2) hb3) hb4)))).mono ?_; rintro e v5 ⟨rfl, hb5⟩
  go_wp2_with fail
  refine hK.out _ _ (KEEP.out _ (bNext (bNext (bNext (bNext hb1 hb2) hb3) hb4) hb5)) (fun hHeld => ?_)
  clear hK K
  refine wpAnyH_take (i := 17) (v := ?_) (takeL rfl) (by kernel_rfl) (by kernel_rfl) (by kernel_rfl) (fun _ _ _ h => h) (Or.inl ⟨by rfl, ?_⟩) (by assumption) ?_
  rotate_left
  · (intro w hSw; (try dsimp only at hSw); first | (go_simp; done) | (go_simp; with_reducible rfl))
  try simp only [Act.put, List.setIfInBounds_toArray, List.set_cons_zero, List.set_cons_succ]
  refine wpAnyH_take (i := 18) (v := ?_) (takeL rfl) (by kernel_rfl) (by kernel_rfl) (by kernel_rfl) (fun _ _ _ h => h) (Or.inl ⟨by rfl, ?_⟩) (by assumption) ?_
  rotate_left
  · (intro w hSw; (try dsimp only at hSw); first | (go_simp; done) | (go_simp; with_reducible rfl))
  try simp only [Act.put, List.setIfInBounds_toArray, List.set_cons_zero, List.set_cons_succ]
  refine wpAnyH_done (by kernel_rfl) ?_ _
  refine NoPanic.normal ?_
  have HBF := Lib.hid (bNext (bDrew HB3.out) (bNext (bNext (bNext (bNext hb1 hb2) hb3) hb4) hb5))
  obtain ⟨R, hR⟩ := nm (a1 ++ a2 ++ a3 ++ a4 ++ a5)
  rw [← hR.out] at HF
  rw [← hR.out]
  clear hb1 hb2 hb3 hb4 hb5 k2 k3 k4 k5 c5 c6 c7 c8 c9 c10 hHeld
  have HRL : Hid (R.size = (WL.mk k f s p fl d0 d1 rc lg mark live bs cl tags view).bytes.length) := by show _ = _; rw [HF.out, ofL_size]
  by_cases hlen : R.size ≤ 8000
  · have hd : decide (8000 < (R.size : Int)) = false := decide_eq_false (by omega)
    have HE : Hid (T = R ∧ E = 0) := by
      rcases hT.out with h | h | h
      · exact absurd HMY.out h.1
      · have := h.2.1; have := HRL.out; omega
      · exact ⟨by rw [HF.out]; exact h.2.2.1, h.2.2.2⟩
    obtain ⟨rfl, rfl⟩ := HE.out
    clear hlen
    go_wp2_with fail
    refine bodyPost_ret (v := .tuple #[.string T, .int .i64 0]) (by simp [results, Try.results10, go_sem]) rfl ?_
    exact ⟨rfl, HBF.out⟩
  · have hd : decide (8000 < (R.size : Int)) = true := decide_eq_true (by omega)
    have HE : Hid (T = ⟨#[]⟩ ∧ E = 11) := by
      rcases hT.out with h | h | h
      · exact absurd HMY.out h.1
      · exact h.2.2
      · have := h.2.1; have := HRL.out; omega
    obtain ⟨rfl, rfl⟩ := HE.out
    clear hlen
    go_wp2_with fail
    refine bodyPost_ret (v := .tuple #[.string ⟨#[]⟩, .int .i64 11]) (by simp [results, Try.results10, go_sem]) rfl ?_
    exact ⟨rfl, HBF.out⟩
end Go.Proofs.Ytfpjdmplepepjaa

