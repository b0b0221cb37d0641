/- The document's bytes of contexts, catalogues, views and bags. (and what stands on it: 3 texts in one) -/
import Derived.Test.YtfpjdmplepepjaaJ9
import Derived.Test.YtfpjdmplepepjaaJ5
import Derived.Test.YtfpjdmplepepjaaJ10
/-! WRefBytes: The document's bytes of contexts, catalogues, views and bags. -/
namespace Go.Proofs.Ytfpjdmplepepjaa
open Go.RowKit

theorem reftext_is (t : ByteArray) (s : ByteArray) (hs : Hid (s = ofL (textL (bl t)))) (w : World) (ht : t.size ≤ 1000000) :
    Calls Try.prog 61 #[.string t] w fun e w' => e = .returned (.string s) ∧ Below w.heap.size w w' := by rw [hs.out]; exact reftext_any t w (by omega)
theorem refrow_is (ao : Option Addr) (ps : List Dot2) (n cap : Nat) (hn : Hid (ps.length = n)) (hm : n ≤ 1000000) (hin : Hid (∀ p ∈ ps, upDot p)) (w : World) (hs : SlP w ao ps) (s : ByteArray) (hss : Hid (s = ofL (rowL dotL ps))) :
    Calls Try.prog 111 #[.slice ao n cap] w fun e w' => e = .returned (.string s) ∧ Below w.heap.size w w' :=
  refrow_any ao ps n cap hn hm (show ∀ p ∈ ps, InD p from fun p hp => ⟨(hin.out p hp).1.2, (hin.out p hp).2.2⟩) w hs s hss

set_option maxRecDepth 100000 in
set_option maxHeartbeats 4000000 in
theorem refctxbytes_any (ab ac : Option Addr) (nb kb nc kc : Nat) (bs cl : List Dot2) (hn : Hid (bs.length = nb)) (hm : nb ≤ 1000000) (hn2 : Hid (cl.length = nc)) (hm2 : nc ≤ 1000000) (h1 : Hid (∀ p ∈ bs, upDot p)) (h2 : Hid (∀ p ∈ cl, upDot p)) (s : ByteArray) (hs : Hid (s = ofL (ctxL bs cl))) (w : World) (g1 : SlP w ab bs) (g2 : SlP w ac cl) :
    Calls Try.prog 96 #[.agg #[.slice ab nb kb, .slice ac nc kc]] w fun e w' => e = .returned (.string s) ∧ Below w.heap.size w w' := by
  obtain ⟨w0, hw0⟩ := nm (w.alloc (.cells #[.slice ab nb kb, .slice ac nc kc] 25))
  obtain ⟨x, hx⟩ := nm w.heap.size
  have Kx : Hid (Blk w0 x #[.slice ab nb kb, .slice ac nc kc] 25) := blkN hw0.out hx.out
  have HB0 : Hid (Below w.heap.size w w0) := by rw [hw0.out]; exact bOld _
  have HS1 : Hid (SlP w0 ab bs) := g1.below HB0.out
  have HS2 : Hid (SlP w0 ac cl) := g2.below HB0.out
  clear g1 g2
  obtain ⟨s1, hs1⟩ := nm (ofL (rowL dotL bs))
  obtain ⟨s2, hs2⟩ := nm (ofL (rowL dotL cl))
  have hsum : Hid (s1 ++ s2 = s) := by show _ = _; rw [hs.out, hs1.out, hs2.out, ofL_append]; rfl
  have l1 : s1.size ≤ 10 + 20 * 1000000 := by rw [hs1.out, ofL_size]; exact dots_le bs nb hn.out hm h1.out
  have l2 : s2.size ≤ 10 + 20 * 1000000 := by rw [hs2.out, ofL_size]; exact dots_le cl nc hn2.out hm2 h2.out
  have hadd := fun w : World => run_string_add_sum (P := Try.prog) w s1 s2 (by omega)
  clear l1 l2
  have c0 : w0.cell? ⟨x, 0, none⟩ = some (.slice ab nb kb) := Kx.out.cell 0
  have c1 : w0.cell? ⟨x, 1, none⟩ = some (.slice ac nc kc) := Kx.out.cell 1
  have KEEP : Hid (∀ wb : World, Below w0.drew.heap.size w0.drew wb → wb.cell? ⟨x, 0, none⟩ = some (.slice ab nb kb) ∧ wb.cell? ⟨x, 1, none⟩ = some (.slice ac nc kc)) := by
    show ∀ wb : World, _
    intro wb h
    have h1 := Blk.below (w := w0.drew) Kx.out h Kx.out.lt
    exact ⟨h1.cell 0, h1.cell 1⟩
  go_enter Try.func96, Try.ntmps96
  go_upto_region 1 with fail
  rw [← hw0.out, ← hx.out]
  refine wp_region_held_drew (S := fun w' => w'.cell? ⟨x, 0, none⟩ = some (.slice ab nb kb) ∧ w'.cell? ⟨x, 1, none⟩ = some (.slice ac nc kc)) (by kernel_rfl) (⟨c0, c1⟩) (fun hHeld => ?_)
  refine wpAnyH_take (i := 0) (v := ?_) (takeL rfl) (by kernel_rfl) (by kernel_rfl) (by kernel_rfl) (fun _ _ _ h => h) (Or.inl ⟨by rfl, ?_⟩) (by assumption) ?_
  rotate_left
  · (intro w hSw; (try dsimp only at hSw); first | (go_simp; done) | (go_simp; with_reducible rfl))
  try simp only [Act.put, List.setIfInBounds_toArray, List.set_cons_zero, List.set_cons_succ]
  refine wpAnyH_take (i := 1) (v := ?_) (takeL rfl) (by kernel_rfl) (by kernel_rfl) (by kernel_rfl) (fun _ _ _ h => h) (Or.inl ⟨by rfl, ?_⟩) (by assumption) ?_
  rotate_left
  · (intro w hSw; (try dsimp only at hSw); first | (go_simp; done) | (go_simp; with_reducible rfl))
  try simp only [Act.put, List.setIfInBounds_toArray, List.set_cons_zero, List.set_cons_succ]
  refine wpAnyH_take (i := 3) (v := ?_) (takeL rfl) (by kernel_rfl) (by kernel_rfl) (by kernel_rfl) (fun _ _ _ h => h) (Or.inl ⟨by rfl, ?_⟩) (by assumption) ?_
  rotate_left
  · (intro w hSw; (try dsimp only at hSw); first | (go_simp; done) | (go_simp; with_reducible rfl))
  try simp only [Act.put, List.setIfInBounds_toArray, List.set_cons_zero, List.set_cons_succ]
  refine wpAnyH_take (i := 4) (v := ?_) (takeL rfl) (by kernel_rfl) (by kernel_rfl) (by kernel_rfl) (fun _ _ _ h => h) (Or.inl ⟨by rfl, ?_⟩) (by assumption) ?_
  rotate_left
  · (intro w hSw; (try dsimp only at hSw); first | (go_simp; done) | (go_simp; with_reducible rfl))
  try simp only [Act.put, List.setIfInBounds_toArray, List.set_cons_zero, List.set_cons_succ]
  refine wpAnyH_ready (rs := [2]) (by kernel_rfl) (by simp) ?_
  refine AllReadyH.cons (takeL rfl) (fun K hK => ?_) AllReadyH.nil
  go_simp
  refine (refrow_is ab bs nb kb hn hm h1 _ (HS1.out.below (bDrew (Below.refl _ _))) s1 hs1).mono ?_; rintro e w1 ⟨rfl, hB1⟩
  go_wp2_with fail
  refine hK.out _ _ (KEEP.out _ hB1) (fun hHeld => ?_)
  clear hK K
  refine wpAnyH_ready (rs := [5]) (by kernel_rfl) (by simp) ?_
  refine AllReadyH.cons (takeL rfl) (fun K hK => ?_) AllReadyH.nil
  go_simp
  refine (refrow_is ac cl nc kc hn2 hm2 h2 _ (HS2.out.below (bNext (bDrew (Below.refl _ _)) hB1)) s2 hs2).mono ?_; rintro e w2 ⟨rfl, hB2⟩
  go_wp2_with fail
  refine hK.out _ _ (KEEP.out _ (bNext hB1 hB2)) (fun hHeld => ?_)
  clear hK K
  refine wpAnyH_take (i := 6) (v := ?_) (takeL rfl) (by kernel_rfl) (by kernel_rfl) (by kernel_rfl) (fun _ _ _ h => h) (Or.inl ⟨by rfl, ?_⟩) (by assumption) ?_
  rotate_left
  · (intro w hSw; (try dsimp only at hSw); first | (go_simp; done) | (go_simp; with_reducible rfl))
  try simp only [Act.put, List.setIfInBounds_toArray, List.set_cons_zero, List.set_cons_succ]
  refine wpAnyH_take (i := 7) (v := ?_) (takeL rfl) (by kernel_rfl) (by kernel_rfl) (by kernel_rfl) (fun _ _ _ h => h) (Or.inl ⟨by rfl, ?_⟩) (by assumption) ?_
  rotate_left
  · (intro w hSw; (try dsimp only at hSw); first | (go_simp; done) | (go_simp; with_reducible rfl))
  try simp only [Act.put, List.setIfInBounds_toArray, List.set_cons_zero, List.set_cons_succ]
  refine wpAnyH_done (by kernel_rfl) ?_ _
  go_wp2_with fail
  go_ret
  exact ⟨congrArg (fun t => Ending.returned (Value.string t)) hsum.out, bNext (bDrew HB0.out) (bNext hB1 hB2)⟩

set_option maxRecDepth 100000 in
set_option maxHeartbeats 4000000 in
theorem reftagbytes_any (ao : Option Addr) (n cap : Nat) (xs : List Tag2) (hn : Hid (xs.length = n)) (hm : n ≤ 1000000) (hin : Hid (∀ x ∈ xs, upTag x)) (s : ByteArray) (hss : Hid (s = ofL (rowL tagL xs))) (w : World) (hs : SlE eTag 2 w ao xs) :
    Calls Try.prog 63 #[.slice ao n cap] w fun e w' => e = .returned (.string s) ∧ Below w.heap.size w w' := by
  have HS := Lib.hid hs
  clear hs
  obtain ⟨s0, h0⟩ := nm (ofL (Pl.num n))
  have l0 : s0.size ≤ 10 := by rw [h0.out, ofL_size]; exact Pl.num_length_le _ (by omega)
  go_enter Try.func63, Try.ntmps63
  go_wp2_with fail
  refine (refint_is (n : Int) s0 h0 _ (by omega)).mono ?_; rintro e w1 ⟨rfl, hB1⟩
  go_wp2_with fail
  go_loopw [3, 4] (fun v i wr => ∃ (k : Nat) (t : ByteArray), k ≤ n ∧ i = .int .i64 (k : Int) ∧ v = .string t ∧ t.size ≤ 10 + 1000020 * k ∧ Below w.heap.size w wr ∧ Hid (t = s0 ++ ofL ((xs.take k).flatMap tagL))) (fun _ i _ => n - (intOf i).toNat)
  case atStart => exact ⟨0, s0, by omega, rfl, rfl, by omega, hB1, by show _ = _; rw [List.take_zero]; exact (append_nil s0).symm⟩
  case round =>
    obtain ⟨k, t, hk, rfl, rfl, ht, hB, hT⟩ := hrel
    by_cases hlt : k < n
    · obtain ⟨b, off, ⟨u, v⟩, rfl, hbl, hpk, hcells⟩ := (HS.out.below hB).get k (by rw [hn.out]; exact hlt)
      have d0 : wr.cell? ⟨b, off + k * 2, none⟩ = some (.string u) := hcells 0 _ rfl
      have d1 : wr.cell? ⟨b, off + k * 2 + 1, none⟩ = some (.int .i64 v) := hcells 1 _ rfl
      clear hcells
      obtain ⟨q1, q2⟩ := hin.out _ (List.mem_of_getElem? hpk.out)
      simp only at q1 q2
      obtain ⟨s1, h1⟩ := nm (ofL (textL (bl u)))
      obtain ⟨s2, h2⟩ := nm (ofL (Pl.num v.toNat))
      have l1 : s1.size ≤ 1000010 := by rw [h1.out, ofL_size]; have := textL_le q1 (Nat.le_refl _); omega
      have l2 : s2.size ≤ 10 := by rw [h2.out, ofL_size]; exact num_le q2
      have hts : (t ++ s1 ++ s2).size ≤ 10 + 1000020 * (k + 1) := by rw [app_size, app_size]; omega
      have k1 := fun w : World => run_string_add_sum (P := Try.prog) w t s1 (by omega)
      have k2 := fun w : World => run_string_add_sum (P := Try.prog) w (t ++ s1) s2 (by rw [app_size]; omega)
      have HT : Hid (t ++ s1 ++ s2 = s0 ++ ofL ((xs.take (k + 1)).flatMap tagL)) := by
        show _ = _
        rw [hT.out, h1.out, h2.out, flat_take hpk.out, ← ofL_append, app_assoc, app_assoc, ofL_append (textL _)]; rfl
      clear hT
      have HB3 : Hid (Below w.heap.size w wr) := hB
      have hbl3 : Hid (b < wr.heap.size) := hbl
      clear hB
      have KEEP : Hid (∀ wb : World, Below wr.drew.heap.size wr.drew wb → wb.cell? ⟨b, off + k * 2, none⟩ = some (.string u) ∧ wb.cell? ⟨b, off + k * 2 + 1, none⟩ = some (.int .i64 v)) := by
        show ∀ wb : World, _
        intro wb h
        exact ⟨(h.cell (p := ⟨b, off + k * 2, none⟩) hbl3.out).trans d0, (h.cell (p := ⟨b, off + k * 2 + 1, none⟩) hbl3.out).trans d1⟩
      go_wp2_with fail
      refine wp_region_noPanic ?_
      refine wp_region_held_drew (S := fun w' => w'.cell? ⟨b, off + k * 2, none⟩ = some (.string u) ∧ w'.cell? ⟨b, off + k * 2 + 1, none⟩ = some (.int .i64 v)) (by kernel_rfl) (⟨d0, d1⟩) (fun hHeld => ?_)
      refine wpAnyH_take (i := 0) (v := ?_) (takeL rfl) (by kernel_rfl) (by kernel_rfl) (by kernel_rfl) (fun _ _ _ h => h) (Or.inl ⟨by rfl, ?_⟩) (by assumption) ?_
      rotate_left
      · (intro w hSw; (try dsimp only at hSw); first | (go_simp; done) | (go_simp; with_reducible rfl))
      try simp only [Act.put, List.setIfInBounds_toArray, List.set_cons_zero, List.set_cons_succ]
      refine wpAnyH_take (i := 1) (v := ?_) (takeL rfl) (by kernel_rfl) (by kernel_rfl) (by kernel_rfl) (fun _ _ _ h => h) (Or.inl ⟨by rfl, ?_⟩) (by assumption) ?_
      rotate_left
      · (intro w hSw; (try dsimp only at hSw); first | (go_simp; done) | (go_simp; with_reducible rfl))
      try simp only [Act.put, List.setIfInBounds_toArray, List.set_cons_zero, List.set_cons_succ]
      refine wpAnyH_take (i := 2) (v := ?_) (takeL rfl) (by kernel_rfl) (by kernel_rfl) (by kernel_rfl) (fun _ _ _ h => h) (Or.inl ⟨by rfl, ?_⟩) (by assumption) ?_
      rotate_left
      · (intro w hSw; (try dsimp only at hSw); first | (go_simp; done) | (go_simp; with_reducible rfl))
      try simp only [Act.put, List.setIfInBounds_toArray, List.set_cons_zero, List.set_cons_succ]
      refine wpAnyH_take (i := 3) (v := ?_) (takeL rfl) (by kernel_rfl) (by kernel_rfl) (by kernel_rfl) (fun _ _ _ h => h) (Or.inl ⟨by rfl, ?_⟩) (by assumption) ?_
      rotate_left
      · (intro w hSw; (try dsimp only at hSw); first | (go_simp; done) | (go_simp; with_reducible rfl))
      try simp only [Act.put, List.setIfInBounds_toArray, List.set_cons_zero, List.set_cons_succ]
      refine wpAnyH_take (i := 4) (v := ?_) (takeL rfl) (by kernel_rfl) (by kernel_rfl) (by kernel_rfl) (fun _ _ _ h => h) (Or.inl ⟨by rfl, ?_⟩) (by assumption) ?_
      rotate_left
      · (intro w hSw; (try dsimp only at hSw); first | (go_simp; done) | (go_simp; with_reducible rfl))
      try simp only [Act.put, List.setIfInBounds_toArray, List.set_cons_zero, List.set_cons_succ]
      refine wpAnyH_take (i := 5) (v := ?_) (takeL rfl) (by kernel_rfl) (by kernel_rfl) (by kernel_rfl) (fun _ _ _ h => h) (Or.inl ⟨by rfl, ?_⟩) (by assumption) ?_
      rotate_left
      · (intro w hSw; (try dsimp only at hSw); first | (go_simp; done) | (go_simp; with_reducible rfl))
      try simp only [Act.put, List.setIfInBounds_toArray, List.set_cons_zero, List.set_cons_succ]
      refine wpAnyH_take (i := 8) (v := ?_) (takeL rfl) (by kernel_rfl) (by kernel_rfl) (by kernel_rfl) (fun _ _ _ h => h) (Or.inl ⟨by rfl, ?_⟩) (by assumption) ?_
      rotate_left
      · (intro w hSw; (try dsimp only at hSw); first | (go_simp; done) | (go_simp; with_reducible rfl))
      try simp only [Act.put, List.setIfInBounds_toArray, List.set_cons_zero, List.set_cons_succ]
      refine wpAnyH_take (i := 9) (v := ?_) (takeL rfl) (by kernel_rfl) (by kernel_rfl) (by kernel_rfl) (fun _ _ _ h => h) (Or.inl ⟨by rfl, ?_⟩) (by assumption) ?_
      rotate_left
      · (intro w hSw; (try dsimp only at hSw); first | (go_simp; done) | (go_simp; with_reducible rfl))
      try simp only [Act.put, List.setIfInBounds_toArray, List.set_cons_zero, List.set_cons_succ]
      refine wpAnyH_take (i := 10) (v := ?_) (takeL rfl) (by kernel_rfl) (by kernel_rfl) (by kernel_rfl) (fun _ _ _ h => h) (Or.inl ⟨by rfl, ?_⟩) (by assumption) ?_
      rotate_left
      · (intro w hSw; (try dsimp only at hSw); first | (go_simp; done) | (go_simp; with_reducible rfl))
      try simp only [Act.put, List.setIfInBounds_toArray, List.set_cons_zero, List.set_cons_succ]
      refine wpAnyH_take (i := 11) (v := ?_) (takeL rfl) (by kernel_rfl) (by kernel_rfl) (by kernel_rfl) (fun _ _ _ h => h) (Or.inl ⟨by rfl, ?_⟩) (by assumption) ?_
      rotate_left
      · (intro w hSw; (try dsimp only at hSw); first | (go_simp; done) | (go_simp; with_reducible rfl))
      try simp only [Act.put, List.setIfInBounds_toArray, List.set_cons_zero, List.set_cons_succ]
      refine wpAnyH_take (i := 12) (v := ?_) (takeL rfl) (by kernel_rfl) (by kernel_rfl) (by kernel_rfl) (fun _ _ _ h => h) (Or.inl ⟨by rfl, ?_⟩) (by assumption) ?_
      rotate_left
      · (intro w hSw; (try dsimp only at hSw); first | (go_simp; done) | (go_simp; with_reducible rfl))
      try simp only [Act.put, List.setIfInBounds_toArray, List.set_cons_zero, List.set_cons_succ]
      refine wpAnyH_ready (rs := [6]) (by kernel_rfl) (by simp) ?_
      refine AllReadyH.cons (takeL rfl) (fun K hK => ?_) AllReadyH.nil
      go_simp
      refine (reftext_is u s1 h1 _ q1).mono ?_; rintro e w4 ⟨rfl, hB4⟩
      go_wp2_with fail
      refine hK.out _ _ (KEEP.out _ hB4) (fun hHeld => ?_)
      clear hK K
      refine wpAnyH_take (i := 7) (v := ?_) (takeL rfl) (by kernel_rfl) (by kernel_rfl) (by kernel_rfl) (fun _ _ _ h => h) (Or.inl ⟨by rfl, ?_⟩) (by assumption) ?_
      rotate_left
      · (intro w hSw; (try dsimp only at hSw); first | (go_simp; done) | (go_simp; with_reducible rfl))
      try simp only [Act.put, List.setIfInBounds_toArray, List.set_cons_zero, List.set_cons_succ]
      refine wpAnyH_ready (rs := [13]) (by kernel_rfl) (by simp) ?_
      refine AllReadyH.cons (takeL rfl) (fun K hK => ?_) AllReadyH.nil
      go_simp
      refine (refint_is v s2 h2 _ q2.2).mono ?_; rintro e w5 ⟨rfl, hB5⟩
      go_wp2_with fail
      refine hK.out _ _ (KEEP.out _ (bNext hB4 hB5)) (fun hHeld => ?_)
      clear hK K
      refine wpAnyH_take (i := 14) (v := ?_) (takeL rfl) (by kernel_rfl) (by kernel_rfl) (by kernel_rfl) (fun _ _ _ h => h) (Or.inl ⟨by rfl, ?_⟩) (by assumption) ?_
      rotate_left
      · (intro w hSw; (try dsimp only at hSw); first | (go_simp; done) | (go_simp; with_reducible rfl))
      try simp only [Act.put, List.setIfInBounds_toArray, List.set_cons_zero, List.set_cons_succ]
      refine wpAnyH_take (i := 15) (v := ?_) (takeL rfl) (by kernel_rfl) (by kernel_rfl) (by kernel_rfl) (fun _ _ _ h => h) (Or.inl ⟨by rfl, ?_⟩) (by assumption) ?_
      rotate_left
      · (intro w hSw; (try dsimp only at hSw); first | (go_simp; done) | (go_simp; with_reducible rfl))
      try simp only [Act.put, List.setIfInBounds_toArray, List.set_cons_zero, List.set_cons_succ]
      refine wpAnyH_done (by kernel_rfl) ?_ _
      refine NoPanic.normal ?_
      go_wp2_with fail
      go_roundw
      case rel => exact ⟨k + 1, t ++ s1 ++ s2, by omega, by go_num, rfl, hts, bNext (bDrew HB3.out) (bNext hB4 hB5), HT⟩
      case measure => simp [intOf]; omega
    · obtain rfl : k = n := by omega
      have HE : Hid (t = s) := by
        show _ = _
        rw [hT.out, hss.out, h0.out, List.take_of_length_le (by rw [hn.out]; exact Nat.le_refl _), ofL_append, rowL, hn.out]
      go_wp2_with fail
      go_ret
      rw [HE.out]
      exact ⟨rfl, hB⟩

set_option maxRecDepth 100000 in
set_option maxHeartbeats 4000000 in
theorem refviewbytes_any (ao : Option Addr) (n cap : Nat) (xs : List Peer3) (hn : Hid (xs.length = n)) (hm : n ≤ 1000000) (hin : Hid (∀ x ∈ xs, upPeer x)) (s : ByteArray) (hss : Hid (s = ofL (rowL peerL xs))) (w : World) (hs : SlE ePeer 3 w ao xs) :
    Calls Try.prog 64 #[.slice ao n cap] w fun e w' => e = .returned (.string s) ∧ Below w.heap.size w w' := by
  have HS := Lib.hid hs
  clear hs
  obtain ⟨s0, h0⟩ := nm (ofL (Pl.num n))
  have l0 : s0.size ≤ 10 := by rw [h0.out, ofL_size]; exact Pl.num_length_le _ (by omega)
  go_enter Try.func64, Try.ntmps64
  go_wp2_with fail
  refine (refint_is (n : Int) s0 h0 _ (by omega)).mono ?_; rintro e w1 ⟨rfl, hB1⟩
  go_wp2_with fail
  go_loopw [3, 4] (fun v i wr => ∃ (k : Nat) (t : ByteArray), k ≤ n ∧ i = .int .i64 (k : Int) ∧ v = .string t ∧ t.size ≤ 10 + 30 * k ∧ Below w.heap.size w wr ∧ Hid (t = s0 ++ ofL ((xs.take k).flatMap peerL))) (fun _ i _ => n - (intOf i).toNat)
  case atStart => exact ⟨0, s0, by omega, rfl, rfl, by omega, hB1, by show _ = _; rw [List.take_zero]; exact (append_nil s0).symm⟩
  case round =>
    obtain ⟨k, t, hk, rfl, rfl, ht, hB, hT⟩ := hrel
    by_cases hlt : k < n
    · obtain ⟨b, off, ⟨u, v, z⟩, rfl, hbl, hpk, hcells⟩ := (HS.out.below hB).get k (by rw [hn.out]; exact hlt)
      have d0 : wr.cell? ⟨b, off + k * 3, none⟩ = some (.int .i64 u) := hcells 0 _ rfl
      have d1 : wr.cell? ⟨b, off + k * 3 + 1, none⟩ = some (.int .i64 v) := hcells 1 _ rfl
      have d2 : wr.cell? ⟨b, off + k * 3 + 2, none⟩ = some (.int .i64 z) := hcells 2 _ rfl
      clear hcells
      obtain ⟨q1, q2, q3⟩ := hin.out _ (List.mem_of_getElem? hpk.out)
      simp only at q1 q2 q3
      obtain ⟨s1, h1⟩ := nm (ofL (Pl.num u.toNat))
      obtain ⟨s2, h2⟩ := nm (ofL (Pl.num v.toNat))
      obtain ⟨s3, h3⟩ := nm (ofL (Pl.num z.toNat))
      have l1 : s1.size ≤ 10 := by rw [h1.out, ofL_size]; exact num_le q1
      have l2 : s2.size ≤ 10 := by rw [h2.out, ofL_size]; exact num_le q2
      have l3 : s3.size ≤ 10 := by rw [h3.out, ofL_size]; exact num_le q3
      have hts : (t ++ s1 ++ s2 ++ s3).size ≤ 10 + 30 * (k + 1) := by rw [app_size, app_size, app_size]; omega
      have k1 := fun w : World => run_string_add_sum (P := Try.prog) w t s1 (by omega)
      have k2 := fun w : World => run_string_add_sum (P := Try.prog) w (t ++ s1) s2 (by rw [app_size]; omega)
      have k3 := fun w : World => run_string_add_sum (P := Try.prog) w (t ++ s1 ++ s2) s3 (by rw [app_size, app_size]; omega)
      have HT : Hid (t ++ s1 ++ s2 ++ s3 = s0 ++ ofL ((xs.take (k + 1)).flatMap peerL)) := by
        show _ = _
        rw [hT.out, h1.out, h2.out, h3.out, flat_take hpk.out, ← ofL_append, app_assoc, app_assoc, app_assoc, ofL_append (Pl.num v.toNat), ofL_append]; rfl
      clear hT
      have HB3 : Hid (Below w.heap.size w wr) := hB
      have hbl3 : Hid (b < wr.heap.size) := hbl
      clear hB
      have KEEP : Hid (∀ wb : World, Below wr.drew.heap.size wr.drew wb → wb.cell? ⟨b, off + k * 3, none⟩ = some (.int .i64 u) ∧ wb.cell? ⟨b, off + k * 3 + 1, none⟩ = some (.int .i64 v) ∧ wb.cell? ⟨b, off + k * 3 + 2, none⟩ = some (.int .i64 z)) := by
        show ∀ wb : World, _
        intro wb h
        exact ⟨(h.cell (p := ⟨b, off + k * 3, none⟩) hbl3.out).trans d0, (h.cell (p := ⟨b, off + k * 3 + 1, none⟩) hbl3.out).trans d1, (h.cell (p := ⟨b, off + k * 3 + 2, none⟩) hbl3.out).trans d2⟩
      go_wp2_with fail
      refine wp_region_noPanic ?_
      refine wp_region_held_drew (S := fun w' => w'.cell? ⟨b, off + k * 3, none⟩ = some (.int .i64 u) ∧ w'.cell? ⟨b, off + k * 3 + 1, none⟩ = some (.int .i64 v) ∧ w'.cell? ⟨b, off + k * 3 + 2, none⟩ = some (.int .i64 z)) (by kernel_rfl) (⟨d0, d1, d2⟩) (fun hHeld => ?_)
      refine wpAnyH_take (i := 0) (v := ?_) (takeL rfl) (by kernel_rfl) (by kernel_rfl) (by kernel_rfl) (fun _ _ _ h => h) (Or.inl ⟨by rfl, ?_⟩) (by assumption) ?_
      rotate_left
      · (intro w hSw; (try dsimp only at hSw); first | (go_simp; done) | (go_simp; with_reducible rfl))
      try simp only [Act.put, List.setIfInBounds_toArray, List.set_cons_zero, List.set_cons_succ]
      refine wpAnyH_take (i := 1) (v := ?_) (takeL rfl) (by kernel_rfl) (by kernel_rfl) (by kernel_rfl) (fun _ _ _ h => h) (Or.inl ⟨by rfl, ?_⟩) (by assumption) ?_
      rotate_left
      · (intro w hSw; (try dsimp only at hSw); first | (go_simp; done) | (go_simp; with_reducible rfl))
      try simp only [Act.put, List.setIfInBounds_toArray, List.set_cons_zero, List.set_cons_succ]
      refine wpAnyH_take (i := 2) (v := ?_) (takeL rfl) (by kernel_rfl) (by kernel_rfl) (by kernel_rfl) (fun _ _ _ h => h) (Or.inl ⟨by rfl, ?_⟩) (by assumption) ?_
      rotate_left
      · (intro w hSw; (try dsimp only at hSw); first | (go_simp; done) | (go_simp; with_reducible rfl))
      try simp only [Act.put, List.setIfInBounds_toArray, List.set_cons_zero, List.set_cons_succ]
      refine wpAnyH_take (i := 3) (v := ?_) (takeL rfl) (by kernel_rfl) (by kernel_rfl) (by kernel_rfl) (fun _ _ _ h => h) (Or.inl ⟨by rfl, ?_⟩) (by assumption) ?_
      rotate_left
      · (intro w hSw; (try dsimp only at hSw); first | (go_simp; done) | (go_simp; with_reducible rfl))
      try simp only [Act.put, List.setIfInBounds_toArray, List.set_cons_zero, List.set_cons_succ]
      refine wpAnyH_take (i := 4) (v := ?_) (takeL rfl) (by kernel_rfl) (by kernel_rfl) (by kernel_rfl) (fun _ _ _ h => h) (Or.inl ⟨by rfl, ?_⟩) (by assumption) ?_
      rotate_left
      · (intro w hSw; (try dsimp only at hSw); first | (go_simp; done) | (go_simp; with_reducible rfl))
      try simp only [Act.put, List.setIfInBounds_toArray, List.set_cons_zero, List.set_cons_succ]
      refine wpAnyH_take (i := 5) (v := ?_) (takeL rfl) (by kernel_rfl) (by kernel_rfl) (by kernel_rfl) (fun _ _ _ h => h) (Or.inl ⟨by rfl, ?_⟩) (by assumption) ?_
      rotate_left
      · (intro w hSw; (try dsimp only at hSw); first | (go_simp; done) | (go_simp; with_reducible rfl))
      try simp only [Act.put, List.setIfInBounds_toArray, List.set_cons_zero, List.set_cons_succ]
      refine wpAnyH_take (i := 8) (v := ?_) (takeL rfl) (by kernel_rfl) (by kernel_rfl) (by kernel_rfl) (fun _ _ _ h => h) (Or.inl ⟨by rfl, ?_⟩) (by assumption) ?_
      rotate_left
      · (intro w hSw; (try dsimp only at hSw); first | (go_simp; done) | (go_simp; with_reducible rfl))
      try simp only [Act.put, List.setIfInBounds_toArray, List.set_cons_zero, List.set_cons_succ]
      refine wpAnyH_take (i := 9) (v := ?_) (takeL rfl) (by kernel_rfl) (by kernel_rfl) (by kernel_rfl) (fun _ _ _ h => h) (Or.inl ⟨by rfl, ?_⟩) (by assumption) ?_
      rotate_left
      · (intro w hSw; (try dsimp only at hSw); first | (go_simp; done) | (go_simp; with_reducible rfl))
      try simp only [Act.put, List.setIfInBounds_toArray, List.set_cons_zero, List.set_cons_succ]
      refine wpAnyH_take (i := 10) (v := ?_) (takeL rfl) (by kernel_rfl) (by kernel_rfl) (by kernel_rfl) (fun _ _ _ h => h) (Or.inl ⟨by rfl, ?_⟩) (by assumption) ?_
      rotate_left
      · (intro w hSw; (try dsimp only at hSw); first | (go_simp; done) | (go_simp; with_reducible rfl))
      try simp only [Act.put, List.setIfInBounds_toArray, List.set_cons_zero, List.set_cons_succ]
      refine wpAnyH_take (i := 11) (v := ?_) (takeL rfl) (by kernel_rfl) (by kernel_rfl) (by kernel_rfl) (fun _ _ _ h => h) (Or.inl ⟨by rfl, ?_⟩) (by assumption) ?_
      rotate_left
      · (intro w hSw; (try dsimp only at hSw); first | (go_simp; done) | (go_simp; with_reducible rfl))
      try simp only [Act.put, List.setIfInBounds_toArray, List.set_cons_zero, List.set_cons_succ]
      refine wpAnyH_take (i := 12) (v := ?_) (takeL rfl) (by kernel_rfl) (by kernel_rfl) (by kernel_rfl) (fun _ _ _ h => h) (Or.inl ⟨by rfl, ?_⟩) (by assumption) ?_
      rotate_left
      · (intro w hSw; (try dsimp only at hSw); first | (go_simp; done) | (go_simp; with_reducible rfl))
      try simp only [Act.put, List.setIfInBounds_toArray, List.set_cons_zero, List.set_cons_succ]
      refine wpAnyH_take (i := 15) (v := ?_) (takeL rfl) (by kernel_rfl) (by kernel_rfl) (by kernel_rfl) (fun _ _ _ h => h) (Or.inl ⟨by rfl, ?_⟩) (by assumption) ?_
      rotate_left
      · (intro w hSw; (try dsimp only at hSw); first | (go_simp; done) | (go_simp; with_reducible rfl))
      try simp only [Act.put, List.setIfInBounds_toArray, List.set_cons_zero, List.set_cons_succ]
      refine wpAnyH_take (i := 16) (v := ?_) (takeL rfl) (by kernel_rfl) (by kernel_rfl) (by kernel_rfl) (fun _ _ _ h => h) (Or.inl ⟨by rfl, ?_⟩) (by assumption) ?_
      rotate_left
      · (intro w hSw; (try dsimp only at hSw); first | (go_simp; done) | (go_simp; with_reducible rfl))
      try simp only [Act.put, List.setIfInBounds_toArray, List.set_cons_zero, List.set_cons_succ]
      refine wpAnyH_take (i := 17) (v := ?_) (takeL rfl) (by kernel_rfl) (by kernel_rfl) (by kernel_rfl) (fun _ _ _ h => h) (Or.inl ⟨by rfl, ?_⟩) (by assumption) ?_
      rotate_left
      · (intro w hSw; (try dsimp only at hSw); first | (go_simp; done) | (go_simp; with_reducible rfl))
      try simp only [Act.put, List.setIfInBounds_toArray, List.set_cons_zero, List.set_cons_succ]
      refine wpAnyH_take (i := 18) (v := ?_) (takeL rfl) (by kernel_rfl) (by kernel_rfl) (by kernel_rfl) (fun _ _ _ h => h) (Or.inl ⟨by rfl, ?_⟩) (by assumption) ?_
      rotate_left
      · (intro w hSw; (try dsimp only at hSw); first | (go_simp; done) | (go_simp; with_reducible rfl))
      try simp only [Act.put, List.setIfInBounds_toArray, List.set_cons_zero, List.set_cons_succ]
      refine wpAnyH_take (i := 19) (v := ?_) (takeL rfl) (by kernel_rfl) (by kernel_rfl) (by kernel_rfl) (fun _ _ _ h => h) (Or.inl ⟨by rfl, ?_⟩) (by assumption) ?_
      rotate_left
      · (intro w hSw; (try dsimp only at hSw); first | (go_simp; done) | (go_simp; with_reducible rfl))
      try simp only [Act.put, List.setIfInBounds_toArray, List.set_cons_zero, List.set_cons_succ]
      refine wpAnyH_ready (rs := [6]) (by kernel_rfl) (by simp) ?_
      refine AllReadyH.cons (takeL rfl) (fun K hK => ?_) AllReadyH.nil
      go_simp
      refine (refint_is u s1 h1 _ q1.2).mono ?_; rintro e w4 ⟨rfl, hB4⟩
      go_wp2_with fail
      refine hK.out _ _ (KEEP.out _ hB4) (fun hHeld => ?_)
      clear hK K
      refine wpAnyH_take (i := 7) (v := ?_) (takeL rfl) (by kernel_rfl) (by kernel_rfl) (by kernel_rfl) (fun _ _ _ h => h) (Or.inl ⟨by rfl, ?_⟩) (by assumption) ?_
      rotate_left
      · (intro w hSw; (try dsimp only at hSw); first | (go_simp; done) | (go_simp; with_reducible rfl))
      try simp only [Act.put, List.setIfInBounds_toArray, List.set_cons_zero, List.set_cons_succ]
      refine wpAnyH_ready (rs := [13]) (by kernel_rfl) (by simp) ?_
      refine AllReadyH.cons (takeL rfl) (fun K hK => ?_) AllReadyH.nil
      go_simp
      refine (refint_is v s2 h2 _ q2.2).mono ?_; rintro e w5 ⟨rfl, hB5⟩
      go_wp2_with fail
      refine hK.out _ _ (KEEP.out _ (bNext hB4 hB5)) (fun hHeld => ?_)
      clear hK K
      refine wpAnyH_take (i := 14) (v := ?_) (takeL rfl) (by kernel_rfl) (by kernel_rfl) (by kernel_rfl) (fun _ _ _ h => h) (Or.inl ⟨by rfl, ?_⟩) (by assumption) ?_
      rotate_left
      · (intro w hSw; (try dsimp only at hSw); first | (go_simp; done) | (go_simp; with_reducible rfl))
      try simp only [Act.put, List.setIfInBounds_toArray, List.set_cons_zero, List.set_cons_succ]
      refine wpAnyH_ready (rs := [20]) (by kernel_rfl) (by simp) ?_
      refine AllReadyH.cons (takeL rfl) (fun K hK => ?_) AllReadyH.nil
      go_simp
      refine (refint_is z s3 h3 _ q3.2).mono ?_; rintro e w6 ⟨rfl, hB6⟩
      go_wp2_with fail
      refine hK.out _ _ (KEEP.out _ (bNext (bNext hB4 hB5) hB6)) (fun hHeld => ?_)
      clear hK K
      refine wpAnyH_take (i := 21) (v := ?_) (takeL rfl) (by kernel_rfl) (by kernel_rfl) (by kernel_rfl) (fun _ _ _ h => h) (Or.inl ⟨by rfl, ?_⟩) (by assumption) ?_
      rotate_left
      · (intro w hSw; (try dsimp only at hSw); first | (go_simp; done) | (go_simp; with_reducible rfl))
      try simp only [Act.put, List.setIfInBounds_toArray, List.set_cons_zero, List.set_cons_succ]
      refine wpAnyH_take (i := 22) (v := ?_) (takeL rfl) (by kernel_rfl) (by kernel_rfl) (by kernel_rfl) (fun _ _ _ h => h) (Or.inl ⟨by rfl, ?_⟩) (by assumption) ?_
      rotate_left
      · (intro w hSw; (try dsimp only at hSw); first | (go_simp; done) | (go_simp; with_reducible rfl))
      try simp only [Act.put, List.setIfInBounds_toArray, List.set_cons_zero, List.set_cons_succ]
      refine wpAnyH_done (by kernel_rfl) ?_ _
      refine NoPanic.normal ?_
      go_wp2_with fail
      go_roundw
      case rel => exact ⟨k + 1, t ++ s1 ++ s2 ++ s3, by omega, by go_num, rfl, hts, bNext (bDrew HB3.out) (bNext (bNext hB4 hB5) hB6), HT⟩
      case measure => simp [intOf]; omega
    · obtain rfl : k = n := by omega
      have HE : Hid (t = s) := by
        show _ = _
        rw [hT.out, hss.out, h0.out, List.take_of_length_le (by rw [hn.out]; exact Nat.le_refl _), ofL_append, rowL, hn.out]
      go_wp2_with fail
      go_ret
      rw [HE.out]
      exact ⟨rfl, hB⟩

set_option maxRecDepth 100000 in
set_option maxHeartbeats 8000000 in
theorem refbagbytes_any (am ab ac : Option Addr) (nl kl nb kb nc kc : Nat) (live : List Msg5) (bs cl : List Dot2) (hn0 : Hid (live.length = nl)) (hm0 : nl ≤ 1000000) (hn : Hid (bs.length = nb)) (hm : nb ≤ 1000000) (hn2 : Hid (cl.length = nc)) (hm2 : nc ≤ 1000000) (h0 : Hid (∀ p ∈ live, upMsg p)) (h1 : Hid (∀ p ∈ bs, upDot p)) (h2 : Hid (∀ p ∈ cl, upDot p)) (s : ByteArray) (hs : Hid (s = ofL (bagL live bs cl))) (w : World) (g0 : SlE eMsg 5 w am live) (g1 : SlP w ab bs) (g2 : SlP w ac cl) :
    Calls Try.prog 62 #[.agg #[.slice am nl kl, .slice ab nb kb, .slice ac nc kc]] w fun e w' => e = .returned (.string s) ∧ Below w.heap.size w w' := by
  obtain ⟨w0, hw0⟩ := nm (w.alloc (.cells #[.slice am nl kl, .slice ab nb kb, .slice ac nc kc] 27))
  obtain ⟨x, hx⟩ := nm w.heap.size
  have Kx : Hid (Blk w0 x #[.slice am nl kl, .slice ab nb kb, .slice ac nc kc] 27) := blkN hw0.out hx.out
  have HB0 : Hid (Below w.heap.size w w0) := by rw [hw0.out]; exact bOld _
  have HS0 : Hid (SlE eMsg 5 w0 am live) := g0.below HB0.out
  have HS1 : Hid (SlP w0 ab bs) := g1.below HB0.out
  have HS2 : Hid (SlP w0 ac cl) := g2.below HB0.out
  clear g0 g1 g2
  obtain ⟨s1, hs1⟩ := nm (ofL (ctxL bs cl))
  obtain ⟨s2, hs2⟩ := nm (ofL (Pl.num nl))
  have l1 : s1.size ≤ 40000020 := by
    rw [hs1.out, ofL_size, ctxL, List.length_append]
    have := dots_le bs nb hn.out hm h1.out
    have := dots_le cl nc hn2.out hm2 h2.out
    omega
  have l2 : s2.size ≤ 10 := by rw [hs2.out, ofL_size]; exact Pl.num_length_le _ (by omega)
  have hadd := fun w : World => run_string_add_sum (P := Try.prog) w s1 s2 (by omega)
  have HAL : Hid ((s1 ++ s2).size ≤ 40000030) := by show _ ≤ _; rw [app_size]; omega
  clear l1 l2
  have c0 : w0.cell? ⟨x, 0, none⟩ = some (.slice am nl kl) := Kx.out.cell 0
  have c1 : w0.cell? ⟨x, 1, none⟩ = some (.slice ab nb kb) := Kx.out.cell 1
  have c2 : w0.cell? ⟨x, 2, none⟩ = some (.slice ac nc kc) := Kx.out.cell 2
  have KEEP : Hid (∀ wb : World, Below w0.drew.heap.size w0.drew wb → wb.cell? ⟨x, 0, none⟩ = some (.slice am nl kl) ∧ wb.cell? ⟨x, 1, none⟩ = some (.slice ab nb kb) ∧ wb.cell? ⟨x, 2, none⟩ = some (.slice ac nc kc)) := by
    show ∀ wb : World, _
    intro wb h
    have h1 := Blk.below (w := w0.drew) Kx.out h Kx.out.lt
    exact ⟨h1.cell 0, h1.cell 1, h1.cell 2⟩
  go_enter Try.func62, Try.ntmps62
  go_upto_region 1 with fail
  rw [← hw0.out, ← hx.out]
  refine wp_region_held_drew (S := fun w' => w'.cell? ⟨x, 0, none⟩ = some (.slice am nl kl) ∧ w'.cell? ⟨x, 1, none⟩ = some (.slice ab nb kb) ∧ w'.cell? ⟨x, 2, none⟩ = some (.slice ac nc kc)) (by kernel_rfl) (⟨c0, c1, c2⟩) (fun hHeld => ?_)
  refine wpAnyH_take (i := 0) (v := ?_) (takeL rfl) (by kernel_rfl) (by kernel_rfl) (by kernel_rfl) (fun _ _ _ h => h) (Or.inl ⟨by rfl, ?_⟩) (by assumption) ?_
  rotate_left
  · (intro w hSw; (try dsimp only at hSw); first | (go_simp; done) | (go_simp; with_reducible rfl))
  try simp only [Act.put, List.setIfInBounds_toArray, List.set_cons_zero, List.set_cons_succ]
  refine wpAnyH_take (i := 1) (v := ?_) (takeL rfl) (by kernel_rfl) (by kernel_rfl) (by kernel_rfl) (fun _ _ _ h => h) (Or.inl ⟨by rfl, ?_⟩) (by assumption) ?_
  rotate_left
  · (intro w hSw; (try dsimp only at hSw); first | (go_simp; done) | (go_simp; with_reducible rfl))
  try simp only [Act.put, List.setIfInBounds_toArray, List.set_cons_zero, List.set_cons_succ]
  refine wpAnyH_take (i := 3) (v := ?_) (takeL rfl) (by kernel_rfl) (by kernel_rfl) (by kernel_rfl) (fun _ _ _ h => h) (Or.inl ⟨by rfl, ?_⟩) (by assumption) ?_
  rotate_left
  · (intro w hSw; (try dsimp only at hSw); first | (go_simp; done) | (go_simp; with_reducible rfl))
  try simp only [Act.put, List.setIfInBounds_toArray, List.set_cons_zero, List.set_cons_succ]
  refine wpAnyH_take (i := 4) (v := ?_) (takeL rfl) (by kernel_rfl) (by kernel_rfl) (by kernel_rfl) (fun _ _ _ h => h) (Or.inl ⟨by rfl, ?_⟩) (by assumption) ?_
  rotate_left
  · (intro w hSw; (try dsimp only at hSw); first | (go_simp; done) | (go_simp; with_reducible rfl))
  try simp only [Act.put, List.setIfInBounds_toArray, List.set_cons_zero, List.set_cons_succ]
  refine wpAnyH_take (i := 5) (v := ?_) (takeL rfl) (by kernel_rfl) (by kernel_rfl) (by kernel_rfl) (fun _ _ _ h => h) (Or.inl ⟨by rfl, ?_⟩) (by assumption) ?_
  rotate_left
  · (intro w hSw; (try dsimp only at hSw); first | (go_simp; done) | (go_simp; with_reducible rfl))
  try simp only [Act.put, List.setIfInBounds_toArray, List.set_cons_zero, List.set_cons_succ]
  refine wpAnyH_ready (rs := [2]) (by kernel_rfl) (by simp) ?_
  refine AllReadyH.cons (takeL rfl) (fun K hK => ?_) AllReadyH.nil
  go_simp
  refine (refctxbytes_any ab ac nb kb nc kc bs cl hn hm hn2 hm2 h1 h2 s1 hs1 _ (HS1.out.below (bDrew (Below.refl _ _))) (HS2.out.below (bDrew (Below.refl _ _)))).mono ?_; rintro e w1 ⟨rfl, hB1⟩
  go_wp2_with fail
  refine hK.out _ _ (KEEP.out _ hB1) (fun hHeld => ?_)
  clear hK K
  refine wpAnyH_ready (rs := [6]) (by kernel_rfl) (by simp) ?_
  refine AllReadyH.cons (takeL rfl) (fun K hK => ?_) AllReadyH.nil
  go_simp
  refine (refint_is (nl : Int) s2 hs2 _ (by omega)).mono ?_; rintro e w2 ⟨rfl, hB2⟩
  go_wp2_with fail
  refine hK.out _ _ (KEEP.out _ (bNext hB1 hB2)) (fun hHeld => ?_)
  clear hK K
  refine wpAnyH_take (i := 7) (v := ?_) (takeL rfl) (by kernel_rfl) (by kernel_rfl) (by kernel_rfl) (fun _ _ _ h => h) (Or.inl ⟨by rfl, ?_⟩) (by assumption) ?_
  rotate_left
  · (intro w hSw; (try dsimp only at hSw); first | (go_simp; done) | (go_simp; with_reducible rfl))
  try simp only [Act.put, List.setIfInBounds_toArray, List.set_cons_zero, List.set_cons_succ]
  refine wpAnyH_take (i := 8) (v := ?_) (takeL rfl) (by kernel_rfl) (by kernel_rfl) (by kernel_rfl) (fun _ _ _ h => h) (Or.inl ⟨by rfl, ?_⟩) (by assumption) ?_
  rotate_left
  · (intro w hSw; (try dsimp only at hSw); first | (go_simp; done) | (go_simp; with_reducible rfl))
  try simp only [Act.put, List.setIfInBounds_toArray, List.set_cons_zero, List.set_cons_succ]
  refine wpAnyH_done (by kernel_rfl) ?_ _
  have HBT : Hid (Below w0.heap.size w0 w2) := bNext (bDrew (Below.refl _ _)) (bNext hB1 hB2)
  replace HB0 := Lib.hid (bNext HB0.out HBT.out)
  replace HS0 := Lib.hid (HS0.out.below HBT.out)
  replace Kx := Lib.hid (Kx.out.below HBT.out Kx.out.lt)
  clear hB1 hB2 c0 c1 c2 hadd KEEP hHeld HBT
  obtain ⟨s0, hs0⟩ := nm (s1 ++ s2)
  rw [← hs0.out] at HAL ⊢
  have hal := HAL.out
  go_wp2_with fail
  go_loopw [3, 4] (fun v i wr => ∃ (k : Nat) (t : ByteArray), k ≤ nl ∧ i = .int .i64 (k : Int) ∧ v = .string t ∧ t.size ≤ 40000030 + 2000050 * k ∧ Below w2.heap.size w2 wr ∧ Hid (t = s0 ++ ofL ((live.take k).flatMap msgL))) (fun _ i _ => nl - (intOf i).toNat)
  case atStart => exact ⟨0, s0, by omega, rfl, rfl, by omega, Below.refl _ _, by show _ = _; rw [List.take_zero]; exact (append_nil s0).symm⟩
  case round =>
    obtain ⟨k, t, hk, rfl, rfl, ht, hB, hT⟩ := hrel
    have c0 : wr.cell? ⟨x, 0, none⟩ = some (.slice am nl kl) := (Kx.out.below hB Kx.out.lt).cell 0
    by_cases hlt : k < nl
    · obtain ⟨b, off, ⟨p, q, qu, bo, ct⟩, rfl, hbl, hpk, hcells⟩ := (HS0.out.below hB).get k (by rw [hn0.out]; exact hlt)
      have d0 : wr.cell? ⟨b, off + k * 5, none⟩ = some (.int .i64 p) := hcells 0 _ rfl
      have d1 : wr.cell? ⟨b, off + k * 5 + 1, none⟩ = some (.int .i64 q) := hcells 1 _ rfl
      have d2 : wr.cell? ⟨b, off + k * 5 + 2, none⟩ = some (.string qu) := hcells 2 _ rfl
      have d3 : wr.cell? ⟨b, off + k * 5 + 3, none⟩ = some (.string bo) := hcells 3 _ rfl
      have d4 : wr.cell? ⟨b, off + k * 5 + 4, none⟩ = some (.int .i64 ct) := hcells 4 _ rfl
      clear hcells
      obtain ⟨q1, q2, q3, q4, q5⟩ := h0.out _ (List.mem_of_getElem? hpk.out)
      simp only at q1 q2 q3 q4 q5
      obtain ⟨t1, ht1⟩ := nm (ofL (bytesD (p, q)))
      obtain ⟨t2, ht2⟩ := nm (ofL (textL (bl qu)))
      obtain ⟨t3, ht3⟩ := nm (ofL (textL (bl bo)))
      obtain ⟨t4, ht4⟩ := nm (ofL (Pl.num ct.toNat))
      have l1 : t1.size ≤ 20 := by rw [ht1.out, ofL_size]; exact dotL_le (x := (p, q)) ⟨q1, q2⟩
      have l2 : t2.size ≤ 1000010 := by rw [ht2.out, ofL_size]; have := textL_le q3 (Nat.le_refl _); omega
      have l3 : t3.size ≤ 1000010 := by rw [ht3.out, ofL_size]; have := textL_le q4 (Nat.le_refl _); omega
      have l4 : t4.size ≤ 10 := by rw [ht4.out, ofL_size]; exact num_le q5
      have hts : (t ++ t1 ++ t2 ++ t3 ++ t4).size ≤ 40000030 + 2000050 * (k + 1) := by rw [app_size, app_size, app_size, app_size]; omega
      have k1 := fun w : World => run_string_add_sum (P := Try.prog) w t t1 (by omega)
      have k2 := fun w : World => run_string_add_sum (P := Try.prog) w (t ++ t1) t2 (by rw [app_size]; omega)
      have k3 := fun w : World => run_string_add_sum (P := Try.prog) w (t ++ t1 ++ t2) t3 (by rw [app_size, app_size]; omega)
      have k4 := fun w : World => run_string_add_sum (P := Try.prog) w (t ++ t1 ++ t2 ++ t3) t4 (by rw [app_size, app_size, app_size]; omega)
      have HT : Hid (t ++ t1 ++ t2 ++ t3 ++ t4 = s0 ++ ofL ((live.take (k + 1)).flatMap msgL)) := by
        show _ = _
        rw [hT.out, ht1.out, ht2.out, ht3.out, ht4.out, flat_take hpk.out, ← ofL_append, app_assoc, app_assoc, app_assoc, app_assoc, ofL_append (textL (bl bo)), ofL_append (textL (bl qu)), ofL_append (bytesD (p, q))]; rfl
      clear hT
      obtain ⟨y, hy⟩ := nm wr.heap.size
      obtain ⟨w3, hw3⟩ := nm (wr.alloc (.cells #[.int .i64 p, .int .i64 q, .string qu, .string bo, .int .i64 ct] 48))
      have Ky : Hid (Blk w3 y #[.int .i64 p, .int .i64 q, .string qu, .string bo, .int .i64 ct] 48) := blkN hw3.out hy.out
      have HB3 : Hid (Below w2.heap.size w2 w3) := by rw [hw3.out]; exact bNew hB _
      have e0 : w3.cell? ⟨y, 0, none⟩ = some (.int .i64 p) := Ky.out.cell 0
      have e1 : w3.cell? ⟨y, 1, none⟩ = some (.int .i64 q) := Ky.out.cell 1
      have e2 : w3.cell? ⟨y, 2, none⟩ = some (.string qu) := Ky.out.cell 2
      have e3 : w3.cell? ⟨y, 3, none⟩ = some (.string bo) := Ky.out.cell 3
      have e4 : w3.cell? ⟨y, 4, none⟩ = some (.int .i64 ct) := Ky.out.cell 4
      clear hB
      have KEEP : Hid (∀ wb : World, Below w3.drew.heap.size w3.drew wb → wb.cell? ⟨y, 0, none⟩ = some (.int .i64 p) ∧ wb.cell? ⟨y, 1, none⟩ = some (.int .i64 q) ∧ wb.cell? ⟨y, 2, none⟩ = some (.string qu) ∧ wb.cell? ⟨y, 3, none⟩ = some (.string bo) ∧ wb.cell? ⟨y, 4, none⟩ = some (.int .i64 ct)) := by
        show ∀ wb : World, _
        intro wb h
        have h2 := Blk.below (w := w3.drew) Ky.out h Ky.out.lt
        exact ⟨h2.cell 0, h2.cell 1, h2.cell 2, h2.cell 3, h2.cell 4⟩
      go_wp2_with fail
      rw [← hw3.out, ← hy.out]
      refine wp_region_held_drew (S := fun w' => w'.cell? ⟨y, 0, none⟩ = some (.int .i64 p) ∧ w'.cell? ⟨y, 1, none⟩ = some (.int .i64 q) ∧ w'.cell? ⟨y, 2, none⟩ = some (.string qu) ∧ w'.cell? ⟨y, 3, none⟩ = some (.string bo) ∧ w'.cell? ⟨y, 4, none⟩ = some (.int .i64 ct)) (by kernel_rfl) (⟨e0, e1, e2, e3, e4⟩) (fun hHeld => ?_)
      refine wpAnyH_take (i := 0) (v := ?_) (takeL rfl) (by kernel_rfl) (by kernel_rfl) (by kernel_rfl) (fun _ _ _ h => h) (Or.inl ⟨by rfl, ?_⟩) (by assumption) ?_
      rotate_left
      · (intro w hSw; (try dsimp only at hSw); first | (go_simp; done) | (go_simp; with_reducible rfl))
      try simp only [Act.put, List.setIfInBounds_toArray, List.set_cons_zero, List.set_cons_succ]
      refine wpAnyH_take (i := 1) (v := ?_) (takeL rfl) (by kernel_rfl) (by kernel_rfl) (by kernel_rfl) (fun _ _ _ h => h) (Or.inl ⟨by rfl, ?_⟩) (by assumption) ?_
      rotate_left
      · (intro w hSw; (try dsimp only at hSw); first | (go_simp; done) | (go_simp; with_reducible rfl))
      try simp only [Act.put, List.setIfInBounds_toArray, List.set_cons_zero, List.set_cons_succ]
      refine wpAnyH_take (i := 2) (v := ?_) (takeL rfl) (by kernel_rfl) (by kernel_rfl) (by kernel_rfl) (fun _ _ _ h => h) (Or.inl ⟨by rfl, ?_⟩) (by assumption) ?_
      rotate_left
      · (intro w hSw; (try dsimp only at hSw); first | (go_simp; done) | (go_simp; with_reducible rfl))
      try simp only [Act.put, List.setIfInBounds_toArray, List.set_cons_zero, List.set_cons_succ]
      refine wpAnyH_take (i := 5) (v := ?_) (takeL rfl) (by kernel_rfl) (by kernel_rfl) (by kernel_rfl) (fun _ _ _ h => h) (Or.inl ⟨by rfl, ?_⟩) (by assumption) ?_
      rotate_left
      · (intro w hSw; (try dsimp only at hSw); first | (go_simp; done) | (go_simp; with_reducible rfl))
      try simp only [Act.put, List.setIfInBounds_toArray, List.set_cons_zero, List.set_cons_succ]
      refine wpAnyH_take (i := 6) (v := ?_) (takeL rfl) (by kernel_rfl) (by kernel_rfl) (by kernel_rfl) (fun _ _ _ h => h) (Or.inl ⟨by rfl, ?_⟩) (by assumption) ?_
      rotate_left
      · (intro w hSw; (try dsimp only at hSw); first | (go_simp; done) | (go_simp; with_reducible rfl))
      try simp only [Act.put, List.setIfInBounds_toArray, List.set_cons_zero, List.set_cons_succ]
      refine wpAnyH_take (i := 9) (v := ?_) (takeL rfl) (by kernel_rfl) (by kernel_rfl) (by kernel_rfl) (fun _ _ _ h => h) (Or.inl ⟨by rfl, ?_⟩) (by assumption) ?_
      rotate_left
      · (intro w hSw; (try dsimp only at hSw); first | (go_simp; done) | (go_simp; with_reducible rfl))
      try simp only [Act.put, List.setIfInBounds_toArray, List.set_cons_zero, List.set_cons_succ]
      refine wpAnyH_take (i := 10) (v := ?_) (takeL rfl) (by kernel_rfl) (by kernel_rfl) (by kernel_rfl) (fun _ _ _ h => h) (Or.inl ⟨by rfl, ?_⟩) (by assumption) ?_
      rotate_left
      · (intro w hSw; (try dsimp only at hSw); first | (go_simp; done) | (go_simp; with_reducible rfl))
      try simp only [Act.put, List.setIfInBounds_toArray, List.set_cons_zero, List.set_cons_succ]
      refine wpAnyH_take (i := 13) (v := ?_) (takeL rfl) (by kernel_rfl) (by kernel_rfl) (by kernel_rfl) (fun _ _ _ h => h) (Or.inl ⟨by rfl, ?_⟩) (by assumption) ?_
      rotate_left
      · (intro w hSw; (try dsimp only at hSw); first | (go_simp; done) | (go_simp; with_reducible rfl))
      try simp only [Act.put, List.setIfInBounds_toArray, List.set_cons_zero, List.set_cons_succ]
      refine wpAnyH_take (i := 14) (v := ?_) (takeL rfl) (by kernel_rfl) (by kernel_rfl) (by kernel_rfl) (fun _ _ _ h => h) (Or.inl ⟨by rfl, ?_⟩) (by assumption) ?_
      rotate_left
      · (intro w hSw; (try dsimp only at hSw); first | (go_simp; done) | (go_simp; with_reducible rfl))
      try simp only [Act.put, List.setIfInBounds_toArray, List.set_cons_zero, List.set_cons_succ]
      refine wpAnyH_ready (rs := [3]) (by kernel_rfl) (by simp) ?_
      refine AllReadyH.cons (takeL rfl) (fun K hK => ?_) AllReadyH.nil
      go_simp
      refine (refbytes_any p q _ q1.2 q2.2 t1 ht1).mono ?_; rintro e w4 ⟨rfl, hB4⟩
      go_wp2_with fail
      refine hK.out _ _ (KEEP.out _ hB4) (fun hHeld => ?_)
      clear hK K
      refine wpAnyH_take (i := 4) (v := ?_) (takeL rfl) (by kernel_rfl) (by kernel_rfl) (by kernel_rfl) (fun _ _ _ h => h) (Or.inl ⟨by rfl, ?_⟩) (by assumption) ?_
      rotate_left
      · (intro w hSw; (try dsimp only at hSw); first | (go_simp; done) | (go_simp; with_reducible rfl))
      try simp only [Act.put, List.setIfInBounds_toArray, List.set_cons_zero, List.set_cons_succ]
      refine wpAnyH_ready (rs := [7]) (by kernel_rfl) (by simp) ?_
      refine AllReadyH.cons (takeL rfl) (fun K hK => ?_) AllReadyH.nil
      go_simp
      refine (reftext_is qu t2 ht2 _ q3).mono ?_; rintro e w5 ⟨rfl, hB5⟩
      go_wp2_with fail
      refine hK.out _ _ (KEEP.out _ (bNext hB4 hB5)) (fun hHeld => ?_)
      clear hK K
      refine wpAnyH_take (i := 8) (v := ?_) (takeL rfl) (by kernel_rfl) (by kernel_rfl) (by kernel_rfl) (fun _ _ _ h => h) (Or.inl ⟨by rfl, ?_⟩) (by assumption) ?_
      rotate_left
      · (intro w hSw; (try dsimp only at hSw); first | (go_simp; done) | (go_simp; with_reducible rfl))
      try simp only [Act.put, List.setIfInBounds_toArray, List.set_cons_zero, List.set_cons_succ]
      refine wpAnyH_ready (rs := [11]) (by kernel_rfl) (by simp) ?_
      refine AllReadyH.cons (takeL rfl) (fun K hK => ?_) AllReadyH.nil
      go_simp
      refine (reftext_is bo t3 ht3 _ q4).mono ?_; rintro e w6 ⟨rfl, hB6⟩
      go_wp2_with fail
      refine hK.out _ _ (KEEP.out _ (bNext (bNext hB4 hB5) hB6)) (fun hHeld => ?_)
      clear hK K
      refine wpAnyH_take (i := 12) (v := ?_) (takeL rfl) (by kernel_rfl) (by kernel_rfl) (by kernel_rfl) (fun _ _ _ h => h) (Or.inl ⟨by rfl, ?_⟩) (by assumption) ?_
      rotate_left
      · (intro w hSw; (try dsimp only at hSw); first | (go_simp; done) | (go_simp; with_reducible rfl))
      try simp only [Act.put, List.setIfInBounds_toArray, List.set_cons_zero, List.set_cons_succ]
      refine wpAnyH_ready (rs := [15]) (by kernel_rfl) (by simp) ?_
      refine AllReadyH.cons (takeL rfl) (fun K hK => ?_) AllReadyH.nil
      go_simp
      refine (refint_is ct t4 ht4 _ q5.2).mono ?_; rintro e w7 ⟨rfl, hB7⟩
      go_wp2_with fail
      refine hK.out _ _ (KEEP.out _ (bNext (bNext (bNext hB4 hB5) hB6) hB7)) (fun hHeld => ?_)
      clear hK K
      refine wpAnyH_take (i := 16) (v := ?_) (takeL rfl) (by kernel_rfl) (by kernel_rfl) (by kernel_rfl) (fun _ _ _ h => h) (Or.inl ⟨by rfl, ?_⟩) (by assumption) ?_
      rotate_left
      · (intro w hSw; (try dsimp only at hSw); first | (go_simp; done) | (go_simp; with_reducible rfl))
      try simp only [Act.put, List.setIfInBounds_toArray, List.set_cons_zero, List.set_cons_succ]
      refine wpAnyH_take (i := 17) (v := ?_) (takeL rfl) (by kernel_rfl) (by kernel_rfl) (by kernel_rfl) (fun _ _ _ h => h) (Or.inl ⟨by rfl, ?_⟩) (by assumption) ?_
      rotate_left
      · (intro w hSw; (try dsimp only at hSw); first | (go_simp; done) | (go_simp; with_reducible rfl))
      try simp only [Act.put, List.setIfInBounds_toArray, List.set_cons_zero, List.set_cons_succ]
      refine wpAnyH_done (by kernel_rfl) ?_ _
      go_wp2_with fail
      go_roundw
      case rel => exact ⟨k + 1, t ++ t1 ++ t2 ++ t3 ++ t4, by omega, by go_num, rfl, hts, bNext (bDrew HB3.out) (bNext (bNext (bNext hB4 hB5) hB6) hB7), HT⟩
      case measure => simp [intOf]; omega
    · obtain rfl : k = nl := by omega
      have HE : Hid (t = s) := by
        show _ = _
        rw [hT.out, hs.out, hs0.out, hs1.out, hs2.out, List.take_of_length_le (by rw [hn0.out]; exact Nat.le_refl _), ofL_append, ofL_append, bagL, rowL, hn0.out, List.append_assoc]
      go_wp2_with fail
      go_ret
      rw [HE.out]
      exact ⟨rfl, bNext HB0.out hB⟩
end Go.Proofs.Ytfpjdmplepepjaa

/-! WRefWA: The document's wire as bytes, without the checks. -/
namespace Go.Proofs.Ytfpjdmplepepjaa
open Go.RowKit

set_option maxRecDepth 100000 in
set_option maxHeartbeats 1000000 in
theorem refnums_any (ao : Option Addr) (len cap : Nat) (zs : List Int) (hl : zs.length = len) (hlen : len ≤ 1000000) (hz : ∀ z ∈ zs, z ≤ 9223372036854775807) (w : World) (hat : SlAt w ao (zs.map (Value.int .i64))) :
    Calls Try.prog 60 #[.slice ao len cap] w fun e w' => e = .returned (.string (ofL (numsL zs))) ∧ Below w.heap.size w w' := by
  have HAT := Lib.hid hat
  clear hat
  have HL := Lib.hid hl
  clear hl
  have HZ := Lib.hid hz
  clear hz
  go_enter Try.func60, Try.ntmps60
  go_wp2_with fail
  refine (refnum_any len _ (by omega)).mono ?_; rintro e w1 ⟨rfl, h1⟩
  go_wp2_with fail
  go_loopw [3, 4] (fun s i wr => ∃ k : Nat, k ≤ len ∧ i = .int .i64 (k : Int) ∧ s = .string (ofL (Pl.num len ++ intsL (zs.take k))) ∧ Below w.heap.size w wr) (fun _ i _ => len - (intOf i).toNat)
  case atStart => exact ⟨0, Nat.zero_le _, rfl, by simp [intsL], h1⟩
  case round =>
    clear h1
    obtain ⟨k, hk, rfl, rfl, hW⟩ := hrel
    by_cases hlt : k < len
    · obtain ⟨bs, off, rfl, hbs, hcell⟩ := SlAt.int HAT.out k (by rw [HL.out]; exact hlt)
      obtain ⟨z, hzz⟩ := nm (zs[k]'(by rw [HL.out]; exact hlt))
      have hz63 : z ≤ 9223372036854775807 := by rw [hzz.out]; exact HZ.out _ (List.getElem_mem _)
      rw [← hzz.out] at hcell
      have hc : wr.cell? ⟨bs, off + k, none⟩ = some (.int .i64 z) := (hW.cell (p := ⟨bs, off + k, none⟩) hbs).trans hcell
      clear hcell
      have hsz : (ofL (Pl.num len ++ intsL (zs.take k))).size ≤ 10 + 10 * 1000000 := by
        have h1 := intsL_le (zs.take k) (fun z hz => HZ.out z (List.mem_of_mem_take hz))
        have h2 := Pl.num_length_le len (by omega)
        rw [ofL_size, List.length_append]
        rw [List.length_take] at h1
        omega
      have hzl : (ofL (Pl.num z.toNat)).size ≤ 10 := by rw [ofL_size]; exact Pl.num_length_le _ (by omega)
      have hnx : Hid (ofL (Pl.num len ++ intsL (zs.take k)) ++ ofL (Pl.num z.toNat) = ofL (Pl.num len ++ intsL (zs.take (k + 1)))) := by
        show _ = _
        rw [ofL_append, intsL_take _ _ (by rw [HL.out]; exact hlt), ← hzz.out, ← List.append_assoc]
      obtain ⟨S, hS⟩ := nm (ofL (Pl.num len ++ intsL (zs.take k)))
      rw [← hS.out] at hsz hnx ⊢
      go_wp2_with fail
      refine (ref_int z _ hz63).mono ?_; rintro e w3 ⟨rfl, h1⟩
      have hW3 := hW.trans (h1.mono hW.size)
      go_wp2_with fail
      go_roundw
      case rel => exact ⟨k + 1, by omega, by go_num, by rw [hnx.out], hW3⟩
      case measure => simp [intOf]; omega
    · obtain rfl : k = len := by omega
      have e1 : zs.take k = zs := List.take_of_length_le (by rw [HL.out]; exact Nat.le_refl _)
      rw [e1]
      go_wp2_with fail
      go_ret
      exact ⟨by rw [numsL, HL.out]; rfl, hW⟩

set_option maxRecDepth 100000 in
set_option maxHeartbeats 8000000 in
theorem refwbytes0_any (k f s p fl d0 d1 rc lg : Int) (mark : ByteArray) (am ab ac ag av : Option Addr) (nl kl nb kb nc kc ng kg nv kv : Nat) (live : List Msg5) (bs cl : List Dot2) (tags : List Tag2) (view : List Peer3) (hup : Hid (WL.mk k f s p fl d0 d1 rc lg mark live bs cl tags view).Ups) (w : World) (hL : Lies w am ab ac ag av nl nb nc ng nv live bs cl tags view) :
    Calls Try.prog 26 #[.agg #[.int .i64 k, .int .i64 f, .int .i64 s, .int .i64 p, .int .i64 fl, .string mark, .slice am nl kl, .slice ab nb kb, .slice ac nc kc, .slice ag ng kg, .slice av nv kv, .int .i64 d0, .int .i64 d1, .int .i64 rc, .int .i64 lg]] w fun e w' => e = .returned (.string (ofL (WL.mk k f s p fl d0 d1 rc lg mark live bs cl tags view).bytes)) ∧ Below w.heap.size w w' := by
  obtain ⟨w0, hw0⟩ := nm (w.alloc (.cells #[.int .i64 k, .int .i64 f, .int .i64 s, .int .i64 p, .int .i64 fl, .string mark, .slice am nl kl, .slice ab nb kb, .slice ac nc kc, .slice ag ng kg, .slice av nv kv, .int .i64 d0, .int .i64 d1, .int .i64 rc, .int .i64 lg] 33))
  obtain ⟨x, hx⟩ := nm w.heap.size
  have Kx : Hid (Blk w0 x #[.int .i64 k, .int .i64 f, .int .i64 s, .int .i64 p, .int .i64 fl, .string mark, .slice am nl kl, .slice ab nb kb, .slice ac nc kc, .slice ag ng kg, .slice av nv kv, .int .i64 d0, .int .i64 d1, .int .i64 rc, .int .i64 lg] 33) := blkN hw0.out hx.out
  have HB0 : Hid (Below w.heap.size w w0) := by rw [hw0.out]; exact bOld _
  have HL : Hid (Lies w0 am ab ac ag av nl nb nc ng nv live bs cl tags view) := hL.below HB0.out
  clear hL
  have HUP := hup
  clear hup
  go_enter Try.func26, Try.ntmps26
  go_upto_region 1 with fail
  rw [← hw0.out, ← hx.out]
  have c0 : w0.cell? ⟨x, 0, none⟩ = some (.int .i64 k) := Kx.out.cell 0
  have c1 : w0.cell? ⟨x, 1, none⟩ = some (.int .i64 f) := Kx.out.cell 1
  have c2 : w0.cell? ⟨x, 2, none⟩ = some (.int .i64 s) := Kx.out.cell 2
  have c3 : w0.cell? ⟨x, 3, none⟩ = some (.int .i64 p) := Kx.out.cell 3
  have c4 : w0.cell? ⟨x, 4, none⟩ = some (.int .i64 fl) := Kx.out.cell 4
  have c5 : w0.cell? ⟨x, 5, none⟩ = some (.string mark) := Kx.out.cell 5
  have c6 : w0.cell? ⟨x, 6, none⟩ = some (.slice am nl kl) := Kx.out.cell 6
  have c7 : w0.cell? ⟨x, 7, none⟩ = some (.slice ab nb kb) := Kx.out.cell 7
  have c8 : w0.cell? ⟨x, 8, none⟩ = some (.slice ac nc kc) := Kx.out.cell 8
  have c9 : w0.cell? ⟨x, 9, none⟩ = some (.slice ag ng kg) := Kx.out.cell 9
  have c10 : w0.cell? ⟨x, 10, none⟩ = some (.slice av nv kv) := Kx.out.cell 10
  have c11 : w0.cell? ⟨x, 11, none⟩ = some (.int .i64 d0) := Kx.out.cell 11
  have c12 : w0.cell? ⟨x, 12, none⟩ = some (.int .i64 d1) := Kx.out.cell 12
  have c13 : w0.cell? ⟨x, 13, none⟩ = some (.int .i64 rc) := Kx.out.cell 13
  have c14 : w0.cell? ⟨x, 14, none⟩ = some (.int .i64 lg) := Kx.out.cell 14
  obtain ⟨y, hy⟩ := nm w0.heap.size
  obtain ⟨w3, hw3⟩ := nm (w0.alloc (.cells #[.int .i64 k, .int .i64 f, .int .i64 s, .int .i64 p, .int .i64 fl, .int .i64 d0, .int .i64 d1, .int .i64 rc, .int .i64 lg] 3))
  have Ky : Hid (Blk w3 y #[.int .i64 k, .int .i64 f, .int .i64 s, .int .i64 p, .int .i64 fl, .int .i64 d0, .int .i64 d1, .int .i64 rc, .int .i64 lg] 3) := blkN hw3.out hy.out
  have HB3 : Hid (Below w.heap.size w w3) := by show Below _ _ _; rw [hw3.out]; exact bNew HB0.out _
  replace HL : Hid (Lies w3 am ab ac ag av nl nb nc ng nv live bs cl tags view) := by rw [hw3.out]; exact HL.out.below (bOld _)
  replace Kx : Hid (Blk w3 x #[.int .i64 k, .int .i64 f, .int .i64 s, .int .i64 p, .int .i64 fl, .string mark, .slice am nl kl, .slice ab nb kb, .slice ac nc kc, .slice ag ng kg, .slice av nv kv, .int .i64 d0, .int .i64 d1, .int .i64 rc, .int .i64 lg] 33) := by show Blk _ _ _ _; rw [hw3.out]; exact Kx.out.alloc _
  go_upto_region 2 with fail
  rw [← hw3.out, ← hy.out]
  clear c0 c1 c2 c3 c4 c5 c6 c7 c8 c9 c10 c11 c12 c13 c14
  have c5 : w3.cell? ⟨x, 5, none⟩ = some (.string mark) := Kx.out.cell 5
  have c6 : w3.cell? ⟨x, 6, none⟩ = some (.slice am nl kl) := Kx.out.cell 6
  have c7 : w3.cell? ⟨x, 7, none⟩ = some (.slice ab nb kb) := Kx.out.cell 7
  have c8 : w3.cell? ⟨x, 8, none⟩ = some (.slice ac nc kc) := Kx.out.cell 8
  have c9 : w3.cell? ⟨x, 9, none⟩ = some (.slice ag ng kg) := Kx.out.cell 9
  have c10 : w3.cell? ⟨x, 10, none⟩ = some (.slice av nv kv) := Kx.out.cell 10
  obtain ⟨zs, hzs⟩ := nm ([k, f, s, p, fl, d0, d1, rc, lg] : List Int)
  have hzl : Hid (zs.length = 9) := by show _ = _; rw [hzs.out]; rfl
  have HZ : Hid (∀ z ∈ zs, z ≤ 9223372036854775807) := by show ∀ z ∈ zs, _; rw [hzs.out]; exact fun z hz => (HUP.out.nums z hz).2
  have HSL : Hid (SlAt w3.drew (some ⟨y, 0, none⟩) (zs.map (Value.int .i64))) := by rw [hzs.out]; exact SlAt.ofBlk (w := w3.drew) Ky.out
  obtain ⟨a1, ha1⟩ := nm (ofL (numsL zs))
  obtain ⟨a2, ha2⟩ := nm (ofL (textL (bl mark)))
  obtain ⟨a3, ha3⟩ := nm (ofL (bagL live bs cl))
  obtain ⟨a4, ha4⟩ := nm (ofL (rowL tagL tags))
  obtain ⟨a5, ha5⟩ := nm (ofL (rowL peerL view))
  have HU0 : Hid (∀ x ∈ live, upMsg x) := HUP.out.live
  have HU1 : Hid (∀ x ∈ bs, upDot x) := HUP.out.bs
  have HU2 : Hid (∀ x ∈ cl, upDot x) := HUP.out.cl
  have HU3 : Hid (∀ x ∈ tags, upTag x) := HUP.out.tags
  have HU4 : Hid (∀ x ∈ view, upPeer x) := HUP.out.view
  have hmk : mark.size ≤ 1000000 := HUP.out.mark
  have l1 : a1.size ≤ 100 := by
    rw [ha1.out, ofL_size]
    unfold numsL
    rw [List.length_append, hzl.out]
    have g1 := Pl.num_length_le 9 (by decide)
    have g2 := intsL_le zs HZ.out
    rw [hzl.out] at g2
    omega
  have l2 : a2.size ≤ 1000010 := by rw [ha2.out, ofL_size]; have := textL_le hmk (Nat.le_refl _); omega
  have l3 : a3.size ≤ 4000000000000 := by
    rw [ha3.out, ofL_size, bagL, ctxL, List.length_append, List.length_append]
    have e1 := dots_le bs nb HL.out.l1.out HL.out.m1 HU1.out
    have e2 := dots_le cl nc HL.out.l2.out HL.out.m2 HU2.out
    have e3 := rowL_le (f := msgL) (m := 2000050) live (by rw [HL.out.l0.out]; exact HL.out.m0) (fun m hm => by
      obtain ⟨r1, r2, r3, r4, r5⟩ := HU0.out m hm
      have e1 := dotL_le (x := (m.node, m.n)) ⟨r1, r2⟩
      have e2 := textL_le r3 (Nat.le_refl _)
      have e3 := textL_le r4 (Nat.le_refl _)
      have e4 := num_le r5
      simp only [msgL, List.length_append]; omega)
    have e4 : live.length ≤ 1000000 := by rw [HL.out.l0.out]; exact HL.out.m0
    omega
  have l4 : a4.size ≤ 4000000000000 := by
    rw [ha4.out, ofL_size]
    have e3 := rowL_le (f := tagL) (m := 1000020) tags (by rw [HL.out.l3.out]; exact HL.out.m3) (fun m hm => by
      obtain ⟨r1, r2⟩ := HU3.out m hm
      have e2 := textL_le r1 (Nat.le_refl _)
      have e4 := num_le r2
      simp only [tagL, List.length_append]; omega)
    have e4 : tags.length ≤ 1000000 := by rw [HL.out.l3.out]; exact HL.out.m3
    omega
  have l5 : a5.size ≤ 4000000000000 := by
    rw [ha5.out, ofL_size]
    have e3 := rowL_le (f := peerL) (m := 30) view (by rw [HL.out.l4.out]; exact HL.out.m4) (fun m hm => peerL_le (HU4.out m hm))
    have e4 : view.length ≤ 1000000 := by rw [HL.out.l4.out]; exact HL.out.m4
    omega
  have k2 := fun w : World => run_string_add_sum (P := Try.prog) w a1 a2 (by omega)
  have k3 := fun w : World => run_string_add_sum (P := Try.prog) w (a1 ++ a2) a3 (by rw [app_size]; omega)
  have k4 := fun w : World => run_string_add_sum (P := Try.prog) w (a1 ++ a2 ++ a3) a4 (by rw [app_size, app_size]; omega)
  have k5 := fun w : World => run_string_add_sum (P := Try.prog) w (a1 ++ a2 ++ a3 ++ a4) a5 (by rw [app_size, app_size, app_size]; omega)
  have HF : Hid (a1 ++ a2 ++ a3 ++ a4 ++ a5 = ofL (WL.mk k f s p fl d0 d1 rc lg mark live bs cl tags view).bytes) := by
    show _ = _
    rw [ha1.out, ha2.out, ha3.out, ha4.out, ha5.out, ofL_append, ofL_append, ofL_append, ofL_append, hzs.out]
    unfold WL.bytes
    simp only [List.append_assoc]; rfl
  clear l1 l2 l3 l4 l5 hmk
  have KEEP : Hid (∀ wb : World, Below w3.drew.heap.size w3.drew wb → wb.cell? ⟨x, 5, none⟩ = some (.string mark) ∧ wb.cell? ⟨x, 6, none⟩ = some (.slice am nl kl) ∧ wb.cell? ⟨x, 7, none⟩ = some (.slice ab nb kb) ∧ wb.cell? ⟨x, 8, none⟩ = some (.slice ac nc kc) ∧ wb.cell? ⟨x, 9, none⟩ = some (.slice ag ng kg) ∧ wb.cell? ⟨x, 10, none⟩ = some (.slice av nv kv)) := by
    show ∀ wb : World, _
    intro wb h
    have h1 := Blk.below (w := w3.drew) Kx.out h Kx.out.lt
    exact ⟨h1.cell 5, h1.cell 6, h1.cell 7, h1.cell 8, h1.cell 9, h1.cell 10⟩
  refine wp_region_held_drew (S := fun w' => w'.cell? ⟨x, 5, none⟩ = some (.string mark) ∧ w'.cell? ⟨x, 6, none⟩ = some (.slice am nl kl) ∧ w'.cell? ⟨x, 7, none⟩ = some (.slice ab nb kb) ∧ w'.cell? ⟨x, 8, none⟩ = some (.slice ac nc kc) ∧ w'.cell? ⟨x, 9, none⟩ = some (.slice ag ng kg) ∧ w'.cell? ⟨x, 10, none⟩ = some (.slice av nv kv)) (by kernel_rfl) (⟨c5, c6, c7, c8, c9, c10⟩) (fun hHeld => ?_)
  refine wpAnyH_take (i := 0) (v := ?_) (takeL rfl) (by kernel_rfl) (by kernel_rfl) (by kernel_rfl) (fun _ _ _ h => h) (Or.inl ⟨by rfl, ?_⟩) (by assumption) ?_
  rotate_left
  · (intro w hSw; (try dsimp only at hSw); first | (go_simp; done) | (go_simp; with_reducible rfl))
  try simp only [Act.put, List.setIfInBounds_toArray, List.set_cons_zero, List.set_cons_succ]
  refine wpAnyH_take (i := 2) (v := ?_) (takeL rfl) (by kernel_rfl) (by kernel_rfl) (by kernel_rfl) (fun _ _ _ h => h) (Or.inl ⟨by rfl, ?_⟩) (by assumption) ?_
  rotate_left
  · (intro w hSw; (try dsimp only at hSw); first | (go_simp; done) | (go_simp; with_reducible rfl))
  try simp only [Act.put, List.setIfInBounds_toArray, List.set_cons_zero, List.set_cons_succ]
  refine wpAnyH_take (i := 3) (v := ?_) (takeL rfl) (by kernel_rfl) (by kernel_rfl) (by kernel_rfl) (fun _ _ _ h => h) (Or.inl ⟨by rfl, ?_⟩) (by assumption) ?_
  rotate_left
  · (intro w hSw; (try dsimp only at hSw); first | (go_simp; done) | (go_simp; with_reducible rfl))
  try simp only [Act.put, List.setIfInBounds_toArray, List.set_cons_zero, List.set_cons_succ]
  refine wpAnyH_take (i := 6) (v := ?_) (takeL rfl) (by kernel_rfl) (by kernel_rfl) (by kernel_rfl) (fun _ _ _ h => h) (Or.inl ⟨by rfl, ?_⟩) (by assumption) ?_
  rotate_left
  · (intro w hSw; (try dsimp only at hSw); first | (go_simp; done) | (go_simp; with_reducible rfl))
  try simp only [Act.put, List.setIfInBounds_toArray, List.set_cons_zero, List.set_cons_succ]
  refine wpAnyH_take (i := 7) (v := ?_) (takeL rfl) (by kernel_rfl) (by kernel_rfl) (by kernel_rfl) (fun _ _ _ h => h) (Or.inl ⟨by rfl, ?_⟩) (by assumption) ?_
  rotate_left
  · (intro w hSw; (try dsimp only at hSw); first | (go_simp; done) | (go_simp; with_reducible rfl))
  try simp only [Act.put, List.setIfInBounds_toArray, List.set_cons_zero, List.set_cons_succ]
  refine wpAnyH_take (i := 10) (v := ?_) (takeL rfl) (by kernel_rfl) (by kernel_rfl) (by kernel_rfl) (fun _ _ _ h => h) (Or.inl ⟨by rfl, ?_⟩) (by assumption) ?_
  rotate_left
  · (intro w hSw; (try dsimp only at hSw); first | (go_simp; done) | (go_simp; with_reducible rfl))
  try simp only [Act.put, List.setIfInBounds_toArray, List.set_cons_zero, List.set_cons_succ]
  refine wpAnyH_take (i := 11) (v := ?_) (takeL rfl) (by kernel_rfl) (by kernel_rfl) (by kernel_rfl) (fun _ _ _ h => h) (Or.inl ⟨by rfl, ?_⟩) (by assumption) ?_
  rotate_left
  · (intro w hSw; (try dsimp only at hSw); first | (go_simp; done) | (go_simp; with_reducible rfl))
  try simp only [Act.put, List.setIfInBounds_toArray, List.set_cons_zero, List.set_cons_succ]
  refine wpAnyH_take (i := 14) (v := ?_) (takeL rfl) (by kernel_rfl) (by kernel_rfl) (by kernel_rfl) (fun _ _ _ h => h) (Or.inl ⟨by rfl, ?_⟩) (by assumption) ?_
  rotate_left
  · (intro w hSw; (try dsimp only at hSw); first | (go_simp; done) | (go_simp; with_reducible rfl))
  try simp only [Act.put, List.setIfInBounds_toArray, List.set_cons_zero, List.set_cons_succ]
  refine wpAnyH_take (i := 15) (v := ?_) (takeL rfl) (by kernel_rfl) (by kernel_rfl) (by kernel_rfl) (fun _ _ _ h => h) (Or.inl ⟨by rfl, ?_⟩) (by assumption) ?_
  rotate_left
  · (intro w hSw; (try dsimp only at hSw); first | (go_simp; done) | (go_simp; with_reducible rfl))
  try simp only [Act.put, List.setIfInBounds_toArray, List.set_cons_zero, List.set_cons_succ]
  refine wpAnyH_ready (rs := [1]) (by kernel_rfl) (by simp) ?_
  refine AllReadyH.cons (takeL rfl) (fun K hK => ?_) AllReadyH.nil
  go_simp
  refine (refnums_any (some ⟨y, 0, none⟩) 9 9 zs hzl.out (by decide) HZ.out w3.drew HSL.out).mono ?_; rintro e v1 ⟨rfl, hb1⟩
  rw [← ha1.out]
  go_wp2_with fail
  refine hK.out _ _ (KEEP.out _ (hb1)) (fun hHeld => ?_)
  clear hK K
  refine wpAnyH_ready (rs := [4]) (by kernel_rfl) (by simp) ?_
  refine AllReadyH.cons (takeL rfl) (fun K hK => ?_) AllReadyH.nil
  go_simp
  refine (reftext_is mark a2 ha2 _ HUP.out.mark).mono ?_; rintro e v2 ⟨rfl, hb2⟩
  go_wp2_with fail
  refine hK.out _ _ (KEEP.out _ (bNext hb1 hb2)) (fun hHeld => ?_)
  clear hK K
  refine wpAnyH_take (i := 5) (v := ?_) (takeL rfl) (by kernel_rfl) (by kernel_rfl) (by kernel_rfl) (fun _ _ _ h => h) (Or.inl ⟨by rfl, ?_⟩) (by assumption) ?_
  rotate_left
  · (intro w hSw; (try dsimp only at hSw); first | (go_simp; done) | (go_simp; with_reducible rfl))
  try simp only [Act.put, List.setIfInBounds_toArray, List.set_cons_zero, List.set_cons_succ]
  refine wpAnyH_ready (rs := [8]) (by kernel_rfl) (by simp) ?_
  refine AllReadyH.cons (takeL rfl) (fun K hK => ?_) AllReadyH.nil
  go_simp
  refine (refbagbytes_any am ab ac nl kl nb kb nc kc live bs cl HL.out.l0 HL.out.m0 HL.out.l1 HL.out.m1 HL.out.l2 HL.out.m2 HU0 HU1 HU2 a3 ha3 _ (HL.out.s0.below (bNext (bDrew (Below.refl _ _)) (bNext hb1 hb2))) (HL.out.s1.below (bNext (bDrew (Below.refl _ _)) (bNext hb1 hb2))) (HL.out.s2.below (bNext (bDrew (Below.refl _ _)) (bNext hb1 hb2)))).mono ?_; rintro e v3 ⟨rfl, hb3⟩
  go_wp2_with fail
  refine hK.out _ _ (KEEP.out _ (bNext (bNext hb1 hb2) hb3)) (fun hHeld => ?_)
  clear hK K
  refine wpAnyH_take (i := 9) (v := ?_) (takeL rfl) (by kernel_rfl) (by kernel_rfl) (by kernel_rfl) (fun _ _ _ h => h) (Or.inl ⟨by rfl, ?_⟩) (by assumption) ?_
  rotate_left
  · (intro w hSw; (try dsimp only at hSw); first | (go_simp; done) | (go_simp; with_reducible rfl))
  try simp only [Act.put, List.setIfInBounds_toArray, List.set_cons_zero, List.set_cons_succ]
  refine wpAnyH_ready (rs := [12]) (by kernel_rfl) (by simp) ?_
  refine AllReadyH.cons (takeL rfl) (fun K hK => ?_) AllReadyH.nil
  go_simp
  refine (reftagbytes_any ag ng kg tags HL.out.l3 HL.out.m3 HU3 a4 ha4 _ (HL.out.s3.below (bNext (bDrew (Below.refl _ _)) (bNext (bNext hb1 hb2) hb3)))).mono ?_; rintro e v4 ⟨rfl, hb4⟩
  go_wp2_with fail
  refine hK.out _ _ (KEEP.out _ (bNext (bNext (bNext hb1 hb2) hb3) hb4)) (fun hHeld => ?_)
  clear hK K
  refine wpAnyH_take (i := 13) (v := ?_) (takeL rfl) (by kernel_rfl) (by kernel_rfl) (by kernel_rfl) (fun _ _ _ h => h) (Or.inl ⟨by rfl, ?_⟩) (by assumption) ?_
  rotate_left
  · (intro w hSw; (try dsimp only at hSw); first | (go_simp; done) | (go_simp; with_reducible rfl))
  try simp only [Act.put, List.setIfInBounds_toArray, List.set_cons_zero, List.set_cons_succ]
  refine wpAnyH_ready (rs := [16]) (by kernel_rfl) (by simp) ?_
  refine AllReadyH.cons (takeL rfl) (fun K hK => ?_) AllReadyH.nil
  go_simp
  refine (refviewbytes_any av nv kv view HL.out.l4 HL.out.m4 HU4 a5 ha5 _ (HL.out.s4.below (bNext (bDrew (Below.refl _ _)) (bNext (bNext (bNext hb1 hb2) hb3) hb4)))).mono ?_; rintro e v5 ⟨rfl, hb5⟩
  go_wp2_with fail
  refine hK.out _ _ (KEEP.out _ (bNext (bNext (bNext (bNext hb1 hb2) hb3) hb4) hb5)) (fun hHeld => ?_)
  clear hK K
  refine wpAnyH_take (i := 17) (v := ?_) (takeL rfl) (by kernel_rfl) (by kernel_rfl) (by kernel_rfl) (fun _ _ _ h => h) (Or.inl ⟨by rfl, ?_⟩) (by assumption) ?_
  rotate_left
  · (intro w hSw; (try dsimp only at hSw); first | (go_simp; done) | (go_simp; with_reducible rfl))
  try simp only [Act.put, List.setIfInBounds_toArray, List.set_cons_zero, List.set_cons_succ]
  refine wpAnyH_take (i := 18) (v := ?_) (takeL rfl) (by kernel_rfl) (by kernel_rfl) (by kernel_rfl) (fun _ _ _ h => h) (Or.inl ⟨by rfl, ?_⟩) (by assumption) ?_
  rotate_left
  · (intro w hSw; (try dsimp only at hSw); first | (go_simp; done) | (go_simp; with_reducible rfl))
  try simp only [Act.put, List.setIfInBounds_toArray, List.set_cons_zero, List.set_cons_succ]
  refine wpAnyH_done (by kernel_rfl) ?_ _
  go_wp2_with fail
  go_ret
  exact ⟨congrArg (fun t => Ending.returned (Value.string t)) HF.out, bNext (bDrew HB3.out) (bNext (bNext (bNext (bNext hb1 hb2) hb3) hb4) hb5)⟩
end Go.Proofs.Ytfpjdmplepepjaa

/-! WRefWB: The document's wire as bytes. -/
namespace Go.Proofs.Ytfpjdmplepepjaa
open Go.RowKit

set_option maxRecDepth 100000 in
set_option maxHeartbeats 4000000 in
theorem refwbytes_any (k f s p fl d0 d1 rc lg : Int) (mark : ByteArray) (am ab ac ag av : Option Addr) (nl kl nb kb nc kc ng kg nv kv : Nat) (live : List Msg5) (bs cl : List Dot2) (tags : List Tag2) (view : List Peer3) (T : ByteArray) (E : Int) (hT : Hid (Said (WL.mk k f s p fl d0 d1 rc lg mark live bs cl tags view) T E)) (w : World) (hL : Lies w am ab ac ag av nl nb nc ng nv live bs cl tags view) :
    Calls Try.prog 11 #[.agg #[.int .i64 k, .int .i64 f, .int .i64 s, .int .i64 p, .int .i64 fl, .string mark, .slice am nl kl, .slice ab nb kb, .slice ac nc kc, .slice ag ng kg, .slice av nv kv, .int .i64 d0, .int .i64 d1, .int .i64 rc, .int .i64 lg]] w fun e w' => e = .returned (.tuple #[.string T, .int .i64 E]) ∧ Below w.heap.size w w' := by
  obtain ⟨w0, hw0⟩ := nm (w.alloc (.cells #[.int .i64 k, .int .i64 f, .int .i64 s, .int .i64 p, .int .i64 fl, .string mark, .slice am nl kl, .slice ab nb kb, .slice ac nc kc, .slice ag ng kg, .slice av nv kv, .int .i64 d0, .int .i64 d1, .int .i64 rc, .int .i64 lg] 33))
  obtain ⟨x, hx⟩ := nm w.heap.size
  have Kx : Hid (Blk w0 x #[.int .i64 k, .int .i64 f, .int .i64 s, .int .i64 p, .int .i64 fl, .string mark, .slice am nl kl, .slice ab nb kb, .slice ac nc kc, .slice ag ng kg, .slice av nv kv, .int .i64 d0, .int .i64 d1, .int .i64 rc, .int .i64 lg] 33) := blkN hw0.out hx.out
  have HB0 : Hid (Below w.heap.size w w0) := by rw [hw0.out]; exact bOld _
  have HL : Hid (Lies w0 am ab ac ag av nl nb nc ng nv live bs cl tags view) := hL.below HB0.out
  clear hL
  obtain ⟨r, hr, hrf, hrt⟩ := boolOf (WL.mk k f s p fl d0 d1 rc lg mark live bs cl tags view).May
  have HCK : Hid (Calls Try.prog 13 #[.agg #[.int .i64 k, .int .i64 f, .int .i64 s, .int .i64 p, .int .i64 fl, .string mark, .slice am nl kl, .slice ab nb kb, .slice ac nc kc, .slice ag ng kg, .slice av nv kv, .int .i64 d0, .int .i64 d1, .int .i64 rc, .int .i64 lg]] w0 fun e w' => e = .returned (.int .i64 (errno r)) ∧ Below w0.heap.size w0 w') := refwcheck_any k f s p fl d0 d1 rc lg mark am ab ac ag av nl kl nb kb nc kc ng kg nv kv live bs cl tags view r hr (errno r) rfl w0 HL.out
  go_enter Try.func11, Try.ntmps11
  go_upto_region 1 with fail
  rw [← hw0.out, ← hx.out]
  have c0 : w0.cell? ⟨x, 0, none⟩ = some (.int .i64 k) := Kx.out.cell 0
  have c1 : w0.cell? ⟨x, 1, none⟩ = some (.int .i64 f) := Kx.out.cell 1
  have c2 : w0.cell? ⟨x, 2, none⟩ = some (.int .i64 s) := Kx.out.cell 2
  have c3 : w0.cell? ⟨x, 3, none⟩ = some (.int .i64 p) := Kx.out.cell 3
  have c4 : w0.cell? ⟨x, 4, none⟩ = some (.int .i64 fl) := Kx.out.cell 4
  have c5 : w0.cell? ⟨x, 5, none⟩ = some (.string mark) := Kx.out.cell 5
  have c6 : w0.cell? ⟨x, 6, none⟩ = some (.slice am nl kl) := Kx.out.cell 6
  have c7 : w0.cell? ⟨x, 7, none⟩ = some (.slice ab nb kb) := Kx.out.cell 7
  have c8 : w0.cell? ⟨x, 8, none⟩ = some (.slice ac nc kc) := Kx.out.cell 8
  have c9 : w0.cell? ⟨x, 9, none⟩ = some (.slice ag ng kg) := Kx.out.cell 9
  have c10 : w0.cell? ⟨x, 10, none⟩ = some (.slice av nv kv) := Kx.out.cell 10
  have c11 : w0.cell? ⟨x, 11, none⟩ = some (.int .i64 d0) := Kx.out.cell 11
  have c12 : w0.cell? ⟨x, 12, none⟩ = some (.int .i64 d1) := Kx.out.cell 12
  have c13 : w0.cell? ⟨x, 13, none⟩ = some (.int .i64 rc) := Kx.out.cell 13
  have c14 : w0.cell? ⟨x, 14, none⟩ = some (.int .i64 lg) := Kx.out.cell 14
  go_wp2_with fail
  refine HCK.out.mono ?_; rintro e w1 ⟨rfl, hB1⟩
  replace Kx := Lib.hid (Kx.out.below hB1 Kx.out.lt)
  have HB1 := Lib.hid (bNext HB0.out hB1)
  replace HL := Lib.hid (HL.out.below hB1)
  clear HCK hB1
  clear c0 c1 c2 c3 c4 c5 c6 c7 c8 c9 c10 c11 c12 c13 c14
  cases r
  · have HE : Hid (T = ⟨#[]⟩ ∧ E = 1) := by
      rcases hT.out with h | h | h
      · exact h.2
      · exact absurd h.1 (hrf.out rfl)
      · exact absurd h.1 (hrf.out rfl)
    obtain ⟨rfl, rfl⟩ := HE.out
    simp only [errno]
    go_wp2_with fail
    refine bodyPost_ret (v := .tuple #[.string ⟨#[]⟩, .int .i64 1]) (by simp [results, Try.results11, go_sem]) rfl ?_
    exact ⟨rfl, HB1.out⟩
  have HMY : Hid (WL.mk k f s p fl d0 d1 rc lg mark live bs cl tags view).May := hrt.out rfl
  have HUP : Hid (WL.mk k f s p fl d0 d1 rc lg mark live bs cl tags view).Ups := HMY.out.ups (by simp only; rw [HL.out.l0.out]; exact HL.out.m0) (by simp only; rw [HL.out.l1.out]; exact HL.out.m1) (by simp only; rw [HL.out.l2.out]; exact HL.out.m2)
  simp only [errno]
  have c0 : w1.cell? ⟨x, 0, none⟩ = some (.int .i64 k) := Kx.out.cell 0
  have c1 : w1.cell? ⟨x, 1, none⟩ = some (.int .i64 f) := Kx.out.cell 1
  have c2 : w1.cell? ⟨x, 2, none⟩ = some (.int .i64 s) := Kx.out.cell 2
  have c3 : w1.cell? ⟨x, 3, none⟩ = some (.int .i64 p) := Kx.out.cell 3
  have c4 : w1.cell? ⟨x, 4, none⟩ = some (.int .i64 fl) := Kx.out.cell 4
  have c5 : w1.cell? ⟨x, 5, none⟩ = some (.string mark) := Kx.out.cell 5
  have c6 : w1.cell? ⟨x, 6, none⟩ = some (.slice am nl kl) := Kx.out.cell 6
  have c7 : w1.cell? ⟨x, 7, none⟩ = some (.slice ab nb kb) := Kx.out.cell 7
  have c8 : w1.cell? ⟨x, 8, none⟩ = some (.slice ac nc kc) := Kx.out.cell 8
  have c9 : w1.cell? ⟨x, 9, none⟩ = some (.slice ag ng kg) := Kx.out.cell 9
  have c10 : w1.cell? ⟨x, 10, none⟩ = some (.slice av nv kv) := Kx.out.cell 10
  have c11 : w1.cell? ⟨x, 11, none⟩ = some (.int .i64 d0) := Kx.out.cell 11
  have c12 : w1.cell? ⟨x, 12, none⟩ = some (.int .i64 d1) := Kx.out.cell 12
  have c13 : w1.cell? ⟨x, 13, none⟩ = some (.int .i64 rc) := Kx.out.cell 13
  have c14 : w1.cell? ⟨x, 14, none⟩ = some (.int .i64 lg) := Kx.out.cell 14
  go_wp2_with fail
  refine (refwbytes0_any k f s p fl d0 d1 rc lg mark am ab ac ag av nl kl nb kb nc kc ng kg nv kv live bs cl tags view HUP _ HL.out).mono ?_; rintro e w2 ⟨rfl, hB2⟩
  have HBF := Lib.hid (bNext HB1.out hB2)
  clear hB2
  clear c0 c1 c2 c3 c4 c5 c6 c7 c8 c9 c10 c11 c12 c13 c14
  obtain ⟨R, hR⟩ := nm (ofL (WL.mk k f s p fl d0 d1 rc lg mark live bs cl tags view).bytes)
  rw [← hR.out]
  have HF : Hid (R = ofL (WL.mk k f s p fl d0 d1 rc lg mark live bs cl tags view).bytes) := hR
  have HRL : Hid (R.size = (WL.mk k f s p fl d0 d1 rc lg mark live bs cl tags view).bytes.length) := by show _ = _; rw [HF.out, ofL_size]
  by_cases hlen : R.size ≤ 8000
  · have hd : decide (8000 < (R.size : Int)) = false := decide_eq_false (by omega)
    have HE : Hid (T = R ∧ E = 0) := by
      rcases hT.out with h | h | h
      · exact absurd HMY.out h.1
      · have := h.2.1; have := HRL.out; omega
      · exact ⟨by rw [HF.out]; exact h.2.2.1, h.2.2.2⟩
    obtain ⟨rfl, rfl⟩ := HE.out
    clear hlen
    go_wp2_with fail
    refine bodyPost_ret (v := .tuple #[.string T, .int .i64 0]) (by simp [results, Try.results11, go_sem]) rfl ?_
    exact ⟨rfl, HBF.out⟩
  · have hd : decide (8000 < (R.size : Int)) = true := decide_eq_true (by omega)
    have HE : Hid (T = ⟨#[]⟩ ∧ E = 11) := by
      rcases hT.out with h | h | h
      · exact absurd HMY.out h.1
      · exact h.2.2
      · have := h.2.1; have := HRL.out; omega
    obtain ⟨rfl, rfl⟩ := HE.out
    clear hlen
    go_wp2_with fail
    refine bodyPost_ret (v := .tuple #[.string ⟨#[]⟩, .int .i64 11]) (by simp [results, Try.results11, go_sem]) rfl ?_
    exact ⟨rfl, HBF.out⟩
end Go.Proofs.Ytfpjdmplepepjaa

